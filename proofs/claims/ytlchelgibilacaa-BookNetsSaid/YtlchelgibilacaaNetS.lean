/- Plain facts for the law BookNets. -/
import Derived.Test.YtlchelgibilacaaSumS
import Derived.Test.YtlchelgibilacaaSumK
import Derived.Test.YtlchelgibilacaaPer
namespace Go.Proofs.Ytlchelgibilacaa

theorem sumK_cons (x : Ln) (l : List Ln) (k : Int) : sumK (x :: l) k = (if x.kind = k then x.amt else 0) + sumK l k := by simp [sumK]
/-- lines of net pay have no code -/
theorem sumK_net {l : List Ln} (h : ∀ x ∈ l, formedB x = true) : sumK l 9 = sumT l 9 ⟨#[]⟩ := by
  induction l with
  | nil => rfl
  | cons x r ih =>
    rw [sumK_cons, sumT_cons, ih fun y hy => h y (by simp [hy])]
    have hx := h x (by simp)
    by_cases hk : x.kind = 9
    · have hc : x.code = ⟨#[]⟩ := by
        simp only [formedB, Bool.and_eq_true, hk, show bareB 9 = true from rfl, if_true, decide_eq_true_eq] at hx
        exact size_zero hx.2.2.2
      rw [if_pos hk, if_pos ⟨hk, hc⟩]
    · rw [if_neg hk, if_neg fun hh => hk hh.1]
theorem res_net {b : List Pst} {R : Int} (h : Good b R) (hl : b.length ≤ 1000) (n q : Int) : sumK (resultL b n q) 9 = sumT (selLns (selEP n q) b) 9 ⟨#[]⟩ := by
  rw [sumK_net (res_formed h hl n q), h.res hl, sumT_mrg]
/-- the sum over periods -/
def perNet (b : List Pst) (n : Int) (zs : List Int) : Int := (zs.map fun q => sumK (resultL b n q) 9).sum
theorem perNet_snoc (b : List Pst) (n : Int) (zs : List Int) (i : Nat) (h : i < zs.length) : perNet b n (zs.take (i + 1)) = perNet b n (zs.take i) + sumK (resultL b n zs[i]) 9 := by
  unfold perNet
  rw [List.take_succ_eq_append_getElem h, List.map_append, List.sum_append]
  simp
theorem selSum_cons (n q : Int) (p : Pst) (l : List Pst) : sumT (selLns (selEP n q) (p :: l)) 9 ⟨#[]⟩ = (if selEP n q p = true ∧ p.ln.kind = 9 ∧ p.ln.code = ⟨#[]⟩ then p.ln.amt else 0) + sumT (selLns (selEP n q) l) 9 ⟨#[]⟩ := by
  rw [selLns_cons, sumT_append]
  cases h : selEP n q p
  · simp [sumT_nil]
  · rw [if_pos rfl, sumT_cons, sumT_nil]; simp
/-- the periods of a posting's employee have it once -/
theorem sum_once {zs : List Int} (hz : Asc zs) (a x : Int) : (zs.map fun q => if a = q then x else 0).sum = if a ∈ zs then x else 0 := by
  induction zs with
  | nil => simp
  | cons z r ih =>
    have h' := List.pairwise_cons.1 hz
    rw [List.map_cons, List.sum_cons, ih h'.2]
    by_cases h : a = z
    · subst h
      have : a ∉ r := fun hm => by have := h'.1 a hm; omega
      simp [this]
    · simp [h]
theorem sum_add (zs : List Int) (f g : Int → Int) : (zs.map fun q => f q + g q).sum = (zs.map f).sum + (zs.map g).sum := by
  induction zs with
  | nil => rfl
  | cons z r ih => simp only [List.map_cons, List.sum_cons, ih]; omega
theorem sum_periods {zs : List Int} (hz : Asc zs) (n : Int) (l : List Pst) (hf : ∀ p ∈ l, formB p.ln = true) (hm : ∀ p ∈ l, p.emp = n → p.per ∈ zs) :
    (zs.map fun q => sumT (selLns (selEP n q) l) 9 ⟨#[]⟩).sum = netSum n l := by
  induction l with
  | nil =>
    show (zs.map fun _ => (0 : Int)).sum = 0
    clear hz hm
    induction zs with
    | nil => rfl
    | cons z r ih => simpa using ih
  | cons p l ih =>
    have e : (fun q => sumT (selLns (selEP n q) (p :: l)) 9 ⟨#[]⟩) = fun q => (if p.per = q then (if p.emp = n ∧ p.ln.kind = 9 then p.ln.amt else 0) else 0) + sumT (selLns (selEP n q) l) 9 ⟨#[]⟩ := by
      funext q
      rw [selSum_cons]
      congr 1
      have hx := hf p (by simp)
      by_cases hk : p.ln.kind = 9
      · have hc : p.ln.code = ⟨#[]⟩ := by
          simp only [formB, formedB, Bool.and_eq_true, hk, show bareB 9 = true from rfl, if_true, decide_eq_true_eq] at hx
          exact size_zero hx.1.2.2.2
        by_cases he : p.emp = n <;> by_cases hq : p.per = q <;> simp [selEP, hk, hc, he, hq]
      · simp [hk]
    rw [e, sum_add, ih (fun x hx => hf x (by simp [hx])) fun x hx => hm x (by simp [hx]), sum_once hz]
    show _ = netOf n p + netSum n l
    congr 1
    unfold netOf
    by_cases he : p.emp = n
    · rw [if_pos (hm p (by simp) he)]
    · simp [he]
theorem nets_ok {b : List Pst} {R : Int} (h : Good b R) (hl : b.length ≤ 1000) (n : Int) : perNet b n (periodsOf b n) = netL b n := by
  have hb := h.book (by omega)
  rw [netL, if_pos hb, periodsOf, if_pos hb]
  rw [← sum_periods (asI_asc (perSel n b)) n b (fun p hp => valid_form (h.2 p hp).1) (fun p hp he => mem_asI.2 (List.mem_map.2 ⟨p, List.mem_filter.2 ⟨hp, by simp [he]⟩, rfl⟩))]
  unfold perNet
  congr 1
  exact List.map_congr_left fun q _ => res_net h hl n q
theorem periods_len {b : List Pst} (n : Int) : (periodsOf b n).length ≤ b.length := by
  unfold periodsOf
  split
  · refine Nat.le_trans (asI_len _) ?_
    unfold perSel; rw [List.length_map]; exact List.length_filter_le _ _
  · simp
theorem res_amt {b : List Pst} {R : Int} (h : Good b R) (hl : b.length ≤ 24) (n q : Int) : ∀ x ∈ resultL b n q, -14400024 ≤ x.amt ∧ x.amt ≤ 14400024 := by
  intro x hx
  rw [h.res (by omega)] at hx
  have hs := (mem_mrg.1 hx).2
  have hb := sumT_bound (l := selLns (selEP n q) b) (M := 600001) (by omega) (fun y hy => by obtain ⟨p, hp, rfl⟩ := sel_mem hy; exact (h.2 p hp).2.2.2.2) x.kind x.code
  have hlen : (selLns (selEP n q) b).length ≤ 24 := by unfold selLns; rw [List.length_map]; exact Nat.le_trans (List.length_filter_le _ _) hl
  rw [hs] at hb
  omega
theorem perNet_bound {b : List Pst} {R : Int} (h : Good b R) (hl : b.length ≤ 24) (n : Int) (zs : List Int) : -(345600576 * (zs.length : Int)) ≤ perNet b n zs ∧ perNet b n zs ≤ 345600576 * (zs.length : Int) := by
  induction zs with
  | nil => simp [perNet]
  | cons z r ih =>
    have h1 := sumK_bound (by omega) (res_amt h hl n z) 9
    have h2 := res_len h (by omega) n z
    have e : perNet b n (z :: r) = sumK (resultL b n z) 9 + perNet b n r := by simp [perNet]
    rw [e, List.length_cons]
    omega
end Go.Proofs.Ytlchelgibilacaa
