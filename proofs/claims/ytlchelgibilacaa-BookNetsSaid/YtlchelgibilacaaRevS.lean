/- Plain facts for the laws on sums and on reversed runs. -/
import Derived.Test.YtlchelgibilacaaSum
import Derived.Test.YtlchelgibilacaaRes
import Derived.Test.YtlchelgibilacaaDeck4
namespace Go.Proofs.Ytlchelgibilacaa

theorem asc_pairs (l : List Pst) : ascB l = true ↔ l.Pairwise fun a b => a.run ≤ b.run := by
  induction l with
  | nil => simp [ascB]
  | cons a r ih =>
    cases r with
    | nil => simp [ascB]
    | cons b r =>
      simp only [ascB, Bool.and_eq_true, decide_eq_true_eq, ih, List.pairwise_cons]
      constructor
      · rintro ⟨h1, h2, h3⟩
        refine ⟨fun x hx => ?_, h2, h3⟩
        rcases List.mem_cons.1 hx with rfl | hx
        · exact h1
        · exact Int.le_trans h1 (h2 x hx)
      · rintro ⟨h1, h2, h3⟩
        exact ⟨h1 b (by simp), h2, h3⟩
theorem pairs_all {α : Type} {R : α → α → Prop} : ∀ {l : List α}, (∀ x ∈ l, ∀ y ∈ l, R x y) → l.Pairwise R
  | [], _ => .nil
  | a :: r, h => List.pairwise_cons.2 ⟨fun y hy => h a (by simp) y (by simp [hy]), pairs_all fun x hx y hy => h x (by simp [hx]) y (by simp [hy])⟩
/-- small valid postings -/
def Mild (l : List Pst) : Prop := l.length ≤ 1000 ∧ ∀ p ∈ l, validB p = true ∧ -600001 ≤ p.ln.amt ∧ p.ln.amt ≤ 600001
theorem Good.mild {l : List Pst} {R : Int} (h : Good l R) (hl : l.length ≤ 1000) : Mild l := ⟨hl, fun p hp => ⟨(h.2 p hp).1, (h.2 p hp).2.2.2.2⟩⟩
theorem valid_form {p : Pst} (h : validB p = true) : formB p.ln = true := by
  simp only [validB, Bool.and_eq_true] at h; exact h.2.2.2.2.2.2
theorem sel_mem {sel : Pst → Bool} {l : List Pst} {x : Ln} (h : x ∈ selLns sel l) : ∃ p ∈ l, p.ln = x := by
  unfold selLns at h
  obtain ⟨p, hp, rfl⟩ := List.mem_map.1 h
  exact ⟨p, (List.mem_filter.1 hp).1, rfl⟩
theorem Fine.of {l : List Ln} (hl : l.length ≤ 100000) (hl' : l.length ≤ 65536) (hf : ∀ x ∈ l, formedB x = true) {M : Int} (h0 : 0 ≤ M) (hM : M ≤ 10000000) (ha : ∀ x ∈ l, -M ≤ x.amt ∧ x.amt ≤ M) : Fine l := by
  refine ⟨hl', hf, fun k c => ?_⟩
  have := sumT_bound h0 ha k c
  have h2 : M * (l.length : Int) ≤ 10000000 * 100000 := Int.mul_le_mul hM (by omega) (by omega) (by omega)
  simp only [totB, Bool.and_eq_true, decide_eq_true_eq]
  omega
theorem Mild.fine {l : List Pst} (h : Mild l) (sel : Pst → Bool) : Fine (selLns sel l) := by
  have hl : (selLns sel l).length ≤ 1000 := by
    unfold selLns; rw [List.length_map]; exact Nat.le_trans (List.length_filter_le _ _) h.1
  refine Fine.of (by omega) (by omega) (fun x hx => ?_) (M := 600001) (by omega) (by omega) fun x hx => ?_
  · obtain ⟨p, hp, rfl⟩ := sel_mem hx
    have := valid_form (h.2 p hp).1
    simp only [formB, Bool.and_eq_true] at this; exact this.1
  · obtain ⟨p, hp, rfl⟩ := sel_mem hx
    exact (h.2 p hp).2
theorem Mild.merged {l : List Pst} (h : Mild l) (hb : bookB l = true) (sel : Pst → Bool) : mergedL l sel = mrg (selLns sel l) := by
  rw [mergedL, if_pos hb, (h.fine sel).merge]
theorem selLns_cons (sel : Pst → Bool) (p : Pst) (l : List Pst) : selLns sel (p :: l) = (if sel p then [p.ln] else []) ++ selLns sel l := by
  unfold selLns
  cases h : sel p <;> simp [h]
theorem selLns_append (sel : Pst → Bool) (l m : List Pst) : selLns sel (l ++ m) = selLns sel l ++ selLns sel m := by simp [selLns]

/-- the postings of other runs -/
def wo (r : Int) (l : List Pst) : List Pst := l.filter fun p => decide (p.run ≠ r)
theorem wo_snoc (r : Int) (l : List Pst) (k : Nat) (h : k < l.length) : wo r (l.take (k + 1)) = wo r (l.take k) ++ if l[k].run = r then [] else [l[k]] := by
  unfold wo
  rw [List.take_succ_eq_append_getElem h, List.filter_append]
  congr 1
  by_cases hr : l[k].run = r <;> simp [hr]
theorem wo_len (r : Int) (l : List Pst) (k : Nat) : (wo r (l.take k)).length ≤ k := Nat.le_trans (List.length_filter_le _ _) (List.length_take_le _ _)
theorem rev_sum (sel : Pst → Bool) (r s : Int) (hsel : ∀ p, sel (undone s p) = sel p) (l : List Pst) (k : Int) (c : ByteArray) : sumT (selLns sel l) k c + sumT (selLns sel (undoSel r s l)) k c = sumT (selLns sel (wo r l)) k c := by
  induction l with
  | nil => rfl
  | cons p l ih =>
    by_cases hr : p.run = r
    · have e1 : undoSel r s (p :: l) = undone s p :: undoSel r s l := by simp [undoSel, hr]
      have e2 : wo r (p :: l) = wo r l := by simp [wo, hr]
      rw [e1, e2, selLns_cons, selLns_cons, sumT_append, sumT_append, hsel, ← ih]
      cases sel p
      · simp only [Bool.false_eq_true, if_false, sumT_nil]; omega
      · simp only [if_true, sumT_cons, sumT_nil, undone]
        split <;> omega
    · have e1 : undoSel r s (p :: l) = undoSel r s l := by simp [undoSel, hr]
      have e2 : wo r (p :: l) = p :: wo r l := by simp [wo, hr]
      rw [e1, e2, selLns_cons, selLns_cons, sumT_append, sumT_append, ← ih]
      omega
theorem rev_net (n r s : Int) (l : List Pst) : netSum n l + netSum n (undoSel r s l) = netSum n (wo r l) := by
  induction l with
  | nil => rfl
  | cons p l ih =>
    by_cases hr : p.run = r
    · have e1 : undoSel r s (p :: l) = undone s p :: undoSel r s l := by simp [undoSel, hr]
      have e2 : wo r (p :: l) = wo r l := by simp [wo, hr]
      rw [e1, e2, ← ih]
      simp only [netSum, List.map_cons, List.sum_cons, netOf, undone]
      split <;> omega
    · have e1 : undoSel r s (p :: l) = undoSel r s l := by simp [undoSel, hr]
      have e2 : wo r (p :: l) = p :: wo r l := by simp [wo, hr]
      rw [e1, e2]
      simp only [netSum, List.map_cons, List.sum_cons] at ih ⊢
      omega
theorem tot_neg {a : Int} (h : totB a = true) : totB (-a) = true := by
  simp only [totB, Bool.and_eq_true, decide_eq_true_eq] at h ⊢; omega
theorem valid_undone {p : Pst} (h : validB p = true) : validB (undone 100 p) = true := by
  obtain ⟨r, m, p, ⟨k, c, a⟩⟩ := p
  show validB ⟨100, m, p, ⟨k, c, -a⟩⟩ = true
  simp only [validB, formB, formedB, Bool.and_eq_true, decide_eq_true_eq] at h ⊢
  obtain ⟨h1, h2, h3, h4, h5, h6, ⟨h7, h8, h9, h10⟩, h11⟩ := h
  exact ⟨by omega, by omega, h3, h4, h5, h6, ⟨h7, h8, tot_neg h9, h10⟩, by omega⟩
theorem undo_mem {r s : Int} {l : List Pst} {q : Pst} (h : q ∈ undoSel r s l) : ∃ p ∈ l, p.run = r ∧ q = undone s p := by
  unfold undoSel at h
  obtain ⟨p, hp, rfl⟩ := List.mem_map.1 h
  obtain ⟨h1, h2⟩ := List.mem_filter.1 hp
  exact ⟨p, h1, by simpa using h2, rfl⟩
/-- a run of a drawn book is reversed -/
theorem reversed {b : List Pst} {R : Int} (h : Good b R) (hR : R ≤ 99) (hl : b.length ≤ 100) {i : Nat} (hi : i < b.length) {r : Int} (hr : b[i].run = r) :
    undoE b r 100 = 0 ∧ addE b (undoSel r 100 b) = 0 ∧ (∀ n, netL (b ++ undoSel r 100 b) n = netL (wo r b) n) ∧ ∀ n p, resultL (b ++ undoSel r 100 b) n p = resultL (wo r b) n p := by
  have hb : bookB b = true := h.book (by omega)
  have hul : (undoSel r 100 b).length ≤ 100 := by have := undoSel_len r 100 b b.length; rw [List.take_length] at this; omega
  have hne : ¬ (undoSel r 100 b).length = 0 := by
    intro h0
    have hm : undone 100 b[i] ∈ undoSel r 100 b := List.mem_map.2 ⟨b[i], List.mem_filter.2 ⟨List.getElem_mem hi, by simp [hr]⟩, rfl⟩
    rw [List.eq_nil_of_length_eq_zero h0] at hm; cases hm
  have hlast : ¬ 100 ≤ lastRun b := by
    have e : lastRun b = (b[b.length - 1]'(by omega)).run := by simp [lastRun, List.getD, show b.length - 1 < b.length by omega]
    have := (h.2 _ (List.getElem_mem (show b.length - 1 < b.length by omega))).2.1
    omega
  have hv : validsB (undoSel r 100 b) = true := by
    rw [validsB, List.all_eq_true]
    intro q hq
    obtain ⟨p, hp, _, rfl⟩ := undo_mem hq
    exact valid_undone (h.2 p hp).1
  have hasc : ascB (b ++ undoSel r 100 b) = true := by
    rw [asc_pairs, List.pairwise_append]
    refine ⟨(asc_pairs b).1 h.1, ?_, fun x hx y hy => ?_⟩
    · refine pairs_all fun x hx y hy => ?_
      obtain ⟨p, _, _, rfl⟩ := undo_mem hx
      obtain ⟨q, _, _, rfl⟩ := undo_mem hy
      exact Int.le_refl _
    · obtain ⟨q, _, _, rfl⟩ := undo_mem hy
      have := (h.2 x hx).2.1
      show x.run ≤ 100
      omega
  have hB : bookB (b ++ undoSel r 100 b) = true := by
    have hvb : validsB b = true := by simp only [bookB, Bool.and_eq_true] at hb; exact hb.2.2
    rw [bookB, hasc, validsB, List.all_append]
    rw [validsB] at hv hvb
    rw [hv, hvb]; simp; omega
  have hM : Mild (b ++ undoSel r 100 b) := by
    refine ⟨by rw [List.length_append]; omega, fun p hp => ?_⟩
    rcases List.mem_append.1 hp with hp | hp
    · exact ⟨(h.2 p hp).1, (h.2 p hp).2.2.2.2⟩
    · obtain ⟨q, hq, _, rfl⟩ := undo_mem hp
      have := (h.2 q hq).2.2.2.2
      refine ⟨valid_undone (h.2 q hq).1, ?_⟩
      show -600001 ≤ - q.ln.amt ∧ - q.ln.amt ≤ 600001
      omega
  have hG : Good (wo r b) R := ⟨(asc_pairs _).2 (List.Pairwise.filter _ ((asc_pairs b).1 h.1)), fun p hp => h.2 p (List.mem_filter.1 hp).1⟩
  have hwl : (wo r b).length ≤ 100 := by have := wo_len r b b.length; rw [List.take_length] at this; omega
  have hBw : bookB (wo r b) = true := hG.book (by omega)
  refine ⟨?_, ?_, fun n => ?_, fun n p => ?_⟩
  · simp [undoE, hb, hne, hlast]
  · simp only [addE, hb, hv, hasc, Bool.and_self, if_true]
    rw [if_pos (by omega)]
  · rw [netL, netL, if_pos hB, if_pos hBw, ← rev_net n r 100 b]
    simp [netSum]
  · rw [resultL, resultL, hM.merged hB, (hG.mild (by omega)).merged hBw]
    refine mrg_eq fun k c => ?_
    rw [selLns_append, sumT_append]
    exact rev_sum _ _ _ (fun q => rfl) _ _ _
end Go.Proofs.Ytlchelgibilacaa
