/- A region that draws its order, walked in the order of its text: stretches of operations that only read or call quietly, and between them single operations that nothing can pass. -/
import Derived.Test.YtnmbaeahnfbfiaaKit
namespace Go.Proofs.Ytnmbaeahnfbfiaa
open Go.RowKit

section
variable {P : Program} {ops : Array Oper} {md : Region.Mode} {w : World}

/-- each of k .. n-1 is waited for on the way to n -/
def sinkFrom (md : Region.Mode) (ops : Array Oper) (k n : Nat) : Bool :=
  (List.range n).all fun i => decide (i < k) || (List.range (n + 1)).any fun j => decide (i < j) && Region.waitsFor md ops j i
/-- each behind n waits for n or for one behind it -/
def chainFrom (md : Region.Mode) (ops : Array Oper) (n : Nat) : Bool :=
  (List.range ops.size).all fun t => decide (t ≤ n) || (List.range t).any fun j => decide (n ≤ j) && Region.waitsFor md ops t j
/-- the first s from k on can be taken in the text's order -/
def headFrom (md : Region.Mode) (ops : Array Oper) : Nat → Nat → Array Bool → Bool
  | 0, k, listed => decide (Region.ready md ops listed = [k])
  | s + 1, k, listed => (Region.ready md ops listed).contains k && Region.free md ops listed k && headFrom md ops s (k + 1) (listed.setIfInBounds k true)
def setFrom (s k : Nat) (listed : Array Bool) : Array Bool := match s with
  | 0 => listed
  | s + 1 => setFrom s (k + 1) (listed.setIfInBounds k true)
def mixB (md : Region.Mode) (ops : Array Oper) : List Nat → Nat → Array Bool → Bool
  | [], _, _ => false
  | [_], k, listed => Region.lexFrom md ops (ops.size - k) k listed
  | s :: t :: r, k, listed => decide (k + s < ops.size) && sinkFrom md ops k (k + s) && chainFrom md ops (k + s) && headFrom md ops s k listed && mixB md ops (t :: r) (k + s + 1) ((setFrom s k listed).setIfInBounds (k + s) true)
/-- the walk -/
def wpMix (P : Program) (ops : Array Oper) (Q : Exit → Act → World → Prop) : List Nat → List Oper → Act → World → Prop
  | [], _, _, _ => False
  | [_], l, a, w => wpStill P ops w (fun a' => Q .normal a' w) l a
  | s :: t :: r, l, a, w => wpStill P ops w (fun a' => wpList P ops (Exit.then (fun a'' w'' => wpMix P ops Q (t :: r) (l.drop (s + 1)) a'' w'') Q) ((l.drop s).take 1) a' w) (l.take s) a

theorem tail_waits' {k n : Nat} {listed : Array Bool} (hs : sinkFrom md ops k n = true) (hc : chainFrom md ops n = true) (inv : HeadInv md ops n listed) :
    ∀ (d i : Nat), n - i = d → k ≤ i → i < n → listed.getD i true = false → ∀ t, n ≤ t → t ∉ Region.ready md ops listed := by
  intro d
  induction d using Nat.strongRecOn with
  | _ d ih =>
    intro i hd hki hi hun t ht hr
    obtain ⟨_, ot, hot, hall⟩ := mem_ready.1 hr
    have htlt : t < ops.size := (Array.getElem?_eq_some_iff.1 hot).1
    by_cases htn : t = n
    · subst htn
      have h1 := List.all_eq_true.1 hs i (List.mem_range.2 hi)
      simp only [Bool.or_eq_true, decide_eq_true_eq] at h1
      rcases h1 with h1 | h1
      · omega
      obtain ⟨j, hj, hj2⟩ := List.any_eq_true.1 h1
      simp only [Bool.and_eq_true, decide_eq_true_eq] at hj2
      obtain ⟨oj, hoj, e, he, hb, hon⟩ := Region.waitsFor_spec hj2.2
      have hjle : j ≤ t := by have := List.mem_range.1 hj; omega
      by_cases hjt : j = t
      · subst hjt
        have : oj = ot := Option.some.inj (hoj.symm.trans hot)
        subst this
        have h2 := hall e he hb
        rw [hon, getD_both hun] at h2
        cases h2
      · cases hl : listed.getD j false with
        | true =>
          have h2 := inv.closed j oj hoj hl e he hb
          rw [hon, getD_both hun] at h2
          cases h2
        | false =>
          have hjs : j < listed.size := by rw [inv.size]; omega
          exact ih (t - j) (by omega) j rfl (by omega) (by omega) (getD_in hjs hl) t (Nat.le_refl _) hr
    · have h1 := List.all_eq_true.1 hc t (List.mem_range.2 htlt)
      simp only [Bool.or_eq_true, decide_eq_true_eq] at h1
      rcases h1 with h1 | h1
      · omega
      · obtain ⟨j, hj, hj2⟩ := List.any_eq_true.1 h1
        simp only [Bool.and_eq_true, decide_eq_true_eq] at hj2
        obtain ⟨o', ho', e, he, hb, hon⟩ := Region.waitsFor_spec hj2.2
        have : o' = ot := Option.some.inj (ho'.symm.trans hot)
        subst this
        have h2 := hall e he hb
        have hjt := List.mem_range.1 hj
        rw [hon, getD_both (inv.tail j hj2.1 (by omega))] at h2
        cases h2

theorem wpAnyL_first' {k n i : Nat} {oi : Oper} {v : Value} {L : Array Bool → Act → Prop} (hi : ops[i]? = some oi) (hsel : ∀ (j : Nat) (o : Oper) cs b, ops[j]? = some o → o.op ≠ .select cs b)
    (hs : sinkFrom md ops k n = true) (hc : chainFrom md ops n = true) (hki : k ≤ i) (hin : i < n)
    (hdone : ∀ listed a, L listed a → ∀ j ∈ Region.ready md ops listed, n ≤ j) :
    ∀ (f : Nat) (listed : Array Bool) (a : Act), HeadInv md ops n listed →
      (∀ j oj, ops[j]? = some oj → j ≠ i → listed.getD j true = false → (∀ e ∈ oj.after, Region.binds md e = true → e.on ≠ i) → oi.apart ops oj = true) →
      i ∈ Region.ready md ops listed → YieldsAt P ops w oi v a →
      wpAnyL P md ops w n L f (listed.setIfInBounds i true) (a.put oi.dst v) → wpAnyL P md ops w n L (f + 1) listed a := by
  intro f
  induction f with
  | zero =>
    intro listed a inv _ hr hy H
    have hun := (mem_ready.1 hr).1
    refine ⟨fun h => (by rw [h] at hr; cases hr), fun j hj => ?_⟩
    have hjn : j < n := by
      rcases Nat.lt_or_ge j n with h | h
      · exact h
      · exact absurd hj (tail_waits' hs hc inv _ i rfl hki hin hun j h)
    refine ⟨hjn, ?_⟩
    by_cases hji : j = i
    · subst hji; exact hy.stOp hi H
    · have := hdone _ _ H j (ready_mono hj hji)
      omega
  | succ f ih =>
    intro listed a inv hfree hr hy H
    have hun := (mem_ready.1 hr).1
    refine ⟨fun h => (by rw [h] at hr; cases hr), fun j hj => ?_⟩
    have hjn : j < n := by
      rcases Nat.lt_or_ge j n with h | h
      · exact h
      · exact absurd hj (tail_waits' hs hc inv _ i rfl hki hin hun j h)
    refine ⟨hjn, ?_⟩
    by_cases hji : j = i
    · subst hji; exact hy.stOp hi H
    · have h1 := (H.2 j (ready_mono hj hji)).2
      obtain ⟨hjun, oj, hoj, hall⟩ := mem_ready.1 hj
      have hnot : ∀ e ∈ oj.after, Region.binds md e = true → e.on ≠ i := fun e he hb heq => by
        have h1 := hall e he hb
        rw [heq, getD_both hun] at h1
        cases h1
      have h2 := stOp_put hoj (hfree j oj hoj hji hjun hnot) (fun cs b => hsel i oi cs b hi) (fun cs b => hsel j oj cs b hoj) hy h1
      have hfree' : ∀ q oq, ops[q]? = some oq → q ≠ i → (listed.setIfInBounds j true).getD q true = false →
          (∀ e ∈ oq.after, Region.binds md e = true → e.on ≠ i) → oi.apart ops oq = true := fun q oq hq hqi hun hno => by
        refine hfree q oq hq hqi ?_ hno
        by_cases hjq : j = q
        · subst hjq; exact hjun
        · rw [getD_set_ne true hjq] at hun; exact hun
      refine stOp_mono (fun a' h3 => ih (listed.setIfInBounds j true) a' (inv.set hj hjn) hfree' (ready_mono hr (Ne.symm hji)) h3.1 ?_) h2
      rw [Array.setIfInBounds_comm _ _ hji]
      exact h3.2

theorem wpAnyL_lex' {k0 n : Nat} {Lq : Act → Prop} (hsel : Region.noSelect ops = true) (hs : sinkFrom md ops k0 n = true) (hc : chainFrom md ops n = true) (F : Array Bool) (hF : Region.ready md ops F = [n]) :
    ∀ (l : List Oper) (k : Nat) (listed : Array Bool) (a : Act), (∀ j, j < l.length → l[j]? = ops[k + j]?) → k + l.length = n → k0 ≤ k → HeadInv md ops n listed →
    headFrom md ops l.length k listed = true → setFrom l.length k listed = F → wpStill P ops w Lq l a →
    wpAnyL P md ops w n (fun listed' a' => listed' = F ∧ HeadInv md ops n listed' ∧ Lq a') l.length listed a
  | [], k, listed, a, _, hk, _, inv, hB, hset, h => ⟨hset, inv, h⟩
  | o :: l, k, listed, a, hl, hk, hk0, inv, hB, hset, h => by
    have h0 : ops[k]? = some o := by simpa using (hl 0 (by simp)).symm
    simp only [List.length_cons, headFrom, Bool.and_eq_true] at hB
    obtain ⟨⟨hr, hf⟩, hB'⟩ := hB
    have hkn : k < n := by simp only [List.length_cons] at hk; omega
    have hr' : k ∈ Region.ready md ops listed := by simpa using hr
    have hst : stOp P ops w k (wpStill P ops w Lq l) a := by unfold stOp; simp only [h0]; exact h
    obtain ⟨v, hy, hK⟩ := yieldsAt_of_stOp h0 hst
    exact wpAnyL_first' h0 (Region.noSelect_spec hsel) hs hc hk0 hkn (fun listed' a' hL j hj => by rw [hL.1, hF] at hj; simp at hj; omega) l.length listed a inv (Region.free_spec h0 hf) hr' hy
      (wpAnyL_lex' hsel hs hc F hF l (k + 1) _ _ (fun j hj => by have := hl (j + 1) (by simp; omega); simpa [Nat.add_assoc, Nat.add_comm 1 j] using this) (by simp only [List.length_cons] at hk; omega) (by omega) (inv.set hr' hkn) hB' hset hK)

theorem headFrom_ready : ∀ (s k : Nat) (listed : Array Bool), headFrom md ops s k listed = true → Region.ready md ops (setFrom s k listed) = [k + s]
  | 0, k, listed, h => by simpa [headFrom, setFrom] using h
  | s + 1, k, listed, h => by
    simp only [headFrom, Bool.and_eq_true] at h
    have := headFrom_ready s (k + 1) _ h.2
    rw [setFrom, this]; congr 1; omega

/-- what is listed is closed, and is just the first k -/
def Firsts (md : Region.Mode) (ops : Array Oper) (k : Nat) (listed : Array Bool) : Prop :=
  listed.size = ops.size ∧ (∀ j oj, ops[j]? = some oj → listed.getD j false = true → ∀ e ∈ oj.after, Region.binds md e = true → listed.getD e.on false = true) ∧ ∀ t, k ≤ t → t < ops.size → listed.getD t true = false
theorem Firsts.next {n : Nat} {listed : Array Bool} (h : HeadInv md ops n listed) (hr : Region.ready md ops listed = [n]) : Firsts md ops (n + 1) (listed.setIfInBounds n true) := by
  have hn : n ∈ Region.ready md ops listed := by rw [hr]; simp
  obtain ⟨_, oi, hoi, hall⟩ := mem_ready.1 hn
  refine ⟨by simp [h.size], fun j oj hj hl e he hb => ?_, fun t ht ht' => by rw [getD_set_ne true (by omega)]; exact h.tail t (by omega) ht'⟩
  by_cases hij : n = j
  · subst hij
    have : oj = oi := Option.some.inj (hj.symm.trans hoi)
    subst this
    exact getD_set_true (hall e he hb)
  · rw [getD_set_ne false hij] at hl
    exact getD_set_true (h.closed j oj hj hl e he hb)

theorem wp_then {o : Oper} {a : Act} {next K : Act → World → Prop} {Q : Exit → Act → World → Prop} (h : o.wp P a w next (Exit.then K Q)) : o.wp P a w next Q := by
  unfold Oper.wp at *
  generalize (execOp a.eval o).run P w = r at *
  cases r with
  | ok n w' => cases n <;> exact h
  | halt x w' => cases x <;> exact h
theorem wpOp_then {i : Nat} {a : Act} {next K : Act → World → Prop} {Q : Exit → Act → World → Prop} (h : wpOp P ops (Exit.then K Q) i next a w) : wpOp P ops Q i next a w := by
  unfold wpOp at *
  revert h
  cases ops[i]? with
  | none => exact id
  | some o =>
    intro h
    simp only at *
    split
    · rename_i hw
      rw [if_pos hw] at h
      rcases h with h | h
      · exact .inl (wp_then h)
      · exact .inr ⟨h.1, h.2⟩
    · rename_i hw
      rwa [if_neg hw] at h
theorem wpAny_of_mix {Q : Exit → Act → World → Prop} (hsel : Region.noSelect ops = true) : ∀ (ph : List Nat) (l : List Oper) (k : Nat) (listed : Array Bool) (a : Act) (w : World), k + l.length = ops.size → (∀ j, l[j]? = ops[k + j]?) → Firsts md ops k listed →
    mixB md ops ph k listed = true → wpMix P ops Q ph l a w → wpAny P md ops Q l.length listed a w
  | [], _, _, _, _, _, _, _, _, hB, _ => by cases hB
  | [s], l, k, listed, a, w, hk, hl, _, hB, h => by
    refine wpAny_of_still (Q := fun a' => Q .normal a' w) (fun _ h => h) _ _ _ ?_
    refine wpAnyS_lex hsel l k listed a hl ?_ h
    simp only [mixB] at hB
    rwa [show ops.size - k = l.length by omega] at hB
  | s :: t :: r, l, k, listed, a, w, hk, hl, hfs, hB, h => by
    simp only [mixB, Bool.and_eq_true, decide_eq_true_eq] at hB
    obtain ⟨⟨⟨⟨hn, hs⟩, hc⟩, hh⟩, hrest⟩ := hB
    have hsl : s < l.length := by omega
    have htl : (l.take s).length = s := by simp; omega
    have inv : HeadInv md ops (k + s) listed := ⟨hfs.1, hfs.2.1, fun t ht ht' => hfs.2.2 t (by omega) ht'⟩
    have hF := headFrom_ready s k listed hh
    have H := wpAnyL_lex' (P := P) (w := w) hsel hs hc _ hF (l.take s) k listed a (fun j hj => by
      have hj' : j < s := by rw [htl] at hj; exact hj
      rw [List.getElem?_take, if_pos hj']; exact hl j) (by omega) (Nat.le_refl _) inv (by rw [htl]; exact hh) (by rw [htl]) h
    have := wpAny_of_head (Q' := Q) (g := l.length - s) (fun listed' a' hL => by
      obtain ⟨rfl, inv', hL⟩ := hL
      have hg : l.length - s = (l.length - s - 1) + 1 := by omega
      rw [hg]
      refine ⟨fun h1 => (by rw [hF] at h1; cases h1), fun i hi => ?_⟩
      rw [hF] at hi
      have hik : i = k + s := by simpa using hi
      subst hik
      have ho : ops[k + s]? = some l[s] := by rw [← hl s]; exact List.getElem?_eq_getElem hsl
      have hd1 : (l.drop s).take 1 = [l[s]] := by rw [List.drop_eq_getElem_cons hsl]; rfl
      rw [hd1] at hL
      have hw : wpOp P ops (Exit.then (fun a'' w'' => wpMix P ops Q (t :: r) (l.drop (s + 1)) a'' w'') Q) (k + s) (wpList P ops (Exit.then (fun a'' w'' => wpMix P ops Q (t :: r) (l.drop (s + 1)) a'' w'') Q) []) a' w := by unfold wpOp; simp only [ho]; exact hL
      refine wpOp_mono (fun a'' w'' h' => ?_) (wpOp_then hw)
      have h2 := wpAny_of_mix hsel (t :: r) (l.drop (s + 1)) (k + s + 1) _ a'' w'' (by rw [List.length_drop]; omega) (fun j => by rw [List.getElem?_drop, hl]; congr 1; omega) (Firsts.next inv' hF) hrest h'
      rwa [List.length_drop, show l.length - (s + 1) = l.length - s - 1 by omega] at h2) _ _ _ H
    rw [htl, show s + (l.length - s) = l.length by omega] at this
    exact this

/-- the region, by its stretches: ph counts the quiet operations ahead of each single one, and those at the end -/
theorem region_mix {id : Nat} {Q : Exit → Act → World → Prop} {a : Act} {l : List Oper} (ph : List Nat) (hm : P.follows .mixedOrders = true) (hs : Region.noSelect l.toArray = true)
    (hB : mixB .any l.toArray ph 0 (Array.replicate l.toArray.size false) = true) (h : wpMix P l.toArray Q ph l a w.drew) : (Code.region id l.toArray true).wp P Q a w := by
  refine wp_region_any hm ?_
  have := wpAny_of_mix (P := P) (md := .any) (Q := Q) hs ph l 0 (Array.replicate l.toArray.size false) a w.drew (by simp) (fun j => by simp) ⟨by simp, fun j oj _ hl => (by rw [getD_replicate_false] at hl; cases hl), fun t _ ht => getD_in (by simpa using ht) (getD_replicate_false _ _)⟩ hB h
  simpa using this
end

end Go.Proofs.Ytnmbaeahnfbfiaa
