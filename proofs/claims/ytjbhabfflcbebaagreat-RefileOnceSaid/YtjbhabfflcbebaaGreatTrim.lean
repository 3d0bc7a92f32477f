/- Contracts of the reference of payslip: trim, Merge. -/
import Derived.Test.YtjbhabfflcbebaaGreatPut
import Derived.Test.YtjbhabfflcbebaaGreatSum
namespace Go.Proofs.YtjbhabfflcbebaaGreat
open Go.RowKit

theorem nz_snoc (l : List Ln) (k : Nat) (h : k < l.length) : (l.take (k + 1)).filter nz = (l.take k).filter nz ++ if l[k].amt = 0 then [] else [l[k]] := by
  rw [List.take_succ_eq_append_getElem h, List.filter_append]
  congr 1
  by_cases hr : l[k].amt = 0 <;> simp [nz, hr]
theorem nz_len (l : List Ln) (k : Nat) : ((l.take k).filter nz).length ≤ k := Nat.le_trans (List.length_filter_le _ _) (List.length_take_le _ _)
def trimB (l : List Ln) : Bool := l.all fun x => totB x.amt
def trimL (l : List Ln) : List Ln := if trimB l then l.filter nz else []
theorem tup_bool {x : Value} {a b : Bool} (h : a = b) : Ending.returned (.tuple #[x, .bool a]) = .returned (.tuple #[x, .bool b]) := by rw [h]
/-- lines put one after another -/
def putsR (l : List Ln) : List Ln := l.foldl (fun acc x => putR x acc) []
theorem putsR_snoc (l : List Ln) (k : Nat) (h : k < l.length) : putsR (l.take (k + 1)) = putR l[k] (putsR (l.take k)) := by
  rw [List.take_succ_eq_append_getElem h, putsR, List.foldl_append]; rfl
theorem lt_of_title {a b c : Ln} (h : lnLt a b = true) (h1 : c.kind = b.kind) (h2 : c.code = b.code) : lnLt a c = true := by
  rw [lnLt_iff] at h ⊢; rw [h1, h2]; exact h
theorem lt_of_title' {a b c : Ln} (h : lnLt b a = true) (h1 : c.kind = b.kind) (h2 : c.code = b.code) : lnLt c a = true := by
  rw [lnLt_iff] at h ⊢; rw [h1, h2]; exact h
theorem putR_mem {x y : Ln} {l : List Ln} (h : y ∈ putR x l) : (y.kind = x.kind ∧ y.code = x.code) ∨ y ∈ l := by
  induction l with
  | nil => simp [putR] at h; subst h; exact .inl ⟨rfl, rfl⟩
  | cons a r ih =>
    simp only [putR] at h
    split at h
    · rcases List.mem_cons.1 h with rfl | h
      · exact .inr (by simp)
      · rcases ih h with h | h
        · exact .inl h
        · exact .inr (by simp [h])
    · split at h
      · rcases List.mem_cons.1 h with rfl | h
        · exact .inl ⟨rfl, rfl⟩
        · exact .inr (by simp [h])
      · rcases List.mem_cons.1 h with rfl | h
        · exact .inl ⟨rfl, rfl⟩
        · exact .inr h
theorem putR_strict {x : Ln} {l : List Ln} (h : Strict l) : Strict (putR x l) := by
  induction l with
  | nil => simp [putR, Strict]
  | cons a r ih =>
    have h' := List.pairwise_cons.1 h
    simp only [putR]
    split
    · rename_i hlt
      refine List.pairwise_cons.2 ⟨fun y hy => ?_, ih h'.2⟩
      rcases putR_mem hy with ⟨e1, e2⟩ | hy
      · exact lt_of_title hlt e1 e2
      · exact h'.1 y hy
    · rename_i hlt
      have hlt : lnLt a x = false := by simpa using hlt
      split
      · rename_i hs
        exact List.pairwise_cons.2 ⟨fun y hy => lt_of_title' (h'.1 y hy) hs.1.symm hs.2.symm, h'.2⟩
      · rename_i hs
        have hxa : lnLt x a = true := by
          cases hh : lnLt x a
          · exact absurd (lnLt_total hlt hh) hs
          · rfl
        refine List.pairwise_cons.2 ⟨fun y hy => ?_, h⟩
        rcases List.mem_cons.1 hy with rfl | hy
        · exact hxa
        · exact lnLt_trans hxa (h'.1 y hy)
theorem sumT_putR (x : Ln) (l : List Ln) (k : Int) (c : ByteArray) : sumT (putR x l) k c = sumT l k c + if x.kind = k ∧ x.code = c then x.amt else 0 := by
  induction l with
  | nil => simp [putR, sumT]
  | cons a r ih =>
    simp only [putR]
    split
    · rw [sumT_cons, ih, sumT_cons]; omega
    · split
      · rename_i hs
        rw [sumT_cons, sumT_cons, hs.1, hs.2]
        dsimp only
        split <;> omega
      · rw [sumT_cons, sumT_cons]; omega
theorem puts_strict (l : List Ln) (k : Nat) : Strict (putsR (l.take k)) := by
  induction k with
  | zero => exact List.Pairwise.nil
  | succ k ih =>
    by_cases h : k < l.length
    · rw [putsR_snoc l k h]; exact putR_strict ih
    · rw [List.take_of_length_le (by omega)]; rw [List.take_of_length_le (by omega)] at ih; exact ih
theorem sumT_puts (l : List Ln) (k : Nat) (i : Int) (c : ByteArray) : sumT (putsR (l.take k)) i c = sumT (l.take k) i c := by
  induction k with
  | zero => rfl
  | succ k ih =>
    by_cases h : k < l.length
    · rw [putsR_snoc l k h, sumT_putR, ih, List.take_succ_eq_append_getElem h, sumT_append, sumT_cons, sumT_nil]; omega
    · rw [List.take_of_length_le (by omega)]; rw [List.take_of_length_le (by omega)] at ih; exact ih
theorem putR_len (x : Ln) (l : List Ln) : (putR x l).length ≤ l.length + 1 := by
  induction l with
  | nil => simp [putR]
  | cons a r ih =>
    simp only [putR]
    split
    · simp only [List.length_cons]; omega
    · split <;> simp
theorem puts_len (l : List Ln) (k : Nat) : (putsR (l.take k)).length ≤ k := by
  induction k with
  | zero => simp [putsR]
  | succ k ih =>
    by_cases h : k < l.length
    · rw [putsR_snoc l k h]; have := putR_len l[k] (putsR (l.take k)); omega
    · rw [List.take_of_length_le (by omega)]; rw [List.take_of_length_le (by omega)] at ih; omega
theorem strict_amt {es : List Ln} (h : Strict es) {x : Ln} (hx : x ∈ es) : sumT es x.kind x.code = x.amt := by rw [sumT_dist h.dist, amt_mem h.dist hx]
theorem puts_amt {l : List Ln} (h : l.all formedB = true) (hl : l.length ≤ 65536) (k : Nat) : ∀ a ∈ putsR (l.take k), -1000000000000000000 ≤ a.amt ∧ a.amt ≤ 1000000000000000000 := by
  intro a ha
  have hs := strict_amt (puts_strict l k) ha
  rw [sumT_puts] at hs
  have hb := sumT_bound (l := l.take k) (M := 1000000000000) (by omega) (fun x hx => formed_amt (List.all_eq_true.1 h x (List.mem_of_mem_take hx))) a.kind a.code
  have hk : (l.take k).length ≤ 65536 := Nat.le_trans (List.length_take_le' _ _) hl
  rw [hs] at hb
  omega
/-- ordered lines with the sums of l, trimmed, are the merged lines -/
theorem trim_is {es l : List Ln} (h : Strict es) (hs : ∀ k c, sumT es k c = sumT l k c) : (trimB es = true ↔ colE (sumsT l) = 0) ∧ es.filter nz = mrg l := by
  constructor
  · rw [trimB, List.all_eq_true]
    constructor
    · intro ht
      rw [colE, if_pos]
      rw [List.all_eq_true]
      intro x hx
      have e1 := amt_mem (sumsT_dist l) hx
      rw [amt_sums, ← hs] at e1
      by_cases h0 : x.amt = 0
      · rw [h0]; rfl
      · rw [sumT_dist h.dist] at e1
        have hm := amt_some (es := es) (k := x.kind) (c := x.code) (by rw [e1]; exact h0)
        have := ht _ hm
        rwa [e1] at this
    · intro hc x hx
      have hall : (sumsT l).all (fun x => totB x.amt) = true := by
        cases hh : (sumsT l).all (fun x => totB x.amt)
        · rw [colE, hh] at hc; cases hc
        · rfl
      rw [List.all_eq_true] at hall
      have e1 := strict_amt h hx
      rw [hs, ← amt_sums] at e1
      by_cases h0 : x.amt = 0
      · rw [h0]; rfl
      · have hm := amt_some (es := sumsT l) (k := x.kind) (c := x.code) (by rw [e1]; exact h0)
        have := hall _ hm
        rwa [e1] at this
  · refine strict_unique (List.Pairwise.filter _ h) (mrg_strict l) fun x => ?_
    rw [List.mem_filter, mem_mrg, nz, decide_eq_true_eq]
    constructor
    · rintro ⟨hx, h0⟩
      exact ⟨h0, by rw [← hs]; exact strict_amt h hx⟩
    · rintro ⟨h0, h1⟩
      rw [← hs, sumT_dist h.dist] at h1
      refine ⟨?_, h0⟩
      have hm := amt_some (es := es) (k := x.kind) (c := x.code) (by rw [h1]; exact h0)
      rwa [h1] at hm
end Go.Proofs.YtjbhabfflcbebaaGreat
