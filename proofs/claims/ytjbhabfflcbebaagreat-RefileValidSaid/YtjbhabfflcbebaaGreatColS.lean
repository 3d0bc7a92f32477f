/- Plain laws on lists of lines: the order of lines, lists with different titles, the sorted list. -/
import Derived.Test.YtjbhabfflcbebaaGreatSrl
namespace Go.Proofs.YtjbhabfflcbebaaGreat
open Go.RowKit

/-- no two lines have one title -/
def Dist (es : List Ln) : Prop := es.Pairwise fun a b => ¬ (a.kind = b.kind ∧ a.code = b.code)
/-- strictly ascending -/
def Strict (es : List Ln) : Prop := es.Pairwise fun a b => lnLt a b = true
def nz (x : Ln) : Bool := decide (x.amt ≠ 0)
def insLn (x : Ln) : List Ln → List Ln
  | [] => [x]
  | y :: r => if lnLt x y then x :: y :: r else y :: insLn x r
def srtLn (l : List Ln) : List Ln := l.foldr insLn []

theorem bytes_of_toList {a b : ByteArray} (h : a.toList = b.toList) : a = b := by
  rw [ByteArray.toList_eq, ByteArray.toList_eq] at h
  exact Go.WideShapes.bytes_inj h
theorem lnLt_total {a b : Ln} (h1 : lnLt a b = false) (h2 : lnLt b a = false) : a.kind = b.kind ∧ a.code = b.code := by
  rw [lnLt_not] at h1 h2
  rcases h1 with h1 | ⟨h1, h1'⟩ <;> rcases h2 with h2 | ⟨h2, h2'⟩
  · omega
  · omega
  · omega
  · exact ⟨h1, bytes_of_toList (List.le_antisymm h2' h1')⟩
theorem lnLt_irrefl (a : Ln) : lnLt a a = false := by rw [← ltOf_ln]; exact swoLn.irrefl a
theorem lnLt_trans {a b c : Ln} (h1 : lnLt a b = true) (h2 : lnLt b c = true) : lnLt a c = true := by
  rw [← ltOf_ln] at *; exact swoLn.trans _ _ _ h1 h2
theorem lnLt_asymm {a b : Ln} (h1 : lnLt a b = true) : lnLt b a = false := by
  rw [Bool.eq_false_iff]; intro h2
  have := lnLt_trans h1 h2
  rw [lnLt_irrefl] at this; cases this
theorem lnLt_title {a b : Ln} (h : lnLt a b = true) : ¬ (a.kind = b.kind ∧ a.code = b.code) := by
  rintro ⟨h1, h2⟩
  rw [lnLt_iff] at h
  rcases h with h | ⟨_, h⟩
  · omega
  · rw [h2] at h; exact List.lt_irrefl _ h
theorem Strict.dist {r : List Ln} (h : Strict r) : Dist r := List.Pairwise.imp (fun h => lnLt_title h) h
theorem strict_unique {r1 r2 : List Ln} (h1 : Strict r1) (h2 : Strict r2) (h : ∀ x, x ∈ r1 ↔ x ∈ r2) : r1 = r2 := by
  induction r1 generalizing r2 with
  | nil =>
    cases r2 with
    | nil => rfl
    | cons b r => exact absurd ((h b).2 (by simp)) (by simp)
  | cons a r ih =>
    cases r2 with
    | nil => exact absurd ((h a).1 (by simp)) (by simp)
    | cons b s =>
      have h1' := List.pairwise_cons.1 h1
      have h2' := List.pairwise_cons.1 h2
      have hab : a = b := by
        rcases List.mem_cons.1 ((h a).1 (by simp)) with e | e
        · exact e
        · rcases List.mem_cons.1 ((h b).2 (by simp)) with e' | e'
          · exact e'.symm
          · have q1 := h2'.1 a e
            have q2 := h1'.1 b e'
            rw [lnLt_asymm q1] at q2; cases q2
      subst hab
      congr 1
      refine ih h1'.2 h2'.2 fun x => ?_
      constructor
      · intro hx
        rcases List.mem_cons.1 ((h x).1 (by simp [hx])) with e | e
        · subst e
          have := h1'.1 x hx
          rw [lnLt_irrefl] at this; cases this
        · exact e
      · intro hx
        rcases List.mem_cons.1 ((h x).2 (by simp [hx])) with e | e
        · subst e
          have := h2'.1 x hx
          rw [lnLt_irrefl] at this; cases this
        · exact e
theorem mem_insLn {x y : Ln} {l : List Ln} : y ∈ insLn x l ↔ y = x ∨ y ∈ l := by
  induction l with
  | nil => simp [insLn]
  | cons a r ih =>
    simp only [insLn]
    split
    · simp
    · simp only [List.mem_cons, ih]
      constructor
      · rintro (h | h | h)
        · exact .inr (.inl h)
        · exact .inl h
        · exact .inr (.inr h)
      · rintro (h | h | h)
        · exact .inr (.inl h)
        · exact .inl h
        · exact .inr (.inr h)
theorem mem_srtLn {y : Ln} {l : List Ln} : y ∈ srtLn l ↔ y ∈ l := by
  induction l with
  | nil => simp [srtLn]
  | cons a r ih =>
    show y ∈ insLn a (srtLn r) ↔ _
    rw [mem_insLn, ih]; simp
theorem strict_insLn {x : Ln} {l : List Ln} (h : Strict l) (hx : ∀ y ∈ l, ¬ (x.kind = y.kind ∧ x.code = y.code)) : Strict (insLn x l) := by
  induction l with
  | nil => simp [insLn, Strict]
  | cons a r ih =>
    have h' := List.pairwise_cons.1 h
    simp only [insLn]
    by_cases hl : lnLt x a = true
    · rw [if_pos hl]
      refine List.pairwise_cons.2 ⟨fun y hy => ?_, h⟩
      rcases List.mem_cons.1 hy with rfl | hy
      · exact hl
      · exact lnLt_trans hl (h'.1 y hy)
    · rw [if_neg hl]
      have hax : lnLt a x = true := by
        cases hh : lnLt a x
        · exact absurd (lnLt_total (by simpa using hl) hh) (hx a (by simp))
        · rfl
      refine List.pairwise_cons.2 ⟨fun y hy => ?_, ih h'.2 fun y hy => hx y (by simp [hy])⟩
      rcases mem_insLn.1 hy with rfl | hy
      · exact hax
      · exact h'.1 y hy
theorem strict_srtLn {l : List Ln} (h : Dist l) : Strict (srtLn l) := by
  induction l with
  | nil => exact .nil
  | cons a r ih =>
    have h' := List.pairwise_cons.1 h
    exact strict_insLn (ih h'.2) fun y hy => h'.1 y (mem_srtLn.1 hy)
theorem dist_filter {l : List Ln} (h : Dist l) (p : Ln → Bool) : Dist (l.filter p) := List.Pairwise.filter _ h
/-- what the sort has made of a permutation of the lines that are not 0 -/
theorem sorted_is {l l' es : List Ln} (hd : Dist l) (hp : l'.Perm l) (hs : l'.Pairwise fun a b => lnLt b a = false) (hes : Dist es) (hm : ∀ x, x ∈ l ↔ x ∈ es ∧ nz x = true) : l' = srtLn (es.filter nz) := by
  have hd' : Dist l' := (hp.symm.pairwise_iff (fun {a b} h hh => h ⟨hh.1.symm, hh.2.symm⟩)).1 hd
  have hst : Strict l' := by
    have := List.pairwise_and_iff.2 ⟨hs, hd'⟩
    refine List.Pairwise.imp (fun {a b} ⟨h1, h2⟩ => ?_) this
    cases hh : lnLt a b
    · exact absurd (lnLt_total hh h1) h2
    · rfl
  refine strict_unique hst (strict_srtLn (dist_filter hes nz)) fun x => ?_
  rw [mem_srtLn, hp.mem_iff, hm x, List.mem_filter]

end Go.Proofs.YtjbhabfflcbebaaGreat
