/- Slices of lines and their order; no sums. -/
import Derived.Test.YtnkephafpebfkaaGreatDoorRows
import Derived.Test.YtnkephafpebfkaaGreatDoorLnD
import Derived.Test.YtnkephafpebfkaaGreatDoorSlice
import Derived.Sort.Grow
namespace Go.Proofs.YtnkephafpebfkaaGreatDoor
open Go.RowKit Go.Sort

def lns (l : List Ln) : List (List Value) := l.map Ln.vals
theorem lns_len (l : List Ln) : (lns l).length = l.length := by simp [lns]
theorem lns_at {l : List Ln} {k : Nat} (h : k < l.length) : (lns l)[k]? = some (l[k]).vals := by simp [lns, h]
theorem CellsAt.ln {w : World} {b off : Nat} {l : List Ln} (h : CellsAt w 3 b off (lns l)) {k : Nat} (hk : k < l.length) :
    w.cell? ⟨b, off + k * 3, none⟩ = some (.int .i64 (l[k]).kind) ∧ w.cell? ⟨b, off + k * 3 + 1, none⟩ = some (.string (l[k]).code) ∧ w.cell? ⟨b, off + k * 3 + 2, none⟩ = some (.int .i64 (l[k]).amt) :=
  ⟨h.2 k _ (lns_at hk) 0 _ rfl, h.2 k _ (lns_at hk) 1 _ rfl, h.2 k _ (lns_at hk) 2 _ rfl⟩
theorem lns_pos {l : List Ln} {k : Nat} (hlt : k < l.length) (h : lns l = []) : False := by
  have := congrArg List.length h
  rw [lns_len] at this; simp only [List.length_nil] at this; omega
theorem lns_wide (l : List Ln) : Wide 3 (lns l) := fun x hx => by
  obtain ⟨p, _, rfl⟩ := List.mem_map.1 hx
  exact ⟨rfl, by simp [Ln.vals, Value.oneCell']⟩
theorem lns_append (l m : List Ln) : lns (l ++ m) = lns l ++ lns m := by simp [lns]
theorem rowLn : RowTy Tryz.prog 23 56 3 32 := by
  obtain ⟨i, hi, hz, hs, hb⟩ := info_parts (show (Tryz.prog.info? 56).map (fun i => (i.zero, i.size, i.bytes)) = some (some (.agg #[.int .i64 0, .string ⟨#[]⟩, .int .i64 0]), 3, 32) by kernel_rfl)
  exact ⟨Tryz.underlying23, ⟨i, _, hi, hz, hs, hb, rfl⟩, by omega⟩
theorem formed_amt {x : Ln} (h : formedB x = true) : -1000000000000 ≤ x.amt ∧ x.amt ≤ 1000000000000 := by simp [formedB, totB] at h; omega
theorem formB_formed {x : Ln} (h : formB x = true) : formedB x = true := by unfold formB at h; rw [Bool.and_eq_true] at h; exact h.1

/-- a line comes before another one -/
def lnLt (a b : Ln) : Bool := decide (a.kind < b.kind) || (decide (a.kind = b.kind) && decide (a.code.toList < b.code.toList))
instance : Inhabited Ln := ⟨⟨0, ByteArray.empty, 0⟩⟩
theorem lnLt_iff (a b : Ln) : lnLt a b = true ↔ a.kind < b.kind ∨ a.kind = b.kind ∧ a.code.toList < b.code.toList := by simp [lnLt]
theorem lnLt_irrefl (a : Ln) : lnLt a a = false := by
  rw [Bool.eq_false_iff, Ne, lnLt_iff]
  rintro (h | ⟨_, h⟩)
  · omega
  · exact List.lt_irrefl _ h
theorem lnLt_trans {a b c : Ln} (h1 : lnLt a b = true) (h2 : lnLt b c = true) : lnLt a c = true := by
  rw [lnLt_iff] at *
  rcases h1 with h1 | ⟨h1, h1'⟩ <;> rcases h2 with h2 | ⟨h2, h2'⟩
  · exact .inl (by omega)
  · exact .inl (by omega)
  · exact .inl (by omega)
  · exact .inr ⟨h1.trans h2, List.lt_trans h1' h2'⟩
/-- lines of the form of lines, in strict order -/
def ordB : List Ln → Bool
  | a :: b :: r => formB a && (lnLt a b && ordB (b :: r))
  | [a] => formB a
  | [] => true
theorem ordB_iff (l : List Ln) : ordB l = true ↔ (∀ j (h : j < l.length), formB l[j] = true) ∧ ∀ j (h : j + 1 < l.length), lnLt (l[j]'(by omega)) (l[j + 1]'h) = true := by
  induction l with
  | nil => simp [ordB]
  | cons a r ih =>
    cases r with
    | nil =>
      simp only [ordB]
      constructor
      · intro h
        exact ⟨fun j hj => by obtain rfl : j = 0 := by simp at hj; omega
                              exact h, fun j hj => by simp at hj⟩
      · intro h; exact h.1 0 (by simp)
    | cons b r =>
      simp only [ordB, Bool.and_eq_true, ih]
      constructor
      · rintro ⟨h1, h2, h3, h4⟩
        refine ⟨fun j hj => ?_, fun j hj => ?_⟩
        · cases j with
          | zero => exact h1
          | succ j => exact h3 j (by simpa using hj)
        · cases j with
          | zero => exact h2
          | succ j => exact h4 j (by simpa using hj)
      · rintro ⟨h1, h2⟩
        exact ⟨h1 0 (by simp), h2 0 (by simp), fun j hj => h1 (j + 1) (by simpa using hj), fun j hj => h2 (j + 1) (by simpa using hj)⟩
end Go.Proofs.YtnkephafpebfkaaGreatDoor
