/- Contracts of the functions on single lines: payrollref32, payrollref34. -/
import Derived.Test.YtnkephafpebfkaaGreatDoorLnD
import Derived.Test.YtnkephafpebfkaaGreatDoorNameR
namespace Go.Proofs.YtnkephafpebfkaaGreatDoor
open Go.RowKit

theorem refBare_any (n : Int) (w : World) :
    Calls Tryz.prog 57 #[.int .i64 n] w fun e w' => e = .returned (.bool (bareB n)) ∧ w = w' := by
  unfold bareB
  cases h1 : (n == 6)
  · cases h2 : (n == 9)
    · go_enter Tryz.func57, Tryz.ntmps57
      go_wp2
      go_ret
      exact ⟨ret_bool (by simp at h1 h2; simp [h1, h2]; rfl), rfl⟩
    · go_enter Tryz.func57, Tryz.ntmps57
      go_wp2
      go_ret
      exact ⟨ret_bool (by simp at h1 h2; simp [h2]), rfl⟩
  · go_enter Tryz.func57, Tryz.ntmps57
    go_wp2
    go_ret
    exact ⟨ret_bool (by simp at h1; simp [h1]), rfl⟩

set_option maxHeartbeats 400000 in
theorem refForm32_any (l : Ln) (w : World) :
    Calls Tryz.prog 89 #[.agg #[.int .i64 l.kind, .string l.code, .int .i64 l.amt]] w fun e w' => e = .returned (.bool (formedB l)) ∧ Below w.heap.size w w' := by
  obtain ⟨k, c, a⟩ := l
  dsimp only
  by_cases h1 : 1 ≤ k
  · by_cases h2 : k ≤ 10
    · by_cases h3 : -1000000000000 ≤ a
      · by_cases h3' : a ≤ 1000000000000
        · have h3t : totB a = true := by simp [totB, h3, h3']
          cases h4 : bareB k
          · go_enter Tryz.func89, Tryz.ntmps89
            go_wp2_with (first | (go_at_call 57; refine (refBare_any _ _).mono ?_; rintro e w' ⟨rfl, rfl⟩) | (go_at_call 105; refine (refIsName_any _ _).mono ?_; rintro e w1 ⟨rfl, hb⟩))
            go_ret
            exact ⟨ret_bool (by simp [formedB, h1, h2, h3t, h4]), ((Below.refl _ _).alloc (Nat.le_refl _) _).trans (hb.mono (by simp))⟩
          · go_enter Tryz.func89, Tryz.ntmps89
            go_wp2_with (first | (go_at_call 57; refine (refBare_any _ _).mono ?_; rintro e w' ⟨rfl, rfl⟩) | (go_at_call 105; refine (refIsName_any _ _).mono ?_; rintro e w1 ⟨rfl, hb⟩))
            go_ret
            exact ⟨ret_bool (by simp only [formedB, h1, h2, h3t, h4, isEmpty_dec, decide_true, Bool.true_and, if_true]), (Below.refl _ _).alloc (Nat.le_refl _) _⟩
        · go_enter Tryz.func89, Tryz.ntmps89
          go_wp2
          go_ret
          exact ⟨ret_bool (by simp only [formedB, totB, decide_eq_false (show ¬ a ≤ 1000000000000 by omega), Bool.false_and, Bool.and_false]), (Below.refl _ _).alloc (Nat.le_refl _) _⟩
      · go_enter Tryz.func89, Tryz.ntmps89
        go_wp2
        go_ret
        exact ⟨ret_bool (by simp only [formedB, totB, decide_eq_false (show ¬ -1000000000000 ≤ a by omega), Bool.false_and, Bool.and_false]), (Below.refl _ _).alloc (Nat.le_refl _) _⟩
    · go_enter Tryz.func89, Tryz.ntmps89
      go_wp2
      go_ret
      exact ⟨ret_bool (by simp only [formedB, decide_eq_false (show ¬ k ≤ 10 by omega), Bool.false_and, Bool.and_false]), (Below.refl _ _).alloc (Nat.le_refl _) _⟩
  · go_enter Tryz.func89, Tryz.ntmps89
    go_wp2
    go_ret
    exact ⟨ret_bool (by simp only [formedB, decide_eq_false (show ¬ 1 ≤ k by omega), Bool.false_and]), (Below.refl _ _).alloc (Nat.le_refl _) _⟩

set_option maxHeartbeats 400000 in
theorem refForm_any (l : Ln) (w : World) :
    Calls Tryz.prog 72 #[.agg #[.int .i64 l.kind, .string l.code, .int .i64 l.amt]] w fun e w' => e = .returned (.bool (formB l)) ∧ Below w.heap.size w w' := by
  have H : Hid (formB l = (formedB l && decide (l.amt ≠ 0))) := rfl
  cases h1 : (l.amt != 0)
  rotate_left
  · go_enter Tryz.func72, Tryz.ntmps72
    go_wp2_with (go_at_call 89; refine (refForm32_any _ _).mono ?_; rintro e w1 ⟨rfl, hb⟩; obtain ⟨hc, hf⟩ := bcell hb)
    go_ret
    exact ⟨ret_bool (by rw [H.out, ← ne_dec, h1]; simp), ((Below.refl _ _).alloc (Nat.le_refl _) _).trans (hb.mono (by simp))⟩
  · go_enter Tryz.func72, Tryz.ntmps72
    go_wp2
    go_ret
    exact ⟨ret_bool (by rw [H.out, ← ne_dec, h1]; simp), (Below.refl _ _).alloc (Nat.le_refl _) _⟩

end Go.Proofs.YtnkephafpebfkaaGreatDoor
