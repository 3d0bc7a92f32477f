/- Contracts of the functions on single lines: package payslip. -/
import Derived.Test.YtnkephafpebfkaaGreatDoorLnD
import Derived.Test.YtnkephafpebfkaaGreatDoorNameP
namespace Go.Proofs.YtnkephafpebfkaaGreatDoor
open Go.RowKit

theorem isTotal_any (n : Int) (w : World) :
    Calls Tryz.prog 80 #[.int .i64 n] w fun e w' => e = .returned (.bool (totB n)) ∧ w = w' := by
  unfold totB
  by_cases h1 : -1000000000000 ≤ n
  all_goals
    go_enter Tryz.func80, Tryz.ntmps80
    go_wp2
    go_ret
    exact ⟨by congr 2; simp; omega, rfl⟩

theorem bare_any (n : Int) (w : World) :
    Calls Tryz.prog 81 #[.int .i64 n] w fun e w' => e = .returned (.bool (bareB n)) ∧ w = w' := by
  unfold bareB
  cases h1 : (n == 6)
  · cases h2 : (n == 9)
    · go_enter Tryz.func81, Tryz.ntmps81
      go_wp2
      go_ret
      exact ⟨ret_bool (by simp at h1 h2; simp [h1, h2]; rfl), rfl⟩
    · go_enter Tryz.func81, Tryz.ntmps81
      go_wp2
      go_ret
      exact ⟨ret_bool (by simp at h1 h2; simp [h2]), rfl⟩
  · go_enter Tryz.func81, Tryz.ntmps81
    go_wp2
    go_ret
    exact ⟨ret_bool (by simp at h1; simp [h1]), rfl⟩

set_option maxHeartbeats 400000 in
theorem formed_any (l : Ln) (w : World) :
    Calls Tryz.prog 62 #[.agg #[.int .i64 l.kind, .string l.code, .int .i64 l.amt]] w fun e w' => e = .returned (.bool (formedB l)) ∧ Below w.heap.size w w' := by
  obtain ⟨k, c, a⟩ := l
  dsimp only
  by_cases h1 : 1 ≤ k
  · by_cases h2 : k ≤ 10
    · cases h3 : totB a
      · go_enter Tryz.func62, Tryz.ntmps62
        go_wp2_with (go_at_call 80; refine (isTotal_any _ _).mono ?_; rintro e w' ⟨rfl, rfl⟩)
        go_ret
        exact ⟨ret_bool (by simp [formedB, h3]), (Below.refl _ _).alloc (Nat.le_refl _) _⟩
      · cases h4 : bareB k
        · go_enter Tryz.func62, Tryz.ntmps62
          go_wp2_with (first | (go_at_call 80; refine (isTotal_any _ _).mono ?_; rintro e w' ⟨rfl, rfl⟩) | (go_at_call 81; refine (bare_any _ _).mono ?_; rintro e w' ⟨rfl, rfl⟩) | (go_at_call 82; refine (IsName_any _ _).mono ?_; rintro e w' ⟨rfl, rfl⟩))
          go_ret
          exact ⟨ret_bool (by simp [formedB, h1, h2, h3, h4]), (Below.refl _ _).alloc (Nat.le_refl _) _⟩
        · go_enter Tryz.func62, Tryz.ntmps62
          go_wp2_with (first | (go_at_call 80; refine (isTotal_any _ _).mono ?_; rintro e w' ⟨rfl, rfl⟩) | (go_at_call 81; refine (bare_any _ _).mono ?_; rintro e w' ⟨rfl, rfl⟩) | (go_at_call 82; refine (IsName_any _ _).mono ?_; rintro e w' ⟨rfl, rfl⟩))
          go_ret
          exact ⟨ret_bool (by simp only [formedB, h1, h2, h3, h4, isEmpty_dec, decide_true, Bool.true_and, if_true]), (Below.refl _ _).alloc (Nat.le_refl _) _⟩
    · go_enter Tryz.func62, Tryz.ntmps62
      go_wp2
      go_ret
      exact ⟨ret_bool (by simp only [formedB, decide_eq_false (show ¬ k ≤ 10 by omega), Bool.false_and, Bool.and_false]), (Below.refl _ _).alloc (Nat.le_refl _) _⟩
  · go_enter Tryz.func62, Tryz.ntmps62
    go_wp2
    go_ret
    exact ⟨ret_bool (by simp only [formedB, decide_eq_false (show ¬ 1 ≤ k by omega), Bool.false_and]), (Below.refl _ _).alloc (Nat.le_refl _) _⟩

set_option maxHeartbeats 400000 in
theorem Form_any (l : Ln) (w : World) :
    Calls Tryz.prog 40 #[.agg #[.int .i64 l.kind, .string l.code, .int .i64 l.amt]] w fun e w' => e = .returned (.bool (formB l)) ∧ Below w.heap.size w w' := by
  have H : Hid (∀ b, formedB l = b → formB l = (b && decide (l.amt ≠ 0))) := fun b hb => by rw [formB, hb]
  cases h1 : formedB l
  all_goals
    go_enter Tryz.func40, Tryz.ntmps40
    go_wp2_with (go_at_call 62; refine (formed_any _ _).mono ?_; rintro e w1 ⟨rfl, hb⟩; obtain ⟨hc, hf⟩ := bcell hb)
    go_ret
    exact ⟨ret_bool (by rw [H.out _ h1, ← ne_dec]; simp), ((Below.refl _ _).alloc (Nat.le_refl _) _).trans (hb.mono (by simp))⟩

end Go.Proofs.YtnkephafpebfkaaGreatDoor
