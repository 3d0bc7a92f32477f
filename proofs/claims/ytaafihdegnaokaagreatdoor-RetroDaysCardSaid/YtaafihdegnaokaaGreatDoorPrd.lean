/- Contracts of package period: Valid, weeks, of, Of, Count, month, Span. -/
import Derived.Test.YtaafihdegnaokaaGreatDoorCal3
import Derived.Test.YtaafihdegnaokaaGreatDoorRow
namespace Go.Proofs.YtaafihdegnaokaaGreatDoor
open Go.RowKit

/-- the error of a pay calendar -/
def calE (k a : Int) : Int := if calB k a then 0 else 2
theorem calE_ok {k a : Int} (h : calB k a = true) : calE k a = 0 := by unfold calE; rw [h]; rfl
theorem calE_no {k a : Int} (h : calB k a = false) : calE k a = 2 := by unfold calE; rw [h]; rfl
theorem calE_eq (k a : Int) : (calE k a == 0) = calB k a := by unfold calE; cases calB k a <;> rfl
theorem calE_ne (k a : Int) : (calE k a != 0) = !calB k a := by unfold calE; cases calB k a <;> rfl
set_option maxHeartbeats 1000000 in
theorem pValid_any (k a : Int) (w : World) :
    Calls Tryz.prog 43 #[.agg #[.int .i64 k, .int .i64 a]] w fun e w' => e = .returned (.int .i64 (calE k a)) ∧ Below w.heap.size w w' := by
  have hc : k = 0 ∨ k = 1 ∨ k = 2 ∨ k = 3 ∨ (¬ k = 0 ∧ ¬ k = 1 ∧ ¬ k = 2 ∧ ¬ k = 3) := by omega
  rcases hc with rfl | rfl | rfl | rfl | ⟨n0, n1, n2, n3⟩
  · by_cases h1 : a < 0
    · have L : Hid (calE 0 a = 2) := calE_no (by simp [calB]; omega)
      have g1 : decide (a < 0) = true := decide_eq_true h1
      clear h1
      go_enter Tryz.func43, Tryz.ntmps43
      go_wp2
      go_ret
      exact ⟨by rw [L.out]; rfl, Below.draws ((Below.refl _ _).alloc (Nat.le_refl _) _) 0⟩
    · have g1 : decide (a < 0) = false := decide_eq_false h1
      by_cases h2 : 0 < a
      · have L : Hid (calE 0 a = 2) := calE_no (by simp [calB]; omega)
        have g2 : decide (0 < a) = true := decide_eq_true h2
        clear h1 h2
        go_enter Tryz.func43, Tryz.ntmps43
        go_wp2
        go_ret
        exact ⟨by rw [L.out]; rfl, Below.draws ((Below.refl _ _).alloc (Nat.le_refl _) _) 0⟩
      · have L : Hid (calE 0 a = 0) := calE_ok (by simp [calB]; omega)
        have g2 : decide (0 < a) = false := decide_eq_false h2
        clear h1 h2
        go_enter Tryz.func43, Tryz.ntmps43
        go_wp2
        go_ret
        exact ⟨by rw [L.out]; rfl, Below.draws ((Below.refl _ _).alloc (Nat.le_refl _) _) 0⟩
  · by_cases h1 : a < 0
    · have L : Hid (calE 1 a = 2) := calE_no (by simp [calB]; omega)
      have g1 : decide (a < 0) = true := decide_eq_true h1
      clear h1
      go_enter Tryz.func43, Tryz.ntmps43
      go_wp2
      go_ret
      exact ⟨by rw [L.out]; rfl, Below.draws ((Below.refl _ _).alloc (Nat.le_refl _) _) 0⟩
    · have g1 : decide (a < 0) = false := decide_eq_false h1
      by_cases h2 : 0 < a
      · have L : Hid (calE 1 a = 2) := calE_no (by simp [calB]; omega)
        have g2 : decide (0 < a) = true := decide_eq_true h2
        clear h1 h2
        go_enter Tryz.func43, Tryz.ntmps43
        go_wp2
        go_ret
        exact ⟨by rw [L.out]; rfl, Below.draws ((Below.refl _ _).alloc (Nat.le_refl _) _) 0⟩
      · have L : Hid (calE 1 a = 0) := calE_ok (by simp [calB]; omega)
        have g2 : decide (0 < a) = false := decide_eq_false h2
        clear h1 h2
        go_enter Tryz.func43, Tryz.ntmps43
        go_wp2
        go_ret
        exact ⟨by rw [L.out]; rfl, Below.draws ((Below.refl _ _).alloc (Nat.le_refl _) _) 0⟩
  · by_cases h1 : a < 0
    · have L : Hid (calE 2 a = 2) := calE_no (by simp [calB]; omega)
      have g1 : decide (a < 0) = true := decide_eq_true h1
      clear h1
      go_enter Tryz.func43, Tryz.ntmps43
      go_wp2
      go_ret
      exact ⟨by rw [L.out]; rfl, Below.draws ((Below.refl _ _).alloc (Nat.le_refl _) _) 0⟩
    · have g1 : decide (a < 0) = false := decide_eq_false h1
      by_cases h2 : 13 < a
      · have L : Hid (calE 2 a = 2) := calE_no (by simp [calB]; omega)
        have g2 : decide (13 < a) = true := decide_eq_true h2
        clear h1 h2
        go_enter Tryz.func43, Tryz.ntmps43
        go_wp2
        go_ret
        exact ⟨by rw [L.out]; rfl, Below.draws ((Below.refl _ _).alloc (Nat.le_refl _) _) 0⟩
      · have L : Hid (calE 2 a = 0) := calE_ok (by simp [calB]; omega)
        have g2 : decide (13 < a) = false := decide_eq_false h2
        clear h1 h2
        go_enter Tryz.func43, Tryz.ntmps43
        go_wp2
        go_ret
        exact ⟨by rw [L.out]; rfl, Below.draws ((Below.refl _ _).alloc (Nat.le_refl _) _) 0⟩
  · by_cases h1 : a < 0
    · have L : Hid (calE 3 a = 2) := calE_no (by simp [calB]; omega)
      have g1 : decide (a < 0) = true := decide_eq_true h1
      clear h1
      go_enter Tryz.func43, Tryz.ntmps43
      go_wp2
      go_ret
      exact ⟨by rw [L.out]; rfl, Below.draws ((Below.refl _ _).alloc (Nat.le_refl _) _) 0⟩
    · have g1 : decide (a < 0) = false := decide_eq_false h1
      by_cases h2 : 6 < a
      · have L : Hid (calE 3 a = 2) := calE_no (by simp [calB]; omega)
        have g2 : decide (6 < a) = true := decide_eq_true h2
        clear h1 h2
        go_enter Tryz.func43, Tryz.ntmps43
        go_wp2
        go_ret
        exact ⟨by rw [L.out]; rfl, Below.draws ((Below.refl _ _).alloc (Nat.le_refl _) _) 0⟩
      · have L : Hid (calE 3 a = 0) := calE_ok (by simp [calB]; omega)
        have g2 : decide (6 < a) = false := decide_eq_false h2
        clear h1 h2
        go_enter Tryz.func43, Tryz.ntmps43
        go_wp2
        go_ret
        exact ⟨by rw [L.out]; rfl, Below.draws ((Below.refl _ _).alloc (Nat.le_refl _) _) 0⟩
  · have L : Hid (calE k a = 2) := calE_no (by simp [calB]; omega)
    have m0 : (k == 0) = false := by simpa using n0
    have m1 : (k == 1) = false := by simpa using n1
    have m2 : (k == 2) = false := by simpa using n2
    have m3 : (k == 3) = false := by simpa using n3
    clear n0 n1 n2 n3
    go_enter Tryz.func43, Tryz.ntmps43
    go_wp2
    go_ret
    exact ⟨by rw [L.out]; rfl, Below.draws ((Below.refl _ _).alloc (Nat.le_refl _) _) 0⟩
end Go.Proofs.YtaafihdegnaokaaGreatDoor
