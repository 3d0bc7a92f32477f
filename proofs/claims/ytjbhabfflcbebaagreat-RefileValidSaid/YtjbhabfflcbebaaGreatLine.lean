/- Contracts of the functions on single lines and postings: packages payslip, payrollref32, payrollref34, book, payrollref35. -/
import Derived.Test.YtjbhabfflcbebaaGreatName
namespace Go.Proofs.YtjbhabfflcbebaaGreat
open Go.RowKit

/-- a sum of amounts -/
def totB (n : Int) : Bool := decide (-1000000000000 ≤ n) && decide (n ≤ 1000000000000)
/-- a kind without a code -/
def bareB (k : Int) : Bool := decide (k = 6) || (decide (k = 9) || decide (k = 10))
/-- a line of a payslip -/
structure Ln where
  kind : Int
  code : ByteArray
  amt : Int
/-- its cells -/
def Ln.vals (l : Ln) : List Value := [.int .i64 l.kind, .string l.code, .int .i64 l.amt]
/-- it has the form of a line, but that its amount may be 0 -/
def formedB (l : Ln) : Bool := decide (1 ≤ l.kind) && (decide (l.kind ≤ 10) && (totB l.amt && (if bareB l.kind then decide (l.code.size = 0) else nameB l.code.data.toList)))
/-- it has the form of a line -/
def formB (l : Ln) : Bool := formedB l && decide (l.amt ≠ 0)

theorem isTotal_any (n : Int) (w : World) :
    Calls Tryz.prog 69 #[.int .i64 n] w fun e w' => e = .returned (.bool (totB n)) ∧ w = w' := by
  unfold totB
  by_cases h1 : -1000000000000 ≤ n
  all_goals
    go_enter Tryz.func69, Tryz.ntmps69
    go_wp2
    go_ret
    exact ⟨by congr 2; simp; omega, rfl⟩

theorem bare_any (n : Int) (w : World) :
    Calls Tryz.prog 72 #[.int .i64 n] w fun e w' => e = .returned (.bool (bareB n)) ∧ w = w' := by
  unfold bareB
  cases h1 : (n == 6)
  · cases h2 : (n == 9)
    · go_enter Tryz.func72, Tryz.ntmps72
      go_wp2
      go_ret
      exact ⟨ret_bool (by simp at h1 h2; simp [h1, h2]; rfl), rfl⟩
    · go_enter Tryz.func72, Tryz.ntmps72
      go_wp2
      go_ret
      exact ⟨ret_bool (by simp at h1 h2; simp [h2]), rfl⟩
  · go_enter Tryz.func72, Tryz.ntmps72
    go_wp2
    go_ret
    exact ⟨ret_bool (by simp at h1; simp [h1]), rfl⟩

theorem refBare_any (n : Int) (w : World) :
    Calls Tryz.prog 42 #[.int .i64 n] w fun e w' => e = .returned (.bool (bareB n)) ∧ w = w' := by
  unfold bareB
  cases h1 : (n == 6)
  · cases h2 : (n == 9)
    · go_enter Tryz.func42, Tryz.ntmps42
      go_wp2
      go_ret
      exact ⟨ret_bool (by simp at h1 h2; simp [h1, h2]; rfl), rfl⟩
    · go_enter Tryz.func42, Tryz.ntmps42
      go_wp2
      go_ret
      exact ⟨ret_bool (by simp at h1 h2; simp [h2]), rfl⟩
  · go_enter Tryz.func42, Tryz.ntmps42
    go_wp2
    go_ret
    exact ⟨ret_bool (by simp at h1; simp [h1]), rfl⟩

set_option maxHeartbeats 400000 in
theorem formed_any (l : Ln) (w : World) :
    Calls Tryz.prog 59 #[.agg #[.int .i64 l.kind, .string l.code, .int .i64 l.amt]] w fun e w' => e = .returned (.bool (formedB l)) ∧ Below w.heap.size w w' := by
  obtain ⟨k, c, a⟩ := l
  dsimp only
  by_cases h1 : 1 ≤ k
  · by_cases h2 : k ≤ 10
    · cases h3 : totB a
      · go_enter Tryz.func59, Tryz.ntmps59
        go_wp2_with (go_at_call 69; refine (isTotal_any _ _).mono ?_; rintro e w' ⟨rfl, rfl⟩)
        go_ret
        exact ⟨ret_bool (by simp [formedB, h3]), (Below.refl _ _).alloc (Nat.le_refl _) _⟩
      · cases h4 : bareB k
        · go_enter Tryz.func59, Tryz.ntmps59
          go_wp2_with (first | (go_at_call 69; refine (isTotal_any _ _).mono ?_; rintro e w' ⟨rfl, rfl⟩) | (go_at_call 72; refine (bare_any _ _).mono ?_; rintro e w' ⟨rfl, rfl⟩) | (go_at_call 73; refine (IsName_any _ _).mono ?_; rintro e w' ⟨rfl, rfl⟩))
          go_ret
          exact ⟨ret_bool (by simp [formedB, h1, h2, h3, h4]), (Below.refl _ _).alloc (Nat.le_refl _) _⟩
        · go_enter Tryz.func59, Tryz.ntmps59
          go_wp2_with (first | (go_at_call 69; refine (isTotal_any _ _).mono ?_; rintro e w' ⟨rfl, rfl⟩) | (go_at_call 72; refine (bare_any _ _).mono ?_; rintro e w' ⟨rfl, rfl⟩) | (go_at_call 73; refine (IsName_any _ _).mono ?_; rintro e w' ⟨rfl, rfl⟩))
          go_ret
          exact ⟨ret_bool (by simp only [formedB, h1, h2, h3, h4, isEmpty_dec, decide_true, Bool.true_and, if_true]), (Below.refl _ _).alloc (Nat.le_refl _) _⟩
    · go_enter Tryz.func59, Tryz.ntmps59
      go_wp2
      go_ret
      exact ⟨ret_bool (by simp only [formedB, decide_eq_false (show ¬ k ≤ 10 by omega), Bool.false_and, Bool.and_false]), (Below.refl _ _).alloc (Nat.le_refl _) _⟩
  · go_enter Tryz.func59, Tryz.ntmps59
    go_wp2
    go_ret
    exact ⟨ret_bool (by simp only [formedB, decide_eq_false (show ¬ 1 ≤ k by omega), Bool.false_and]), (Below.refl _ _).alloc (Nat.le_refl _) _⟩

set_option maxHeartbeats 400000 in
theorem refForm32_any (l : Ln) (w : World) :
    Calls Tryz.prog 76 #[.agg #[.int .i64 l.kind, .string l.code, .int .i64 l.amt]] w fun e w' => e = .returned (.bool (formedB l)) ∧ Below w.heap.size w w' := by
  obtain ⟨k, c, a⟩ := l
  dsimp only
  by_cases h1 : 1 ≤ k
  · by_cases h2 : k ≤ 10
    · by_cases h3 : -1000000000000 ≤ a
      · by_cases h3' : a ≤ 1000000000000
        · have h3t : totB a = true := by simp [totB, h3, h3']
          cases h4 : bareB k
          · go_enter Tryz.func76, Tryz.ntmps76
            go_wp2_with (first | (go_at_call 42; refine (refBare_any _ _).mono ?_; rintro e w' ⟨rfl, rfl⟩) | (go_at_call 93; refine (refIsName_any _ _).mono ?_; rintro e w1 ⟨rfl, hb⟩))
            go_ret
            exact ⟨ret_bool (by simp [formedB, h1, h2, h3t, h4]), ((Below.refl _ _).alloc (Nat.le_refl _) _).trans (hb.mono (by simp))⟩
          · go_enter Tryz.func76, Tryz.ntmps76
            go_wp2_with (first | (go_at_call 42; refine (refBare_any _ _).mono ?_; rintro e w' ⟨rfl, rfl⟩) | (go_at_call 93; refine (refIsName_any _ _).mono ?_; rintro e w1 ⟨rfl, hb⟩))
            go_ret
            exact ⟨ret_bool (by simp only [formedB, h1, h2, h3t, h4, isEmpty_dec, decide_true, Bool.true_and, if_true]), (Below.refl _ _).alloc (Nat.le_refl _) _⟩
        · go_enter Tryz.func76, Tryz.ntmps76
          go_wp2
          go_ret
          exact ⟨ret_bool (by simp only [formedB, totB, decide_eq_false (show ¬ a ≤ 1000000000000 by omega), Bool.false_and, Bool.and_false]), (Below.refl _ _).alloc (Nat.le_refl _) _⟩
      · go_enter Tryz.func76, Tryz.ntmps76
        go_wp2
        go_ret
        exact ⟨ret_bool (by simp only [formedB, totB, decide_eq_false (show ¬ -1000000000000 ≤ a by omega), Bool.false_and, Bool.and_false]), (Below.refl _ _).alloc (Nat.le_refl _) _⟩
    · go_enter Tryz.func76, Tryz.ntmps76
      go_wp2
      go_ret
      exact ⟨ret_bool (by simp only [formedB, decide_eq_false (show ¬ k ≤ 10 by omega), Bool.false_and, Bool.and_false]), (Below.refl _ _).alloc (Nat.le_refl _) _⟩
  · go_enter Tryz.func76, Tryz.ntmps76
    go_wp2
    go_ret
    exact ⟨ret_bool (by simp only [formedB, decide_eq_false (show ¬ 1 ≤ k by omega), Bool.false_and]), (Below.refl _ _).alloc (Nat.le_refl _) _⟩

set_option maxHeartbeats 400000 in
theorem Form_any (l : Ln) (w : World) :
    Calls Tryz.prog 44 #[.agg #[.int .i64 l.kind, .string l.code, .int .i64 l.amt]] w fun e w' => e = .returned (.bool (formB l)) ∧ Below w.heap.size w w' := by
  have H : Hid (∀ b, formedB l = b → formB l = (b && decide (l.amt ≠ 0))) := fun b hb => by rw [formB, hb]
  cases h1 : formedB l
  all_goals
    go_enter Tryz.func44, Tryz.ntmps44
    go_wp2_with (go_at_call 59; refine (formed_any _ _).mono ?_; rintro e w1 ⟨rfl, hb⟩; obtain ⟨hc, hf⟩ := bcell hb)
    go_ret
    exact ⟨ret_bool (by rw [H.out _ h1, ← ne_dec]; simp), ((Below.refl _ _).alloc (Nat.le_refl _) _).trans (hb.mono (by simp))⟩

set_option maxHeartbeats 400000 in
theorem refForm_any (l : Ln) (w : World) :
    Calls Tryz.prog 63 #[.agg #[.int .i64 l.kind, .string l.code, .int .i64 l.amt]] w fun e w' => e = .returned (.bool (formB l)) ∧ Below w.heap.size w w' := by
  have H : Hid (formB l = (formedB l && decide (l.amt ≠ 0))) := rfl
  cases h1 : (l.amt != 0)
  rotate_left
  · go_enter Tryz.func63, Tryz.ntmps63
    go_wp2_with (go_at_call 76; refine (refForm32_any _ _).mono ?_; rintro e w1 ⟨rfl, hb⟩; obtain ⟨hc, hf⟩ := bcell hb)
    go_ret
    exact ⟨ret_bool (by rw [H.out, ← ne_dec, h1]; simp), ((Below.refl _ _).alloc (Nat.le_refl _) _).trans (hb.mono (by simp))⟩
  · go_enter Tryz.func63, Tryz.ntmps63
    go_wp2
    go_ret
    exact ⟨ret_bool (by rw [H.out, ← ne_dec, h1]; simp), (Below.refl _ _).alloc (Nat.le_refl _) _⟩

end Go.Proofs.YtjbhabfflcbebaaGreat
