/- Contracts of Valid: packages book and payrollref35. Written by gen_post.py. -/
import Derived.Test.YtjbhabfflcbebaaGreatLine
namespace Go.Proofs.YtjbhabfflcbebaaGreat
open Go.RowKit

/-- a posting -/
structure Pst where
  run : Int
  emp : Int
  per : Int
  ln : Ln
/-- its cells -/
def Pst.vals (p : Pst) : List Value := [.int .i64 p.run, .int .i64 p.emp, .int .i64 p.per, .int .i64 p.ln.kind, .string p.ln.code, .int .i64 p.ln.amt]
/-- a valid posting -/
def validB (x : Pst) : Bool := decide (1 ≤ x.run) && (decide (x.run ≤ 256) && (decide (1 ≤ x.emp) && (decide (x.emp ≤ 2147483647) && (decide (0 ≤ x.per) && (decide (x.per ≤ 84005) && formB x.ln)))))
set_option maxHeartbeats 400000 in
theorem Valid_any (x : Pst) (w : World) :
    Calls Tryz.prog 65 #[.agg #[.int .i64 x.run, .int .i64 x.emp, .int .i64 x.per, .int .i64 x.ln.kind, .string x.ln.code, .int .i64 x.ln.amt]] w fun e w' => e = .returned (.bool (validB x)) ∧ Below w.heap.size w w' := by
  obtain ⟨r, m, p, l⟩ := x
  dsimp only
  by_cases h0 : 1 ≤ r
  rotate_left
  · have H : Hid (validB ⟨r, m, p, l⟩ = false) := by simp only [Hid, validB, decide_eq_false h0, Bool.false_and]
    go_enter Tryz.func65, Tryz.ntmps65
    go_wp2
    go_ret
    exact ⟨ret_bool H.out.symm, (Below.refl _ _).alloc (Nat.le_refl _) _⟩
  by_cases h1 : r ≤ 256
  rotate_left
  · have H : Hid (validB ⟨r, m, p, l⟩ = false) := by simp only [Hid, validB, decide_eq_false h1, Bool.false_and, Bool.and_false]
    go_enter Tryz.func65, Tryz.ntmps65
    go_wp2
    go_ret
    exact ⟨ret_bool H.out.symm, (Below.refl _ _).alloc (Nat.le_refl _) _⟩
  by_cases h2 : 1 ≤ m
  rotate_left
  · have H : Hid (validB ⟨r, m, p, l⟩ = false) := by simp only [Hid, validB, decide_eq_false h2, Bool.false_and, Bool.and_false]
    go_enter Tryz.func65, Tryz.ntmps65
    go_wp2
    go_ret
    exact ⟨ret_bool H.out.symm, (Below.refl _ _).alloc (Nat.le_refl _) _⟩
  by_cases h3 : m ≤ 2147483647
  rotate_left
  · have H : Hid (validB ⟨r, m, p, l⟩ = false) := by simp only [Hid, validB, decide_eq_false h3, Bool.false_and, Bool.and_false]
    go_enter Tryz.func65, Tryz.ntmps65
    go_wp2
    go_ret
    exact ⟨ret_bool H.out.symm, (Below.refl _ _).alloc (Nat.le_refl _) _⟩
  by_cases h4 : 0 ≤ p
  rotate_left
  · have H : Hid (validB ⟨r, m, p, l⟩ = false) := by simp only [Hid, validB, decide_eq_false h4, Bool.false_and, Bool.and_false]
    go_enter Tryz.func65, Tryz.ntmps65
    go_wp2
    go_ret
    exact ⟨ret_bool H.out.symm, (Below.refl _ _).alloc (Nat.le_refl _) _⟩
  by_cases h5 : p ≤ 84005
  rotate_left
  · have H : Hid (validB ⟨r, m, p, l⟩ = false) := by simp only [Hid, validB, decide_eq_false h5, Bool.false_and, Bool.and_false]
    go_enter Tryz.func65, Tryz.ntmps65
    go_wp2
    go_ret
    exact ⟨ret_bool H.out.symm, (Below.refl _ _).alloc (Nat.le_refl _) _⟩
  have H : Hid (validB ⟨r, m, p, l⟩ = formB l) := by simp only [Hid, validB, decide_eq_true h0, decide_eq_true h1, decide_eq_true h2, decide_eq_true h3, decide_eq_true h4, decide_eq_true h5, Bool.true_and]
  go_enter Tryz.func65, Tryz.ntmps65
  go_wp2_with (go_at_call 44; refine (Form_any _ _).mono ?_; rintro e w1 ⟨rfl, hb⟩)
  go_ret
  exact ⟨ret_bool H.out.symm, ((Below.refl _ _).alloc (Nat.le_refl _) _).trans (hb.mono (by simp))⟩

set_option maxHeartbeats 400000 in
theorem refValid_any (x : Pst) (w : World) :
    Calls Tryz.prog 48 #[.agg #[.int .i64 x.run, .int .i64 x.emp, .int .i64 x.per, .int .i64 x.ln.kind, .string x.ln.code, .int .i64 x.ln.amt]] w fun e w' => e = .returned (.bool (validB x)) ∧ Below w.heap.size w w' := by
  obtain ⟨r, m, p, l⟩ := x
  dsimp only
  by_cases h0 : 1 ≤ r
  rotate_left
  · have H : Hid (validB ⟨r, m, p, l⟩ = false) := by simp only [Hid, validB, decide_eq_false h0, Bool.false_and]
    go_enter Tryz.func48, Tryz.ntmps48
    go_wp2
    go_ret
    exact ⟨ret_bool H.out.symm, (Below.refl _ _).alloc (Nat.le_refl _) _⟩
  by_cases h1 : r ≤ 256
  rotate_left
  · have H : Hid (validB ⟨r, m, p, l⟩ = false) := by simp only [Hid, validB, decide_eq_false h1, Bool.false_and, Bool.and_false]
    go_enter Tryz.func48, Tryz.ntmps48
    go_wp2
    go_ret
    exact ⟨ret_bool H.out.symm, (Below.refl _ _).alloc (Nat.le_refl _) _⟩
  by_cases h2 : 1 ≤ m
  rotate_left
  · have H : Hid (validB ⟨r, m, p, l⟩ = false) := by simp only [Hid, validB, decide_eq_false h2, Bool.false_and, Bool.and_false]
    go_enter Tryz.func48, Tryz.ntmps48
    go_wp2
    go_ret
    exact ⟨ret_bool H.out.symm, (Below.refl _ _).alloc (Nat.le_refl _) _⟩
  by_cases h3 : m ≤ 2147483647
  rotate_left
  · have H : Hid (validB ⟨r, m, p, l⟩ = false) := by simp only [Hid, validB, decide_eq_false h3, Bool.false_and, Bool.and_false]
    go_enter Tryz.func48, Tryz.ntmps48
    go_wp2
    go_ret
    exact ⟨ret_bool H.out.symm, (Below.refl _ _).alloc (Nat.le_refl _) _⟩
  by_cases h4 : 0 ≤ p
  rotate_left
  · have H : Hid (validB ⟨r, m, p, l⟩ = false) := by simp only [Hid, validB, decide_eq_false h4, Bool.false_and, Bool.and_false]
    go_enter Tryz.func48, Tryz.ntmps48
    go_wp2
    go_ret
    exact ⟨ret_bool H.out.symm, (Below.refl _ _).alloc (Nat.le_refl _) _⟩
  by_cases h5 : p ≤ 84005
  rotate_left
  · have H : Hid (validB ⟨r, m, p, l⟩ = false) := by simp only [Hid, validB, decide_eq_false h5, Bool.false_and, Bool.and_false]
    go_enter Tryz.func48, Tryz.ntmps48
    go_wp2
    go_ret
    exact ⟨ret_bool H.out.symm, (Below.refl _ _).alloc (Nat.le_refl _) _⟩
  have H : Hid (validB ⟨r, m, p, l⟩ = formB l) := by simp only [Hid, validB, decide_eq_true h0, decide_eq_true h1, decide_eq_true h2, decide_eq_true h3, decide_eq_true h4, decide_eq_true h5, Bool.true_and]
  go_enter Tryz.func48, Tryz.ntmps48
  go_wp2_with (go_at_call 63; refine (refForm_any _ _).mono ?_; rintro e w1 ⟨rfl, hb⟩)
  go_ret
  exact ⟨ret_bool H.out.symm, ((Below.refl _ _).alloc (Nat.le_refl _) _).trans (hb.mono (by simp))⟩

end Go.Proofs.YtjbhabfflcbebaaGreat
