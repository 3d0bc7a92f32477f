/- Contracts of package calendar: leap, length, leaps, begin, number, yearOf, Date, Day, Month, First, Length. -/
import Derived.Test.YtaafihdegnaokaaGreatDoorCalS
import Derived.Test.YtaafihdegnaokaaGreatDoorGb
import Derived.RegionTactic
import Derived.LoopTactic
import Derived.Deep.QuietTactic
import Derived.BigQuiet
import Derived.Lib.LaidTab
import Derived.Lib.SmallJoins
import Derived.Test.YtaafihdegnaokaaGreatDoorProg
namespace Go.Proofs.YtaafihdegnaokaaGreatDoor
open Go.RowKit

/-- a call without memory of its own -/
abbrev Qt (w : World) (v : Value) (e : Ending) (w' : World) : Prop := e = .returned v ∧ ∃ m, w' = w.drewN m
def lenL : List Int := [31, 28, 31, 30, 31, 30, 31, 31, 30, 31, 30, 31]
/-- the table of the months' lengths -/
def LenT (w : World) : Prop := Lib.TabIs Tryz.prog w "payroll/calendar.lengths" .i64 lenL
theorem LenT.below {w w' : World} (h : LenT w) (hb : Below w.heap.size w w') : LenT w' := Joins.tab_stays (g := 0) (by kernel_rfl) h hb (Nat.le_refl _)
theorem LenT.drew {w : World} (h : LenT w) (n : Nat) : LenT (w.drewN n) := h.below (Below.draws (Below.refl _ _) n)
theorem LenT.cell {w : World} (h : LenT w) (i : Nat) (hi : i < 12) : w.cell? ⟨0, i, none⟩ = some (.int .i64 (lenL.getD i 0)) := Lib.TabIs.cell h (by kernel_rfl) i hi
theorem leap_any (y : Int) (w : World) (h0 : 0 ≤ y) (h1 : y ≤ 100000) :
    Calls Tryz.prog 75 #[.int .i64 y] w (Qt w (.bool (leapB y))) := by
  by_cases a : y % 4 = 0
  · by_cases b : y % 100 = 0
    · by_cases c : y % 400 = 0
      · have L : Hid (leapB y = true) := by simp [Hid, leapB, a, b, c]
        go_enter Tryz.func75, Tryz.ntmps75
        go_wp2
        go_ret
        exact ⟨by rw [L.out]; rfl, 0, rfl⟩
      · have m3 : (y % 400 == 0) = false := by simpa using c
        have L : Hid (leapB y = false) := by simp [Hid, leapB, a, b, c]
        go_enter Tryz.func75, Tryz.ntmps75
        go_wp2
        go_ret
        exact ⟨by rw [L.out]; rfl, 0, rfl⟩
    · have m2 : (y % 100 != 0) = true := by simpa using b
      have L : Hid (leapB y = true) := by simp [Hid, leapB, a, b]
      go_enter Tryz.func75, Tryz.ntmps75
      go_wp2
      go_ret
      exact ⟨by rw [L.out]; rfl, 0, rfl⟩
  · have m1 : (y % 4 == 0) = false := by simpa using a
    have L : Hid (leapB y = false) := by simp [Hid, leapB, a]
    go_enter Tryz.func75, Tryz.ntmps75
    go_wp2
    go_ret
    exact ⟨by rw [L.out]; rfl, 0, rfl⟩
theorem lenL_at {y : Int} (k : Nat) (hk : k < 12) (h : ¬ (k = 1 ∧ leapB y = true)) : lenL.getD k 0 = mlen y ((k : Int) + 1) := by
  match k, hk with
  | 0, _ | 2, _ | 3, _ | 4, _ | 5, _ | 6, _ | 7, _ | 8, _ | 9, _ | 10, _ | 11, _ => simp [lenL, mlen]
  | 1, _ => cases hl : leapB y <;> simp_all [lenL, mlen]
set_option maxHeartbeats 800000 in
theorem length_any (y m : Int) (k : Nat) (hm : m = (k : Int) + 1) (w : World) (hT : LenT w) (h0 : 0 ≤ y) (h1 : y ≤ 100000) (hk : k < 12) :
    Calls Tryz.prog 50 #[.int .i64 y, .int .i64 m] w (Qt w (.int .i64 (mlen y m))) := by
  subst hm
  by_cases a : k = 1
  · subst a
    have HL := Lib.hid (leap_any y w h0 h1)
    cases hl : leapB y
    · have L : Hid (mlen y ((1 : Nat) + 1 : Int) = 28) := by simp [Hid, mlen, hl]
      rw [hl] at HL
      have c1 : w.cell? ⟨0, 1, none⟩ = some (.int .i64 28) := hT.cell 1 (by omega)
      clear hT hl
      go_enter Tryz.func50, Tryz.ntmps50
      go_wp2_with fail
      refine HL.out.mono ?_
      rintro e w' ⟨rfl, q, rfl⟩
      go_wp2
      go_ret
      exact ⟨by rw [L.out]; rfl, q, rfl⟩
    · have L : Hid (mlen y ((1 : Nat) + 1 : Int) = 29) := by simp [Hid, mlen, hl]
      rw [hl] at HL
      clear hT hl
      go_enter Tryz.func50, Tryz.ntmps50
      go_wp2_with fail
      refine HL.out.mono ?_
      rintro e w' ⟨rfl, q, rfl⟩
      go_wp2
      go_ret
      exact ⟨by rw [L.out]; rfl, q, rfl⟩
  · have L := Lib.hid (lenL_at (y := y) k hk (fun e => a e.1))
    have c1 := hT.cell k hk
    have m1 : (((k : Int) + 1) == 2) = false := by simp; omega
    have s1 : IntKind.i64.wrap ((k : Int) + 1 - 1) = (k : Int) := by rw [show (k : Int) + 1 - 1 = (k : Int) by omega]; exact IntWalk.i64_in _ (by omega)
    have s2 : ((k : Int) + 1 - 1) = (k : Int) := by omega
    clear hT a
    go_enter Tryz.func50, Tryz.ntmps50
    go_wp2
    go_ret
    exact ⟨by rw [← L.out]; rfl, 0, rfl⟩
theorem lp_le (y : Int) (h0 : 0 ≤ y) : 0 ≤ lp y ∧ lp y ≤ y := by unfold lp; omega
theorem leaps_any (y : Int) (w : World) (h0 : 0 ≤ y) (h1 : y ≤ 100000) :
    Calls Tryz.prog 74 #[.int .i64 y] w (Qt w (.int .i64 (lp y))) := by
  have W1 : IntKind.i64.wrap (y / 4 - y / 100) = y / 4 - y / 100 := by exact IntWalk.i64_in _ (by omega)
  have W2 : IntKind.i64.wrap (y / 4 - y / 100 + y / 400) = lp y := by exact IntWalk.i64_in _ (by omega)
  go_enter Tryz.func74, Tryz.ntmps74
  go_wp2
  go_ret
  exact ⟨rfl, 0, rfl⟩
theorem bg_le (y : Int) (h0 : 1969 ≤ y) (h1 : y ≤ 2300) : -365 ≤ bg y ∧ bg y ≤ 200000 := by unfold bg lp; omega
theorem begin_any (y : Int) (w : World) (h0 : 1970 ≤ y) (h1 : y ≤ 2300) :
    Calls Tryz.prog 49 #[.int .i64 y] w (Qt w (.int .i64 (bg y))) := by
  have l1 := lp_le (y - 1) (by omega)
  have l2 := lp_le 1969 (by omega)
  have b1 := bg_le y (by omega) h1
  have e1 : IntKind.i64.wrap (y - 1) = y - 1 := IntWalk.i64_in _ (by omega)
  have e2 : IntKind.i64.wrap (y - 1970) = y - 1970 := IntWalk.i64_in _ (by omega)
  have e3 : IntKind.i64.wrap (365 * (y - 1970)) = 365 * (y - 1970) := IntWalk.i64_in _ (by omega)
  have e4 : IntKind.i64.wrap (365 * (y - 1970) + lp (y - 1)) = 365 * (y - 1970) + lp (y - 1) := IntWalk.i64_in _ (by omega)
  have e5 : IntKind.i64.wrap (365 * (y - 1970) + lp (y - 1) - lp 1969) = bg y := by rw [show 365 * (y - 1970) + lp (y - 1) - lp 1969 = bg y by unfold bg; omega]; exact IntWalk.i64_in _ (by omega)
  have HL := Lib.hid (fun w => leaps_any (y - 1) w (by omega) (by omega))
  have HM := Lib.hid (fun w => leaps_any 1969 w (by omega) (by omega))
  go_enter Tryz.func49, Tryz.ntmps49
  go_wp2_with (go_at_call 74; first | ((with_reducible refine (HL.out _).mono ?_); rintro e w1 ⟨rfl, q1, rfl⟩) | ((with_reducible refine (HM.out _).mono ?_); rintro e w1 ⟨rfl, q2, rfl⟩; rw [World.drewN_drewN]))
  go_ret
  exact ⟨rfl, _, rfl⟩
set_option maxHeartbeats 1000000 in
theorem numberD_any (y m t : Int) (k : Nat) (hm : m = (k : Int) + 1) (w : World) (hT : LenT w) (h0 : 1970 ≤ y) (h1 : y ≤ 2200) (hk : k < 12) (ht0 : 0 ≤ t) (ht1 : t ≤ 100) :
    Calls Tryz.prog 51 #[.int .i64 y, .int .i64 m, .int .i64 t] w (Qt w (.int .i64 (bg y + cumN y k + (t - 1)))) := by
  subst hm
  have b1 := bg_le y (by omega) (by omega)
  have c1 := cumN_pos y k
  have HL := Lib.hid (begin_any y w h0 (by omega))
  have HT := Lib.hid hT
  clear hT
  go_enter Tryz.func51, Tryz.ntmps51
  go_wp2_with fail
  refine HL.out.mono ?_
  rintro e w1 ⟨rfl, q, rfl⟩
  clear HL
  go_wp2_with fail
  go_loopw [7, 8] (fun n m wr => ∃ j q : Nat, j ≤ k ∧ n = .int .i64 (bg y + cumN y j) ∧ m = .int .i64 ((j : Int) + 1) ∧ wr = w.drewN q) (fun _ m _ => (k + 1 - (intOf m).toNat))
  case atStart => exact ⟨0, q, by omega, by simp [cumN], rfl, rfl⟩
  case round =>
    obtain ⟨j, q, hj, rfl, rfl, rfl⟩ := hrel
    have d1 := cumN_pos y j
    by_cases hlt : j < k
    · have g1 : decide ((j : Int) + 1 < (k : Int) + 1) = true := decide_eq_true (by omega)
      have d2 := mlen_pos y ((j : Int) + 1)
      have HN := Lib.hid (length_any y ((j : Int) + 1) j rfl (w.drewN q) (HT.out.drew q) (by omega) (by omega) (by omega))
      go_wp2_with fail
      refine HN.out.mono ?_
      rintro e w2 ⟨rfl, r, rfl⟩
      rw [World.drewN_drewN]
      have s1 : IntKind.i64.wrap (bg y + cumN y j + mlen y ((j : Int) + 1)) = bg y + cumN y (j + 1) := by rw [cumN, Int.add_assoc]; exact IntWalk.i64_in _ (by omega)
      have s2 : IntKind.i64.wrap ((j : Int) + 1 + 1) = ((j + 1 : Nat) : Int) + 1 := IntWalk.i64_in _ (by omega)
      go_wp2_with fail
      go_roundw
      case rel => exact ⟨j + 1, q + r, by omega, rfl, rfl, rfl⟩
      case measure => simp [intOf]; omega
    · have hjk : j = k := by omega
      subst hjk
      have g1 : decide ((j : Int) + 1 < (j : Int) + 1) = false := decide_eq_false (by omega)
      have s1 : IntKind.i64.wrap (bg y + cumN y j + t) = bg y + cumN y j + t := IntWalk.i64_in _ (by omega)
      have s2 : IntKind.i64.wrap (bg y + cumN y j + t - 1) = bg y + cumN y j + (t - 1) := by rw [Int.add_sub_assoc]; exact IntWalk.i64_in _ (by omega)
      go_wp2_with fail
      go_ret
      exact ⟨rfl, q, rfl⟩
set_option maxHeartbeats 1000000 in
theorem yearOf_any (d y : Int) (w : World) (h0 : 1970 ≤ y) (h1 : y ≤ 2199) (hd : bg y ≤ d ∧ d < bg (y + 1)) :
    Calls Tryz.prog 48 #[.int .i64 d] w (Qt w (.int .i64 y)) := by
  obtain ⟨hd0, hd1⟩ := hd
  have b1 := bg_start h0
  have b2 := bg_start (y := y + 1) (by omega)
  have s0 : IntKind.i64.wrap (1970 + d / 366) = 1970 + d / 366 := by exact IntWalk.i64_in _ (by omega)
  go_enter Tryz.func48, Tryz.ntmps48
  go_wp2_with fail
  go_loopw [3] (fun p wr => ∃ (z : Int) (q : Nat), 1970 ≤ z ∧ z ≤ y ∧ p = .int .i64 z ∧ wr = w.drewN q) (fun p _ => (y - intOf p).toNat)
  case atStart => exact ⟨_, 0, by omega, by omega, rfl, rfl⟩
  case round =>
    obtain ⟨z, q, hz0, hz1, rfl, rfl⟩ := hrel
    have s1 : IntKind.i64.wrap (z + 1) = z + 1 := IntWalk.i64_in _ (by omega)
    have HL := Lib.hid (fun w => begin_any (z + 1) w (by omega) (by omega))
    by_cases hlt : z < y
    · have HM := Lib.hid (bg_mono_le (show z + 1 ≤ y by omega))
      have g1 : decide (bg (z + 1) ≤ d) = true := decide_eq_true (by have := HM.out; omega)
      go_wp2_with fail
      refine (HL.out _).mono ?_
      rintro e w2 ⟨rfl, r, rfl⟩
      rw [World.drewN_drewN]
      go_wp2_with fail
      go_roundw
      case rel => exact ⟨z + 1, q + r, by omega, by omega, rfl, rfl⟩
      case measure => simp [intOf]; omega
    · have hzy : z = y := by omega
      subst hzy
      have g1 : decide (bg (z + 1) ≤ d) = false := decide_eq_false (by omega)
      go_wp2_with fail
      refine (HL.out _).mono ?_
      rintro e w2 ⟨rfl, r, rfl⟩
      rw [World.drewN_drewN]
      go_wp2_with fail
      go_ret
      exact ⟨rfl, q + r, rfl⟩
end Go.Proofs.YtaafihdegnaokaaGreatDoor
