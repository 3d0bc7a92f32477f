/- Contracts of package calendar: no date, Day, Month, First, Length. -/
import Derived.Test.YtaafihdegnaokaaGreatDoorCal2
namespace Go.Proofs.YtaafihdegnaokaaGreatDoor
open Go.RowKit

theorem validD_any (d : Int) (w : World) : Calls Tryz.prog 47 #[.int .i64 d] w (Qt w (.bool (decide (0 ≤ d) && decide (d ≤ 84005)))) := by
  by_cases a : 0 ≤ d
  · have g0 : decide (0 ≤ d) = true := decide_eq_true a
    by_cases b : d ≤ 84005
    · have g1 : decide (d ≤ 84005) = true := decide_eq_true b
      go_enter Tryz.func47, Tryz.ntmps47
      go_wp2
      go_ret
      exact ⟨by first | rfl | (rw [g0, g1]; rfl), 0, rfl⟩
    · have g1 : decide (d ≤ 84005) = false := decide_eq_false b
      go_enter Tryz.func47, Tryz.ntmps47
      go_wp2
      go_ret
      exact ⟨by first | rfl | (rw [g0, g1]; rfl), 0, rfl⟩
  · have g0 : decide (0 ≤ d) = false := decide_eq_false a
    go_enter Tryz.func47, Tryz.ntmps47
    go_wp2
    go_ret
    exact ⟨by first | rfl | (rw [g0]; rfl), 0, rfl⟩
set_option maxHeartbeats 1000000 in
theorem Day_any (y m t : Int) (k : Nat) (hm : m = (k : Int) + 1) (w : World) (hT : LenT w) (h0 : 1970 ≤ y) (h1 : y ≤ 2199) (hk : k < 12) (ht0 : 1 ≤ t) (ht1 : t ≤ mlen y m) :
    Calls Tryz.prog 28 #[.int .i64 y, .int .i64 m, .int .i64 t] w (Qt w (.tuple #[.int .i64 (bg y + cumN y k + (t - 1)), .bool true])) := by
  have hl := mlen_pos y m
  have HL := Lib.hid (fun w h => length_any y m k hm w h (by omega) (by omega) hk)
  have HN := Lib.hid (fun w h => numberD_any y m t k hm w h (by omega) (by omega) hk (by omega) (by omega))
  have HT := Lib.hid hT
  have g0 : decide (y < 1970) = false := decide_eq_false (by omega)
  have g1 : decide (2199 < y) = false := decide_eq_false (by omega)
  have g2 : decide (m < 1) = false := decide_eq_false (by omega)
  have g3 : decide (12 < m) = false := decide_eq_false (by omega)
  have g4 : decide (t < 1) = false := decide_eq_false (by omega)
  have g5 : decide (mlen y m < t) = false := decide_eq_false (by omega)
  clear hT hm
  go_enter Tryz.func28, Tryz.ntmps28
  go_wp2_with (first | (go_at_call 50; refine (HL.out _ HT.out).mono ?_; rintro e w1 ⟨rfl, q, rfl⟩) | (go_at_call 51; refine (HN.out _ (HT.out.drew _)).mono ?_; rintro e w1 ⟨rfl, q1, rfl⟩; rw [World.drewN_drewN]))
  exact bodyPost_ret (v := .tuple #[.int .i64 (bg y + cumN y k + (t - 1)), .bool true]) (by simp [results, Tryz.results28, go_sem]) rfl ⟨rfl, _, rfl⟩
set_option maxHeartbeats 1000000 in
theorem Month_any (d : Int) (n : Nat) (w : World) (hT : LenT w) (hn : n < 2760) (h0 : fm n ≤ d) (h1 : d < fm (n + 1)) :
    Calls Tryz.prog 76 #[.int .i64 d] w (Qt w (.int .i64 n)) := by
  have f0 := fm_mono 0 n
  have f1 := fm_mono (n + 1) (2760 - (n + 1))
  rw [fm_0, Nat.zero_add] at f0
  rw [show n + 1 + (2760 - (n + 1)) = 2760 by omega, fm_2760] at f1
  obtain ⟨y, k, t, hd⟩ := date_ex (d := d) (by omega) (by omega)
  obtain ⟨n', hn', hm, g0, g1, _⟩ := hd.mon
  obtain rfl := mon_unique ⟨g0, g1⟩ ⟨h0, h1⟩
  have y0 := hd.y0
  have y1 := hd.y1
  have k1 := hd.k1
  unfold monOf at hm
  have HD := Lib.hid (Date_any d y t k w hT hd)
  have e1 : IntKind.i64.wrap (y - 1970) = y - 1970 := IntWalk.i64_in _ (by omega)
  have e2 : IntKind.i64.wrap ((y - 1970) * 12) = (y - 1970) * 12 := IntWalk.i64_in _ (by omega)
  have e3 : IntKind.i64.wrap ((y - 1970) * 12 + ((k : Int) + 1)) = (y - 1970) * 12 + ((k : Int) + 1) := IntWalk.i64_in _ (by omega)
  have e4 : IntKind.i64.wrap ((y - 1970) * 12 + ((k : Int) + 1) - 1) = n' := by rw [show (y - 1970) * 12 + ((k : Int) + 1) - 1 = n' by omega]; exact IntWalk.i64_in _ (by omega)
  clear hd hm hT f0 f1 g0 g1 h0 h1
  go_enter Tryz.func76, Tryz.ntmps76
  go_wp2_with fail
  refine HD.out.mono ?_
  rintro e w1 ⟨rfl, q, rfl⟩
  go_wp2_with fail
  go_ret
  exact ⟨rfl, q, rfl⟩
set_option maxHeartbeats 1000000 in
theorem First_any (n : Nat) (w : World) (hT : LenT w) (hn : n < 2760) :
    Calls Tryz.prog 72 #[.int .i64 n] w (Qt w (.tuple #[.int .i64 (fm n), .bool true])) := by
  have g0 : decide ((n : Int) < 0) = false := decide_eq_false (by omega)
  have g1 : decide (2759 < (n : Int)) = false := decide_eq_false (by omega)
  have e1 : IntKind.i64.wrap (1970 + (n : Int) / 12) = 1970 + ((n / 12 : Nat) : Int) := by exact IntWalk.i64_in _ (by omega)
  have e2 : IntKind.i64.wrap ((n : Int) % 12 + 1) = ((n % 12 : Nat) : Int) + 1 := by exact IntWalk.i64_in _ (by omega)
  have HN := Lib.hid (numberD_any (1970 + ((n / 12 : Nat) : Int)) (((n % 12 : Nat) : Int) + 1) 1 (n % 12) rfl w hT (by omega) (by omega) (by omega) (by omega) (by omega))
  have HF : Hid (bg (1970 + ((n / 12 : Nat) : Int)) + cumN (1970 + ((n / 12 : Nat) : Int)) (n % 12) + (1 - 1) = fm n) := by unfold fm Hid; omega
  rw [HF.out] at HN
  clear hT
  go_enter Tryz.func72, Tryz.ntmps72
  go_wp2_with (go_at_call 51; refine HN.out.mono ?_; rintro e w1 ⟨rfl, q, rfl⟩)
  exact bodyPost_ret (v := .tuple #[.int .i64 (fm n), .bool true]) (by simp [results, Tryz.results72, go_sem]) rfl ⟨rfl, _, rfl⟩
set_option maxHeartbeats 1000000 in
theorem Length_any (n : Nat) (w : World) (hT : LenT w) (hn : n < 2760) :
    Calls Tryz.prog 73 #[.int .i64 n] w (Qt w (.int .i64 (lm n))) := by
  have g0 : decide ((n : Int) < 0) = false := decide_eq_false (by omega)
  have g1 : decide (2759 < (n : Int)) = false := decide_eq_false (by omega)
  have e1 : IntKind.i64.wrap (1970 + (n : Int) / 12) = 1970 + ((n / 12 : Nat) : Int) := by exact IntWalk.i64_in _ (by omega)
  have e2 : IntKind.i64.wrap ((n : Int) % 12 + 1) = ((n % 12 : Nat) : Int) + 1 := by exact IntWalk.i64_in _ (by omega)
  have HN := Lib.hid (length_any (1970 + ((n / 12 : Nat) : Int)) (((n % 12 : Nat) : Int) + 1) (n % 12) rfl w hT (by omega) (by omega) (by omega))
  clear hT
  go_enter Tryz.func73, Tryz.ntmps73
  go_wp2_with (go_at_call 50; refine HN.out.mono ?_; rintro e w1 ⟨rfl, q, rfl⟩)
  go_ret
  exact ⟨rfl, q, rfl⟩
end Go.Proofs.YtaafihdegnaokaaGreatDoor
