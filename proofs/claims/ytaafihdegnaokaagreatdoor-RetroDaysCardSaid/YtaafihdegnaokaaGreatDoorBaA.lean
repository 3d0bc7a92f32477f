/- Contracts and plain facts that the laws of this seat share, part 1. -/
import Derived.Test.YtaafihdegnaokaaGreatDoorPrd
import Derived.Test.YtaafihdegnaokaaGreatDoorPrdS
import Derived.Test.YtaafihdegnaokaaGreatDoorCalS
import Derived.Test.YtaafihdegnaokaaGreatDoorGb
import Derived.RegionTactic
import Derived.LoopTactic
import Derived.Deep.QuietTactic
import Derived.BigQuiet
import Derived.Test.YtaafihdegnaokaaGreatDoorCal
import Derived.Test.YtaafihdegnaokaaGreatDoorCal2
import Derived.Test.YtaafihdegnaokaaGreatDoorKit
import Derived.Test.YtaafihdegnaokaaGreatDoorRtrT
import Derived.Test.YtaafihdegnaokaaGreatDoorRtM
import Derived.Test.YtaafihdegnaokaaGreatDoorSet1
import Derived.Test.YtaafihdegnaokaaGreatDoorChgB
import Derived.Test.YtaafihdegnaokaaGreatDoorShelfR
import Derived.Sort.Walk0
import Derived.Test.YtaafihdegnaokaaGreatDoorChgI
import Derived.OwnWalk
import Derived.Test.YtaafihdegnaokaaGreatDoorRows
import Derived.Test.YtaafihdegnaokaaGreatDoorSlice
import Derived.Test.YtaafihdegnaokaaGreatDoorRow
import Derived.Deep.RegionLaw
import Derived.Deep.AppendLies
import Derived.Test.YtaafihdegnaokaaGreatDoorChgV
import Derived.Deep.CutBlock
import Derived.Deep.DeepCutAuto
import Derived.Test.YtaafihdegnaokaaGreatDoorChgT
import Derived.Test.YtaafihdegnaokaaGreatDoorChgK
import Derived.Laws.IdiomCopy
import Derived.Test.YtaafihdegnaokaaGreatDoorProg
import Derived.Test.YtaafihdegnaokaaGreatDoorChgJ
import Derived.IntWalk
/- Contracts of package period: weeks, of. -/
namespace Go.Proofs.YtaafihdegnaokaaGreatDoor
open Go.RowKit

theorem LenT.alloc {w : World} (h : LenT w) (o : Obj) : LenT (w.alloc o) := h.below ((Below.refl _ _).alloc (Nat.le_refl _) _)
set_option maxHeartbeats 1000000 in
theorem weeks_any (k a : Int) (w : World) (hc : CalOk k a) (hk : k = 2 ∨ k = 3) :
    Calls Tryz.prog 46 #[.agg #[.int .i64 k, .int .i64 a]] w fun e w' => e = .returned (.tuple #[.int .i64 (perL k), .int .i64 (perS k a)]) ∧ Below w.heap.size w w' := by
  have a0 := hc.a0
  have a1 := hc.a1
  rcases hk with rfl | rfl
  · simp at a1
    have s1 : IntKind.i64.wrap (14 - a) = 14 - a := IntWalk.i64_in _ (by omega)
    go_enter Tryz.func46, Tryz.ntmps46
    go_wp2
    go_region
    go_wp2
    exact bodyPost_ret (v := .tuple #[.int .i64 14, .int .i64 ((14 - a) % 14)]) (by simp [results, Tryz.results46, go_sem]) rfl ⟨rfl, by repeat (first | exact Below.refl _ _ | refine Below.draws ?_ _ | refine Below.alloc ?_ (Nat.le_refl _) _ | refine Below.setCell ?_ (by simp) _)⟩
  · simp at a1
    have s1 : IntKind.i64.wrap (7 - a) = 7 - a := IntWalk.i64_in _ (by omega)
    go_enter Tryz.func46, Tryz.ntmps46
    go_wp2
    go_region
    go_wp2
    exact bodyPost_ret (v := .tuple #[.int .i64 7, .int .i64 ((7 - a) % 7)]) (by simp [results, Tryz.results46, go_sem]) rfl ⟨rfl, by repeat (first | exact Below.refl _ _ | refine Below.draws ?_ _ | refine Below.alloc ?_ (Nat.le_refl _) _ | refine Below.setCell ?_ (by simp) _)⟩
set_option maxHeartbeats 1000000 in
theorem of_any (k a d : Int) (n : Nat) (w : World) (hT : LenT w) (hc : CalOk k a) (h0 : 0 ≤ d) (h1 : d ≤ 84005) (hp : IsPer k a d n) :
    Calls Tryz.prog 52 #[.agg #[.int .i64 k, .int .i64 a], .int .i64 d] w fun e w' => e = .returned (.int .i64 n) ∧ Below w.heap.size w w' := by
  have k0 := hc.k0
  have k1 := hc.k1
  by_cases q0 : k = 0
  · subst q0
    obtain ⟨p0, p1⟩ := per_mon hp
    have HM := Lib.hid (fun w h => Month_any d n w h (fm_lt p0 h1) p0 p1)
    clear p0 p1 hp hc
    go_enter Tryz.func52, Tryz.ntmps52
    go_wp2_with (go_at_call 76; refine (HM.out _ (by repeat (first | assumption | apply LenT.drew | apply LenT.alloc))).mono ?_; rintro e w1 ⟨rfl, q, rfl⟩)
    go_ret
    exact ⟨rfl, by repeat (first | exact Below.refl _ _ | refine Below.draws ?_ _ | refine Below.alloc ?_ (Nat.le_refl _) _ | refine Below.setCell ?_ (by simp) _)⟩
  by_cases q1 : k = 1
  · subst q1
    obtain ⟨p0, p1, p2⟩ := per_half hp
    have hm := fm_lt p0 h1
    have HM := Lib.hid (fun w h => Month_any d (n / 2) w h hm p0 p1)
    obtain ⟨y, m, t, hd⟩ := date_ex h0 h1
    obtain ⟨n', hn', hmm, g0, g1, ht⟩ := hd.mon
    obtain rfl := mon_unique ⟨g0, g1⟩ ⟨p0, p1⟩
    rw [← ht] at p2
    have HD := Lib.hid (fun w h => Date_any d y t m w h hd)
    obtain ⟨h, hh⟩ : ∃ h, n / 2 = h := ⟨_, rfl⟩
    rw [hh] at hm HM hn'
    have s1 : IntKind.i64.wrap (2 * (h : Int)) = 2 * (h : Int) := IntWalk.i64_in _ (by omega)
    have s2 : IntKind.i64.wrap (2 * (h : Int) + 1) = 2 * (h : Int) + 1 := IntWalk.i64_in _ (by omega)
    clear g0 g1 p0 p1 ht hmm hd hp hc
    rcases p2 with ⟨e, p2⟩ | ⟨e, p2⟩
    · have g2 : decide (15 < t) = false := decide_eq_false (by omega)
      have L : Hid ((n : Int) = 2 * (h : Int)) := by unfold Hid; omega
      clear p2 e hh
      go_enter Tryz.func52, Tryz.ntmps52
      go_wp2_with (first | (go_at_call 76; refine (HM.out _ (by repeat (first | assumption | apply LenT.drew | apply LenT.alloc))).mono ?_; rintro e w1 ⟨rfl, q, rfl⟩) | (go_at_call 27; refine (HD.out _ (by repeat (first | assumption | apply LenT.drew | apply LenT.alloc))).mono ?_; rintro e w1 ⟨rfl, q1, rfl⟩))
      go_ret
      exact ⟨by rw [L.out]; rfl, by repeat (first | exact Below.refl _ _ | refine Below.draws ?_ _ | refine Below.alloc ?_ (Nat.le_refl _) _ | refine Below.setCell ?_ (by simp) _)⟩
    · have g2 : decide (15 < t) = true := decide_eq_true (by omega)
      have L : Hid ((n : Int) = 2 * (h : Int) + 1) := by unfold Hid; omega
      clear p2 e hh
      go_enter Tryz.func52, Tryz.ntmps52
      go_wp2_with (first | (go_at_call 76; refine (HM.out _ (by repeat (first | assumption | apply LenT.drew | apply LenT.alloc))).mono ?_; rintro e w1 ⟨rfl, q, rfl⟩) | (go_at_call 27; refine (HD.out _ (by repeat (first | assumption | apply LenT.drew | apply LenT.alloc))).mono ?_; rintro e w1 ⟨rfl, q1, rfl⟩))
      go_ret
      exact ⟨by rw [L.out]; rfl, by repeat (first | exact Below.refl _ _ | refine Below.draws ?_ _ | refine Below.alloc ?_ (Nat.le_refl _) _ | refine Below.setCell ?_ (by simp) _)⟩
  have HW := Lib.hid (fun w => weeks_any k a w hc (by omega))
  have L := Lib.hid (per_days q0 q1 hp)
  have b1 := perS_le hc
  have b2 := perL_pos k
  have m0 : (k == 0) = false := by simpa using q0
  have m1 : (k == 1) = false := by simpa using q1
  have s1 : IntKind.i64.wrap (d + perS k a) = d + perS k a := IntWalk.i64_in _ (by omega)
  have t1 : (d + perS k a).tdiv (perL k) = (n : Int) := by rw [Int.tdiv_eq_ediv_of_nonneg (by omega), L.out]
  have z1 : (perL k == 0) = false := by simp; omega
  have hN : (n : Int) ≤ 100000 := by
    have := L.out
    rcases perL_cases k with e | e <;> rw [e] at this b1 <;> omega
  have s2 : IntKind.i64.wrap ((n : Int)) = (n : Int) := IntWalk.i64_in _ (by omega)
  clear hp hc q0 q1
  go_enter Tryz.func52, Tryz.ntmps52
  go_wp2_with (go_at_call 46; refine (HW.out _).mono ?_; rintro e w1 ⟨rfl, hb1⟩)
  go_ret
  exact ⟨rfl, (((Below.refl _ _).alloc (Nat.le_refl _) _).trans (hb1.mono (by simp)))⟩
end Go.Proofs.YtaafihdegnaokaaGreatDoor
/- Contracts of package period: Count, month, Span, Of. -/
namespace Go.Proofs.YtaafihdegnaokaaGreatDoor
open Go.RowKit

set_option maxHeartbeats 1000000 in
theorem Count_any (k a : Int) (w : World) (hT : LenT w) :
    Calls Tryz.prog 44 #[.agg #[.int .i64 k, .int .i64 a]] w fun e w' => e = .returned (.int .i64 (cntV k a)) ∧ Below w.heap.size w w' := by
  have HV := Lib.hid (fun w => pValid_any k a w)
  have hbA := (Below.refl w.heap.size w).alloc (Nat.le_refl _) (.cells #[.int .i64 k, .int .i64 a] 24)
  cases hb : calB k a
  · have L : Hid (cntV k a = 0) := by unfold Hid cntV; rw [hb]; rfl
    have n1 : (calE k a != 0) = true := by rw [calE_ne, hb]; rfl
    clear hb
    go_enter Tryz.func44, Tryz.ntmps44
    go_wp2_with (go_at_call 43; refine (HV.out _).mono ?_; rintro e w1 ⟨rfl, hb1⟩)
    go_ret
    exact ⟨by rw [L.out]; rfl, hbA.trans (hb1.mono (by simp))⟩
  · have L : Hid (cntV k a = cntP k a) := by unfold Hid cntV; rw [hb]; rfl
    have n1 : (calE k a != 0) = false := by rw [calE_ne, hb]; rfl
    have hc := (calB_iff k a).1 hb
    obtain ⟨n, hp, hn⟩ := per_last hc
    have hcp := cnt_pos hc
    have HO := Lib.hid (fun w h => of_any k a 84005 n w h hc (by omega) (by omega) hp)
    have s1 : IntKind.i64.wrap ((n : Int) + 1) = cntP k a := by rw [hn]; exact IntWalk.i64_in _ (by omega)
    clear hb hp hn hc
    go_enter Tryz.func44, Tryz.ntmps44
    go_wp2_with (first | (go_at_call 43; refine (HV.out _).mono ?_; rintro e w1 ⟨rfl, hb1⟩; have hB1 := hbA.trans (hb1.mono (by simp)); have R1 := (Row.new w 24 #[.int .i64 k, .int .i64 a]).below hb1 (by simp); have c0 : w1.cell? ⟨w.heap.size, 0, none⟩ = some (.int .i64 k) := R1.cell 0; have c1 : w1.cell? ⟨w.heap.size, 1, none⟩ = some (.int .i64 a) := R1.cell 1; have l1 := R1.lt; clear R1 hb1) | (go_at_call 52; refine (HO.out _ (hT.below hB1)).mono ?_; rintro e w2 ⟨rfl, hb2⟩; have hB2 := hB1.trans (hb2.mono hB1.size)))
    go_ret
    exact ⟨by rw [L.out]; rfl, hB2⟩
set_option maxHeartbeats 1000000 in
theorem month_any (n : Nat) (w : World) (hT : LenT w) (hn : n < 2760) :
    Calls Tryz.prog 45 #[.int .i64 n] w fun e w' => e = .returned (.agg #[.int .i64 (fm n), .int .i64 (fm n + lm n - 1)]) ∧ Below w.heap.size w w' := by
  have HF := Lib.hid (fun w h => First_any n w h hn)
  have HL := Lib.hid (fun w h => Length_any n w h hn)
  have h0 := fm_mono 0 n
  have h1 := fm_mono n (2760 - n)
  rw [fm_0, Nat.zero_add] at h0
  rw [show n + (2760 - n) = 2760 by omega, fm_2760] at h1
  have h2 := lm_pos n
  have s1 : IntKind.i64.wrap (fm n + lm n) = fm n + lm n := IntWalk.i64_in _ (by omega)
  have s2 : IntKind.i64.wrap (fm n + lm n - 1) = fm n + lm n - 1 := IntWalk.i64_in _ (by omega)
  clear h0 h1 h2
  go_enter Tryz.func45, Tryz.ntmps45
  go_wp2_with (first | (go_at_call 72; refine (HF.out _ (by repeat (first | assumption | apply LenT.drew | apply LenT.alloc))).mono ?_; rintro e w1 ⟨rfl, q1, rfl⟩) | (go_at_call 73; refine (HL.out _ (by repeat (first | assumption | apply LenT.drew | apply LenT.alloc))).mono ?_; rintro e w2 ⟨rfl, q2, rfl⟩))
  exact bodyPost_ret (v := .agg #[.int .i64 (fm n), .int .i64 (fm n + lm n - 1)]) (by simp [results, Tryz.results45, go_sem]) rfl ⟨rfl, by repeat (first | exact Below.refl _ _ | refine Below.draws ?_ _ | refine Below.alloc ?_ (Nat.le_refl _) _ | refine Below.setCell ?_ (by simp) _)⟩
set_option maxHeartbeats 1000000 in
theorem Of_any (k a d : Int) (w : World) (hT : LenT w) :
    Calls Tryz.prog 29 #[.agg #[.int .i64 k, .int .i64 a], .int .i64 d] w fun e w' => e = .returned (.tuple #[.int .i64 (ofV k a d), .int .i64 (ofE k a d)]) ∧ Below w.heap.size w w' := by
  have HV := Lib.hid (fun w => pValid_any k a w)
  have hbA := (Below.refl w.heap.size w).alloc (Nat.le_refl _) (.cells #[.int .i64 k, .int .i64 a] 24)
  cases hb : calB k a
  · obtain ⟨L1, L2⟩ := of_no1 d hb
    have LL := Lib.hid (And.intro L1 L2)
    have n1 : (calE k a != 0) = true := by rw [calE_ne, hb]; rfl
    have n2 : Hid (calE k a = 2) := calE_no hb
    clear hb L1 L2
    go_enter Tryz.func29, Tryz.ntmps29
    go_wp2_with (go_at_call 43; refine (HV.out _).mono ?_; rintro e w1 ⟨rfl, hb1⟩)
    exact bodyPost_ret (v := .tuple #[.int .i64 0, .int .i64 (calE k a)]) (by simp [results, Tryz.results29, go_sem]) rfl ⟨by rw [LL.out.1, LL.out.2, n2.out], hbA.trans (hb1.mono (by simp))⟩
  have n1 : (calE k a != 0) = false := by rw [calE_ne, hb]; rfl
  by_cases h0 : d < 0
  · have LL := Lib.hid (of_no2 (k := k) (a := a) (d := d) (.inl h0))
    have g0 : decide (d < 0) = true := decide_eq_true h0
    clear hb
    go_enter Tryz.func29, Tryz.ntmps29
    go_wp2_with (go_at_call 43; refine (HV.out _).mono ?_; rintro e w1 ⟨rfl, hb1⟩)
    exact bodyPost_ret (v := .tuple #[.int .i64 0, .int .i64 2]) (by simp [results, Tryz.results29, go_sem]) rfl ⟨by rw [LL.out.1, LL.out.2], hbA.trans (hb1.mono (by simp))⟩
  by_cases h1 : 84005 < d
  · have LL := Lib.hid (of_no2 (k := k) (a := a) (d := d) (.inr h1))
    have g0 : decide (d < 0) = false := decide_eq_false h0
    have g1 : decide (84005 < d) = true := decide_eq_true h1
    clear hb
    go_enter Tryz.func29, Tryz.ntmps29
    go_wp2_with (go_at_call 43; refine (HV.out _).mono ?_; rintro e w1 ⟨rfl, hb1⟩)
    exact bodyPost_ret (v := .tuple #[.int .i64 0, .int .i64 2]) (by simp [results, Tryz.results29, go_sem]) rfl ⟨by rw [LL.out.1, LL.out.2], hbA.trans (hb1.mono (by simp))⟩
  have hc := (calB_iff k a).1 hb
  obtain ⟨n, hn, hp⟩ := per_ex hc (d := d) (by omega) (by omega)
  have LL := Lib.hid (of_yes hc (by omega) (by omega) hp)
  have HO := Lib.hid (fun w h => of_any k a d n w h hc (by omega) (by omega) hp)
  have g0 : decide (d < 0) = false := decide_eq_false h0
  have g1 : decide (84005 < d) = false := decide_eq_false h1
  clear hb hc hp
  go_enter Tryz.func29, Tryz.ntmps29
  go_wp2_with (first | (go_at_call 43; refine (HV.out _).mono ?_; rintro e w1 ⟨rfl, hb1⟩; have hB1 := hbA.trans (hb1.mono (by simp)); have R1 := (Row.new w 24 #[.int .i64 k, .int .i64 a]).below hb1 (by simp); have c0 : w1.cell? ⟨w.heap.size, 0, none⟩ = some (.int .i64 k) := R1.cell 0; have c1 : w1.cell? ⟨w.heap.size, 1, none⟩ = some (.int .i64 a) := R1.cell 1; have l1 := R1.lt; clear R1 hb1) | (go_at_call 52; refine (HO.out _ (hT.below hB1)).mono ?_; rintro e w2 ⟨rfl, hb2⟩; have hB2 := hB1.trans (hb2.mono hB1.size)))
  exact bodyPost_ret (v := .tuple #[.int .i64 n, .int .i64 0]) (by simp [results, Tryz.results29, go_sem]) rfl ⟨by rw [LL.out.1, LL.out.2], hB2⟩
end Go.Proofs.YtaafihdegnaokaaGreatDoor
/- Contracts of the reference's days: lengths, before, raw. -/
namespace Go.Proofs.YtaafihdegnaokaaGreatDoor
open Go.RowKit

theorem lengthsR_any (y m : Int) (k : Nat) (hm : m = (k : Int) + 1) (w : World) (h0 : 0 ≤ y) (h1 : y ≤ 100000) (hk : k < 12) :
    Calls Tryz.prog 78 #[.int .i64 y, .int .i64 m] w (Qt w (.int .i64 (mlen y m))) := by
  subst hm
  by_cases a : k = 1
  · subst a
    by_cases a : y % 4 = 0
    · by_cases b : y % 100 = 0
      · by_cases c : y % 400 = 0
        · have L : Hid (mlen y ((1 : Nat) + 1 : Int) = 29) := by simp [Hid, mlen, leapB, a, b, c]
          go_enter Tryz.func78, Tryz.ntmps78
          go_wp2
          go_ret
          exact ⟨by rw [L.out]; rfl, 0, rfl⟩
        · have m3 : (y % 400 == 0) = false := by simpa using c
          have L : Hid (mlen y ((1 : Nat) + 1 : Int) = 28) := by simp [Hid, mlen, leapB, a, b, c]
          go_enter Tryz.func78, Tryz.ntmps78
          go_wp2
          go_ret
          exact ⟨by rw [L.out]; rfl, 0, rfl⟩
      · have m2 : (y % 100 != 0) = true := by simpa using b
        have L : Hid (mlen y ((1 : Nat) + 1 : Int) = 29) := by simp [Hid, mlen, leapB, a, b]
        go_enter Tryz.func78, Tryz.ntmps78
        go_wp2
        go_ret
        exact ⟨by rw [L.out]; rfl, 0, rfl⟩
    · have m1 : (y % 4 == 0) = false := by simpa using a
      have L : Hid (mlen y ((1 : Nat) + 1 : Int) = 28) := by simp [Hid, mlen, leapB, a]
      go_enter Tryz.func78, Tryz.ntmps78
      go_wp2
      go_ret
      exact ⟨by rw [L.out]; rfl, 0, rfl⟩
  · match k, hk, a with
    | 1, _, h => exact absurd rfl h
    | 0, _, _ | 2, _, _ | 4, _, _ | 6, _, _ | 7, _, _ | 9, _, _ | 11, _, _ | 3, _, _ | 5, _, _ | 8, _, _ | 10, _, _ =>
      go_enter Tryz.func78, Tryz.ntmps78
      go_wp2
      go_ret
      exact ⟨rfl, 0, rfl⟩
/-- the step of a leap day's count -/
theorem mlen_feb (y : Int) : mlen y 2 = if leapB y then 29 else 28 := by simp [mlen]
set_option maxHeartbeats 1000000 in
theorem before_any (y : Int) (w : World) (h0 : 1970 ≤ y) (h1 : y ≤ 2201) :
    Calls Tryz.prog 79 #[.int .i64 y] w (Qt w (.int .i64 (bg y))) := by
  obtain ⟨J, rr, hr, hy⟩ : ∃ J r : Nat, r ≤ 3 ∧ y = 1972 + 4 * J - r := by
    exact ⟨((y - 1972 + 3) / 4).toNat, (4 * ((y - 1972 + 3) / 4) - (y - 1972)).toNat, by omega, by omega⟩
  have HB := Lib.hid (bg_cnt J rr hr hy)
  have e1 : IntKind.i64.wrap (y - 1970) = y - 1970 := IntWalk.i64_in _ (by omega)
  have e2 : IntKind.i64.wrap ((y - 1970) * 365) = (y - 1970) * 365 := IntWalk.i64_in _ (by omega)
  have hJ : J ≤ 60 := by omega
  have hy1 : y ≤ 1972 + 4 * J := by omega
  have hy2 : 1972 + 4 * J ≤ y + 3 := by omega
  clear hy hr
  go_enter Tryz.func79, Tryz.ntmps79
  go_wp2_with fail
  go_loopw [3, 4] (fun n p wr => ∃ j q : Nat, j ≤ J ∧ n = .int .i64 ((y - 1970) * 365 + lcnt j) ∧ p = .int .i64 (1972 + 4 * (j : Int)) ∧ wr = w.drewN q) (fun _ p _ => (1972 + 4 * J - (intOf p).toNat))
  case atStart => exact ⟨0, 0, by omega, by simp [lcnt], rfl, rfl⟩
  case round =>
    obtain ⟨j, q, hj, rfl, rfl, rfl⟩ := hrel
    have d1 := lcnt_le j
    by_cases hlt : j < J
    · have g1 : decide (1972 + 4 * (j : Int) < y) = true := decide_eq_true (by omega)
      have HN := Lib.hid (lengthsR_any (1972 + 4 * (j : Int)) 2 1 rfl (w.drewN q) (by omega) (by omega) (by omega))
      rw [mlen_feb] at HN
      have s2 : IntKind.i64.wrap (1972 + 4 * (j : Int) + 4) = 1972 + 4 * ((j + 1 : Nat) : Int) := by rw [show 1972 + 4 * (j : Int) + 4 = 1972 + 4 * ((j + 1 : Nat) : Int) by omega]; exact IntWalk.i64_in _ (by omega)
      have HS := Lib.hid (lcnt_succ j)
      cases hl : leapB (1972 + 4 * (j : Int))
      · rw [hl] at HN HS
        go_wp2_with fail
        refine HN.out.mono ?_
        rintro e w2 ⟨rfl, r, rfl⟩
        rw [World.drewN_drewN]
        go_wp2_with fail
        go_roundw
        case rel => exact ⟨j + 1, q + r, by omega, by rw [HS.out]; simp, rfl, rfl⟩
        case measure => simp [intOf]; omega
      · rw [hl] at HN HS
        have s1 : IntKind.i64.wrap ((y - 1970) * 365 + lcnt j + 1) = (y - 1970) * 365 + lcnt j + 1 := IntWalk.i64_in _ (by omega)
        go_wp2_with fail
        refine HN.out.mono ?_
        rintro e w2 ⟨rfl, r, rfl⟩
        rw [World.drewN_drewN]
        go_wp2_with fail
        go_roundw
        case rel => exact ⟨j + 1, q + r, by omega, by rw [HS.out]; simp [Int.add_assoc], rfl, rfl⟩
        case measure => simp [intOf]; omega
    · have hjk : j = J := by omega
      subst hjk
      have g1 : decide (1972 + 4 * (j : Int) < y) = false := decide_eq_false (by omega)
      go_wp2_with fail
      go_ret
      exact ⟨by rw [HB.out]; rfl, q, rfl⟩
end Go.Proofs.YtaafihdegnaokaaGreatDoor
/- Contracts of the reference's days: raw, InYears, InDays, Date. -/
namespace Go.Proofs.YtaafihdegnaokaaGreatDoor
open Go.RowKit

set_option maxHeartbeats 1000000 in
theorem raw_any (y m t : Int) (k : Nat) (hm : m = (k : Int) + 1) (w : World) (h0 : 1970 ≤ y) (h1 : y ≤ 2200) (hk : k < 12) (ht0 : 0 ≤ t) (ht1 : t ≤ 100) :
    Calls Tryz.prog 94 #[.int .i64 y, .int .i64 m, .int .i64 t] w (Qt w (.int .i64 (bg y + cumN y k + (t - 1)))) := by
  subst hm
  have b1 := bg_le y (by omega) (by omega)
  have c1 := cumN_pos y k
  have HL := Lib.hid (before_any y w h0 (by omega))
  have e1 : IntKind.i64.wrap (bg y + t) = bg y + t := IntWalk.i64_in _ (by omega)
  have e2 : IntKind.i64.wrap (bg y + t - 1) = bg y + t - 1 := IntWalk.i64_in _ (by omega)
  go_enter Tryz.func94, Tryz.ntmps94
  go_wp2_with fail
  refine HL.out.mono ?_
  rintro e w1 ⟨rfl, q, rfl⟩
  clear HL
  go_wp2_with fail
  go_loopw [7, 8] (fun n m wr => ∃ j q : Nat, j ≤ k ∧ n = .int .i64 (bg y + t - 1 + cumN y j) ∧ m = .int .i64 ((j : Int) + 1) ∧ wr = w.drewN q) (fun _ m _ => (k + 1 - (intOf m).toNat))
  case atStart => exact ⟨0, q, by omega, by simp [cumN], rfl, rfl⟩
  case round =>
    obtain ⟨j, q, hj, rfl, rfl, rfl⟩ := hrel
    have d1 := cumN_pos y j
    by_cases hlt : j < k
    · have g1 : decide ((j : Int) + 1 < (k : Int) + 1) = true := decide_eq_true (by omega)
      have d2 := mlen_pos y ((j : Int) + 1)
      have HN := Lib.hid (lengthsR_any y ((j : Int) + 1) j rfl (w.drewN q) (by omega) (by omega) (by omega))
      have s1 : IntKind.i64.wrap (bg y + t - 1 + cumN y j + mlen y ((j : Int) + 1)) = bg y + t - 1 + cumN y (j + 1) := by rw [cumN, Int.add_assoc]; exact IntWalk.i64_in _ (by omega)
      have s2 : IntKind.i64.wrap ((j : Int) + 1 + 1) = ((j + 1 : Nat) : Int) + 1 := IntWalk.i64_in _ (by omega)
      go_wp2_with fail
      refine HN.out.mono ?_
      rintro e w2 ⟨rfl, r, rfl⟩
      rw [World.drewN_drewN]
      go_wp2_with fail
      go_roundw
      case rel => exact ⟨j + 1, q + r, by omega, rfl, rfl, rfl⟩
      case measure => simp [intOf]; omega
    · have hjk : j = k := by omega
      subst hjk
      have g1 : decide ((j : Int) + 1 < (j : Int) + 1) = false := decide_eq_false (by omega)
      have L : Hid (bg y + t - 1 + cumN y j = bg y + cumN y j + (t - 1)) := by unfold Hid; omega
      go_wp2_with fail
      go_ret
      exact ⟨by rw [L.out]; rfl, q, rfl⟩
theorem inDays_any (d : Int) (w : World) : Calls Tryz.prog 70 #[.int .i64 d] w (Qt w (.bool (decide (0 ≤ d) && decide (d ≤ 84005)))) := by
  by_cases a : 0 ≤ d
  · have g0 : decide (0 ≤ d) = true := decide_eq_true a
    by_cases b : d ≤ 84005
    · have g1 : decide (d ≤ 84005) = true := decide_eq_true b
      go_enter Tryz.func70, Tryz.ntmps70
      go_wp2
      go_ret
      exact ⟨by first | rfl | (rw [g0, g1]; rfl), 0, rfl⟩
    · have g1 : decide (d ≤ 84005) = false := decide_eq_false b
      go_enter Tryz.func70, Tryz.ntmps70
      go_wp2
      go_ret
      exact ⟨by first | rfl | (rw [g0, g1]; rfl), 0, rfl⟩
  · have g0 : decide (0 ≤ d) = false := decide_eq_false a
    go_enter Tryz.func70, Tryz.ntmps70
    go_wp2
    go_ret
    exact ⟨by first | rfl | (rw [g0]; rfl), 0, rfl⟩
theorem inYears_any (d : Int) (w : World) (h0 : 1970 ≤ d) (h1 : d ≤ 2199) : Calls Tryz.prog 93 #[.int .i64 d] w (Qt w (.bool true)) := by
  have g0 : decide (1970 ≤ d) = true := decide_eq_true h0
  have g1 : decide (d ≤ 2199) = true := decide_eq_true h1
  go_enter Tryz.func93, Tryz.ntmps93
  go_wp2
  go_ret
  exact ⟨rfl, 0, rfl⟩
set_option maxHeartbeats 1000000 in
theorem DateR_any (d y t : Int) (k : Nat) (w : World) (hd : IsDate d y k t) :
    Calls Tryz.prog 58 #[.int .i64 d] w (Qt w (.tuple #[.int .i64 y, .int .i64 ((k : Int) + 1), .int .i64 t, .bool true])) := by
  obtain ⟨hb1, ⟨hb2, hb3⟩, hb4, hb5⟩ := hd.bounds
  have y0 := hd.y0
  have y1 := hd.y1
  have k1 := hd.k1
  have t0 := hd.t0
  have heq := Lib.hid hd.eq
  have HS := Lib.hid (fun j => @rest_stop d y k t hd j)
  have hlt := hd.lt.2
  have hbs := bg_start y0
  have hbt := bg_start (y := y + 1) (by omega)
  have HI := Lib.hid (fun w => inDays_any d w)
  rw [decide_eq_true hb2, decide_eq_true hb3] at HI
  have s0 : IntKind.i64.wrap (1970 + d / 366) = 1970 + d / 366 := by exact IntWalk.i64_in _ (by omega)
  have s9 : IntKind.i64.wrap (d - bg y) = d - bg y := IntWalk.i64_in _ (by omega)
  clear hd
  go_enter Tryz.func58, Tryz.ntmps58
  go_wp2_with (go_at_call 70; refine (HI.out _).mono ?_; rintro e w1 ⟨rfl, q, rfl⟩)
  go_loopw [6] (fun p wr => ∃ (z : Int) (q : Nat), 1970 ≤ z ∧ z ≤ y ∧ p = .int .i64 z ∧ wr = w.drewN q) (fun p _ => (y - intOf p).toNat)
  case atStart => exact ⟨_, _, by omega, by omega, rfl, rfl⟩
  case round =>
    obtain ⟨z, q, hz0, hz1, rfl, rfl⟩ := hrel
    have s1 : IntKind.i64.wrap (z + 1) = z + 1 := IntWalk.i64_in _ (by omega)
    have HL := Lib.hid (fun w => before_any (z + 1) w (by omega) (by omega))
    by_cases hlt : z < y
    · have HM := Lib.hid (bg_mono_le (show z + 1 ≤ y by omega))
      have g1 : decide (bg (z + 1) ≤ d) = true := decide_eq_true (by have := HM.out; omega)
      go_wp2_with fail
      refine (HL.out _).mono ?_
      rintro e w2 ⟨rfl, r, rfl⟩
      rw [World.drewN_drewN]
      go_wp2_with fail
      go_roundw
      case rel => exact ⟨z + 1, q + r, by omega, by omega, rfl, rfl⟩
      case measure => simp [intOf]; omega
    · have hzy : z = y := by omega
      subst hzy
      have g1 : decide (bg (z + 1) ≤ d) = false := decide_eq_false (by omega)
      have HG := Lib.hid (fun w => before_any z w y0 (by omega))
      go_wp2_with fail
      refine (HL.out _).mono ?_
      rintro e w2 ⟨rfl, r, rfl⟩
      rw [World.drewN_drewN]
      go_wp2_with (go_at_call 79; refine (HG.out _).mono ?_; rintro e w1 ⟨rfl, q2, rfl⟩; rw [World.drewN_drewN])
      go_loopw [7, 8] (fun r m wr => ∃ j q : Nat, j ≤ k ∧ r = .int .i64 (d - bg z - cumN z j) ∧ m = .int .i64 ((j : Int) + 1) ∧ wr = w.drewN q) (fun _ m _ => (k + 1 - (intOf m).toNat))
      case atStart => exact ⟨0, _, by omega, by simp [cumN], rfl, rfl⟩
      case round =>
        obtain ⟨j, q, hj, rfl, rfl, rfl⟩ := hrel
        have d1 := cumN_pos z j
        have d2 := mlen_pos z ((j : Int) + 1)
        have HN := Lib.hid (fun w' => lengthsR_any z ((j : Int) + 1) j rfl w' (by omega) (by omega) (by omega))
        by_cases hlt : j < k
        · have HR := Lib.hid ((HS.out j hj).2 hlt)
          have g1 : decide (mlen z ((j : Int) + 1) ≤ d - bg z - cumN z j) = true := decide_eq_true HR.out
          have hr := HR.out
          have s1 : IntKind.i64.wrap (d - bg z - cumN z j - mlen z ((j : Int) + 1)) = d - bg z - cumN z (j + 1) := by rw [cumN, Int.sub_sub]; exact IntWalk.i64_in _ (by omega)
          have s2 : IntKind.i64.wrap ((j : Int) + 1 + 1) = ((j + 1 : Nat) : Int) + 1 := IntWalk.i64_in _ (by omega)
          go_wp2_with fail
          refine (HN.out _).mono ?_
          rintro e w2 ⟨rfl, r, rfl⟩
          rw [World.drewN_drewN]
          go_wp2_with fail
          refine (HN.out _).mono ?_
          rintro e w2 ⟨rfl, r2, rfl⟩
          rw [World.drewN_drewN]
          go_wp2_with fail
          go_roundw
          case rel => exact ⟨j + 1, _, by omega, rfl, rfl, rfl⟩
          case measure => simp [intOf]; omega
        · have hjk : j = k := by omega
          subst hjk
          have g1 : decide (mlen z ((j : Int) + 1) ≤ d - bg z - cumN z j) = false := decide_eq_false (fun h => hlt ((HS.out j hj).1 h))
          have s1 : IntKind.i64.wrap (d - bg z - cumN z j + 1) = t := by rw [show d - bg z - cumN z j + 1 = t by have := heq.out; omega]; exact IntWalk.i64_in _ (by omega)
          go_wp2_with fail
          refine (HN.out _).mono ?_
          rintro e w2 ⟨rfl, r, rfl⟩
          rw [World.drewN_drewN]
          go_wp2_with fail
          exact bodyPost_ret (v := .tuple #[.int .i64 z, .int .i64 ((j : Int) + 1), .int .i64 t, .bool true]) (by simp [results, Tryz.results58, go_sem]) rfl ⟨rfl, _, rfl⟩
end Go.Proofs.YtaafihdegnaokaaGreatDoor
/- Contracts of the reference's days: Day, Month, First, Length. -/
namespace Go.Proofs.YtaafihdegnaokaaGreatDoor
open Go.RowKit

set_option maxHeartbeats 1000000 in
theorem DayR_any (y m t : Int) (k : Nat) (hm : m = (k : Int) + 1) (w : World) (h0 : 1970 ≤ y) (h1 : y ≤ 2199) (hk : k < 12) (ht0 : 1 ≤ t) (ht1 : t ≤ mlen y m) :
    Calls Tryz.prog 77 #[.int .i64 y, .int .i64 m, .int .i64 t] w (Qt w (.tuple #[.int .i64 (bg y + cumN y k + (t - 1)), .bool true])) := by
  have hl := mlen_pos y m
  have HL := Lib.hid (fun w => lengthsR_any y m k hm w (by omega) (by omega) hk)
  have HN := Lib.hid (fun w => raw_any y m t k hm w (by omega) (by omega) hk (by omega) (by omega))
  have g0 : decide (y < 1970) = false := decide_eq_false (by omega)
  have g1 : decide (2199 < y) = false := decide_eq_false (by omega)
  have g2 : decide (m < 1) = false := decide_eq_false (by omega)
  have g3 : decide (12 < m) = false := decide_eq_false (by omega)
  have g4 : decide (t < 1) = false := decide_eq_false (by omega)
  have g5 : decide (mlen y m < t) = false := decide_eq_false (by omega)
  have HY := Lib.hid (fun w => inYears_any y w h0 h1)
  clear hm
  go_enter Tryz.func77, Tryz.ntmps77
  go_wp2_with (first | (go_at_call 93; refine (HY.out _).mono ?_; rintro e w1 ⟨rfl, q0, rfl⟩) | (go_at_call 78; refine (HL.out _).mono ?_; rintro e w1 ⟨rfl, q, rfl⟩; rw [World.drewN_drewN]) | (go_at_call 94; refine (HN.out _).mono ?_; rintro e w1 ⟨rfl, q1, rfl⟩; rw [World.drewN_drewN]))
  exact bodyPost_ret (v := .tuple #[.int .i64 (bg y + cumN y k + (t - 1)), .bool true]) (by simp [results, Tryz.results77, go_sem]) rfl ⟨rfl, _, rfl⟩
set_option maxHeartbeats 1000000 in
theorem MonthR_any (d : Int) (n : Nat) (w : World) (hn : n < 2760) (h0 : fm n ≤ d) (h1 : d < fm (n + 1)) :
    Calls Tryz.prog 92 #[.int .i64 d] w (Qt w (.int .i64 n)) := by
  have f0 := fm_mono 0 n
  have f1 := fm_mono (n + 1) (2760 - (n + 1))
  rw [fm_0, Nat.zero_add] at f0
  rw [show n + 1 + (2760 - (n + 1)) = 2760 by omega, fm_2760] at f1
  obtain ⟨y, k, t, hd⟩ := date_ex (d := d) (by omega) (by omega)
  obtain ⟨n', hn', hm, g0, g1, _⟩ := hd.mon
  obtain rfl := mon_unique ⟨g0, g1⟩ ⟨h0, h1⟩
  have y0 := hd.y0
  have y1 := hd.y1
  have k1 := hd.k1
  unfold monOf at hm
  have HD := Lib.hid (DateR_any d y t k w hd)
  have e1 : IntKind.i64.wrap (y - 1970) = y - 1970 := IntWalk.i64_in _ (by omega)
  have e2 : IntKind.i64.wrap ((y - 1970) * 12) = (y - 1970) * 12 := IntWalk.i64_in _ (by omega)
  have e3 : IntKind.i64.wrap ((y - 1970) * 12 + ((k : Int) + 1)) = (y - 1970) * 12 + ((k : Int) + 1) := IntWalk.i64_in _ (by omega)
  have e4 : IntKind.i64.wrap ((y - 1970) * 12 + ((k : Int) + 1) - 1) = n' := by rw [show (y - 1970) * 12 + ((k : Int) + 1) - 1 = n' by omega]; exact IntWalk.i64_in _ (by omega)
  clear hd hm f0 f1 g0 g1 h0 h1
  go_enter Tryz.func92, Tryz.ntmps92
  go_wp2_with fail
  refine HD.out.mono ?_
  rintro e w1 ⟨rfl, q, rfl⟩
  go_wp2_with fail
  go_ret
  exact ⟨rfl, q, rfl⟩
set_option maxHeartbeats 1000000 in
theorem FirstR_any (n : Nat) (w : World) (hn : n < 2760) :
    Calls Tryz.prog 55 #[.int .i64 n] w (Qt w (.tuple #[.int .i64 (fm n), .bool true])) := by
  have g0 : decide ((n : Int) < 0) = false := decide_eq_false (by omega)
  have g1 : decide (2759 < (n : Int)) = false := decide_eq_false (by omega)
  have e1 : IntKind.i64.wrap (1970 + (n : Int) / 12) = 1970 + ((n / 12 : Nat) : Int) := by exact IntWalk.i64_in _ (by omega)
  have e2 : IntKind.i64.wrap (1 + (n : Int) % 12) = ((n % 12 : Nat) : Int) + 1 := by rw [show (1 + (n : Int) % 12) = ((n % 12 : Nat) : Int) + 1 by omega]; exact IntWalk.i64_in _ (by omega)
  have HN := Lib.hid (DayR_any (1970 + ((n / 12 : Nat) : Int)) (((n % 12 : Nat) : Int) + 1) 1 (n % 12) rfl w (by omega) (by omega) (by omega) (by omega) (by have := mlen_pos (1970 + ((n / 12 : Nat) : Int)) (((n % 12 : Nat) : Int) + 1); omega))
  have HF : Hid (bg (1970 + ((n / 12 : Nat) : Int)) + cumN (1970 + ((n / 12 : Nat) : Int)) (n % 12) + (1 - 1) = fm n) := by unfold fm Hid; omega
  rw [HF.out] at HN
  go_enter Tryz.func55, Tryz.ntmps55
  go_wp2_with (go_at_call 77; refine HN.out.mono ?_; rintro e w1 ⟨rfl, q, rfl⟩)
  exact bodyPost_ret (v := .tuple #[.int .i64 (fm n), .bool true]) (by simp [results, Tryz.results55, go_sem]) rfl ⟨rfl, _, rfl⟩
set_option maxHeartbeats 1000000 in
theorem LengthR_any (n : Nat) (w : World) (hn : n < 2760) :
    Calls Tryz.prog 56 #[.int .i64 n] w (Qt w (.int .i64 (lm n))) := by
  have g0 : decide ((n : Int) < 0) = false := decide_eq_false (by omega)
  have g1 : decide (2759 < (n : Int)) = false := decide_eq_false (by omega)
  have e1 : IntKind.i64.wrap (1970 + (n : Int) / 12) = 1970 + ((n / 12 : Nat) : Int) := by exact IntWalk.i64_in _ (by omega)
  have e2 : IntKind.i64.wrap (1 + (n : Int) % 12) = ((n % 12 : Nat) : Int) + 1 := by rw [show (1 + (n : Int) % 12) = ((n % 12 : Nat) : Int) + 1 by omega]; exact IntWalk.i64_in _ (by omega)
  have HN := Lib.hid (lengthsR_any (1970 + ((n / 12 : Nat) : Int)) (((n % 12 : Nat) : Int) + 1) (n % 12) rfl w (by omega) (by omega) (by omega))
  go_enter Tryz.func56, Tryz.ntmps56
  go_wp2_with (go_at_call 78; refine HN.out.mono ?_; rintro e w1 ⟨rfl, q, rfl⟩)
  go_ret
  exact ⟨rfl, q, rfl⟩
end Go.Proofs.YtaafihdegnaokaaGreatDoor
/- A region that draws its order, whose operations read what was there and call functions that only lay new memory: walked in the order of its text, in every world that extends the one at its start. -/
namespace Go.Proofs.YtaafihdegnaokaaGreatDoor
open Go.RowKit

/-- the worlds that extend w -/
structure Ext (w : World) where
  val : World
  property : Below w.heap.size w val
instance (w : World) : Inhabited (Ext w) := ⟨⟨w, Below.refl _ _⟩⟩
theorem region_ext {P : Program} {id : Nat} {Q : Exit → Act → World → Prop} {a : Act} {w : World} {l : List Oper} (hm : P.follows .mixedOrders = true) (hB : Region.lexB .any l.toArray = true)
    (h : wpQuiet P l.toArray (fun w' => ∃ x : Ext w, w' = x.val) (fun a' => ∀ w', (∃ x : Ext w, w' = x.val) → Q .normal a' w') l a) : (Code.region id l.toArray true).wp P Q a w :=
  wp_region_quiet (C := fun w' => ∃ x : Ext w, w' = x.val) hm hB ⟨⟨_, (Below.refl _ w).drew⟩, rfl⟩ (by simpa using h)
theorem ext_call {P : Program} {w : World} {x : Ext w} {f : FuncId} {args : Array Value} {v : Value} (h : Calls P f args x.val fun e w' => e = .returned v ∧ Below x.val.heap.size x.val w') :
    Calls P f args x.val fun e w'' => e = .returned v ∧ ∃ y : Ext w, w'' = y.val :=
  h.mono fun _ w' ⟨he, hb⟩ => ⟨he, ⟨w', x.property.trans (hb.mono x.property.size)⟩, rfl⟩
theorem ext_quiet {P : Program} {w : World} {x : Ext w} {f : FuncId} {args : Array Value} {v : Value} (h : Calls P f args x.val fun e w' => e = .returned v ∧ x.val = w') :
    Calls P f args x.val fun e w'' => e = .returned v ∧ ∃ y : Ext w, w'' = y.val :=
  h.mono fun _ _w' ⟨he, hb⟩ => ⟨he, x, hb.symm⟩
theorem ext_cell {w : World} {b o : Nat} {v : Value} (hb : b < w.heap.size) (h : w.cell? ⟨b, o, none⟩ = some v) (x : Ext w) : x.val.cell? ⟨b, o, none⟩ = some v := (x.property.cell (p := ⟨b, o, none⟩) hb).trans h

end Go.Proofs.YtaafihdegnaokaaGreatDoor
/- Contracts of the reference's pay calendars: length, Valid, of, Of, Count. -/
namespace Go.Proofs.YtaafihdegnaokaaGreatDoor
open Go.RowKit

set_option maxHeartbeats 1000000 in
theorem lengthC_any (k a : Int) (w : World) :
    Calls Tryz.prog 57 #[.agg #[.int .i64 k, .int .i64 a]] w fun e w' => e = .returned (.int .i64 (perL k)) ∧ Below w.heap.size w w' := by
  by_cases h : k = 2
  · subst h
    have L : Hid (perL 2 = 14) := rfl
    go_enter Tryz.func57, Tryz.ntmps57
    go_wp2
    go_ret
    exact ⟨by rw [L.out]; rfl, by repeat (first | exact Below.refl _ _ | refine Below.draws ?_ _ | refine Below.alloc ?_ (Nat.le_refl _) _)⟩
  · have L : Hid (perL k = 7) := by unfold Hid perL; rw [if_neg h]
    have m2 : (k == 2) = false := by simpa using h
    clear h
    go_enter Tryz.func57, Tryz.ntmps57
    go_wp2
    go_ret
    exact ⟨by rw [L.out]; rfl, by repeat (first | exact Below.refl _ _ | refine Below.draws ?_ _ | refine Below.alloc ?_ (Nat.le_refl _) _)⟩
set_option maxHeartbeats 2000000 in
theorem pValidR_any (k a : Int) (w : World) :
    Calls Tryz.prog 53 #[.agg #[.int .i64 k, .int .i64 a]] w fun e w' => e = .returned (.int .i64 (calE k a)) ∧ Below w.heap.size w w' := by
  have hbA := (Below.refl w.heap.size w).alloc (Nat.le_refl _) (.cells #[.int .i64 k, .int .i64 a] 24)
  have hc : k = 0 ∨ k = 1 ∨ k = 2 ∨ k = 3 ∨ (¬ k = 0 ∧ ¬ k = 1 ∧ ¬ k = 2 ∧ ¬ k = 3) := by omega
  rcases hc with rfl | rfl | rfl | rfl | ⟨n0, n1, n2, n3⟩
  · by_cases h1 : a = 0
    · subst h1
      have L : Hid (calE 0 0 = 0) := calE_ok (by simp [calB])
      go_enter Tryz.func53, Tryz.ntmps53
      go_wp2
      go_ret
      exact ⟨by rw [L.out]; rfl, by repeat (first | exact Below.refl _ _ | refine Below.draws ?_ _ | refine Below.alloc ?_ (Nat.le_refl _) _)⟩
    · have L : Hid (calE 0 a = 2) := calE_no (by simp [calB]; omega)
      have m1 : (a == 0) = false := by simpa using h1
      clear h1
      go_enter Tryz.func53, Tryz.ntmps53
      go_wp2
      go_ret
      exact ⟨by rw [L.out]; rfl, by repeat (first | exact Below.refl _ _ | refine Below.draws ?_ _ | refine Below.alloc ?_ (Nat.le_refl _) _)⟩
  · by_cases h1 : a = 0
    · subst h1
      have L : Hid (calE 1 0 = 0) := calE_ok (by simp [calB])
      go_enter Tryz.func53, Tryz.ntmps53
      go_wp2
      go_ret
      exact ⟨by rw [L.out]; rfl, by repeat (first | exact Below.refl _ _ | refine Below.draws ?_ _ | refine Below.alloc ?_ (Nat.le_refl _) _)⟩
    · have L : Hid (calE 1 a = 2) := calE_no (by simp [calB]; omega)
      have m1 : (a == 0) = false := by simpa using h1
      clear h1
      go_enter Tryz.func53, Tryz.ntmps53
      go_wp2
      go_ret
      exact ⟨by rw [L.out]; rfl, by repeat (first | exact Below.refl _ _ | refine Below.draws ?_ _ | refine Below.alloc ?_ (Nat.le_refl _) _)⟩
  · have HL := Lib.hid (fun w => lengthC_any 2 a w)
    rw [show perL 2 = 14 from rfl] at HL
    have u0 := ext_cell (w := w.alloc (.cells #[.int .i64 2, .int .i64 a] 24)) (b := w.heap.size) (o := 0) (v := .int .i64 2) (by simp) (by rw [World.cell?_alloc_new]; rfl)
    have u1 := ext_cell (w := w.alloc (.cells #[.int .i64 2, .int .i64 a] 24)) (b := w.heap.size) (o := 1) (v := .int .i64 a) (by simp) (by rw [World.cell?_alloc_new]; rfl)
    have hcase : (0 ≤ a ∧ a < 14) ∨ (0 ≤ a ∧ ¬ a < 14) ∨ (¬ 0 ≤ a) := by omega
    rcases hcase with ⟨h1, h2⟩ | ⟨h1, h2⟩ | h1
    · have L : Hid (calE 2 a = 0) := calE_ok (by simp [calB]; omega)
      have g1 : decide (0 ≤ a) = true := decide_eq_true h1
      have g2 : decide (a < 14) = true := decide_eq_true h2
      clear h1 h2
      go_enter Tryz.func53, Tryz.ntmps53
      go_wp2_with fail
      refine region_ext (by kernel_rfl) (by kernel_rfl) ?_
      repeat (go_big_quiet_step ((go_at_call 57; exact ext_call (HL.out _))))
      refine wpQuiet_nil ?_
      rintro _ ⟨W, rfl⟩
      go_wp2
      go_ret
      exact ⟨by rw [L.out]; rfl, hbA.trans (W.property.mono (by simp))⟩
    · have L : Hid (calE 2 a = 2) := calE_no (by simp [calB]; omega)
      have g1 : decide (0 ≤ a) = true := decide_eq_true h1
      have g2 : decide (a < 14) = false := decide_eq_false h2
      clear h1 h2
      go_enter Tryz.func53, Tryz.ntmps53
      go_wp2_with fail
      refine region_ext (by kernel_rfl) (by kernel_rfl) ?_
      repeat (go_big_quiet_step ((go_at_call 57; exact ext_call (HL.out _))))
      refine wpQuiet_nil ?_
      rintro _ ⟨W, rfl⟩
      go_wp2
      go_ret
      exact ⟨by rw [L.out]; rfl, hbA.trans (W.property.mono (by simp))⟩
    · have L : Hid (calE 2 a = 2) := calE_no (by simp [calB]; omega)
      have g1 : decide (0 ≤ a) = false := decide_eq_false h1
      clear h1
      go_enter Tryz.func53, Tryz.ntmps53
      go_wp2_with fail
      refine region_ext (by kernel_rfl) (by kernel_rfl) ?_
      repeat (go_big_quiet_step ((go_at_call 57; exact ext_call (HL.out _))))
      refine wpQuiet_nil ?_
      rintro _ ⟨W, rfl⟩
      go_wp2
      go_ret
      exact ⟨by rw [L.out]; rfl, hbA.trans (W.property.mono (by simp))⟩
  · have HL := Lib.hid (fun w => lengthC_any 3 a w)
    rw [show perL 3 = 7 from rfl] at HL
    have u0 := ext_cell (w := w.alloc (.cells #[.int .i64 3, .int .i64 a] 24)) (b := w.heap.size) (o := 0) (v := .int .i64 3) (by simp) (by rw [World.cell?_alloc_new]; rfl)
    have u1 := ext_cell (w := w.alloc (.cells #[.int .i64 3, .int .i64 a] 24)) (b := w.heap.size) (o := 1) (v := .int .i64 a) (by simp) (by rw [World.cell?_alloc_new]; rfl)
    have hcase : (0 ≤ a ∧ a < 7) ∨ (0 ≤ a ∧ ¬ a < 7) ∨ (¬ 0 ≤ a) := by omega
    rcases hcase with ⟨h1, h2⟩ | ⟨h1, h2⟩ | h1
    · have L : Hid (calE 3 a = 0) := calE_ok (by simp [calB]; omega)
      have g1 : decide (0 ≤ a) = true := decide_eq_true h1
      have g2 : decide (a < 7) = true := decide_eq_true h2
      clear h1 h2
      go_enter Tryz.func53, Tryz.ntmps53
      go_wp2_with fail
      refine region_ext (by kernel_rfl) (by kernel_rfl) ?_
      repeat (go_big_quiet_step ((go_at_call 57; exact ext_call (HL.out _))))
      refine wpQuiet_nil ?_
      rintro _ ⟨W, rfl⟩
      go_wp2
      go_ret
      exact ⟨by rw [L.out]; rfl, hbA.trans (W.property.mono (by simp))⟩
    · have L : Hid (calE 3 a = 2) := calE_no (by simp [calB]; omega)
      have g1 : decide (0 ≤ a) = true := decide_eq_true h1
      have g2 : decide (a < 7) = false := decide_eq_false h2
      clear h1 h2
      go_enter Tryz.func53, Tryz.ntmps53
      go_wp2_with fail
      refine region_ext (by kernel_rfl) (by kernel_rfl) ?_
      repeat (go_big_quiet_step ((go_at_call 57; exact ext_call (HL.out _))))
      refine wpQuiet_nil ?_
      rintro _ ⟨W, rfl⟩
      go_wp2
      go_ret
      exact ⟨by rw [L.out]; rfl, hbA.trans (W.property.mono (by simp))⟩
    · have L : Hid (calE 3 a = 2) := calE_no (by simp [calB]; omega)
      have g1 : decide (0 ≤ a) = false := decide_eq_false h1
      clear h1
      go_enter Tryz.func53, Tryz.ntmps53
      go_wp2_with fail
      refine region_ext (by kernel_rfl) (by kernel_rfl) ?_
      repeat (go_big_quiet_step ((go_at_call 57; exact ext_call (HL.out _))))
      refine wpQuiet_nil ?_
      rintro _ ⟨W, rfl⟩
      go_wp2
      go_ret
      exact ⟨by rw [L.out]; rfl, hbA.trans (W.property.mono (by simp))⟩
  · have L : Hid (calE k a = 2) := calE_no (by simp [calB]; omega)
    have m0 : (k == 0) = false := by simpa using n0
    have m1 : (k == 1) = false := by simpa using n1
    have m2 : (k == 2) = false := by simpa using n2
    have m3 : (k == 3) = false := by simpa using n3
    clear n0 n1 n2 n3
    go_enter Tryz.func53, Tryz.ntmps53
    go_wp2
    go_ret
    exact ⟨by rw [L.out]; rfl, by repeat (first | exact Below.refl _ _ | refine Below.draws ?_ _ | refine Below.alloc ?_ (Nat.le_refl _) _)⟩
set_option maxHeartbeats 1000000 in
theorem ofR_any (k a d : Int) (n : Nat) (w : World) (hc : CalOk k a) (h0 : 0 ≤ d) (h1 : d ≤ 84005) (hp : IsPer k a d n) :
    Calls Tryz.prog 71 #[.agg #[.int .i64 k, .int .i64 a], .int .i64 d] w fun e w' => e = .returned (.int .i64 n) ∧ Below w.heap.size w w' := by
  have k0 := hc.k0
  have k1 := hc.k1
  by_cases q0 : k = 0
  · subst q0
    obtain ⟨p0, p1⟩ := per_mon hp
    have HM := Lib.hid (fun w => MonthR_any d n w (fm_lt p0 h1) p0 p1)
    clear p0 p1 hp hc
    go_enter Tryz.func71, Tryz.ntmps71
    go_wp2_with (go_at_call 92; refine (HM.out _).mono ?_; rintro e w1 ⟨rfl, q, rfl⟩)
    go_ret
    exact ⟨rfl, by repeat (first | exact Below.refl _ _ | refine Below.draws ?_ _ | refine Below.alloc ?_ (Nat.le_refl _) _ | refine Below.setCell ?_ (by simp) _)⟩
  by_cases q1 : k = 1
  · subst q1
    obtain ⟨p0, p1, p2⟩ := per_half hp
    have hm := fm_lt p0 h1
    have HM := Lib.hid (fun w => MonthR_any d (n / 2) w hm p0 p1)
    obtain ⟨y, m, t, hd⟩ := date_ex h0 h1
    obtain ⟨n', hn', hmm, g0, g1, ht⟩ := hd.mon
    obtain rfl := mon_unique ⟨g0, g1⟩ ⟨p0, p1⟩
    rw [← ht] at p2
    have HD := Lib.hid (fun w => DateR_any d y t m w hd)
    obtain ⟨h, hh⟩ : ∃ h, n / 2 = h := ⟨_, rfl⟩
    rw [hh] at hm HM hn'
    have s1 : IntKind.i64.wrap (2 * (h : Int)) = 2 * (h : Int) := IntWalk.i64_in _ (by omega)
    have s2 : IntKind.i64.wrap (2 * (h : Int) + 1) = 2 * (h : Int) + 1 := IntWalk.i64_in _ (by omega)
    clear g0 g1 p0 p1 ht hmm hd hp hc
    rcases p2 with ⟨e, p2⟩ | ⟨e, p2⟩
    · have g2 : decide (15 < t) = false := decide_eq_false (by omega)
      have L : Hid ((n : Int) = 2 * (h : Int)) := by unfold Hid; omega
      clear p2 e hh
      go_enter Tryz.func71, Tryz.ntmps71
      go_wp2_with (first | (go_at_call 92; refine (HM.out _).mono ?_; rintro e w1 ⟨rfl, q, rfl⟩) | (go_at_call 58; refine (HD.out _).mono ?_; rintro e w1 ⟨rfl, q1, rfl⟩))
      go_ret
      exact ⟨by rw [L.out]; rfl, by repeat (first | exact Below.refl _ _ | refine Below.draws ?_ _ | refine Below.alloc ?_ (Nat.le_refl _) _ | refine Below.setCell ?_ (by simp) _)⟩
    · have g2 : decide (15 < t) = true := decide_eq_true (by omega)
      have L : Hid ((n : Int) = 2 * (h : Int) + 1) := by unfold Hid; omega
      clear p2 e hh
      go_enter Tryz.func71, Tryz.ntmps71
      go_wp2_with (first | (go_at_call 92; refine (HM.out _).mono ?_; rintro e w1 ⟨rfl, q, rfl⟩) | (go_at_call 58; refine (HD.out _).mono ?_; rintro e w1 ⟨rfl, q1, rfl⟩))
      go_ret
      exact ⟨by rw [L.out]; rfl, by repeat (first | exact Below.refl _ _ | refine Below.draws ?_ _ | refine Below.alloc ?_ (Nat.le_refl _) _ | refine Below.setCell ?_ (by simp) _)⟩
  have HL := Lib.hid (fun w => lengthC_any k a w)
  have L := Lib.hid (per_days q0 q1 hp)
  have b1 := perS_le hc
  have b2 := perL_pos k
  have a0 := hc.a0
  have m0 : (k == 0) = false := by simpa using q0
  have m1 : (k == 1) = false := by simpa using q1
  have a1 : a < perL k := by
    have h1 := hc.a1
    have h2 : k = 2 ∨ k = 3 := by omega
    rcases h2 with rfl | rfl
    · simp [perL] at h1 ⊢; omega
    · simp [perL] at h1 ⊢; omega
  have s0 : IntKind.i64.wrap (perL k - a) = perL k - a := IntWalk.i64_in _ (by omega)
  have t0 : (perL k - a).tmod (perL k) = perS k a := by rw [Int.tmod_eq_emod_of_nonneg (by omega)]; rfl
  have s1 : IntKind.i64.wrap (d + perS k a) = d + perS k a := IntWalk.i64_in _ (by omega)
  have t1 : (d + perS k a).tdiv (perL k) = (n : Int) := by rw [Int.tdiv_eq_ediv_of_nonneg (by omega), L.out]
  have z1 : (perL k == 0) = false := by simp; omega
  have hN : (n : Int) ≤ 100000 := by
    have := L.out
    rcases perL_cases k with e | e <;> rw [e] at this b1 <;> omega
  have s2 : IntKind.i64.wrap ((n : Int)) = (n : Int) := IntWalk.i64_in _ (by omega)
  clear hp hc q0 q1
  have hbA := (Below.refl w.heap.size w).alloc (Nat.le_refl _) (.cells #[.int .i64 k, .int .i64 a] 24)
  go_enter Tryz.func71, Tryz.ntmps71
  go_wp2_with (go_at_call 57; refine (HL.out _).mono ?_; rintro e w1 ⟨rfl, hb1⟩; have hB1 := hbA.trans (hb1.mono (by simp)); have R1 := (Row.new w 24 #[.int .i64 k, .int .i64 a]).below hb1 (by simp); have c0 : w1.cell? ⟨w.heap.size, 0, none⟩ = some (.int .i64 k) := R1.cell 0; have c1 : w1.cell? ⟨w.heap.size, 1, none⟩ = some (.int .i64 a) := R1.cell 1; have l1 := R1.lt; clear R1 hb1)
  go_ret
  exact ⟨rfl, hB1⟩
set_option maxHeartbeats 1000000 in
theorem CountR_any (k a : Int) (w : World) :
    Calls Tryz.prog 54 #[.agg #[.int .i64 k, .int .i64 a]] w fun e w' => e = .returned (.int .i64 (cntV k a)) ∧ Below w.heap.size w w' := by
  have HV := Lib.hid (fun w => pValidR_any k a w)
  have hbA := (Below.refl w.heap.size w).alloc (Nat.le_refl _) (.cells #[.int .i64 k, .int .i64 a] 24)
  cases hb : calB k a
  · have L : Hid (cntV k a = 0) := by unfold Hid cntV; rw [hb]; rfl
    have n1 : (calE k a != 0) = true := by rw [calE_ne, hb]; rfl
    clear hb
    go_enter Tryz.func54, Tryz.ntmps54
    go_wp2_with (go_at_call 53; refine (HV.out _).mono ?_; rintro e w1 ⟨rfl, hb1⟩)
    go_ret
    exact ⟨by rw [L.out]; rfl, hbA.trans (hb1.mono (by simp))⟩
  · have L : Hid (cntV k a = cntP k a) := by unfold Hid cntV; rw [hb]; rfl
    have n1 : (calE k a != 0) = false := by rw [calE_ne, hb]; rfl
    have hc := (calB_iff k a).1 hb
    obtain ⟨n, hp, hn⟩ := per_last hc
    have hcp := cnt_pos hc
    have HO := Lib.hid (fun w => ofR_any k a 84005 n w hc (by omega) (by omega) hp)
    have s1 : IntKind.i64.wrap ((n : Int) + 1) = cntP k a := by rw [hn]; exact IntWalk.i64_in _ (by omega)
    clear hb hp hn hc
    go_enter Tryz.func54, Tryz.ntmps54
    go_wp2_with (first | (go_at_call 53; refine (HV.out _).mono ?_; rintro e w1 ⟨rfl, hb1⟩; have hB1 := hbA.trans (hb1.mono (by simp)); have R1 := (Row.new w 24 #[.int .i64 k, .int .i64 a]).below hb1 (by simp); have c0 : w1.cell? ⟨w.heap.size, 0, none⟩ = some (.int .i64 k) := R1.cell 0; have c1 : w1.cell? ⟨w.heap.size, 1, none⟩ = some (.int .i64 a) := R1.cell 1; have l1 := R1.lt; clear R1 hb1) | (go_at_call 71; refine (HO.out _).mono ?_; rintro e w2 ⟨rfl, hb2⟩; have hB2 := hB1.trans (hb2.mono hB1.size)))
    go_ret
    exact ⟨by rw [L.out]; rfl, hB2⟩
set_option maxHeartbeats 1000000 in
theorem OfR_any (k a d : Int) (w : World) :
    Calls Tryz.prog 42 #[.agg #[.int .i64 k, .int .i64 a], .int .i64 d] w fun e w' => e = .returned (.tuple #[.int .i64 (ofV k a d), .int .i64 (ofE k a d)]) ∧ Below w.heap.size w w' := by
  have HV := Lib.hid (fun w => pValidR_any k a w)
  have hbA := (Below.refl w.heap.size w).alloc (Nat.le_refl _) (.cells #[.int .i64 k, .int .i64 a] 24)
  cases hb : calB k a
  · obtain ⟨L1, L2⟩ := of_no1 d hb
    have LL := Lib.hid (And.intro L1 L2)
    have n1 : (calE k a != 0) = true := by rw [calE_ne, hb]; rfl
    have n2 : Hid (calE k a = 2) := calE_no hb
    clear hb L1 L2
    go_enter Tryz.func42, Tryz.ntmps42
    go_wp2_with (go_at_call 53; refine (HV.out _).mono ?_; rintro e w1 ⟨rfl, hb1⟩; have hB1 := hbA.trans (hb1.mono (by simp)); have R1 := (Row.new w 24 #[.int .i64 k, .int .i64 a]).below hb1 (by simp); have c0 : w1.cell? ⟨w.heap.size, 0, none⟩ = some (.int .i64 k) := R1.cell 0; have c1 : w1.cell? ⟨w.heap.size, 1, none⟩ = some (.int .i64 a) := R1.cell 1; have l1 := R1.lt; clear R1 hb1)
    exact bodyPost_ret (v := .tuple #[.int .i64 0, .int .i64 (calE k a)]) (by simp [results, Tryz.results42, go_sem]) rfl ⟨by rw [LL.out.1, LL.out.2, n2.out], hB1⟩
  have n1 : (calE k a != 0) = false := by rw [calE_ne, hb]; rfl
  have HI := Lib.hid (fun w => inDays_any d w)
  cases hi : (decide (0 ≤ d) && decide (d ≤ 84005))
  · rw [hi] at HI
    have LL := Lib.hid (of_no2 (k := k) (a := a) (d := d) (by simp at hi; omega))
    clear hb hi
    go_enter Tryz.func42, Tryz.ntmps42
    go_wp2_with (first | (go_at_call 53; refine (HV.out _).mono ?_; rintro e w1 ⟨rfl, hb1⟩; have hB1 := hbA.trans (hb1.mono (by simp)); have R1 := (Row.new w 24 #[.int .i64 k, .int .i64 a]).below hb1 (by simp); have c0 : w1.cell? ⟨w.heap.size, 0, none⟩ = some (.int .i64 k) := R1.cell 0; have c1 : w1.cell? ⟨w.heap.size, 1, none⟩ = some (.int .i64 a) := R1.cell 1; have l1 := R1.lt; clear R1 hb1) | (go_at_call 70; refine (HI.out _).mono ?_; rintro e w2 ⟨rfl, q, rfl⟩))
    exact bodyPost_ret (v := .tuple #[.int .i64 0, .int .i64 2]) (by simp [results, Tryz.results42, go_sem]) rfl ⟨by rw [LL.out.1, LL.out.2], Below.draws hB1 q⟩
  rw [hi] at HI
  simp at hi
  have hc := (calB_iff k a).1 hb
  obtain ⟨n, hn, hp⟩ := per_ex hc (d := d) (by omega) (by omega)
  have LL := Lib.hid (of_yes hc (by omega) (by omega) hp)
  have HO := Lib.hid (fun w => ofR_any k a d n w hc (by omega) (by omega) hp)
  clear hb hc hp hi
  go_enter Tryz.func42, Tryz.ntmps42
  go_wp2_with (first | (go_at_call 53; refine (HV.out _).mono ?_; rintro e w1 ⟨rfl, hb1⟩; have hB1 := hbA.trans (hb1.mono (by simp)); have R1 := (Row.new w 24 #[.int .i64 k, .int .i64 a]).below hb1 (by simp); have c0 : w1.cell? ⟨w.heap.size, 0, none⟩ = some (.int .i64 k) := R1.cell 0; have c1 : w1.cell? ⟨w.heap.size, 1, none⟩ = some (.int .i64 a) := R1.cell 1; have l1 := R1.lt; clear R1 hb1) | (go_at_call 70; refine (HI.out _).mono ?_; rintro e w2 ⟨rfl, q, rfl⟩) | (go_at_call 71; refine (HO.out _).mono ?_; rintro e w3 ⟨rfl, hb3⟩; have hB3 := (Below.draws hB1 q).trans (hb3.mono (Below.draws hB1 q).size)))
  exact bodyPost_ret (v := .tuple #[.int .i64 n, .int .i64 0]) (by simp [results, Tryz.results42, go_sem]) rfl ⟨by rw [LL.out.1, LL.out.2], hB3⟩
end Go.Proofs.YtaafihdegnaokaaGreatDoor
/- Contracts of package period: Span. -/
namespace Go.Proofs.YtaafihdegnaokaaGreatDoor
open Go.RowKit

/-- two rows laid at the call's start -/
structure Two (w w1 : World) (S T : TypeId) (a b c d : Value) : Prop where
  r1 : Row w1 w.heap.size S #[a, b]
  r2 : Row w1 (w.heap.size + 1) T #[c, d]
  bl : Below w.heap.size w w1
theorem Two.new (w : World) (S T : TypeId) (a b c d : Value) : Two w ((w.alloc (.cells #[a, b] S)).alloc (.cells #[c, d] T)) S T a b c d :=
  ⟨(Row.new w S #[a, b]).alloc _, by have := Row.new (w.alloc (.cells #[a, b] S)) T #[c, d]; simpa using this, ((Below.refl _ _).alloc (Nat.le_refl _) _).alloc (by simp) _⟩
theorem Two.below {w w1 w2 : World} {S T : TypeId} {a b c d : Value} (h : Two w w1 S T a b c d) (hb : Below w1.heap.size w1 w2) : Two w w2 S T a b c d :=
  ⟨h.r1.below hb h.r1.lt, h.r2.below hb h.r2.lt, h.bl.trans (hb.mono h.bl.size)⟩
theorem Two.facts {w w1 : World} {S T : TypeId} {a b c d : Value} (h : Two w w1 S T a b c d) :
    (w1.cell? ⟨w.heap.size, 0, none⟩ = some a ∧ w1.cell? ⟨w.heap.size, 1, none⟩ = some b) ∧ (w1.cell? ⟨w.heap.size + 1, 0, none⟩ = some c ∧ w1.cell? ⟨w.heap.size + 1, 1, none⟩ = some d) ∧
      (w1.frozen? ⟨w.heap.size + 1, 0, none⟩ = false ∧ w1.frozen? ⟨w.heap.size + 1, 1, none⟩ = false) ∧ w.heap.size + 1 < w1.heap.size :=
  ⟨⟨h.r1.cell 0, h.r1.cell 1⟩, ⟨h.r2.cell 0, h.r2.cell 1⟩, ⟨h.r2.frozen 0, h.r2.frozen 1⟩, h.r2.lt⟩
theorem Two.set {w w1 : World} {S T : TypeId} {a b c d : Value} (h : Two w w1 S T a b c d) (u v : Value) : Below w.heap.size w ((w1.setCell ⟨w.heap.size + 1, 0, none⟩ u).setCell ⟨w.heap.size + 1, 1, none⟩ v) :=
  (h.bl.setCell (by simp) _).setCell (by simp) _
set_option maxHeartbeats 2000000 in
theorem Span_no (k a n : Int) (w : World) (hT : LenT w) (h : ¬ (CalOk k a ∧ 0 ≤ n ∧ n < cntP k a)) :
    Calls Tryz.prog 26 #[.agg #[.int .i64 k, .int .i64 a], .int .i64 n] w fun e w' => e = .returned (.tuple #[.agg #[.int .i64 (spLo k a n), .int .i64 (spHi k a n)], .int .i64 (spE k a n)]) ∧ Below w.heap.size w w' := by
  have HV := Lib.hid (fun w => pValid_any k a w)
  have HC := Lib.hid (fun w h => Count_any k a w h)
  have LL := Lib.hid (spE_two h)
  have HW := Lib.hid (Two.new w 24 37 (.int .i64 k) (.int .i64 a) (.int .i64 0) (.int .i64 0))
  cases hb : calB k a
  · have n1 : (calE k a != 0) = true := by rw [calE_ne, hb]; rfl
    have n2 : Hid (calE k a = 2) := calE_no hb
    clear hb h
    go_enter Tryz.func26, Tryz.ntmps26
    go_wp2_with (go_at_call 43; refine (HV.out _).mono ?_; rintro e w1 ⟨rfl, hb1⟩; have T1 := HW.out.below hb1; obtain ⟨⟨c0, c1⟩, ⟨d0, d1⟩, ⟨f0, f1⟩, l1⟩ := T1.facts; have HT1 := Lib.hid T1; clear T1 hb1)
    exact bodyPost_ret (v := .tuple #[.agg #[.int .i64 0, .int .i64 0], .int .i64 (calE k a)]) (by simp [results, Tryz.results26, go_sem, d0, d1]) rfl ⟨by rw [LL.out.1, LL.out.2.1, LL.out.2.2, n2.out], HT1.out.set _ _⟩
  have n1 : (calE k a != 0) = false := by rw [calE_ne, hb]; rfl
  have hc := (calB_iff k a).1 hb
  have hcv : cntV k a = cntP k a := by unfold cntV; rw [hb]; rfl
  by_cases h0 : n < 0
  · have g0 : decide (n < 0) = true := decide_eq_true h0
    clear hb h hc hcv
    go_enter Tryz.func26, Tryz.ntmps26
    go_wp2_with (go_at_call 43; refine (HV.out _).mono ?_; rintro e w1 ⟨rfl, hb1⟩; have T1 := HW.out.below hb1; obtain ⟨⟨c0, c1⟩, ⟨d0, d1⟩, ⟨f0, f1⟩, l1⟩ := T1.facts; have HT1 := Lib.hid T1; clear T1 hb1)
    exact bodyPost_ret (v := .tuple #[.agg #[.int .i64 0, .int .i64 0], .int .i64 2]) (by simp [results, Tryz.results26, go_sem, d0, d1]) rfl ⟨by rw [LL.out.1, LL.out.2.1, LL.out.2.2], HT1.out.set _ _⟩
  · have g0 : decide (n < 0) = false := decide_eq_false h0
    have g1 : decide (cntV k a ≤ n) = true := decide_eq_true (by rw [hcv]; rcases Int.lt_or_le n (cntP k a) with q | q; · exact absurd ⟨hc, by omega, q⟩ h
                                                                 · exact q)
    clear hb h hc hcv
    go_enter Tryz.func26, Tryz.ntmps26
    go_wp2_with (first | (go_at_call 43; refine (HV.out _).mono ?_; rintro e w1 ⟨rfl, hb1⟩; have T1 := HW.out.below hb1; obtain ⟨⟨c0, c1⟩, ⟨d0, d1⟩, ⟨f0, f1⟩, l1⟩ := T1.facts; have HT1 := Lib.hid T1; clear T1 hb1 d0 d1 f0 f1) | (go_at_call 44; refine (HC.out _ (hT.below HT1.out.bl)).mono ?_; rintro e w2 ⟨rfl, hb2⟩; have T2 := HT1.out.below hb2; clear c0 c1; obtain ⟨⟨c0, c1⟩, ⟨d0, d1⟩, ⟨f0, f1⟩, l2⟩ := T2.facts; have HT2 := Lib.hid T2; clear T2 hb2))
    exact bodyPost_ret (v := .tuple #[.agg #[.int .i64 0, .int .i64 0], .int .i64 2]) (by simp [results, Tryz.results26, go_sem, d0, d1]) rfl ⟨by rw [LL.out.1, LL.out.2.1, LL.out.2.2], HT2.out.set _ _⟩
end Go.Proofs.YtaafihdegnaokaaGreatDoor
/- Contracts of package period: Span. -/
namespace Go.Proofs.YtaafihdegnaokaaGreatDoor
open Go.RowKit

/-- the span that has been returned -/
def SpP (k a n : Int) (w : World) (e : Ending) (w' : World) : Prop := e = .returned (.tuple #[.agg #[.int .i64 (spLo k a n), .int .i64 (spHi k a n)], .int .i64 (spE k a n)]) ∧ Below w.heap.size w w'
set_option maxHeartbeats 4000000 in
theorem Span_ok (k a : Int) (N : Nat) (w : World) (hT : LenT w) (hc : CalOk k a) (hN : (N : Int) < cntP k a) :
    Calls Tryz.prog 26 #[.agg #[.int .i64 k, .int .i64 a], .int .i64 N] w (SpP k a N w) := by
  have HV := Lib.hid (fun w => pValid_any k a w)
  have HC := Lib.hid (fun w h => Count_any k a w h)
  have HW := Lib.hid (Two.new w 24 37 (.int .i64 k) (.int .i64 a) (.int .i64 0) (.int .i64 0))
  have hb := (calB_iff k a).2 hc
  have n1 : (calE k a != 0) = false := by rw [calE_ne, hb]; rfl
  have hcv : cntV k a = cntP k a := by unfold cntV; rw [hb]; rfl
  obtain ⟨L0, L1, L2⟩ := sp_ok hc hN
  have g0 : decide ((N : Int) < 0) = false := decide_eq_false (by omega)
  have g1 : decide (cntV k a ≤ (N : Int)) = false := decide_eq_false (by rw [hcv]; omega)
  have hcp := cnt_pos hc
  have k0 := hc.k0
  have k1 := hc.k1
  by_cases q0 : k = 0
  · subst q0
    have hN' : N < 2760 := by have : cntP 0 a = 2760 := rfl; omega
    obtain ⟨e1, e2⟩ := span_mon a hN'
    have HM := Lib.hid (fun w h => month_any N w h hN')
    have LL : Hid (spLo 0 a N = fm N ∧ spHi 0 a N = fm N + lm N - 1 ∧ spE 0 a N = 0) := ⟨L1.trans e1, L2.trans e2, L0⟩
    clear hb hcv L0 L1 L2 e1 e2 hcp hc k0 k1 hN hN'
    go_enter Tryz.func26, Tryz.ntmps26
    go_wp2_with (first | (go_at_call 43; refine (HV.out _).mono ?_; rintro e w1 ⟨rfl, hb1⟩; have T1 := HW.out.below hb1; obtain ⟨⟨c0, c1⟩, ⟨d0, d1⟩, ⟨f0, f1⟩, l1⟩ := T1.facts; have HT1 := Lib.hid T1; clear T1 hb1 d0 d1 f0 f1) | (go_at_call 44; refine (HC.out _ (hT.below HT1.out.bl)).mono ?_; rintro e w2 ⟨rfl, hb2⟩; have T2 := HT1.out.below hb2; clear c0 c1; obtain ⟨⟨c0, c1⟩, ⟨d0, d1⟩, ⟨f0, f1⟩, l2⟩ := T2.facts; have HT2 := Lib.hid T2; clear T2 hb2 d0 d1 f0 f1) | (go_at_call 45; refine (HM.out _ (hT.below HT2.out.bl)).mono ?_; rintro e w3 ⟨rfl, hb3⟩; have T3 := HT2.out.below hb3; clear c0 c1; obtain ⟨⟨c0, c1⟩, ⟨d0, d1⟩, ⟨f0, f1⟩, l3⟩ := T3.facts; have HT3 := Lib.hid T3; clear T3 hb3))
    exact bodyPost_ret (v := .tuple #[.agg #[.int .i64 (fm N), .int .i64 (fm N + lm N - 1)], .int .i64 0]) (by simp [results, Tryz.results26, go_sem, d0, d1]) rfl ⟨by rw [LL.out.1, LL.out.2.1, LL.out.2.2], HT3.out.set _ _⟩
  by_cases q1 : k = 1
  · subst q1
    have hN' : N < 5520 := by have : cntP 1 a = 5520 := rfl; omega
    have hh : N / 2 < 2760 := by omega
    have HM : Hid (∀ w, LenT w → Calls Tryz.prog 45 #[.int .i64 ((N : Int) / 2)] w fun e w' => e = .returned (.agg #[.int .i64 (fm (N / 2)), .int .i64 (fm (N / 2) + lm (N / 2) - 1)]) ∧ Below w.heap.size w w') := fun w h => by
      have := month_any (N / 2) w h hh
      rw [show (((N / 2 : Nat)) : Int) = (N : Int) / 2 by omega] at this
      exact this
    have b0 := fm_mono 0 (N / 2)
    have b1 := fm_mono (N / 2) (2760 - N / 2)
    rw [fm_0, Nat.zero_add] at b0
    rw [show N / 2 + (2760 - N / 2) = 2760 by omega, fm_2760] at b1
    have s1 : IntKind.i64.wrap (fm (N / 2) + 15) = fm (N / 2) + 15 := IntWalk.i64_in _ (by omega)
    have s2 : IntKind.i64.wrap (fm (N / 2) + 15 - 1) = fm (N / 2) + 15 - 1 := IntWalk.i64_in _ (by omega)
    rcases span_half a hN' with ⟨e, e1, e2⟩ | ⟨e, e1, e2⟩
    · have g2 : ((N : Int) % 2 == 0) = true := by simp; omega
      have LL : Hid (spLo 1 a N = fm (N / 2) ∧ spHi 1 a N = fm (N / 2) + 15 - 1 ∧ spE 1 a N = 0) := ⟨L1.trans e1, L2.trans e2, L0⟩
      clear hb hcv L0 L1 L2 e1 e2 hcp hc k0 k1 hN hN' q0 e b0 b1
      obtain ⟨F, hF⟩ : ∃ F, fm (N / 2) = F := ⟨_, rfl⟩
      obtain ⟨M, hM⟩ : ∃ M, lm (N / 2) = M := ⟨_, rfl⟩
      rw [hF] at LL HM s1 s2
      rw [hM] at HM
      clear hF hM
      go_enter Tryz.func26, Tryz.ntmps26
      go_wp2_with (first | (go_at_call 43; refine (HV.out _).mono ?_; rintro e w1 ⟨rfl, hb1⟩; have T1 := HW.out.below hb1; obtain ⟨⟨c0, c1⟩, ⟨d0, d1⟩, ⟨f0, f1⟩, l1⟩ := T1.facts; have HT1 := Lib.hid T1; clear T1 hb1 d0 d1 f0 f1) | (go_at_call 44; refine (HC.out _ (hT.below HT1.out.bl)).mono ?_; rintro e w2 ⟨rfl, hb2⟩; have T2 := HT1.out.below hb2; clear c0 c1; obtain ⟨⟨c0, c1⟩, ⟨d0, d1⟩, ⟨f0, f1⟩, l2⟩ := T2.facts; have HT2 := Lib.hid T2; clear T2 hb2 d0 d1 f0 f1) | (go_at_call 45; refine (HM.out _ (hT.below HT2.out.bl)).mono ?_; rintro e w3 ⟨rfl, hb3⟩; have T3 := HT2.out.below hb3; clear c0 c1; obtain ⟨⟨c0, c1⟩, ⟨d0, d1⟩, ⟨f0, f1⟩, l3⟩ := T3.facts; have HT3 := Lib.hid T3; clear T3 hb3))
      exact bodyPost_ret (v := .tuple #[.agg #[.int .i64 F, .int .i64 (F + 15 - 1)], .int .i64 0]) (by simp [results, Tryz.results26, go_sem, d0, d1, l3]) rfl ⟨by rw [LL.out.1, LL.out.2.1, LL.out.2.2], (HT3.out.set _ _).alloc (HT3.out.set _ _).size _⟩
    · have g2 : ((N : Int) % 2 == 0) = false := by simp; omega
      have LL : Hid (spLo 1 a N = fm (N / 2) + 15 ∧ spHi 1 a N = fm (N / 2) + lm (N / 2) - 1 ∧ spE 1 a N = 0) := ⟨L1.trans e1, L2.trans e2, L0⟩
      clear hb hcv L0 L1 L2 e1 e2 hcp hc k0 k1 hN hN' q0 e b0 b1
      obtain ⟨F, hF⟩ : ∃ F, fm (N / 2) = F := ⟨_, rfl⟩
      obtain ⟨M, hM⟩ : ∃ M, lm (N / 2) = M := ⟨_, rfl⟩
      rw [hF] at LL HM s1 s2
      rw [hM] at LL HM
      clear hF hM
      go_enter Tryz.func26, Tryz.ntmps26
      go_wp2_with (first | (go_at_call 43; refine (HV.out _).mono ?_; rintro e w1 ⟨rfl, hb1⟩; have T1 := HW.out.below hb1; obtain ⟨⟨c0, c1⟩, ⟨d0, d1⟩, ⟨f0, f1⟩, l1⟩ := T1.facts; have HT1 := Lib.hid T1; clear T1 hb1 d0 d1 f0 f1) | (go_at_call 44; refine (HC.out _ (hT.below HT1.out.bl)).mono ?_; rintro e w2 ⟨rfl, hb2⟩; have T2 := HT1.out.below hb2; clear c0 c1; obtain ⟨⟨c0, c1⟩, ⟨d0, d1⟩, ⟨f0, f1⟩, l2⟩ := T2.facts; have HT2 := Lib.hid T2; clear T2 hb2 d0 d1 f0 f1) | (go_at_call 45; refine (HM.out _ (hT.below HT2.out.bl)).mono ?_; rintro e w3 ⟨rfl, hb3⟩; have T3 := HT2.out.below hb3; clear c0 c1; obtain ⟨⟨c0, c1⟩, ⟨d0, d1⟩, ⟨f0, f1⟩, l3⟩ := T3.facts; have HT3 := Lib.hid T3; clear T3 hb3))
      exact bodyPost_ret (v := .tuple #[.agg #[.int .i64 (F + 15), .int .i64 (F + M - 1)], .int .i64 0]) (by simp [results, Tryz.results26, go_sem, d0, d1, l3]) rfl ⟨by rw [LL.out.1, LL.out.2.1, LL.out.2.2], (HT3.out.set _ _).alloc (HT3.out.set _ _).size _⟩
  obtain ⟨e1, e2⟩ := span_days q0 q1 (a := a) N
  have HK := Lib.hid (fun w => weeks_any k a w hc (by omega))
  have b1 := perS_le hc
  have b2 := perL_pos k
  have m0 : (k == 0) = false := by simpa using q0
  have m1 : (k == 1) = false := by simpa using q1
  have hmul : 0 ≤ (N : Int) * perL k ∧ (N : Int) * perL k ≤ 13000 * 14 := by
    constructor
    · exact Int.mul_nonneg (by omega) (by omega)
    · exact Int.mul_le_mul (by omega) (by omega) (by omega) (by omega)
  have LL : Hid (spLo k a N = max (N * perL k - perS k a) 0 ∧ spHi k a N = min (N * perL k - perS k a + perL k - 1) 84005 ∧ spE k a N = 0) := ⟨L1.trans e1, L2.trans e2, L0⟩
  have s1 : IntKind.i64.wrap ((N : Int) * perL k) = (N : Int) * perL k := IntWalk.i64_in _ (by omega)
  have s2 : IntKind.i64.wrap ((N : Int) * perL k - perS k a) = (N : Int) * perL k - perS k a := IntWalk.i64_in _ (by omega)
  have s3 : IntKind.i64.wrap ((N : Int) * perL k - perS k a + perL k) = (N : Int) * perL k - perS k a + perL k := IntWalk.i64_in _ (by omega)
  have s4 : IntKind.i64.wrap ((N : Int) * perL k - perS k a + perL k - 1) = (N : Int) * perL k - perS k a + perL k - 1 := IntWalk.i64_in _ (by omega)
  clear hb hcv L0 L1 L2 e1 e2 hcp hc k0 k1 hN q0 q1 b1 b2 hmul
  obtain ⟨X, hX⟩ : ∃ X, (N : Int) * perL k - perS k a = X := ⟨_, rfl⟩
  rw [hX] at LL s2 s3 s4
  go_enter Tryz.func26, Tryz.ntmps26
  go_wp2_with (first | (go_at_call 43; refine (HV.out _).mono ?_; rintro e w1 ⟨rfl, hb1⟩; have T1 := HW.out.below hb1; obtain ⟨⟨c0, c1⟩, ⟨d0, d1⟩, ⟨f0, f1⟩, l1⟩ := T1.facts; have HT1 := Lib.hid T1; clear T1 hb1 d0 d1 f0 f1) | (go_at_call 44; refine (HC.out _ (hT.below HT1.out.bl)).mono ?_; rintro e w2 ⟨rfl, hb2⟩; have T2 := HT1.out.below hb2; clear c0 c1; obtain ⟨⟨c0, c1⟩, ⟨d0, d1⟩, ⟨f0, f1⟩, l2⟩ := T2.facts; have HT2 := Lib.hid T2; clear T2 hb2 d0 d1 f0 f1) | (go_at_call 46; refine (HK.out _).mono ?_; rintro e w3 ⟨rfl, hb3⟩; have T3 := HT2.out.below hb3; clear c0 c1; obtain ⟨⟨c0, c1⟩, ⟨d0, d1⟩, ⟨f0, f1⟩, l3⟩ := T3.facts; have HT3 := Lib.hid T3; clear T3 hb3))
  all_goals exact bodyPost_ret (v := .tuple #[.agg #[.int .i64 (max X 0), .int .i64 (min (X + perL k - 1) 84005)], .int .i64 0]) (by simp [results, Tryz.results26, go_sem, d0, d1] <;> omega) rfl ⟨by rw [LL.out.1, LL.out.2.1, LL.out.2.2], HT3.out.set _ _⟩
theorem Span_any (k a n : Int) (w : World) (hT : LenT w) :
    Calls Tryz.prog 26 #[.agg #[.int .i64 k, .int .i64 a], .int .i64 n] w (SpP k a n w) := by
  by_cases h : CalOk k a ∧ 0 ≤ n ∧ n < cntP k a
  · obtain ⟨h1, h2, h3⟩ := h
    obtain ⟨N, rfl⟩ := Int.eq_ofNat_of_zero_le h2
    exact Span_ok k a N w hT h1 h3
  · exact Span_no k a n w hT h
end Go.Proofs.YtaafihdegnaokaaGreatDoor
/- Contracts of the reference's pay calendars: Span. -/
namespace Go.Proofs.YtaafihdegnaokaaGreatDoor
open Go.RowKit

set_option maxHeartbeats 2000000 in
theorem SpanR_no (k a n : Int) (w : World) (h : ¬ (CalOk k a ∧ 0 ≤ n ∧ n < cntP k a)) :
    Calls Tryz.prog 30 #[.agg #[.int .i64 k, .int .i64 a], .int .i64 n] w (SpP k a n w) := by
  have HV := Lib.hid (fun w => pValidR_any k a w)
  have HC := Lib.hid (fun w => CountR_any k a w)
  have LL := Lib.hid (spE_two h)
  have HW := Lib.hid (Two.new w 24 37 (.int .i64 k) (.int .i64 a) (.int .i64 0) (.int .i64 0))
  cases hb : calB k a
  · have n1 : (calE k a != 0) = true := by rw [calE_ne, hb]; rfl
    have n2 : Hid (calE k a = 2) := calE_no hb
    clear hb h
    go_enter Tryz.func30, Tryz.ntmps30
    go_wp2_with (go_at_call 53; refine (HV.out _).mono ?_; rintro e w1 ⟨rfl, hb1⟩; have T1 := HW.out.below hb1; obtain ⟨⟨c0, c1⟩, ⟨d0, d1⟩, ⟨f0, f1⟩, l1⟩ := T1.facts; have HT1 := Lib.hid T1; clear T1 hb1)
    exact bodyPost_ret (v := .tuple #[.agg #[.int .i64 0, .int .i64 0], .int .i64 (calE k a)]) (by simp [results, Tryz.results30, go_sem, d0, d1]) rfl ⟨by rw [LL.out.1, LL.out.2.1, LL.out.2.2, n2.out], HT1.out.set _ _⟩
  have n1 : (calE k a != 0) = false := by rw [calE_ne, hb]; rfl
  have hc := (calB_iff k a).1 hb
  have hcv : cntV k a = cntP k a := by unfold cntV; rw [hb]; rfl
  by_cases h0 : n < 0
  · have g0 : decide (n < 0) = true := decide_eq_true h0
    clear hb h hc hcv
    go_enter Tryz.func30, Tryz.ntmps30
    go_wp2_with (go_at_call 53; refine (HV.out _).mono ?_; rintro e w1 ⟨rfl, hb1⟩; have T1 := HW.out.below hb1; obtain ⟨⟨c0, c1⟩, ⟨d0, d1⟩, ⟨f0, f1⟩, l1⟩ := T1.facts; have HT1 := Lib.hid T1; clear T1 hb1)
    exact bodyPost_ret (v := .tuple #[.agg #[.int .i64 0, .int .i64 0], .int .i64 2]) (by simp [results, Tryz.results30, go_sem, d0, d1]) rfl ⟨by rw [LL.out.1, LL.out.2.1, LL.out.2.2], HT1.out.set _ _⟩
  · have g0 : decide (n < 0) = false := decide_eq_false h0
    have g1 : decide (cntV k a ≤ n) = true := decide_eq_true (by
      rw [hcv]
      rcases Int.lt_or_le n (cntP k a) with q | q
      · exact absurd ⟨hc, by omega, q⟩ h
      · exact q)
    clear hb h hc hcv
    go_enter Tryz.func30, Tryz.ntmps30
    go_wp2_with (first | (go_at_call 53; refine (HV.out _).mono ?_; rintro e w1 ⟨rfl, hb1⟩; have T1 := HW.out.below hb1; obtain ⟨⟨c0, c1⟩, ⟨d0, d1⟩, ⟨f0, f1⟩, l1⟩ := T1.facts; have HT1 := Lib.hid T1; clear T1 hb1) | (go_at_call 54; refine (HC.out _).mono ?_; rintro e w2 ⟨rfl, hb2⟩; have T2 := HT1.out.below hb2; clear c0 c1 d0 d1 f0 f1; obtain ⟨⟨c0, c1⟩, ⟨d0, d1⟩, ⟨f0, f1⟩, l2⟩ := T2.facts; have HT2 := Lib.hid T2; clear T2 hb2))
    exact bodyPost_ret (v := .tuple #[.agg #[.int .i64 0, .int .i64 0], .int .i64 2]) (by simp [results, Tryz.results30, go_sem, d0, d1]) rfl ⟨by rw [LL.out.1, LL.out.2.1, LL.out.2.2], HT2.out.set _ _⟩
set_option maxHeartbeats 4000000 in
theorem SpanR_ok (k a : Int) (N : Nat) (w : World) (hc : CalOk k a) (hN : (N : Int) < cntP k a) :
    Calls Tryz.prog 30 #[.agg #[.int .i64 k, .int .i64 a], .int .i64 N] w (SpP k a N w) := by
  have HV := Lib.hid (fun w => pValidR_any k a w)
  have HC := Lib.hid (fun w => CountR_any k a w)
  have HW := Lib.hid (Two.new w 24 37 (.int .i64 k) (.int .i64 a) (.int .i64 0) (.int .i64 0))
  have hb := (calB_iff k a).2 hc
  have n1 : (calE k a != 0) = false := by rw [calE_ne, hb]; rfl
  have hcv : cntV k a = cntP k a := by unfold cntV; rw [hb]; rfl
  obtain ⟨L0, L1, L2⟩ := sp_ok hc hN
  have g0 : decide ((N : Int) < 0) = false := decide_eq_false (by omega)
  have g1 : decide (cntV k a ≤ (N : Int)) = false := decide_eq_false (by rw [hcv]; omega)
  have hcp := cnt_pos hc
  have k0 := hc.k0
  have k1 := hc.k1
  by_cases q0 : k = 0
  · subst q0
    have hN' : N < 2760 := by have : cntP 0 a = 2760 := rfl; omega
    obtain ⟨e1, e2⟩ := span_mon a hN'
    have HF := Lib.hid (fun w => FirstR_any N w hN')
    have HL := Lib.hid (fun w => LengthR_any N w hN')
    have b0 := fm_mono 0 N
    have b1 := fm_mono (N + 1) (2760 - (N + 1))
    rw [fm_0, Nat.zero_add] at b0
    rw [show N + 1 + (2760 - (N + 1)) = 2760 by omega, fm_2760, fm_step] at b1
    have b2 := lm_pos N
    have s1 : IntKind.i64.wrap (fm N + lm N) = fm N + lm N := IntWalk.i64_in _ (by omega)
    have s2 : IntKind.i64.wrap (fm N + lm N - 1) = fm N + lm N - 1 := IntWalk.i64_in _ (by omega)
    obtain ⟨G, hG⟩ : ∃ F, fm N = F := ⟨_, rfl⟩
    obtain ⟨M, hM⟩ : ∃ M, lm N = M := ⟨_, rfl⟩
    have r0 : 0 ≤ G := by omega
    have r1 : G + M - 1 ≤ 84005 := by omega
    have LL : Hid (spLo 0 a N = G ∧ spHi 0 a N = G + M - 1 ∧ spE 0 a N = 0) := ⟨(L1.trans e1).trans hG, (L2.trans e2).trans (by omega), L0⟩
    rw [hG] at HF s1 s2
    rw [hM] at HL s1 s2
    clear hb hcv L0 L1 L2 e1 e2 hcp hc k0 k1 hN hN' b0 b1 b2 hG hM
    go_enter Tryz.func30, Tryz.ntmps30
    go_wp2_with (first | (go_at_call 53; refine (HV.out _).mono ?_; rintro e w1 ⟨rfl, hb1⟩; have T1 := HW.out.below hb1; obtain ⟨⟨c0, c1⟩, ⟨d0, d1⟩, ⟨f0, f1⟩, l1⟩ := T1.facts; have HT1 := Lib.hid T1; clear T1 hb1) | (go_at_call 54; refine (HC.out _).mono ?_; rintro e w2 ⟨rfl, hb2⟩; have T2 := HT1.out.below hb2; clear c0 c1 d0 d1 f0 f1; obtain ⟨⟨c0, c1⟩, ⟨d0, d1⟩, ⟨f0, f1⟩, l2⟩ := T2.facts; have HT2 := Lib.hid T2; clear T2 hb2) | (go_at_call 55; refine (HF.out _).mono ?_; rintro e w3 ⟨rfl, q3, rfl⟩) | (go_at_call 56; refine (HL.out _).mono ?_; rintro e w4 ⟨rfl, q4, rfl⟩))
    all_goals exact bodyPost_ret (v := .tuple #[.agg #[.int .i64 (G), .int .i64 (G + M - 1)], .int .i64 0]) (by simp [results, Tryz.results30, go_sem, d0, d1] <;> omega) rfl ⟨by rw [LL.out.1, LL.out.2.1, LL.out.2.2], Two.set (HT2.out.below (Below.draws (Below.refl _ _) (q3 + q4))) _ _⟩
  by_cases q1 : k = 1
  · subst q1
    have hN' : N < 5520 := by have : cntP 1 a = 5520 := rfl; omega
    have hh : N / 2 < 2760 := by omega
    have HF : Hid (∀ w, Calls Tryz.prog 55 #[.int .i64 ((N : Int) / 2)] w (Qt w (.tuple #[.int .i64 (fm (N / 2)), .bool true]))) := fun w => by
      have := FirstR_any (N / 2) w hh
      rw [show (((N / 2 : Nat)) : Int) = (N : Int) / 2 by omega] at this
      exact this
    have HL : Hid (∀ w, Calls Tryz.prog 56 #[.int .i64 ((N : Int) / 2)] w (Qt w (.int .i64 (lm (N / 2))))) := fun w => by
      have := LengthR_any (N / 2) w hh
      rw [show (((N / 2 : Nat)) : Int) = (N : Int) / 2 by omega] at this
      exact this
    have b0 := fm_mono 0 (N / 2)
    have b1 := fm_mono (N / 2 + 1) (2760 - (N / 2 + 1))
    rw [fm_0, Nat.zero_add] at b0
    rw [show N / 2 + 1 + (2760 - (N / 2 + 1)) = 2760 by omega, fm_2760, fm_step] at b1
    have b2 := lm_pos (N / 2)
    have s1 : IntKind.i64.wrap (fm (N / 2) + 15) = fm (N / 2) + 15 := IntWalk.i64_in _ (by omega)
    have s2 : IntKind.i64.wrap (fm (N / 2) + 14) = fm (N / 2) + 14 := IntWalk.i64_in _ (by omega)
    have s3 : IntKind.i64.wrap (fm (N / 2) + lm (N / 2)) = fm (N / 2) + lm (N / 2) := IntWalk.i64_in _ (by omega)
    have s4 : IntKind.i64.wrap (fm (N / 2) + lm (N / 2) - 1) = fm (N / 2) + lm (N / 2) - 1 := IntWalk.i64_in _ (by omega)
    obtain ⟨G, hG⟩ : ∃ F, fm (N / 2) = F := ⟨_, rfl⟩
    obtain ⟨M, hM⟩ : ∃ M, lm (N / 2) = M := ⟨_, rfl⟩
    have r0 : 0 ≤ G := by omega
    have r1 : G + 14 ≤ 84005 := by omega
    have r2 : G + M - 1 ≤ 84005 := by omega
    have r3 : 0 ≤ G + 15 := by omega
    rcases span_half a hN' with ⟨e, e1, e2⟩ | ⟨e, e1, e2⟩
    · have g2 : ((N : Int) % 2 == 1) = false := by simp; omega
      have LL : Hid (spLo 1 a N = G ∧ spHi 1 a N = G + 14 ∧ spE 1 a N = 0) := ⟨(L1.trans e1).trans hG, (L2.trans e2).trans (by omega), L0⟩
      rw [hG] at HF s1 s2 s3 s4
      rw [hM] at HL s3 s4
      clear hb hcv L0 L1 L2 e1 e2 hcp hc k0 k1 hN hN' q0 e b0 b1 b2 hG hM
      go_enter Tryz.func30, Tryz.ntmps30
      go_wp2_with (first | (go_at_call 53; refine (HV.out _).mono ?_; rintro e w1 ⟨rfl, hb1⟩; have T1 := HW.out.below hb1; obtain ⟨⟨c0, c1⟩, ⟨d0, d1⟩, ⟨f0, f1⟩, l1⟩ := T1.facts; have HT1 := Lib.hid T1; clear T1 hb1) | (go_at_call 54; refine (HC.out _).mono ?_; rintro e w2 ⟨rfl, hb2⟩; have T2 := HT1.out.below hb2; clear c0 c1 d0 d1 f0 f1; obtain ⟨⟨c0, c1⟩, ⟨d0, d1⟩, ⟨f0, f1⟩, l2⟩ := T2.facts; have HT2 := Lib.hid T2; clear T2 hb2) | (go_at_call 55; refine (HF.out _).mono ?_; rintro e w3 ⟨rfl, q3, rfl⟩) | (go_at_call 56; refine (HL.out _).mono ?_; rintro e w4 ⟨rfl, q4, rfl⟩))
      all_goals exact bodyPost_ret (v := .tuple #[.agg #[.int .i64 (G), .int .i64 (G + 14)], .int .i64 0]) (by simp [results, Tryz.results30, go_sem, d0, d1] <;> omega) rfl ⟨by rw [LL.out.1, LL.out.2.1, LL.out.2.2], Two.set (HT2.out.below (Below.draws (Below.refl _ _) q3)) _ _⟩
    · have g2 : ((N : Int) % 2 == 1) = true := by simp; omega
      have LL : Hid (spLo 1 a N = G + 15 ∧ spHi 1 a N = G + M - 1 ∧ spE 1 a N = 0) := ⟨(L1.trans e1).trans (by omega), (L2.trans e2).trans (by omega), L0⟩
      rw [hG] at HF s1 s2 s3 s4
      rw [hM] at HL s3 s4
      clear hb hcv L0 L1 L2 e1 e2 hcp hc k0 k1 hN hN' q0 e b0 b1 b2 hG hM
      go_enter Tryz.func30, Tryz.ntmps30
      go_wp2_with (first | (go_at_call 53; refine (HV.out _).mono ?_; rintro e w1 ⟨rfl, hb1⟩; have T1 := HW.out.below hb1; obtain ⟨⟨c0, c1⟩, ⟨d0, d1⟩, ⟨f0, f1⟩, l1⟩ := T1.facts; have HT1 := Lib.hid T1; clear T1 hb1) | (go_at_call 54; refine (HC.out _).mono ?_; rintro e w2 ⟨rfl, hb2⟩; have T2 := HT1.out.below hb2; clear c0 c1 d0 d1 f0 f1; obtain ⟨⟨c0, c1⟩, ⟨d0, d1⟩, ⟨f0, f1⟩, l2⟩ := T2.facts; have HT2 := Lib.hid T2; clear T2 hb2) | (go_at_call 55; refine (HF.out _).mono ?_; rintro e w3 ⟨rfl, q3, rfl⟩) | (go_at_call 56; refine (HL.out _).mono ?_; rintro e w4 ⟨rfl, q4, rfl⟩))
      all_goals exact bodyPost_ret (v := .tuple #[.agg #[.int .i64 (G + 15), .int .i64 (G + M - 1)], .int .i64 0]) (by simp [results, Tryz.results30, go_sem, d0, d1] <;> omega) rfl ⟨by rw [LL.out.1, LL.out.2.1, LL.out.2.2], Two.set (HT2.out.below (Below.draws (Below.refl _ _) (q3 + q4))) _ _⟩
  obtain ⟨e1, e2⟩ := span_days q0 q1 (a := a) N
  have HL := Lib.hid (fun w => lengthC_any k a w)
  have b1 := perS_le hc
  have b2 := perL_pos k
  have m0 : (k == 0) = false := by simpa using q0
  have m1 : (k == 1) = false := by simpa using q1
  have hmul : 0 ≤ (N : Int) * perL k ∧ (N : Int) * perL k ≤ 13000 * 14 := by
    constructor
    · exact Int.mul_nonneg (by omega) (by omega)
    · exact Int.mul_le_mul (by omega) (by omega) (by omega) (by omega)
  have a0 := hc.a0
  have a1 : a < perL k := by
    have h1 := hc.a1
    have h2 : k = 2 ∨ k = 3 := by omega
    rcases h2 with rfl | rfl
    · simp [perL] at h1 ⊢; omega
    · simp [perL] at h1 ⊢; omega
  have s0 : IntKind.i64.wrap (perL k - a) = perL k - a := IntWalk.i64_in _ (by omega)
  have t0 : (perL k - a).tmod (perL k) = perS k a := by rw [Int.tmod_eq_emod_of_nonneg (by omega)]; rfl
  have z1 : (perL k == 0) = false := by simp; omega
  have LL : Hid (spLo k a N = max (N * perL k - perS k a) 0 ∧ spHi k a N = min (N * perL k - perS k a + perL k - 1) 84005 ∧ spE k a N = 0) := ⟨L1.trans e1, L2.trans e2, L0⟩
  have s1 : IntKind.i64.wrap ((N : Int) * perL k) = (N : Int) * perL k := IntWalk.i64_in _ (by omega)
  have s2 : IntKind.i64.wrap ((N : Int) * perL k - perS k a) = (N : Int) * perL k - perS k a := IntWalk.i64_in _ (by omega)
  have s3 : IntKind.i64.wrap ((N : Int) * perL k - perS k a + perL k) = (N : Int) * perL k - perS k a + perL k := IntWalk.i64_in _ (by omega)
  have s4 : IntKind.i64.wrap ((N : Int) * perL k - perS k a + perL k - 1) = (N : Int) * perL k - perS k a + perL k - 1 := IntWalk.i64_in _ (by omega)
  clear hb hcv L0 L1 L2 e1 e2 hcp hc k0 k1 hN q0 q1 b1 b2 hmul
  obtain ⟨X, hX⟩ : ∃ X, (N : Int) * perL k - perS k a = X := ⟨_, rfl⟩
  rw [hX] at LL s2 s3 s4
  go_enter Tryz.func30, Tryz.ntmps30
  go_wp2_with (first | (go_at_call 53; refine (HV.out _).mono ?_; rintro e w1 ⟨rfl, hb1⟩; have T1 := HW.out.below hb1; obtain ⟨⟨c0, c1⟩, ⟨d0, d1⟩, ⟨f0, f1⟩, l1⟩ := T1.facts; have HT1 := Lib.hid T1; clear T1 hb1) | (go_at_call 54; refine (HC.out _).mono ?_; rintro e w2 ⟨rfl, hb2⟩; have T2 := HT1.out.below hb2; clear c0 c1 d0 d1 f0 f1; obtain ⟨⟨c0, c1⟩, ⟨d0, d1⟩, ⟨f0, f1⟩, l2⟩ := T2.facts; have HT2 := Lib.hid T2; clear T2 hb2) | (go_at_call 57; refine (HL.out _).mono ?_; rintro e w3 ⟨rfl, hb3⟩; have T3 := HT2.out.below hb3; clear c0 c1 d0 d1 f0 f1; obtain ⟨⟨c0, c1⟩, ⟨d0, d1⟩, ⟨f0, f1⟩, l3⟩ := T3.facts; have HT3 := Lib.hid T3; clear T3 hb3))
  all_goals exact bodyPost_ret (v := .tuple #[.agg #[.int .i64 (max X 0), .int .i64 (min (X + perL k - 1) 84005)], .int .i64 0]) (by simp [results, Tryz.results30, go_sem, d0, d1] <;> omega) rfl ⟨by rw [LL.out.1, LL.out.2.1, LL.out.2.2], Two.set (HT3.out) _ _⟩
theorem SpanR_any (k a n : Int) (w : World) :
    Calls Tryz.prog 30 #[.agg #[.int .i64 k, .int .i64 a], .int .i64 n] w (SpP k a n w) := by
  by_cases h : CalOk k a ∧ 0 ≤ n ∧ n < cntP k a
  · obtain ⟨h1, h2, h3⟩ := h
    obtain ⟨N, rfl⟩ := Int.eq_ofNat_of_zero_le h2
    exact SpanR_ok k a N w h1 h3
  · exact SpanR_no k a n w h
end Go.Proofs.YtaafihdegnaokaaGreatDoor
/- Contracts: retro.Start, and the reference's year and Start. -/
namespace Go.Proofs.YtaafihdegnaokaaGreatDoor
open Go.RowKit

/-- a pay calendar in its box, laid at the call's start -/
structure CBox (w w1 : World) (k a : Int) : Prop where
  row : Row w1 w.heap.size 24 #[.int .i64 k, .int .i64 a]
  bl : Below w.heap.size w w1
theorem CBox.new (w : World) (k a : Int) : CBox w (w.alloc (.cells #[.int .i64 k, .int .i64 a] 24)) k a := ⟨Row.new _ _ _, (Below.refl _ _).alloc (Nat.le_refl _) _⟩
theorem CBox.below {w w1 w2 : World} {k a : Int} (h : CBox w w1 k a) (hb : Below w1.heap.size w1 w2) : CBox w w2 k a := ⟨h.row.below hb h.row.lt, h.bl.trans (hb.mono h.bl.size)⟩
theorem CBox.alloc {w w1 : World} {k a : Int} (h : CBox w w1 k a) (o : Obj) : CBox w (w1.alloc o) k a := h.below ((Below.refl _ _).alloc (Nat.le_refl _) _)
theorem CBox.drew {w w1 : World} {k a : Int} (h : CBox w w1 k a) (q : Nat) : CBox w (w1.drewN q) k a := h.below (Below.draws (Below.refl _ _) q)
theorem CBox.facts {w w1 : World} {k a : Int} (h : CBox w w1 k a) : (w1.cell? ⟨w.heap.size, 0, none⟩ = some (.int .i64 k) ∧ w1.cell? ⟨w.heap.size, 1, none⟩ = some (.int .i64 a)) ∧ w.heap.size < w1.heap.size := ⟨⟨h.row.cell 0, h.row.cell 1⟩, h.row.lt⟩
/-- a period's last day, its year and that year's first day -/
theorem hi_date {k a : Int} {N : Nat} (hc : CalOk k a) (hN : (N : Int) < cntP k a) : ∃ y m t, IsDate (hiP k a N) y m t ∧ yr (hiP k a N) = y := by
  have h := span_ok hc hN
  obtain ⟨y, m, t, hd⟩ := date_ex (d := hiP k a N) (by omega) h.2.2
  exact ⟨y, m, t, hd, yr_eq hd.lt⟩
theorem year_first {d y : Int} {m : Nat} {t : Int} (h : IsDate d y m t) : 0 ≤ bg y ∧ bg y ≤ 84005 := by
  have := h.bounds
  omega
theorem st_ok {k a : Int} {N : Nat} (hc : CalOk k a) (hN : (N : Int) < cntP k a) {y : Int} (hy : yr (hiP k a N) = y) : stV k a N = ofV k a (bg y) := by
  obtain ⟨e1, _, e3⟩ := sp_ok hc hN
  unfold stV
  rw [if_pos e1, e3, hy]
theorem st_no {k a n : Int} (h : spE k a n = 2) : stV k a n = 0 := by unfold stV; rw [if_neg (by rw [h]; decide)]
set_option maxHeartbeats 2000000 in
theorem Start_any (k a n : Int) (w : World) (hT : LenT w) :
    Calls Tryz.prog 11 #[.agg #[.int .i64 k, .int .i64 a], .int .i64 n] w fun e w' => e = .returned (.tuple #[.int .i64 (stV k a n), .int .i64 (spE k a n)]) ∧ Below w.heap.size w w' := by
  have HS := Lib.hid (fun w h => Span_any k a n w h)
  have HC := Lib.hid (CBox.new w k a)
  by_cases h : CalOk k a ∧ 0 ≤ n ∧ n < cntP k a
  · obtain ⟨hc, h2, hN⟩ := h
    obtain ⟨N, rfl⟩ := Int.eq_ofNat_of_zero_le h2
    obtain ⟨e1, e2, e3⟩ := sp_ok hc hN
    obtain ⟨y, m, t, hd, hy⟩ := hi_date hc hN
    have hyb := year_first hd
    have hv := st_ok hc hN hy
    obtain ⟨a0, _, hp⟩ := per_ex hc hyb.1 hyb.2
    obtain ⟨v1, v2⟩ := of_yes hc hyb.1 hyb.2 hp
    unfold SpP at HS
    rw [e1, e2, e3] at HS
    have HD := Lib.hid (fun w h => Date_any (hiP k a N) y t m w h hd)
    have HY : Hid (∀ w, LenT w → Calls Tryz.prog 28 #[.int .i64 y, .int .i64 1, .int .i64 1] w (Qt w (.tuple #[.int .i64 (bg y), .bool true]))) := fun w h => by
      have := Day_any y 1 1 0 (by simp) w h hd.y0 hd.y1 (by omega) (by omega) (by have := mlen_pos y 1; omega)
      rw [show bg y + cumN y 0 + (1 - 1) = bg y by simp [cumN]] at this
      exact this
    have HO := Lib.hid (fun w h => Of_any k a (bg y) w h)
    rw [v2] at HO
    have LL : Hid (stV k a (N : Int) = ofV k a (bg y) ∧ spE k a (N : Int) = 0) := ⟨hv, e1⟩
    clear e1 e2 e3 hd hy hyb hv hp v1 v2 hc h2 hN
    obtain ⟨L, hL⟩ : ∃ L, loP k a N = L := ⟨_, rfl⟩
    obtain ⟨G, hG⟩ : ∃ G, hiP k a N = G := ⟨_, rfl⟩
    obtain ⟨B, hB⟩ : ∃ B, bg y = B := ⟨_, rfl⟩
    obtain ⟨V, hV⟩ : ∃ V, ofV k a B = V := ⟨_, rfl⟩
    rw [hL, hG] at HS
    rw [hG] at HD
    rw [hB] at HY
    rw [hB, hV] at HO LL
    clear hL hG hB hV
    go_enter Tryz.func11, Tryz.ntmps11
    go_wp2_with (first | (go_at_call 26; refine (HS.out _ (hT.below HC.out.bl)).mono ?_; rintro e w1 ⟨rfl, hb1⟩; have HC1 := Lib.hid (HC.out.below hb1); clear hb1; obtain ⟨⟨c0, c1⟩, l1⟩ := HC1.out.facts) | (go_at_call 27; refine (HD.out _ (hT.below (HC1.out.alloc _).bl)).mono ?_; rintro e w2 ⟨rfl, q, rfl⟩) | (go_at_call 28; refine (HY.out _ (hT.below ((HC1.out.alloc _).drew _).bl)).mono ?_; rintro e w3 ⟨rfl, q1, rfl⟩; rw [World.drewN_drewN]) | (go_at_call 29; refine (HO.out _ (hT.below ((HC1.out.alloc _).drew _).bl)).mono ?_; rintro e w4 ⟨rfl, hb4⟩; have hB4 := (((HC1.out.alloc _).drew _).below hb4).bl))
    exact bodyPost_ret (v := .tuple #[.int .i64 V, .int .i64 0]) (by simp [results, Tryz.results11, go_sem]) rfl ⟨by rw [LL.out.1, LL.out.2], hB4⟩
  · obtain ⟨e1, e2, e3⟩ := spE_two h
    have hv := st_no e1
    unfold SpP at HS
    rw [e1, e2, e3] at HS
    have LL : Hid (stV k a n = 0 ∧ spE k a n = 2) := ⟨hv, e1⟩
    clear e1 e2 e3 hv h
    go_enter Tryz.func11, Tryz.ntmps11
    go_wp2_with (go_at_call 26; refine (HS.out _ (hT.below HC.out.bl)).mono ?_; rintro e w1 ⟨rfl, hb1⟩; have HC1 := Lib.hid (HC.out.below hb1); clear hb1; obtain ⟨⟨c0, c1⟩, l1⟩ := HC1.out.facts)
    exact bodyPost_ret (v := .tuple #[.int .i64 0, .int .i64 2]) (by simp [results, Tryz.results11, go_sem]) rfl ⟨by rw [LL.out.1, LL.out.2], (HC1.out.alloc _).bl⟩
set_option maxHeartbeats 2000000 in
theorem year_any (k a : Int) (N : Nat) (w : World) (hc : CalOk k a) (hN : (N : Int) < cntP k a) :
    Calls Tryz.prog 31 #[.agg #[.int .i64 k, .int .i64 a], .int .i64 N] w fun e w' => e = .returned (.int .i64 (yr (hiP k a N))) ∧ Below w.heap.size w w' := by
  have HS := Lib.hid (fun w => SpanR_any k a N w)
  have HC := Lib.hid (CBox.new w k a)
  obtain ⟨e1, e2, e3⟩ := sp_ok hc hN
  obtain ⟨y, m, t, hd, hy⟩ := hi_date hc hN
  unfold SpP at HS
  rw [e1, e2, e3] at HS
  have HD := Lib.hid (fun w => DateR_any (hiP k a N) y t m w hd)
  have LL := Lib.hid hy
  clear e1 e2 e3 hd hy hc hN
  obtain ⟨L, hL⟩ : ∃ L, loP k a N = L := ⟨_, rfl⟩
  obtain ⟨G, hG⟩ : ∃ G, hiP k a N = G := ⟨_, rfl⟩
  rw [hL, hG] at HS
  rw [hG] at HD
  rw [hG] at LL ⊢
  clear hL hG
  go_enter Tryz.func31, Tryz.ntmps31
  go_wp2_with (first | (go_at_call 30; refine (HS.out _).mono ?_; rintro e w1 ⟨rfl, hb1⟩; have HC1 := Lib.hid (HC.out.below hb1); clear hb1; obtain ⟨⟨c0, c1⟩, l1⟩ := HC1.out.facts) | (go_at_call 58; refine (HD.out _).mono ?_; rintro e w2 ⟨rfl, q, rfl⟩))
  go_ret
  exact ⟨by rw [LL.out]; rfl, ((HC1.out.alloc _).drew _).bl⟩
set_option maxHeartbeats 2000000 in
theorem StartR_any (k a n : Int) (w : World) :
    Calls Tryz.prog 12 #[.agg #[.int .i64 k, .int .i64 a], .int .i64 n] w fun e w' => e = .returned (.tuple #[.int .i64 (stV k a n), .int .i64 (spE k a n)]) ∧ Below w.heap.size w w' := by
  have HS := Lib.hid (fun w => SpanR_any k a n w)
  have HC := Lib.hid (CBox.new w k a)
  by_cases h : CalOk k a ∧ 0 ≤ n ∧ n < cntP k a
  · obtain ⟨hc, h2, hN⟩ := h
    obtain ⟨N, rfl⟩ := Int.eq_ofNat_of_zero_le h2
    obtain ⟨e1, e2, e3⟩ := sp_ok hc hN
    obtain ⟨y, m, t, hd, hy⟩ := hi_date hc hN
    have hyb := year_first hd
    have hv := st_ok hc hN hy
    obtain ⟨A, _, hp⟩ := per_ex hc hyb.1 hyb.2
    obtain ⟨v1, v2⟩ := of_yes hc hyb.1 hyb.2 hp
    obtain ⟨hA, hin, hout⟩ := start_years hc hN hd.lt hp hyb.1
    have HIN : Hid (∀ j, A ≤ j → j ≤ N → yr (hiP k a j) = yr (hiP k a N)) := fun j h1 h2 => by rw [hy, yr_eq (hin j h1 h2)]
    have HOUT : Hid (∀ j, j < A → ¬ yr (hiP k a j) = yr (hiP k a N)) := fun j h1 => by
      obtain ⟨y', m', t', hd', hy'⟩ := hi_date hc (N := j) (by omega)
      rw [hy, hy']
      intro e
      have := hout j h1
      have := hd'.lt.1
      rw [e] at this
      omega
    have HY := Lib.hid (fun j w (h : j ≤ N) => year_any k a j w hc (by omega))
    unfold SpP at HS
    rw [e1, e2, e3] at HS
    have LL : Hid (stV k a (N : Int) = A ∧ spE k a (N : Int) = 0) := ⟨hv.trans v1, e1⟩
    have hcp := cnt_pos hc
    have hN2 : N ≤ 13000 := by omega
    clear e1 e2 e3 hd hy hyb hv hp v1 v2 hc h2 hN hin hout hcp
    obtain ⟨L, hL⟩ : ∃ L, loP k a N = L := ⟨_, rfl⟩
    obtain ⟨G, hG⟩ : ∃ G, hiP k a N = G := ⟨_, rfl⟩
    rw [hL, hG] at HS
    rw [hG] at HIN HOUT
    have HYN : Hid (∀ w, Calls Tryz.prog 31 #[.agg #[.int .i64 k, .int .i64 a], .int .i64 N] w fun e w' => e = .returned (.int .i64 (yr G)) ∧ Below w.heap.size w w') := fun w => by
      have := HY.out N w (Nat.le_refl _)
      rw [hG] at this
      exact this
    clear hL hG
    obtain ⟨Y, hYY⟩ : ∃ Y, yr G = Y := ⟨_, rfl⟩
    rw [hYY] at HYN HIN HOUT
    clear hYY
    go_enter Tryz.func12, Tryz.ntmps12
    go_wp2_with (go_at_call 30; refine (HS.out _).mono ?_; rintro e w1 ⟨rfl, hb1⟩; have HC1 := Lib.hid (HC.out.below hb1); clear hb1; obtain ⟨⟨c0, c1⟩, l1⟩ := HC1.out.facts)
    have HC2 := Lib.hid (HC1.out.alloc (.cells #[.int .i64 L, .int .i64 G] 37))
    clear c0 c1 l1
    go_loopw [8] (fun t wr => ∃ j : Nat, A ≤ j ∧ j ≤ N ∧ t = .int .i64 j ∧ Hid (CBox w wr k a)) (fun t _ => (intOf t).toNat)
    case atStart => exact ⟨N, hA, Nat.le_refl _, rfl, HC2.out⟩
    case round =>
      clear HC2
      obtain ⟨j, hj1, hj2, rfl, HB⟩ := hrel
      obtain ⟨wo, rfl⟩ : ∃ wo : World, wo = wr := ⟨_, rfl⟩
      obtain ⟨⟨c0, c1⟩, l1⟩ := HB.out.facts
      have u0 := ext_cell l1 c0
      have u1 := ext_cell l1 c1
      clear c0 c1 l1
      by_cases hj0 : j = 0
      · subst hj0
        have hA0 : A = 0 := by omega
        subst hA0
        have g0 : decide ((0 : Int) < ((0 : Nat) : Int)) = false := decide_eq_false (by omega)
        go_wp2_with fail
        refine region_ext (by kernel_rfl) (by kernel_rfl) ?_
        repeat (go_big_quiet_step (fail))
        refine wpQuiet_nil ?_
        rintro _ ⟨W, rfl⟩
        go_wp2
        exact bodyPost_ret (v := .tuple #[.int .i64 ((0 : Nat) : Int), .int .i64 0]) (by simp [results, Tryz.results12, go_sem]) rfl ⟨by rw [LL.out.1, LL.out.2], (HB.out.below W.property).bl⟩
      · have g0 : decide ((0 : Int) < (j : Int)) = true := decide_eq_true (by omega)
        have g0' : decide (0 < j) = true := decide_eq_true (by omega)
        have s1 : IntKind.i64.wrap ((j : Int) - 1) = ((j - 1 : Nat) : Int) := by rw [show (j : Int) - 1 = ((j - 1 : Nat) : Int) by omega]; exact IntWalk.i64_in _ (by omega)
        have HYJ := Lib.hid (fun w => HY.out (j - 1) w (by omega))
        obtain ⟨Z, hZ⟩ : ∃ Z, yr (hiP k a (j - 1)) = Z := ⟨_, rfl⟩
        rw [hZ] at HYJ
        obtain ⟨J1, hJ1⟩ : ∃ J : Int, ((j - 1 : Nat) : Int) = J := ⟨_, rfl⟩
        rw [hJ1] at s1 HYJ
        by_cases hja : A < j
        · have hz : (Z == Y) = true := by rw [← hZ, HIN.out (j - 1) (by omega) (by omega)]; simp
          clear hZ
          go_wp2_with fail
          refine region_ext (by kernel_rfl) (by kernel_rfl) ?_
          repeat (go_big_quiet_step (first | (go_at_call_of 31 (J1); exact ext_call (HYJ.out _)) | (go_at_call_of 31 (N); exact ext_call (HYN.out _))))
          refine wpQuiet_nil ?_
          rintro _ ⟨W, rfl⟩
          have HEND := Lib.hid (HB.out.below W.property)
          clear u0 u1 HB
          go_wp2
          go_roundw
          case rel => exact ⟨j - 1, by omega, by omega, by rw [hJ1], HEND.out⟩
          case measure => simp [intOf]; omega
        · have hz : (Z == Y) = false := by
            rw [← hZ]
            simpa using HOUT.out (j - 1) (by omega)
          have hjA : j = A := by omega
          subst hjA
          clear hZ
          go_wp2_with fail
          refine region_ext (by kernel_rfl) (by kernel_rfl) ?_
          repeat (go_big_quiet_step (first | (go_at_call_of 31 (J1); exact ext_call (HYJ.out _)) | (go_at_call_of 31 (N); exact ext_call (HYN.out _))))
          refine wpQuiet_nil ?_
          rintro _ ⟨W, rfl⟩
          have HEND := Lib.hid (HB.out.below W.property)
          clear u0 u1 HB
          go_wp2
          exact bodyPost_ret (v := .tuple #[.int .i64 (j : Int), .int .i64 0]) (by simp [results, Tryz.results12, go_sem]) rfl ⟨by rw [LL.out.1, LL.out.2], HEND.out.bl⟩
  · obtain ⟨e1, e2, e3⟩ := spE_two h
    have hv := st_no e1
    unfold SpP at HS
    rw [e1, e2, e3] at HS
    have LL : Hid (stV k a n = 0 ∧ spE k a n = 2) := ⟨hv, e1⟩
    clear e1 e2 e3 hv h
    go_enter Tryz.func12, Tryz.ntmps12
    go_wp2_with (go_at_call 30; refine (HS.out _).mono ?_; rintro e w1 ⟨rfl, hb1⟩; have HC1 := Lib.hid (HC.out.below hb1); clear hb1; obtain ⟨⟨c0, c1⟩, l1⟩ := HC1.out.facts)
    exact bodyPost_ret (v := .tuple #[.int .i64 0, .int .i64 2]) (by simp [results, Tryz.results12, go_sem]) rfl ⟨by rw [LL.out.1, LL.out.2], (HC1.out.alloc _).bl⟩
end Go.Proofs.YtaafihdegnaokaaGreatDoor
/- Contracts: retro.days, retro.Affected. -/
namespace Go.Proofs.YtaafihdegnaokaaGreatDoor
open Go.RowKit

def dyLo (k a f c : Int) : Int := if dyE k a f c = 0 then spLo k a f else 0
def dyHi (k a f c : Int) : Int := if dyE k a f c = 0 then spHi k a c else 0
theorem dy_err1 {k a f c : Int} (h : ¬ spE k a f = 0) : dyE k a f c = 2 ∧ dyLo k a f c = 0 ∧ dyHi k a f c = 0 := by
  have e : dyE k a f c = 2 := by unfold dyE; rw [if_pos h]
  exact ⟨e, by unfold dyLo; rw [if_neg (by rw [e]; decide)], by unfold dyHi; rw [if_neg (by rw [e]; decide)]⟩
theorem dy_err2 {k a f c : Int} (h : spE k a f = 0) (h2 : ¬ spE k a c = 0) : dyE k a f c = 2 ∧ dyLo k a f c = 0 ∧ dyHi k a f c = 0 := by
  have e : dyE k a f c = 2 := by unfold dyE; rw [if_neg (by simp [h]), if_pos h2]
  exact ⟨e, by unfold dyLo; rw [if_neg (by rw [e]; decide)], by unfold dyHi; rw [if_neg (by rw [e]; decide)]⟩
theorem dy_err3 {k a f c : Int} (h : spE k a f = 0) (h2 : spE k a c = 0) (h3 : c < f) : dyE k a f c = 1 ∧ dyLo k a f c = 0 ∧ dyHi k a f c = 0 := by
  have e : dyE k a f c = 1 := by unfold dyE; rw [if_neg (by simp [h]), if_neg (by simp [h2]), if_pos h3]
  exact ⟨e, by unfold dyLo; rw [if_neg (by rw [e]; decide)], by unfold dyHi; rw [if_neg (by rw [e]; decide)]⟩
theorem dy_good {k a f c : Int} (h : spE k a f = 0) (h2 : spE k a c = 0) (h3 : ¬ c < f) : dyE k a f c = 0 ∧ dyLo k a f c = spLo k a f ∧ dyHi k a f c = spHi k a c := by
  have e : dyE k a f c = 0 := by unfold dyE; rw [if_neg (by simp [h]), if_neg (by simp [h2]), if_neg h3]
  exact ⟨e, by unfold dyLo; rw [if_pos e], by unfold dyHi; rw [if_pos e]⟩
theorem sp_two {k a n : Int} (h : ¬ spE k a n = 0) : spE k a n = 2 := by unfold spE at *; split at h <;> simp_all
set_option maxHeartbeats 4000000 in
theorem days_any (k a f c : Int) (w : World) (hT : LenT w) :
    Calls Tryz.prog 33 #[.agg #[.int .i64 k, .int .i64 a], .int .i64 f, .int .i64 c] w fun e w' => e = .returned (.tuple #[.agg #[.int .i64 (dyLo k a f c), .int .i64 (dyHi k a f c)], .int .i64 (dyE k a f c)]) ∧ Below w.heap.size w w' := by
  have HS1 := Lib.hid (fun w h => Span_any k a f w h)
  have HS2 := Lib.hid (fun w h => Span_any k a c w h)
  unfold SpP at HS1 HS2
  have HW := Lib.hid (Two.new w 24 37 (.int .i64 k) (.int .i64 a) (.int .i64 0) (.int .i64 0))
  by_cases h1 : spE k a f = 0
  rotate_left
  · have LL := Lib.hid (dy_err1 (c := c) h1)
    rw [sp_two h1] at HS1
    obtain ⟨L1, hL1⟩ : ∃ x, spLo k a f = x := ⟨_, rfl⟩
    obtain ⟨G1, hG1⟩ : ∃ x, spHi k a f = x := ⟨_, rfl⟩
    rw [hL1, hG1] at HS1
    clear h1 hL1 hG1
    go_enter Tryz.func33, Tryz.ntmps33
    go_wp2_with (go_at_call 26; refine (HS1.out _ (hT.below HW.out.bl)).mono ?_; rintro e w1 ⟨rfl, hb1⟩; have T1 := HW.out.below hb1; obtain ⟨⟨c0, c1⟩, ⟨d0, d1⟩, ⟨f0, f1⟩, l1⟩ := T1.facts; have HT1 := Lib.hid T1; clear T1 hb1)
    exact bodyPost_ret (v := .tuple #[.agg #[.int .i64 0, .int .i64 0], .int .i64 2]) (by simp [results, Tryz.results33, go_sem, d0, d1, l1]) rfl ⟨by rw [LL.out.1, LL.out.2.1, LL.out.2.2], (HT1.out.set _ _).alloc (HT1.out.set _ _).size _⟩
  have A1 := Lib.hid h1
  rw [h1] at HS1
  obtain ⟨L1, hL1⟩ : ∃ x, spLo k a f = x := ⟨_, rfl⟩
  obtain ⟨G1, hG1⟩ : ∃ x, spHi k a f = x := ⟨_, rfl⟩
  rw [hL1, hG1] at HS1
  have HL1 := Lib.hid hL1
  clear h1 hL1 hG1
  by_cases h2 : spE k a c = 0
  rotate_left
  · have LL := Lib.hid (dy_err2 A1.out h2)
    rw [sp_two h2] at HS2
    obtain ⟨L2, hL2⟩ : ∃ x, spLo k a c = x := ⟨_, rfl⟩
    obtain ⟨G2, hG2⟩ : ∃ x, spHi k a c = x := ⟨_, rfl⟩
    rw [hL2, hG2] at HS2
    clear h2 hL2 hG2
    go_enter Tryz.func33, Tryz.ntmps33
    go_wp2_with fail
    refine (HS1.out _ (hT.below HW.out.bl)).mono ?_
    rintro e w1 ⟨rfl, hb1⟩
    have T1 := HW.out.below hb1
    obtain ⟨⟨c0, c1⟩, ⟨d0, d1⟩, ⟨f0, f1⟩, l1⟩ := T1.facts
    have l0 : w.heap.size < w1.heap.size := by omega
    have HT1 := Lib.hid (T1.below ((Below.refl _ _).alloc (Nat.le_refl _) (.cells #[.int .i64 L1, .int .i64 G1] 37)))
    clear T1 hb1
    go_wp2_with fail
    refine (HS2.out _ (hT.below HT1.out.bl)).mono ?_
    rintro e w2 ⟨rfl, hb2⟩
    have T2 := HT1.out.below hb2
    clear c0 c1 d0 d1 f0 f1 l1
    obtain ⟨⟨c0, c1⟩, ⟨d0, d1⟩, ⟨f0, f1⟩, l1⟩ := T2.facts
    have HT2 := Lib.hid T2
    clear T2 hb2
    go_wp2_with fail
    exact bodyPost_ret (v := .tuple #[.agg #[.int .i64 0, .int .i64 0], .int .i64 2]) (by simp [results, Tryz.results33, go_sem, d0, d1, l1]) rfl ⟨by rw [LL.out.1, LL.out.2.1, LL.out.2.2], (HT2.out.set _ _).alloc (HT2.out.set _ _).size _⟩
  have A2 := Lib.hid h2
  rw [h2] at HS2
  obtain ⟨L2, hL2⟩ : ∃ x, spLo k a c = x := ⟨_, rfl⟩
  obtain ⟨G2, hG2⟩ : ∃ x, spHi k a c = x := ⟨_, rfl⟩
  rw [hL2, hG2] at HS2
  have HL2 := Lib.hid hG2
  clear h2 hL2 hG2
  by_cases h3 : c < f
  · have LL := Lib.hid (dy_err3 A1.out A2.out h3)
    have g3 : decide (c < f) = true := decide_eq_true h3
    clear h3
    go_enter Tryz.func33, Tryz.ntmps33
    go_wp2_with fail
    refine (HS1.out _ (hT.below HW.out.bl)).mono ?_
    rintro e w1 ⟨rfl, hb1⟩
    have T1 := HW.out.below hb1
    obtain ⟨⟨c0, c1⟩, ⟨d0, d1⟩, ⟨f0, f1⟩, l1⟩ := T1.facts
    have l0 : w.heap.size < w1.heap.size := by omega
    have HT1 := Lib.hid (T1.below ((Below.refl _ _).alloc (Nat.le_refl _) (.cells #[.int .i64 L1, .int .i64 G1] 37)))
    clear T1 hb1
    go_wp2_with fail
    refine (HS2.out _ (hT.below HT1.out.bl)).mono ?_
    rintro e w2 ⟨rfl, hb2⟩
    have T2 := HT1.out.below hb2
    clear c0 c1 d0 d1 f0 f1 l1
    obtain ⟨⟨c0, c1⟩, ⟨d0, d1⟩, ⟨f0, f1⟩, l1⟩ := T2.facts
    have HT2 := Lib.hid T2
    clear T2 hb2
    go_wp2_with fail
    exact bodyPost_ret (v := .tuple #[.agg #[.int .i64 0, .int .i64 0], .int .i64 1]) (by simp [results, Tryz.results33, go_sem, d0, d1, l1]) rfl ⟨by rw [LL.out.1, LL.out.2.1, LL.out.2.2], (HT2.out.set _ _).alloc (HT2.out.set _ _).size _⟩
  · have LL := Lib.hid (dy_good A1.out A2.out h3)
    have g3 : decide (c < f) = false := decide_eq_false h3
    clear h3
    go_enter Tryz.func33, Tryz.ntmps33
    go_wp2_with fail
    refine (HS1.out _ (hT.below HW.out.bl)).mono ?_
    rintro e w1 ⟨rfl, hb1⟩
    have T1 := HW.out.below hb1
    obtain ⟨⟨c0, c1⟩, ⟨d0, d1⟩, ⟨f0, f1⟩, l1⟩ := T1.facts
    have l0 : w.heap.size < w1.heap.size := by omega
    have HT1 := Lib.hid (T1.below ((Below.refl _ _).alloc (Nat.le_refl _) (.cells #[.int .i64 L1, .int .i64 G1] 37)))
    have HR1 := Lib.hid (Row.new w1 37 #[.int .i64 L1, .int .i64 G1])
    have hsz := HT1.out.bl.size
    clear T1 hb1
    go_wp2_with fail
    refine (HS2.out _ (hT.below HT1.out.bl)).mono ?_
    rintro e w2 ⟨rfl, hb2⟩
    have T2 := HT1.out.below hb2
    have R2 := HR1.out.below hb2 HR1.out.lt
    have l2 := R2.lt
    have r0 : w2.cell? ⟨w1.heap.size, 0, none⟩ = some (.int .i64 L1) := R2.cell 0
    have r1 : w2.cell? ⟨w1.heap.size, 1, none⟩ = some (.int .i64 G1) := R2.cell 1
    have l3 := l1
    clear c0 c1 d0 d1 f0 f1 l1
    obtain ⟨⟨c0, c1⟩, ⟨d0, d1⟩, ⟨f0, f1⟩, l1⟩ := T2.facts
    have HT2 := Lib.hid T2
    clear T2 hb2 R2
    go_wp2_with fail
    exact bodyPost_ret (v := .tuple #[.agg #[.int .i64 L1, .int .i64 G2], .int .i64 0]) (by simp [results, Tryz.results33, go_sem, d0, d1, l1]) rfl ⟨by rw [LL.out.1, LL.out.2.1, LL.out.2.2, HL1.out, HL2.out], (HT2.out.set _ _).alloc (HT2.out.set _ _).size _⟩
end Go.Proofs.YtaafihdegnaokaaGreatDoor
/- Contracts: retro.Affected. -/
namespace Go.Proofs.YtaafihdegnaokaaGreatDoor
open Go.RowKit

def AffP (k a : Int) (R : List (Int × Int)) (f c : Int) (w : World) (e : Ending) (w' : World) : Prop :=
  e = .returned (.tuple #[.int .i64 ((affO k a R f c).getD 0 : Nat), .bool (affO k a R f c).isSome, .int .i64 (affE k a R f c)]) ∧ Below w.heap.size w w'
theorem aff_err {k a f c : Int} {R : List (Int × Int)} {E : Int} (h : affE k a R f c = E) (hE : E ≠ 0) : (((affO k a R f c).getD 0 : Nat) : Int) = 0 ∧ (affO k a R f c).isSome = false ∧ affE k a R f c = E := by
  rw [affO_err (by rw [h]; exact hE)]
  exact ⟨rfl, rfl, h⟩
theorem affE_days {k a f c : Int} (R : List (Int × Int)) (h : dyE k a f c ≠ 0) : affE k a R f c = dyE k a f c := by unfold affE; rw [if_pos h]
theorem affE_len {k a f c : Int} {R : List (Int × Int)} (h : dyE k a f c = 0) (h1 : 1024 < R.length) : affE k a R f c = 3 := by unfold affE; rw [if_neg (by simp [h]), if_pos h1]
theorem affE_bad {k a f c : Int} {R : List (Int × Int)} (h : dyE k a f c = 0) (h1 : ¬ 1024 < R.length) {i : Nat} (hi : i < R.length) (hb : okR R[i] = false) : affE k a R f c = 2 := by
  unfold affE
  rw [if_neg (by simp [h]), if_neg h1, if_neg]
  intro hh
  have := List.all_eq_true.1 hh _ (List.getElem_mem hi)
  rw [hb] at this; cases this
theorem affE_good {k a f c : Int} {R : List (Int × Int)} (h : dyE k a f c = 0) (h1 : ¬ 1024 < R.length) (hb : ∀ i (hi : i < R.length), okR R[i] = true) : affE k a R f c = 0 := by
  unfold affE
  rw [if_neg (by simp [h]), if_neg h1, if_pos]
  rw [List.all_eq_true]
  intro r hr
  obtain ⟨i, hi, rfl⟩ := List.mem_iff_getElem.1 hr
  exact hb i hi
/-- what the second loop has found, at its end -/
theorem aff_end {k a f c : Int} {R : List (Int × Int)} (h : affE k a R f c = 0) {o : Option Int} (hl : LdI R R.length (dyLo k a f c) (dyHi k a f c) o) :
    (o = none → affO k a R f c = none) ∧ ∀ d, o = some d → ∃ n : Nat, affO k a R f c = some n ∧ ofV k a d = n ∧ ofE k a d = 0 := by
  obtain ⟨hd, _, hR⟩ := affE_ok h
  have hR1 : ∀ r ∈ R, r.1 ≤ r.2 := fun r hr => (hR r hr).1
  unfold dyLo dyHi at hl
  rw [if_pos hd, if_pos hd] at hl
  constructor
  · rintro rfl
    have h2 := ld_none hl
    obtain ⟨G, C, rfl, rfl, g2, g3, hc, _, _, e2, _, _, e6⟩ := dy_days hd
    rw [e2, e6] at h2
    exact affO_none (fun m h3 h4 => aff_no hc hR1 g3 h2 m (by omega) (by omega)) (by omega)
  · rintro d rfl
    have h2 := ld_some hl
    obtain ⟨n, hp, hv, he, hf, hcn⟩ := per_between hd h2.lo h2.hi
    obtain ⟨G, C, rfl, rfl, g2, g3, hc, _, _, e2, _, _, e6⟩ := dy_days hd
    rw [e2, e6] at h2
    have := aff_yes hc hR1 g2 g3 h2 hp
    exact ⟨n, affO_some h hf hcn this.2.2.1 fun m hm1 hm2 => this.2.2.2 m (by omega) hm2, hv, he⟩
theorem CellsAt.pr {w : World} {b off : Nat} {R : List (Int × Int)} (h : CellsAt w 2 b off (prs R)) {i : Nat} (hi : i < R.length) :
    w.cell? ⟨b, off + i * 2, none⟩ = some (.int .i64 (R[i]).1) ∧ w.cell? ⟨b, off + i * 2 + 1, none⟩ = some (.int .i64 (R[i]).2) :=
  ⟨h.2 i _ (prs_at hi) 0 _ rfl, h.2 i _ (prs_at hi) 1 _ rfl⟩
/-- where the loops stand: the calendar, the days, the ranges -/
structure AfS (w wr : World) (k a : Int) (g : Nat) (lo hi : Int) (v : Value) (R : List (Int × Int)) : Prop where
  box : CBox w wr k a
  row : Row wr g 37 #[.int .i64 lo, .int .i64 hi]
  sl : Sl wr 2 v (prs R)
theorem AfS.below {w w1 w2 : World} {k a lo hi : Int} {g : Nat} {v : Value} {R : List (Int × Int)} (h : AfS w w1 k a g lo hi v R) (hb : Below w1.heap.size w1 w2) : AfS w w2 k a g lo hi v R := ⟨h.box.below hb, h.row.below hb h.row.lt, h.sl.below hb⟩
theorem AfS.alloc {w w1 : World} {k a lo hi : Int} {g : Nat} {v : Value} {R : List (Int × Int)} (h : AfS w w1 k a g lo hi v R) (o : Obj) : AfS w (w1.alloc o) k a g lo hi v R := h.below ((Below.refl _ _).alloc (Nat.le_refl _) _)
theorem AfS.facts {w w1 : World} {k a lo hi : Int} {g : Nat} {v : Value} {R : List (Int × Int)} (h : AfS w w1 k a g lo hi v R) : (w1.cell? ⟨w.heap.size, 0, none⟩ = some (.int .i64 k) ∧ w1.cell? ⟨w.heap.size, 1, none⟩ = some (.int .i64 a)) ∧ w.heap.size < w1.heap.size ∧ (w1.cell? ⟨g, 0, none⟩ = some (.int .i64 lo) ∧ w1.cell? ⟨g, 1, none⟩ = some (.int .i64 hi)) ∧ g < w1.heap.size :=
  ⟨h.box.facts.1, h.box.facts.2, ⟨h.row.cell 0, h.row.cell 1⟩, h.row.lt⟩
set_option maxRecDepth 100000 in
set_option maxHeartbeats 4000000 in
theorem Affected_any (k a : Int) (v : Value) (R : List (Int × Int)) (f c : Int) (w : World) (hT : LenT w) (hv : Sl w 2 v (prs R)) :
    Calls Tryz.prog 15 #[.agg #[.int .i64 k, .int .i64 a], v, .int .i64 f, .int .i64 c] w (AffP k a R f c w) := by
  have HC := Lib.hid (CBox.new w k a)
  have HT := Lib.hid hT
  have HD := Lib.hid (fun w h => days_any k a f c w h)
  have HV := Lib.hid hv
  obtain ⟨A, cap, rfl, -⟩ := hv
  rw [prs_len] at HV ⊢
  clear hT
  by_cases h0 : dyE k a f c = 0
  rotate_left
  · have LL := Lib.hid (aff_err (affE_days R h0) h0)
    obtain ⟨E, hE⟩ : ∃ E, dyE k a f c = E := ⟨_, rfl⟩
    obtain ⟨L, hL⟩ : ∃ E, dyLo k a f c = E := ⟨_, rfl⟩
    obtain ⟨G, hG⟩ : ∃ E, dyHi k a f c = E := ⟨_, rfl⟩
    rw [hE, hL, hG] at HD
    rw [hE] at LL h0
    have n1 : (E != 0) = true := by simpa using h0
    clear hE hL hG h0
    go_enter Tryz.func15, Tryz.ntmps15
    go_wp2_with (go_at_call 33; refine (HD.out _ (HT.out.below HC.out.bl)).mono ?_; rintro e w1 ⟨rfl, hb1⟩; have HC1 := Lib.hid (HC.out.below hb1); clear hb1)
    exact bodyPost_ret (v := .tuple #[.int .i64 0, .bool false, .int .i64 E]) (by simp [results, Tryz.results15, go_sem]) rfl ⟨by rw [LL.out.1, LL.out.2.1, LL.out.2.2], (HC1.out.alloc _).bl⟩
  have H0 := Lib.hid h0
  rw [h0] at HD
  by_cases hl : 1024 < R.length
  · have LL := Lib.hid (aff_err (affE_len h0 hl) (by decide))
    obtain ⟨L, hL⟩ : ∃ E, dyLo k a f c = E := ⟨_, rfl⟩
    obtain ⟨G, hG⟩ : ∃ E, dyHi k a f c = E := ⟨_, rfl⟩
    rw [hL, hG] at HD
    have g1 : decide ((1024 : Int) < (R.length : Int)) = true := decide_eq_true (by omega)
    clear hL hG h0 hl
    go_enter Tryz.func15, Tryz.ntmps15
    go_wp2_with (go_at_call 33; refine (HD.out _ (HT.out.below HC.out.bl)).mono ?_; rintro e w1 ⟨rfl, hb1⟩; have HC1 := Lib.hid (HC.out.below hb1); clear hb1)
    exact bodyPost_ret (v := .tuple #[.int .i64 0, .bool false, .int .i64 3]) (by simp [results, Tryz.results15, go_sem]) rfl ⟨by rw [LL.out.1, LL.out.2.1, LL.out.2.2], (HC1.out.alloc _).bl⟩
  have HBAD : Hid (∀ i (hi : i < R.length), okR R[i] = false → ((((affO k a R f c).getD 0 : Nat) : Int) = 0 ∧ (affO k a R f c).isSome = false ∧ affE k a R f c = 2)) := fun i hi hb => aff_err (affE_bad h0 hl hi hb) (by decide)
  have HGOOD : Hid ((∀ i (hi : i < R.length), okR R[i] = true) → affE k a R f c = 0) := fun hb => affE_good h0 hl hb
  have HEND : Hid (affE k a R f c = 0 → ∀ o, LdI R R.length (dyLo k a f c) (dyHi k a f c) o → (o = none → affO k a R f c = none) ∧ ∀ d, o = some d → ∃ n : Nat, affO k a R f c = some n ∧ ofV k a d = n ∧ ofE k a d = 0) := fun h o hl => aff_end h hl
  obtain ⟨lo, hlo⟩ : ∃ E, dyLo k a f c = E := ⟨_, rfl⟩
  obtain ⟨hi, hhi⟩ : ∃ E, dyHi k a f c = E := ⟨_, rfl⟩
  rw [hlo, hhi] at HD HEND
  have g1 : decide ((1024 : Int) < (R.length : Int)) = false := decide_eq_false (by omega)
  have hl' : R.length ≤ 1024 := by omega
  clear hlo hhi h0 hl H0
  go_enter Tryz.func15, Tryz.ntmps15
  go_wp2_with fail
  refine (HD.out _ (HT.out.below HC.out.bl)).mono ?_
  rintro e w1 ⟨rfl, hb1⟩
  have HC1 := HC.out.below hb1
  have HS1 : Hid (AfS w (w1.alloc (.cells #[.int .i64 lo, .int .i64 hi] 37)) k a w1.heap.size lo hi (.slice A R.length cap) R) := ⟨HC1.alloc _, Row.new _ _ _, (HV.out.below HC1.bl).below ((Below.refl _ _).alloc (Nat.le_refl _) _)⟩
  clear hb1 HC1
  go_wp2_with fail
  obtain ⟨g, hg⟩ : ∃ g, w1.heap.size = g := ⟨_, rfl⟩
  rw [hg] at HS1 ⊢
  clear hg
  go_loopw [36] (fun t wr => ∃ i : Nat, i ≤ R.length ∧ t = .int .i64 i ∧ Hid (AfS w wr k a g lo hi (.slice A R.length cap) R ∧ ∀ j (hj : j < R.length), j < i → okR R[j] = true)) (fun t _ => R.length - (intOf t).toNat)
  case atStart => exact ⟨0, by omega, rfl, HS1.out, fun j _ h => by omega⟩
  case round =>
    clear HS1
    obtain ⟨i, hi', rfl, HI⟩ := hrel
    obtain ⟨wo, rfl⟩ : ∃ wo : World, wo = wr := ⟨_, rfl⟩
    by_cases hlt : i < R.length
    · obtain ⟨b, off, rfl, hcl⟩ := HI.out.1.sl.cells (by rw [prs_len]; omega)
      obtain ⟨c0, c1⟩ := hcl.pr hlt
      have hbl := hcl.1
      have HQ : Hid (okR R[i] = true → ∀ j (hj : j < R.length), j < i + 1 → okR R[j] = true) := fun hk j hj h => by
        rcases Nat.lt_or_ge j i with h' | h'
        · exact HI.out.2 j hj h'
        · have : j = i := by omega
          subst this; exact hk
      have HB := Lib.hid (HBAD.out i hlt)
      obtain ⟨x, hx⟩ : ∃ x, (R[i]'hlt).1 = x := ⟨_, rfl⟩
      obtain ⟨y, hy⟩ : ∃ x, (R[i]'hlt).2 = x := ⟨_, rfl⟩
      have HO : Hid (okR R[i] = (decide (x ≤ y) && (decide (0 ≤ x) && decide (y ≤ 84005)))) := by unfold Hid okR; rw [hx, hy]
      rw [hx] at c0
      rw [hy] at c1
      have hS2 := Lib.hid (HI.out.1.alloc (.cells #[.int .i64 x, .int .i64 y] 37))
      clear hcl hx hy
      have hcase : (x ≤ y ∧ 0 ≤ x ∧ y ≤ 84005) ∨ y < x ∨ (x ≤ y ∧ x < 0) ∨ (x ≤ y ∧ 0 ≤ x ∧ 84005 < y) := by omega
      rcases hcase with ⟨h1, h2, h3⟩ | h1 | ⟨h1, h2⟩ | ⟨h1, h2, h3⟩
      · have q1 : decide (y < x) = false := decide_eq_false (by omega)
        have q2 : decide (x < 0) = false := decide_eq_false (by omega)
        have q3 : decide (84005 < y) = false := decide_eq_false (by omega)
        have HN := Lib.hid (HQ.out (by rw [HO.out, decide_eq_true h1, decide_eq_true h2, decide_eq_true h3]; rfl))
        clear h1 h2 h3 HI HQ
        go_wp2_with fail
        go_roundw
        case rel => exact ⟨i + 1, by omega, by go_num, hS2.out, HN.out⟩
        case measure => simp [intOf]; omega
      · have q1 : decide (y < x) = true := decide_eq_true (by omega)
        have LL := Lib.hid (HB.out (by rw [HO.out, decide_eq_false (by omega)]; rfl))
        clear h1 HI HQ
        go_wp2_with fail
        exact bodyPost_ret (v := .tuple #[.int .i64 0, .bool false, .int .i64 2]) (by simp [results, Tryz.results15, go_sem]) rfl ⟨by rw [LL.out.1, LL.out.2.1, LL.out.2.2], hS2.out.box.bl⟩
      · have q1 : decide (y < x) = false := decide_eq_false (by omega)
        have q2 : decide (x < 0) = true := decide_eq_true (by omega)
        have LL := Lib.hid (HB.out (by rw [HO.out, decide_eq_false (show ¬ 0 ≤ x by omega)]; simp))
        clear h1 h2 HI HQ
        go_wp2_with fail
        exact bodyPost_ret (v := .tuple #[.int .i64 0, .bool false, .int .i64 2]) (by simp [results, Tryz.results15, go_sem]) rfl ⟨by rw [LL.out.1, LL.out.2.1, LL.out.2.2], hS2.out.box.bl⟩
      · have q1 : decide (y < x) = false := decide_eq_false (by omega)
        have q2 : decide (x < 0) = false := decide_eq_false (by omega)
        have q3 : decide (84005 < y) = true := decide_eq_true (by omega)
        have LL := Lib.hid (HB.out (by rw [HO.out, decide_eq_false (show ¬ y ≤ 84005 by omega)]; simp))
        clear h1 h2 h3 HI HQ
        go_wp2_with fail
        exact bodyPost_ret (v := .tuple #[.int .i64 0, .bool false, .int .i64 2]) (by simp [results, Tryz.results15, go_sem]) rfl ⟨by rw [LL.out.1, LL.out.2.1, LL.out.2.2], hS2.out.box.bl⟩
    · obtain rfl : i = R.length := by omega
      have HE := Lib.hid (HGOOD.out fun j hj => HI.out.2 j hj hj)
      have HE2 := Lib.hid (HEND.out HE.out)
      have HX := Lib.hid HI.out.1
      clear HI HGOOD HBAD HEND
      go_wp2_with fail
      go_loopw [15, 16, 58] (fun p q t wr => ∃ (i : Nat) (o : Option Int), i ≤ R.length ∧ t = .int .i64 i ∧ p = .int .i64 (o.getD 0) ∧ q = .bool o.isSome ∧ Hid (AfS w wr k a g lo hi (.slice A R.length cap) R ∧ LdI R i lo hi o)) (fun _ _ t _ => R.length - (intOf t).toNat)
      case atStart => exact ⟨0, none, by omega, rfl, rfl, rfl, HX.out, ld_start R lo hi⟩
      case round =>
        clear HX
        obtain ⟨i, o, hi', rfl, rfl, rfl, HI⟩ := hrel
        obtain ⟨wo, rfl⟩ : ∃ wo : World, wo = wr := ⟨_, rfl⟩
        by_cases hlt : i < R.length
        · obtain ⟨b, off, rfl, hcl⟩ := HI.out.1.sl.cells (by rw [prs_len]; omega)
          obtain ⟨c0, c1⟩ := hcl.pr hlt
          have hbl := hcl.1
          obtain ⟨-, -, ⟨d0, d1⟩, dl⟩ := HI.out.1.facts
          have HOUT := Lib.hid (fun h => ld_out HI.out.2 hlt h)
          have HNEW := Lib.hid (fun (ho : o = none) h => ld_new (by rw [← ho]; exact HI.out.2) hlt h)
          have HLESS := Lib.hid (fun d (ho : o = some d) h => ld_less (by rw [← ho]; exact HI.out.2) hlt h)
          have HMORE := Lib.hid (fun d (ho : o = some d) h => ld_more (by rw [← ho]; exact HI.out.2) hlt h)
          obtain ⟨x, hx⟩ : ∃ x, (R[i]'hlt).1 = x := ⟨_, rfl⟩
          obtain ⟨y, hy⟩ : ∃ x, (R[i]'hlt).2 = x := ⟨_, rfl⟩
          rw [hx] at c0 HOUT HNEW HLESS HMORE
          rw [hy] at c1 HOUT HNEW HLESS
          have hS2 := Lib.hid (HI.out.1.alloc (.cells #[.int .i64 x, .int .i64 y] 37))
          obtain ⟨D, hD⟩ : ∃ D, max x lo = D := ⟨_, rfl⟩
          obtain ⟨M, hM⟩ : ∃ D, min y hi = D := ⟨_, rfl⟩
          rw [hD, hM] at HOUT HNEW HLESS
          rw [hD] at HMORE
          clear hcl hx hy HI
          by_cases h1 : D ≤ M
          · have q1 : decide (D ≤ M) = true := decide_eq_true h1
            cases ho : o with
            | none =>
              have HN := Lib.hid (HNEW.out ho h1)
              clear h1 HOUT HNEW HLESS HMORE ho
              simp only [Option.isSome_none, Option.getD_none]
              go_wp2_with fail
              go_roundw
              case rel => exact ⟨i + 1, some D, by omega, by go_num, rfl, rfl, hS2.out, HN.out⟩
              case measure => simp [intOf]; omega
            | some d =>
              simp only [Option.isSome_some, Option.getD_some]
              by_cases h2 : D < d
              · have HN := Lib.hid (HLESS.out d ho h1 h2)
                have q2 : decide (D < d) = true := decide_eq_true h2
                clear h1 h2 HOUT HNEW HLESS HMORE ho
                go_wp2_with fail
                go_roundw
                case rel => exact ⟨i + 1, some D, by omega, by go_num, rfl, rfl, hS2.out, HN.out⟩
                case measure => simp [intOf]; omega
              · have HN := Lib.hid (HMORE.out d ho h2)
                have q2 : decide (D < d) = false := decide_eq_false h2
                clear h1 h2 HOUT HNEW HLESS HMORE ho
                go_wp2_with fail
                go_roundw
                case rel => exact ⟨i + 1, some d, by omega, by go_num, rfl, rfl, hS2.out, HN.out⟩
                case measure => simp [intOf]; omega
          · have q1 : decide (D ≤ M) = false := decide_eq_false h1
            have HN := Lib.hid (HOUT.out h1)
            clear h1 HOUT HNEW HLESS HMORE
            go_wp2_with fail
            go_roundw
            case rel => exact ⟨i + 1, o, by omega, by go_num, rfl, rfl, hS2.out, HN.out⟩
            case measure => simp [intOf]; omega
        · obtain rfl : i = R.length := by omega
          have HF := Lib.hid (HE2.out o HI.out.2)
          have HX := Lib.hid HI.out.1.box
          obtain ⟨⟨c0, c1⟩, l1⟩ := HI.out.1.box.facts
          clear HI HE2
          cases ho : o with
          | none =>
            have LL : Hid ((((affO k a R f c).getD 0 : Nat) : Int) = 0 ∧ (affO k a R f c).isSome = false ∧ affE k a R f c = 0) := by rw [Hid, HF.out.1 ho, HE.out]; exact ⟨rfl, rfl, rfl⟩
            simp only [Option.isSome_none, Option.getD_none]
            clear HF HE ho
            go_wp2_with fail
            exact bodyPost_ret (v := .tuple #[.int .i64 0, .bool false, .int .i64 0]) (by simp [results, Tryz.results15, go_sem]) rfl ⟨by rw [LL.out.1, LL.out.2.1, LL.out.2.2], HX.out.bl⟩
          | some d =>
            obtain ⟨n, hn, hv, he⟩ := HF.out.2 d ho
            have LL : Hid ((((affO k a R f c).getD 0 : Nat) : Int) = n ∧ (affO k a R f c).isSome = true ∧ affE k a R f c = 0) := by rw [Hid, hn, HE.out]; exact ⟨rfl, rfl, rfl⟩
            have HOF := Lib.hid (fun w h => Of_any k a d w h)
            rw [hv, he] at HOF
            simp only [Option.isSome_some, Option.getD_some]
            clear HF HE ho hn hv he
            go_wp2_with (go_at_call 29; refine (HOF.out _ (HT.out.below HX.out.bl)).mono ?_; rintro e w4 ⟨rfl, hb4⟩; have HB4 := Lib.hid (HX.out.below hb4).bl; clear hb4)
            exact bodyPost_ret (v := .tuple #[.int .i64 n, .bool true, .int .i64 0]) (by simp [results, Tryz.results15, go_sem]) rfl ⟨by rw [LL.out.1, LL.out.2.1, LL.out.2.2], HB4.out⟩
end Go.Proofs.YtaafihdegnaokaaGreatDoor
/- Contracts: slices.SortFunc at ranges, retro.join. -/
namespace Go.Proofs.YtaafihdegnaokaaGreatDoor
open Go.RowKit Go.Sort Go.Shelf

/-- one range comes before another one -/
def ltR (a b : Int × Int) : Prop := a.1 < b.1 ∨ a.1 = b.1 ∧ a.2 < b.2
instance (a b : Int × Int) : Decidable (ltR a b) := by unfold ltR; infer_instance
def cmpR (a b : Int × Int) : Int := if ltR a b then -1 else if ltR b a then 1 else 0
theorem ltR_irr (a : Int × Int) : ¬ ltR a a := by unfold ltR; omega
theorem cmpR_neg {a b : Int × Int} : cmpR a b < 0 ↔ ltR a b := by
  unfold cmpR
  split
  · simp [*]
  · split <;> simp [*]
theorem ltOf_rng (a b : Int × Int) : ltOf cmpR a b = decide (ltR a b) := by
  unfold ltOf
  rw [Bool.eq_iff_iff, decide_eq_true_eq, decide_eq_true_eq]
  exact cmpR_neg
theorem swoR : SWO (ltOf cmpR) where
  irrefl x := by rw [ltOf_rng]; exact decide_eq_false (ltR_irr x)
  trans x y z h1 h2 := by
    rw [ltOf_rng, decide_eq_true_eq] at *
    unfold ltR at *; omega
  ntrans x y z h1 h2 := by
    rw [ltOf_rng, decide_eq_false_iff_not] at *
    unfold ltR at *; omega
theorem rng_len (x : Int × Int) : (prV x).length = 2 := rfl
theorem rng_one (x : Int × Int) : ∀ v ∈ prV x, v.oneCell' = true := by simp [prV, Value.oneCell']
theorem orL_rng (a b : Int × Int) : orL [cmpI a.1 b.1, cmpI a.2 b.2] = cmpR a b := by
  have key : ∀ x y : Int, cmpI x y = if x < y then -1 else if y < x then 1 else 0 := fun _ _ => rfl
  simp only [orL, key, cmpR, ltR]
  repeat' split
  all_goals first | rfl | omega
set_option maxRecDepth 100000 in
set_option maxHeartbeats 1000000 in
theorem cmpR_any (a b : Int × Int) (w : World) : Calls Tryz.prog 64 #[.agg #[.int .i64 a.1, .int .i64 a.2], .agg #[.int .i64 b.1, .int .i64 b.2]] w fun e w' => e = .returned (.int .i64 (cmpR a b)) ∧ ∃ q os, w' = grow (w.drewN q) os := by
  rw [← orL_rng]
  go_enter Tryz.func64, Tryz.ntmps64
  go_wp2
  refine region_tail 10 (by kernel_rfl) (by kernel_rfl) ?_
  simp only [List.take_succ_cons, List.take_zero, List.drop_succ_cons, List.drop_zero]
  repeat still_step
  still_call ((cmpI_any _ _ _).mono fun _ _ h => ⟨h.1, h.2.symm⟩)
  repeat still_step
  still_call ((cmpI_any _ _ _).mono fun _ _ h => ⟨h.1, h.2.symm⟩)
  refine wpStill_nil ?_
  go_wp2_with (go_at_call 65; refine (orL_any [cmpI a.1 b.1, cmpI a.2 b.2] _ _ _ (by simp) ?_).mono ?_; (intro k hk; rcases k with _ | _ | k; (simp [go_sem]); (simp [go_sem]); (simp at hk; omega)); rintro e w' ⟨rfl, rfl⟩)
  go_ret
  exact ⟨rfl, 1, _, by rw [alloc_eq_grow, alloc_eq_grow, alloc_eq_grow, grow_grow, grow_grow]; rfl⟩
/-- what the sort leaves -/
def SortRP (w : World) (base : Nat) (v : Value) (l : List (Int × Int)) (e : Ending) (w' : World) : Prop :=
  e = .returned (.tuple #[]) ∧ ∃ l', l'.Perm l ∧ l'.Pairwise (fun a b => ¬ ltR b a) ∧ Own w' base 37 2 v (prs l') ∧ w.grownBy w' v.ownBlock
theorem sortRng_any (v : Value) (l : List (Int × Int)) (base : Nat) (w : World) (hown : Own w base 37 2 v (prs l)) (hlen : l.length ≤ 1099511627776) :
    Calls Tryz.prog 63 #[v, .func (.func 64) #[] #[]] w (SortRP w base v l) := by
  have hl : (prs l).length = l.length := prs_len l
  rcases hown.1.2 with ⟨rfl, h0⟩ | ⟨g, cap, cur, rfl, hb, hg, hrest⟩
  · have hl0 : l = [] := List.eq_nil_of_length_eq_zero (by omega)
    subst hl0
    exact (AnyF.slices_SortFunc_none Tryz.sortRng none 0 _ w).mono fun e w' ⟨he, hw⟩ => by
      subst hw
      exact ⟨he, [], .refl _, .nil, hown, World.grownBy.refl _ _⟩
  · rw [hl] at hown ⊢
    obtain ⟨hH, hlt⟩ := own_holds (enc := prV) (k := 2) (by omega) rng_len rng_one hown
    have eg : ∀ args w, (callFunc 64 args).run Tryz.prog w = .ok (.enter 64 args) w := enters_of Tryz.func64 (by kernel_rfl) rfl
    have hcmp : CmpLays Tryz.prog 64 #[] prV 2 cmpR g 0 l.toArray.size w := fun _ _ _ _ x y => cmpR_any x y _
    have hcon := AnyQ.slices_SortFunc Tryz.sortRng 2 Tryz.isAgg37 Tryz.sizeOf37 prV rng_len rng_one cmpR swoR 64 #[] g 0 cap l.toArray w eg hcmp hH hlt (by simp; omega)
    refine Calls.mono (R := _) hcon fun e w' hh => ?_
    obtain ⟨he, d, n, os, hp, hs, hw⟩ := hh
    subst hw
    have hd : d.size = l.length := by simpa using hp.1
    have hk := own_sorted (enc := prV) (k := 2) (by omega) rng_len rng_one hown d hd n os
    refine ⟨he, d.toList, ?_, ?_, hk.1, hk.2⟩
    · have := hp.2.2
      simp only [List.size_toArray] at this
      rw [show d.extract 0 l.length = d by rw [← hd]; simp, show l.toArray.extract 0 l.length = l.toArray by simp] at this
      simpa using this
    · rw [List.pairwise_iff_getElem]
      intro i j hi hj hij
      have := hs i j (Nat.zero_le _) hij (by simp at hj ⊢; omega)
      rw [ltOf_rng, decide_eq_false_iff_not] at this
      simp only [Array.length_toList] at hi hj
      rw [getElem!_pos d j hj, getElem!_pos d i hi] at this
      simpa using this
/- joining, step by step -/
theorem joinT_none (r : Int × Int) : joinT [] r = [r] := rfl
theorem getLast_at {J : List (Int × Int)} {j : Nat} (hj : J.length = j + 1) : J.getLast? = some (J[j]'(by omega)) := by
  rw [List.getLast?_eq_getElem?]
  have hl : J.length - 1 = j := by omega
  rw [hl, List.getElem?_eq_getElem (by omega)]
theorem joinT_apart {J : List (Int × Int)} {r : Int × Int} {j : Nat} (hj : J.length = j + 1) (h : ¬ r.1 ≤ (J[j]'(by omega)).2 + 1) : joinT J r = J ++ [r] := by
  unfold joinT
  rw [getLast_at hj]
  simp only
  rw [if_neg h]
theorem joinT_touch {J : List (Int × Int)} {r : Int × Int} {j : Nat} (hj : J.length = j + 1) (h : r.1 ≤ (J[j]'(by omega)).2 + 1) : joinT J r = J.set j ((J[j]'(by omega)).1, max (J[j]'(by omega)).2 r.2) := by
  unfold joinT
  rw [getLast_at hj]
  simp only
  rw [if_pos h]
  apply List.ext_getElem?
  intro t
  have hl : J.length - 1 = j := by omega
  rw [List.getElem?_set, List.getElem?_append, List.length_dropLast, hl]
  by_cases h1 : t < j
  · rw [if_pos h1, if_neg (by omega), List.getElem?_dropLast, hl, if_pos h1]
  · rw [if_neg h1]
    by_cases h2 : j = t
    · subst h2
      rw [if_pos rfl, if_pos (by omega), Nat.sub_self]; rfl
    · rw [if_neg h2, List.getElem?_eq_none (by simp; omega), List.getElem?_eq_none (by omega)]
theorem joinL_step {S : List (Int × Int)} {k : Nat} (hk : k < S.length) : joinL (S.take (k + 1)) = joinT (joinL (S.take k)) S[k] := by
  unfold joinL
  rw [List.take_succ_eq_append_getElem hk, List.foldl_append]; rfl
theorem joinT_len (J : List (Int × Int)) (r : Int × Int) : (joinT J r).length ≤ J.length + 1 := by
  rcases Nat.eq_zero_or_pos J.length with h | h
  · rw [List.eq_nil_of_length_eq_zero h]; simp [joinT]
  · obtain ⟨j, hj⟩ : ∃ j, J.length = j + 1 := ⟨J.length - 1, by omega⟩
    by_cases ht : r.1 ≤ (J[j]'(by omega)).2 + 1
    · rw [joinT_touch hj ht, List.length_set]; omega
    · rw [joinT_apart hj ht, List.length_append]; simp
theorem joinL_len {S : List (Int × Int)} : ∀ {k : Nat}, k ≤ S.length → (joinL (S.take k)).length ≤ k
  | 0, _ => by simp [joinL]
  | k + 1, h => by
    rw [joinL_step (by omega)]
    have := joinT_len (joinL (S.take k)) (S[k]'(by omega))
    have := joinL_len (S := S) (k := k) (by omega)
    omega
theorem joinT_hi {J : List (Int × Int)} {r : Int × Int} (hJ : ∀ p ∈ J, 0 ≤ p.2 ∧ p.2 ≤ 84005) (hr : 0 ≤ r.2 ∧ r.2 ≤ 84005) : ∀ p ∈ joinT J r, 0 ≤ p.2 ∧ p.2 ≤ 84005 := fun p hp => by
  rcases Nat.eq_zero_or_pos J.length with h | h
  · rw [List.eq_nil_of_length_eq_zero h, joinT_none] at hp
    rw [List.mem_singleton.1 hp]; exact hr
  · obtain ⟨j, hj⟩ : ∃ j, J.length = j + 1 := ⟨J.length - 1, by omega⟩
    by_cases ht : r.1 ≤ (J[j]'(by omega)).2 + 1
    · rw [joinT_touch hj ht] at hp
      rcases List.mem_or_eq_of_mem_set hp with h2 | h2
      · exact hJ p h2
      · have := hJ _ (List.getElem_mem (show j < J.length by omega))
        rw [h2]; simp only; omega
    · rw [joinT_apart hj ht] at hp
      rcases List.mem_append.1 hp with h2 | h2
      · exact hJ p h2
      · rw [List.mem_singleton.1 h2]; exact hr
theorem joinL_hi {S : List (Int × Int)} (hS : ∀ p ∈ S, 0 ≤ p.2 ∧ p.2 ≤ 84005) : ∀ {k : Nat}, k ≤ S.length → ∀ p ∈ joinL (S.take k), 0 ≤ p.2 ∧ p.2 ≤ 84005
  | 0, _ => fun p hp => by simp [joinL] at hp
  | k + 1, h => by
    rw [joinL_step (by omega)]
    exact joinT_hi (joinL_hi hS (k := k) (by omega)) (hS _ (List.getElem_mem (show k < S.length by omega)))
theorem prs_set {J : List (Int × Int)} {j : Nat} (hj : j < J.length) (x : Int) : prs (J.set j ((J[j]).1, x)) = (prs J).set j ((prV J[j]).set 1 (.int .i64 x)) := by
  simp only [prs, List.map_set]; rfl
theorem pr_wide (a b : Int) : Wide 2 [[.int .i64 a, .int .i64 b]] := rng_wide a b
def JoinP (w : World) (v : Value) (L : List (Int × Int)) (e : Ending) (w' : World) : Prop :=
  ∃ x J, e = .returned x ∧ Own w' w.heap.size 37 2 x (prs J) ∧ Canon J ∧ (∀ d, Cov J d ↔ Cov L d) ∧ w.grownBy w' v.ownBlock
def JnR (w5 : World) (S : List (Int × Int)) (r i : Value) (wr : World) : Prop :=
  ∃ k : Nat, k ≤ S.length ∧ i = .int .i64 k ∧ Own wr w5.heap.size 37 2 r (prs (joinL (S.take k))) ∧ Below w5.heap.size w5 wr
theorem sorted_start {S : List (Int × Int)} (h : S.Pairwise fun a b => ¬ ltR b a) : S.Pairwise fun a b => a.1 ≤ b.1 := h.imp fun {a b} hab => by unfold ltR at hab; omega
set_option maxRecDepth 100000 in
set_option maxHeartbeats 4000000 in
theorem join_any (v : Value) (L : List (Int × Int)) (base : Nat) (w : World) (hown : Own w base 37 2 v (prs L)) (hlen : L.length ≤ 6000000) (hL : ∀ r ∈ L, 0 ≤ r.1 ∧ r.1 ≤ r.2 ∧ r.2 ≤ 84005) :
    Calls Tryz.prog 37 #[v] w (JoinP w v L) := by
  have HSR := Lib.hid (sortRng_any v L base w hown (by omega))
  have hf := hown.form
  rw [prs_len] at hf
  obtain ⟨A, cap, rfl⟩ := hf
  have HL := Lib.hid hL
  clear hL
  go_enter Tryz.func37, Tryz.ntmps37
  go_wp2_with fail
  refine HSR.out.mono ?_
  rintro e w5 ⟨rfl, S, hp, hs, hown5, hg5⟩
  have hSl : S.length = L.length := hp.length_eq
  have HG5 := Lib.hid hg5
  have HS : Hid ((∀ p ∈ S, 0 ≤ p.1 ∧ p.1 ≤ p.2 ∧ p.2 ≤ 84005) ∧ S.Pairwise (fun a b => a.1 ≤ b.1) ∧ ∀ d, Cov S d ↔ Cov L d) := ⟨fun p hp' => HL.out p (hp.mem_iff.1 hp'), sorted_start hs, fun d => cov_perm hp d⟩
  have HX := Lib.hid (hown5.sl (by omega))
  rw [← hSl] at HX HG5 hlen ⊢
  have hlen' : S.length ≤ 6000000 := hlen
  clear hSl hp hs hown5 hg5 hown HSR HL hlen
  go_wp2_with fail
  go_loopw [3, 11] (fun r i wr => JnR w5 S r i wr) (fun _ i _ => S.length - (intOf i).toNat)
  case atStart => exact ⟨0, by omega, rfl, Own.nil _ _ _ _, Below.refl _ _⟩
  case round =>
    obtain ⟨k, hk, rfl, hown, hbl⟩ := hrel
    obtain ⟨wo, rfl⟩ : ∃ wo : World, wo = wr := ⟨_, rfl⟩
    have hbs := hbl.size
    by_cases hlt : k < S.length
    · obtain ⟨bk, off, rfl, hc0⟩ := (HX.out.below hbl).cells (by rw [prs_len]; omega)
      obtain ⟨c0, c1⟩ := hc0.pr hlt
      have hbw := hc0.1
      have HST := Lib.hid (joinL_step hlt)
      have hJl := joinL_len (S := S) hk
      have hhi := joinL_hi (fun p hp => ⟨by have := HS.out.1 p hp; omega, (HS.out.1 p hp).2.2⟩) hk
      have hsk := HS.out.1 _ (List.getElem_mem hlt)
      obtain ⟨x, hx⟩ : ∃ x, (S[k]'hlt).1 = x := ⟨_, rfl⟩
      obtain ⟨y, hy⟩ : ∃ x, (S[k]'hlt).2 = x := ⟨_, rfl⟩
      have hxy : S[k]'hlt = (x, y) := Prod.ext hx hy
      rw [hxy] at HST
      rw [hx] at c0
      rw [hy] at c1
      rw [hx, hy] at hsk
      obtain ⟨J, hJ⟩ : ∃ J, joinL (S.take k) = J := ⟨_, rfl⟩
      rw [hJ] at HST hJl hhi hown
      clear hc0 hx hy hxy hJ
      obtain ⟨sk0, sk1, sk2⟩ := hsk
      rcases Nat.eq_zero_or_pos J.length with h0 | h0
      · obtain rfl : J = [] := List.eq_nil_of_length_eq_zero h0
        have HQ : Hid (prs (joinL (S.take (k + 1))) = prs [] ++ [[.int .i64 x, .int .i64 y]]) := by rw [Hid, HST.out, joinT_none]; rfl
        obtain ⟨A7, cap7, rfl⟩ := hown.form
        rw [prs_len] at hown ⊢
        simp only [List.length_nil] at hown ⊢
        clear h0 hhi HST hJl
        have HO5 : Hid (∀ q, Own ((wo.alloc (.cells #[.int .i64 x, .int .i64 y] 37)).drewN q) w5.heap.size 37 2 _ (prs [])) := fun q => (hown.alloc _).kept (Below.draws (Below.refl _ _) q)
        go_wp2_with fail
        go_quiet (fail)
        go_wp2_with (at_builtin; (refine wpList_append_sl rfl (.tmp 45) (.tmp 47) rfl rowRng w5.heap.size _ _ _ [[.int .i64 x, .int .i64 y]] rfl ((HO5.out _).alloc _) rfl (Sl.one (World.size_alloc _ _) rfl) (pr_wide x y) (by rw [prs_len]; unfold maxLen; simp <;> omega) (by rw [prs_len]; simp <;> omega) (by simp <;> omega) ?_); intro v3 w3 hown3 hg3 _; have hb3 := Own.grown ((HO5.out _).alloc _) ((Below.draws (hbl.alloc hbs _) _).alloc (by simp <;> omega) _) hg3 (by simp <;> omega); rw [← HQ.out] at hown3)
        go_roundw
        case rel => exact ⟨k + 1, by omega, by go_num, hown3, hb3⟩
        case measure => simp [intOf]; omega
      · obtain ⟨j, hj⟩ : ∃ j, J.length = j + 1 := ⟨J.length - 1, by omega⟩
        obtain ⟨g, cap7, rfl, hcap⟩ := hown.some_form (by rw [prs_len]; exact h0)
        rw [prs_len, hj] at hown hcap ⊢
        have hjl : j < J.length := by omega
        have HJ := Lib.hid hj
        have hj1 : j + 1 ≤ 6000000 := by omega
        have hjbd := hhi _ (List.getElem_mem hjl)
        have c5 := hown.cellE (by omega) (prs_at hjl) (j := 1) rfl
        have f5 := hown.frozenE (j * 2 + 1)
        have hz5 := (hown.lt rfl).2
        obtain ⟨pe, hpe⟩ : ∃ pe, (J[j]).2 = pe := ⟨_, rfl⟩
        rw [hpe] at hjbd c5
        obtain ⟨hp0, hp1⟩ := hjbd
        have i5 : (j : Int) < (j : Int) + 1 := by omega
        have s1 : IntKind.i64.wrap ((j : Int) + 1 - 1) = (j : Int) := by rw [show (j : Int) + 1 - 1 = (j : Int) by omega]; exact IntWalk.i64_in _ (by omega)
        have s3 : IntKind.i64.wrap (j : Int) = (j : Int) := IntWalk.i64_in _ (by omega)
        have s2 : IntKind.i64.wrap (pe + 1) = pe + 1 := IntWalk.i64_in _ (by omega)
        have g0 : decide ((0 : Int) < (j : Int) + 1) = true := decide_eq_true (by omega)
        have g0n : decide (0 < j + 1) = true := decide_eq_true (by omega)
        by_cases ht : x ≤ pe + 1
        · have HQ : Hid (prs (joinL (S.take (k + 1))) = (prs J).set j ((prV J[j]).set 1 (.int .i64 (max pe y)))) := by
            rw [Hid, HST.out, joinT_touch hj (by rw [hpe]; exact ht), prs_set hjl, hpe]
          have q1 : decide (x ≤ pe + 1) = true := decide_eq_true ht
          obtain ⟨D, hD⟩ : ∃ D, max pe y = D := ⟨_, rfl⟩
          rw [hD] at HQ
          have HOW : Hid (∀ q, (Own (((wo.alloc (.cells #[.int .i64 x, .int .i64 y] 37)).drewN q).setCell ⟨g, j * 2 + 1, none⟩ (.int .i64 D)) w5.heap.size 37 2 (.slice (some ⟨g, 0, none⟩) (j + 1) cap7) ((prs J).set j ((prV J[j]).set 1 (.int .i64 D)))) ∧ Below w5.heap.size w5 (((wo.alloc (.cells #[.int .i64 x, .int .i64 y] 37)).drewN q).setCell ⟨g, j * 2 + 1, none⟩ (.int .i64 D))) := fun q => by
            have h1 := (hown.alloc (.cells #[.int .i64 x, .int .i64 y] 37)).kept (Below.draws (Below.refl _ _) q)
            have h2 := h1.set1 (by omega) j (prs_at hjl) 1 (by omega) (.int .i64 D) rfl
            exact ⟨h2.1, h1.grown (Below.draws (hbl.alloc hbs _) q) h2.2 (by simp; omega)⟩
          clear hpe ht hhi HST hJl hj
          go_wp2_with fail
          go_quiet (fail)
          go_wp2_with fail
          refine region_tail 14 (by kernel_rfl) (by kernel_rfl) ?_
          simp only [List.take_succ_cons, List.take_zero, List.drop_succ_cons, List.drop_zero]
          repeat still_step
          refine wpStill_nil ?_
          go_wp2
          go_roundw
          case rel => exact ⟨k + 1, by omega, by go_num, by rw [HQ.out]; exact (HOW.out _).1, (HOW.out _).2⟩
          case measure => simp [intOf]; omega
        · have HQ : Hid (prs (joinL (S.take (k + 1))) = prs J ++ [[.int .i64 x, .int .i64 y]]) := by
            rw [Hid, HST.out, joinT_apart hj (by rw [hpe]; exact ht), prs_append]; rfl
          have q1 : decide (x ≤ pe + 1) = false := decide_eq_false ht
          have HO5 : Hid (∀ q, Own ((wo.alloc (.cells #[.int .i64 x, .int .i64 y] 37)).drewN q) w5.heap.size 37 2 _ (prs J)) := fun q => (hown.alloc _).kept (Below.draws (Below.refl _ _) q)
          clear hpe ht hhi HST hJl hj
          go_wp2_with fail
          go_quiet (fail)
          go_wp2_with (at_builtin; (refine wpList_append_sl rfl (.tmp 45) (.tmp 47) rfl rowRng w5.heap.size _ _ _ [[.int .i64 x, .int .i64 y]] rfl ((HO5.out _).alloc _) rfl (Sl.one (World.size_alloc _ _) rfl) (pr_wide x y) (by rw [prs_len, HJ.out]; unfold maxLen; simp <;> omega) (by rw [prs_len, HJ.out]; simp <;> omega) (by simp <;> omega) ?_); intro v3 w3 hown3 hg3 _; have hb3 := Own.grown ((HO5.out _).alloc _) ((Below.draws (hbl.alloc hbs _) _).alloc (by simp <;> omega) _) hg3 (by simp <;> omega); rw [← HQ.out] at hown3)
          go_roundw
          case rel => exact ⟨k + 1, by omega, by go_num, hown3, hb3⟩
          case measure => simp [intOf]; omega
    · obtain rfl : k = S.length := by omega
      rw [List.take_length] at hown
      obtain ⟨k1, k2⟩ := join_ok (fun r hr => (HS.out.1 r hr).2.1) HS.out.2.1
      have HF : Hid (∃ J, Own wo w.heap.size 37 2 _ (prs J) ∧ Canon J ∧ (∀ d, Cov J d ↔ Cov L d) ∧ w.grownBy wo (Value.slice A S.length cap).ownBlock) := ⟨_, hown.more HG5.out.size, k1, fun d => (k2 d).trans (HS.out.2.2 d), gb_below HG5.out hbl⟩
      clear hown hbl k1 k2
      go_wp2
      go_ret
      obtain ⟨J, h1, h2, h3, h4⟩ := HF.out
      exact ⟨_, J, rfl, h1, h2, h3, by cases A <;> exact h4⟩
end Go.Proofs.YtaafihdegnaokaaGreatDoor
/- Contracts: retro.Changed. -/
namespace Go.Proofs.YtaafihdegnaokaaGreatDoor
open Go.RowKit

theorem ch_none {xs : List (List Chg)} {a b f t E : Int} (h : chE xs f t = E) (hE : E ≠ 0) : chO xs a b f t = [] ∧ chE xs f t = E := ⟨by unfold chO; rw [if_neg (by rw [h]; exact hE)], h⟩
theorem ch_err3 {xs : List (List Chg)} {a b f t : Int} (h : 64 < xs.length) : chO xs a b f t = [] ∧ chE xs f t = 3 := ch_none (by unfold chE; rw [if_pos h]) (by decide)
theorem ch_err2 {xs : List (List Chg)} {a b f t : Int} (h : ¬ 64 < xs.length) (h2 : ¬ (0 ≤ f ∧ f ≤ 84005 ∧ 0 ≤ t ∧ t ≤ 84005)) : chO xs a b f t = [] ∧ chE xs f t = 2 := ch_none (by unfold chE; rw [if_neg h, if_pos h2]) (by decide)
theorem ch_err1 {xs : List (List Chg)} {a b f t : Int} (h : ¬ 64 < xs.length) (h2 : 0 ≤ f ∧ f ≤ 84005 ∧ 0 ≤ t ∧ t ≤ 84005) (h3 : t < f) : chO xs a b f t = [] ∧ chE xs f t = 1 := ch_none (by unfold chE; rw [if_neg h, if_neg (fun h' => h' h2), if_pos h3]) (by decide)
theorem ch_first {xs : List (List Chg)} {f t : Int} (h : ¬ 64 < xs.length) (h2 : 0 ≤ f ∧ f ≤ 84005 ∧ 0 ≤ t ∧ t ≤ 84005) (h3 : ¬ t < f) : chE xs f t = firstE xs := by unfold chE; rw [if_neg h, if_neg (fun h' => h' h2), if_neg h3]
theorem ch_bad {xs : List (Value × List Chg)} {a b f t : Int} (h : ¬ 64 < xs.length) (h2 : 0 ≤ f ∧ f ≤ 84005 ∧ 0 ≤ t ∧ t ≤ 84005) (h3 : ¬ t < f) {i : Nat} (hi : i < xs.length) (hj : ∀ j (hj : j < xs.length), j < i → validE (xs[j]).2 = 0) (hv : ¬ validE (xs[i]).2 = 0) :
    chO (xs.map (·.2)) a b f t = [] ∧ chE (xs.map (·.2)) f t = validE (xs[i]).2 := by
  refine ch_none ?_ hv
  rw [ch_first (by rw [List.length_map]; exact h) h2 h3]
  have hl : i < (xs.map (·.2)).length := by rw [List.length_map]; exact hi
  have := firstE_take (xs := xs.map (·.2)) hl (fun j h' => by rw [List.getElem_map]; exact hj j (by omega) h') (by rw [List.getElem_map]; exact hv)
  rw [this, List.getElem_map]
theorem ch_good {xs : List (Value × List Chg)} {a b f t : Int} (h : ¬ 64 < xs.length) (h2 : 0 ≤ f ∧ f ≤ 84005 ∧ 0 ≤ t ∧ t ≤ 84005) (h3 : ¬ t < f) (hv : ∀ i (hi : i < xs.length), validE (xs[i]).2 = 0) :
    chE (xs.map (·.2)) f t = 0 ∧ ∀ J, Canon J → (∀ d, Cov J d ↔ Cov (allD (xs.map (·.2)) a b f t) d) → chO (xs.map (·.2)) a b f t = J := by
  have h0 : chE (xs.map (·.2)) f t = 0 := by
    rw [ch_first (by rw [List.length_map]; exact h) h2 h3, firstE_zero]
    intro l hl
    obtain ⟨x, hx, rfl⟩ := List.mem_map.1 hl
    obtain ⟨i, hi, rfl⟩ := List.mem_iff_getElem.1 hx
    exact hv i hi
  refine ⟨h0, fun J hJ hc => ?_⟩
  unfold chO
  rw [if_pos h0]
  exact (chgJ_unique (by omega) hJ hc).symm
/-- the ranges of the first timelines -/
def allK (xs : List (Value × List Chg)) (a b f t : Int) (k : Nat) : List (Int × Int) := allD ((xs.take k).map (·.2)) a b f t
theorem allK_step {xs : List (Value × List Chg)} {a b f t : Int} {k : Nat} (hk : k < xs.length) : allK xs a b f t (k + 1) = allK xs a b f t k ++ rngD (xs[k]).2 a b f t := by
  unfold allK allD
  rw [List.take_succ_eq_append_getElem hk, List.map_append, List.flatMap_append]
  simp
theorem allK_end (xs : List (Value × List Chg)) (a b f t : Int) : allK xs a b f t xs.length = allD (xs.map (·.2)) a b f t := by unfold allK; rw [List.take_length]
theorem rngD_len (l : List Chg) {a b f t : Int} (h : 0 ≤ f ∧ t ≤ 84005) : (rngD l a b f t).length ≤ 84006 := by
  unfold rngD
  rw [List.length_map]
  have := runs_len (difV (inC l a) (inC l b)) f (t + 1 - f).toNat
  rw [difR]; omega
theorem allK_len {xs : List (Value × List Chg)} {a b f t : Int} (h : 0 ≤ f ∧ t ≤ 84005) : ∀ {k : Nat}, k ≤ xs.length → (allK xs a b f t k).length ≤ k * 84006
  | 0, _ => by simp [allK, allD]
  | k + 1, hk => by
    rw [allK_step (by omega), List.length_append]
    have := allK_len (xs := xs) (a := a) (b := b) h (k := k) (by omega)
    have := rngD_len (xs[k]'(by omega)).2 (a := a) (b := b) h
    omega
theorem prs_wide (R : List (Int × Int)) : Wide 2 (prs R) := fun x hx => by
  obtain ⟨p, _, rfl⟩ := List.mem_map.1 hx
  exact ⟨rfl, by simp [prV, Value.oneCell']⟩
theorem rngs_prs (l : List Chg) {a b f t : Int} (h : checkE l f t = 0) : rngs (diffC l a b f t) = prs (rngD l a b f t) := by
  unfold diffC
  rw [if_pos h]
  simp [rngs, prs, rngD, Pc.rng, prP, prV]
theorem check_ok {l : List Chg} {f t : Int} (h2 : 0 ≤ f ∧ f ≤ 84005 ∧ 0 ≤ t ∧ t ≤ 84005) (h3 : ¬ t < f) : checkE l f t = validE l := by
  unfold checkE
  by_cases h : validE l = 0
  · rw [if_pos h, if_pos h2, if_neg h3, h]
  · rw [if_neg h]
theorem Tls.at {w : World} {v : Value} {xs : List (Value × List Chg)} {A : Option Addr} {cap : Nat} (h : Tls w v xs) (hv : v = .slice A xs.length cap) {i : Nat} (hi : i < xs.length) :
    ∃ b off, A = some ⟨b, off, none⟩ ∧ b < w.heap.size ∧ w.cell? ⟨b, off + i, none⟩ = some (xs[i]).1 ∧ Sl w 4 (xs[i]).1 (chgs (xs[i]).2) := by
  subst hv
  obtain ⟨b, off, rfl, hc⟩ := h.sl.cells (by rw [List.length_map]; omega)
  refine ⟨b, off, rfl, hc.1, ?_, h.each _ (List.getElem_mem hi)⟩
  have := hc.2 i [(xs[i]).1] (by rw [List.getElem?_map, List.getElem?_eq_getElem hi]; rfl) 0 (xs[i]).1 rfl
  simpa using this
set_option maxRecDepth 100000 in
set_option maxHeartbeats 4000000 in
theorem Changed_any (v : Value) (xs : List (Value × List Chg)) (a b f t : Int) (w : World) (hv : Tls w v xs) :
    Calls Tryz.prog 19 #[v, .int .i64 a, .int .i64 b, .int .i64 f, .int .i64 t] w (RetOwn2 w 37 2 (prs (chO (xs.map (·.2)) a b f t)) (chE (xs.map (·.2)) f t)) := by
  have HV := Lib.hid hv
  obtain ⟨A, cap, hvv, -⟩ := hv.sl
  rw [List.length_map] at hvv
  clear hv
  subst hvv
  by_cases h1 : 64 < xs.length
  · have LL := Lib.hid (ch_err3 (a := a) (b := b) (f := f) (t := t) (xs := xs.map (·.2)) (by rw [List.length_map]; exact h1))
    have g1 : decide ((64 : Int) < (xs.length : Int)) = true := decide_eq_true (by omega)
    clear h1
    go_enter Tryz.func19, Tryz.ntmps19
    go_wp2_with fail
    exact bodyPost_ret (v := .tuple #[.slice none 0 0, .int .i64 3]) (by simp [results, Tryz.results19, go_sem]) rfl (by rw [RetOwn2, LL.out.1, LL.out.2]; exact ⟨_, rfl, Own.nil _ _ _ _, Below.refl _ _⟩)
  have g1 : decide ((64 : Int) < (xs.length : Int)) = false := decide_eq_false (by omega)
  by_cases h2 : 0 ≤ f ∧ f ≤ 84005 ∧ 0 ≤ t ∧ t ≤ 84005
  rotate_left
  · have LL := Lib.hid (ch_err2 (a := a) (b := b) (xs := xs.map (·.2)) (by rw [List.length_map]; exact h1) h2)
    have hcase : f < 0 ∨ (0 ≤ f ∧ 84005 < f) ∨ (0 ≤ f ∧ f ≤ 84005 ∧ t < 0) ∨ (0 ≤ f ∧ f ≤ 84005 ∧ 0 ≤ t ∧ 84005 < t) := by omega
    clear h1 h2
    rcases hcase with h3 | ⟨h3, h4⟩ | ⟨h3, h4, h5⟩ | ⟨h3, h4, h5, h6⟩
    · have q0 : decide (f < 0) = true := decide_eq_true (by omega)
      clear h3
      go_enter Tryz.func19, Tryz.ntmps19
      go_wp2_with fail
      exact bodyPost_ret (v := .tuple #[.slice none 0 0, .int .i64 2]) (by simp [results, Tryz.results19, go_sem]) rfl (by rw [RetOwn2, LL.out.1, LL.out.2]; exact ⟨_, rfl, Own.nil _ _ _ _, Below.refl _ _⟩)
    · have q0 : decide (f < 0) = false := decide_eq_false (by omega)
      have q1 : decide (84005 < f) = true := decide_eq_true (by omega)
      clear h3 h4
      go_enter Tryz.func19, Tryz.ntmps19
      go_wp2_with fail
      exact bodyPost_ret (v := .tuple #[.slice none 0 0, .int .i64 2]) (by simp [results, Tryz.results19, go_sem]) rfl (by rw [RetOwn2, LL.out.1, LL.out.2]; exact ⟨_, rfl, Own.nil _ _ _ _, Below.refl _ _⟩)
    · have q0 : decide (f < 0) = false := decide_eq_false (by omega)
      have q1 : decide (84005 < f) = false := decide_eq_false (by omega)
      have q2 : decide (t < 0) = true := decide_eq_true (by omega)
      clear h3 h4 h5
      go_enter Tryz.func19, Tryz.ntmps19
      go_wp2_with fail
      exact bodyPost_ret (v := .tuple #[.slice none 0 0, .int .i64 2]) (by simp [results, Tryz.results19, go_sem]) rfl (by rw [RetOwn2, LL.out.1, LL.out.2]; exact ⟨_, rfl, Own.nil _ _ _ _, Below.refl _ _⟩)
    · have q0 : decide (f < 0) = false := decide_eq_false (by omega)
      have q1 : decide (84005 < f) = false := decide_eq_false (by omega)
      have q2 : decide (t < 0) = false := decide_eq_false (by omega)
      have q3 : decide (84005 < t) = true := decide_eq_true (by omega)
      clear h3 h4 h5 h6
      go_enter Tryz.func19, Tryz.ntmps19
      go_wp2_with fail
      exact bodyPost_ret (v := .tuple #[.slice none 0 0, .int .i64 2]) (by simp [results, Tryz.results19, go_sem]) rfl (by rw [RetOwn2, LL.out.1, LL.out.2]; exact ⟨_, rfl, Own.nil _ _ _ _, Below.refl _ _⟩)
  obtain ⟨r0, r1, r2, r3⟩ := h2
  have q0 : decide (f < 0) = false := decide_eq_false (by omega)
  have q1 : decide (84005 < f) = false := decide_eq_false (by omega)
  have q2 : decide (t < 0) = false := decide_eq_false (by omega)
  have q3 : decide (84005 < t) = false := decide_eq_false (by omega)
  by_cases h3 : t < f
  · have LL := Lib.hid (ch_err1 (a := a) (b := b) (xs := xs.map (·.2)) (by rw [List.length_map]; exact h1) ⟨r0, r1, r2, r3⟩ h3)
    have q4 : decide (t < f) = true := decide_eq_true h3
    clear h1 h3
    go_enter Tryz.func19, Tryz.ntmps19
    go_wp2_with fail
    exact bodyPost_ret (v := .tuple #[.slice none 0 0, .int .i64 1]) (by simp [results, Tryz.results19, go_sem]) rfl (by rw [RetOwn2, LL.out.1, LL.out.2]; exact ⟨_, rfl, Own.nil _ _ _ _, Below.refl _ _⟩)
  have q4 : decide (t < f) = false := decide_eq_false h3
  have HBAD := Lib.hid (fun i (hi : i < xs.length) hj hv => ch_bad (a := a) (b := b) h1 ⟨r0, r1, r2, r3⟩ h3 hi hj hv)
  have HGOOD := Lib.hid (fun hv => ch_good (a := a) (b := b) (xs := xs) h1 ⟨r0, r1, r2, r3⟩ h3 hv)
  have HCK := Lib.hid (fun l : List Chg => check_ok (l := l) ⟨r0, r1, r2, r3⟩ h3)
  have hlen : xs.length ≤ 64 := by omega
  have HFT : Hid (f ≤ t) := by unfold Hid; omega
  clear h1 h3
  go_enter Tryz.func19, Tryz.ntmps19
  go_wp2_with fail
  go_loopw [42] (fun i wr => ∃ k : Nat, k ≤ xs.length ∧ i = .int .i64 k ∧ Hid (Below w.heap.size w wr ∧ ∀ j (hj : j < xs.length), j < k → validE (xs[j]).2 = 0)) (fun i _ => xs.length - (intOf i).toNat)
  case atStart => exact ⟨0, by omega, rfl, Below.refl _ _, fun j _ h => by omega⟩
  case round =>
    obtain ⟨k, hk, rfl, HI⟩ := hrel
    obtain ⟨wo, rfl⟩ : ∃ wo : World, wo = wr := ⟨_, rfl⟩
    by_cases hlt : k < xs.length
    · obtain ⟨bk, off, hA, hbl, c0, hsl⟩ := (HV.out.below HI.out.1).at rfl hlt
      subst hA
      have HB := Lib.hid (HBAD.out k hlt HI.out.2)
      have HNX : Hid (validE (xs[k]).2 = 0 → ∀ j (hj : j < xs.length), j < k + 1 → validE (xs[j]).2 = 0) := fun hk' j hj h => by
        rcases Nat.lt_or_ge j k with h' | h'
        · exact HI.out.2 j hj h'
        · have : j = k := by omega
          subst this; exact hk'
      have HVA := Lib.hid (valid_any _ _ wo hsl)
      obtain ⟨y, hy⟩ : ∃ y, (xs[k]'hlt).1 = y := ⟨_, rfl⟩
      obtain ⟨l, hl⟩ : ∃ y, (xs[k]'hlt).2 = y := ⟨_, rfl⟩
      rw [hy] at c0 hsl HVA
      rw [hl] at hsl HVA HB HNX
      obtain ⟨Ay, cy, rfl, -⟩ := hsl
      have HBL := Lib.hid HI.out.1
      clear hy hl HI
      by_cases h0 : validE l = 0
      · have HN := Lib.hid (HNX.out h0)
        rw [h0] at HVA
        clear h0 HB HNX
        go_wp2_with (go_at_call 35; refine HVA.out.mono ?_; rintro e w3 ⟨rfl, hb3⟩; have HB3 := Lib.hid (below_after HBL.out hb3 HBL.out.size); clear hb3)
        go_roundw
        case rel => exact ⟨k + 1, by omega, by go_num, HB3.out, HN.out⟩
        case measure => simp [intOf]; omega
      · have LL := Lib.hid (HB.out h0)
        obtain ⟨E, hE⟩ : ∃ E, validE l = E := ⟨_, rfl⟩
        rw [hE] at HVA LL h0
        have n1 : (E != 0) = true := by simpa using h0
        clear h0 HB HNX hE
        go_wp2_with (go_at_call 35; refine HVA.out.mono ?_; rintro e w3 ⟨rfl, hb3⟩; have HB3 := Lib.hid (below_after HBL.out hb3 HBL.out.size); clear hb3)
        exact bodyPost_ret (v := .tuple #[.slice none 0 0, .int .i64 E]) (by simp [results, Tryz.results19, go_sem]) rfl (by rw [RetOwn2, LL.out.1, LL.out.2]; exact ⟨_, rfl, Own.nil _ _ _ _, HB3.out⟩)
    · obtain rfl : k = xs.length := by omega
      have HVAL := Lib.hid (fun j hj => HI.out.2 j hj hj)
      have HG := Lib.hid (HGOOD.out HVAL.out)
      have HBL := Lib.hid HI.out.1
      clear HI HGOOD HBAD
      go_wp2_with fail
      go_loopw [15, 54] (fun r i wr => ∃ k : Nat, k ≤ xs.length ∧ i = .int .i64 k ∧ Hid (Own wr w.heap.size 37 2 r (prs (allK xs a b f t k)) ∧ Below w.heap.size w wr)) (fun _ i _ => xs.length - (intOf i).toNat)
      case atStart => exact ⟨0, by omega, rfl, (show Own _ _ _ _ _ (prs []) from Own.nil _ _ _ _), HBL.out⟩
      case round =>
        clear HBL
        obtain ⟨k, hk, rfl, HI⟩ := hrel
        obtain ⟨wo, rfl⟩ : ∃ wo : World, wo = wr := ⟨_, rfl⟩
        by_cases hlt : k < xs.length
        · obtain ⟨bk, off, hA, hbl, c0, hsl⟩ := (HV.out.below HI.out.2).at rfl hlt
          subst hA
          have hck : checkE (xs[k]'hlt).2 f t = 0 := by rw [HCK.out]; exact HVAL.out k hlt
          have HDI := Lib.hid (Diff_any _ _ a b f t wo hsl)
          rw [hck, rngs_prs _ hck] at HDI
          have hl1 := allK_len (xs := xs) (a := a) (b := b) ⟨r0, r3⟩ hk
          have hl2 := rngD_len (xs[k]'hlt).2 (a := a) (b := b) ⟨r0, r3⟩
          have HQ : Hid (prs (allK xs a b f t (k + 1)) = prs (allK xs a b f t k) ++ prs (rngD (xs[k]'hlt).2 a b f t)) := by rw [Hid, allK_step hlt, prs_append]
          obtain ⟨R, hR⟩ : ∃ R, allK xs a b f t k = R := ⟨_, rfl⟩
          obtain ⟨D, hD⟩ : ∃ R, rngD (xs[k]'hlt).2 a b f t = R := ⟨_, rfl⟩
          rw [hR] at HI hl1 HQ
          rw [hD] at HDI hl2 HQ
          obtain ⟨y, hy⟩ : ∃ y, (xs[k]'hlt).1 = y := ⟨_, rfl⟩
          rw [hy] at c0 hsl HDI
          obtain ⟨Ay, cy, rfl, -⟩ := hsl
          have hRl : R.length ≤ 5376384 := by omega
          have HO := Lib.hid HI.out.1
          have HBL := Lib.hid HI.out.2
          obtain ⟨Ar, cr, rfl⟩ := HO.out.form
          rw [prs_len] at HO
          have hbs := HBL.out.size
          clear hR hD hy hl1 hck HI
          unfold RetOwn2 at HDI
          simp only [prs_len]
          go_wp2_with fail
          refine HDI.out.mono ?_
          rintro e w3 ⟨z, rfl, hown3, hb3⟩
          have HB3 := Lib.hid (below_after HBL.out hb3 hbs)
          have hO3 := HO.out.kept hb3
          have hS3 := hown3.sl (by omega)
          obtain ⟨Az, cz, rfl⟩ := hown3.form
          rw [prs_len] at hS3 ⊢
          have hbs3 := HB3.out.size
          clear hb3 hown3 HO
          go_wp2_with (at_builtin; (refine wpList_append_sl rfl (.tmp 70) (.tmp 71) rfl rowRng w.heap.size _ _ _ (prs D) rfl hO3 rfl hS3 (prs_wide D) (by rw [prs_len, prs_len]; unfold maxLen; omega) (by rw [prs_len, prs_len]; omega) (by omega) ?_); intro v5 w5 hown5 hg5 _; have hb5 := Own.grown hO3 HB3.out hg5 hbs3; rw [← HQ.out] at hown5)
          go_roundw
          case rel => exact ⟨k + 1, by omega, by go_num, hown5, hb5⟩
          case measure => simp [intOf]; omega
        · obtain rfl : k = xs.length := by omega
          have hl1 := allK_len (xs := xs) (a := a) (b := b) ⟨r0, r3⟩ (Nat.le_refl xs.length)
          rw [allK_end] at hl1 HI
          have hLl : (allD (xs.map (·.2)) a b f t).length ≤ 6000000 := by omega
          have HJ := Lib.hid (join_any _ (allD (xs.map (·.2)) a b f t) w.heap.size wo HI.out.1 hLl (fun r hr => by have := all_in HFT.out hr; omega))
          have HO := Lib.hid HI.out.1
          have HBL := Lib.hid HI.out.2
          obtain ⟨Ar, cr, rfl⟩ := HO.out.form
          rw [prs_len] at HJ HO
          simp only [prs_len]
          clear HI hl1 hLl
          go_wp2_with (go_at_call 37; refine HJ.out.mono ?_; rintro e w6 ⟨x, J, rfl, hown6, hc6, hv6, hg6⟩; have HF : Hid (Own w6 w.heap.size 37 2 x (prs J) ∧ Below w.heap.size w w6 ∧ chO (xs.map (·.2)) a b f t = J) := ⟨hown6.more HBL.out.size, Own.grown HO.out HBL.out hg6 HBL.out.size, HG.out.2 J hc6 hv6⟩; clear hown6 hc6 hv6 hg6)
          exact bodyPost_ret (v := .tuple #[x, .int .i64 0]) (by simp [results, Tryz.results19, go_sem]) rfl (by rw [RetOwn2, HG.out.1, HF.out.2.2]; exact ⟨_, rfl, HF.out.1, HF.out.2.1⟩)
end Go.Proofs.YtaafihdegnaokaaGreatDoor
/- Contracts: retro.Plan. -/
namespace Go.Proofs.YtaafihdegnaokaaGreatDoor
open Go.RowKit

/-- i periods from b on -/
def plL (b : Int) (i : Nat) : List Int := (List.range i).map fun (j : Nat) => b + (j : Int)
theorem plL_len (b : Int) (i : Nat) : (plL b i).length = i := by simp [plL]
theorem plL_step (b : Int) (i : Nat) : plL b (i + 1) = plL b i ++ [b + (i : Int)] := by simp [plL, List.range_succ]
theorem pl_err {k a : Int} {xs : List (List Chg)} {n m f c E : Int} (h : plE k a xs f c = E) (hE : E ≠ 0) : plO k a xs n m f c = [] ∧ plE k a xs f c = E := ⟨by unfold plO; rw [if_neg (by rw [h]; exact hE)], h⟩
theorem plE_days {k a : Int} (xs : List (List Chg)) {f c : Int} (h : dyE k a f c ≠ 0) : plE k a xs f c = dyE k a f c := by unfold plE; rw [if_pos h]
theorem plE_chg {k a : Int} (xs : List (List Chg)) {f c : Int} (h : dyE k a f c = 0) : plE k a xs f c = chE xs (spLo k a f) (spHi k a c) := by unfold plE; rw [if_neg (by simp [h])]
theorem pl_good {k a : Int} {xs : List (List Chg)} {n m f c : Int} (h : plE k a xs f c = 0) {b : Int} (hb : plB k a xs n m f c = b) : plO k a xs n m f c = plL b (c + 1 - b).toNat ∧ plE k a xs f c = 0 := ⟨by unfold plO plL; rw [if_pos h, hb], h⟩
theorem plB_nil {k a : Int} {xs : List (List Chg)} {n m f c : Int} (h : chgJ xs n m (spLo k a f) (spHi k a c) = []) : plB k a xs n m f c = c := by unfold plB; rw [h]
theorem plB_cons {k a : Int} {xs : List (List Chg)} {n m f c : Int} {p : Int × Int} {J : List (Int × Int)} (h : chgJ xs n m (spLo k a f) (spHi k a c) = p :: J) : plB k a xs n m f c = ofV k a p.1 := by unfold plB; rw [h]
set_option maxRecDepth 100000 in
set_option maxHeartbeats 4000000 in
theorem Plan_any (k a : Int) (v : Value) (xs : List (Value × List Chg)) (n m f c : Int) (w : World) (hT : LenT w) (hv : Tls w v xs) :
    Calls Tryz.prog 23 #[.agg #[.int .i64 k, .int .i64 a], v, .int .i64 n, .int .i64 m, .int .i64 f, .int .i64 c] w (RetOwn2 w 3 1 (ints (plO k a (xs.map (·.2)) n m f c)) (plE k a (xs.map (·.2)) f c)) := by
  have HC := Lib.hid (CBox.new w k a)
  have HT := Lib.hid hT
  have HV := Lib.hid hv
  have HD := Lib.hid (fun w h => days_any k a f c w h)
  obtain ⟨A, cap, hvv, -⟩ := hv.sl
  rw [List.length_map] at hvv
  clear hT hv
  subst hvv
  by_cases h0 : dyE k a f c = 0
  rotate_left
  · have LL := Lib.hid (pl_err (n := n) (m := m) (plE_days (xs.map (·.2)) h0) h0)
    obtain ⟨E, hE⟩ : ∃ E, dyE k a f c = E := ⟨_, rfl⟩
    obtain ⟨L, hL⟩ : ∃ E, dyLo k a f c = E := ⟨_, rfl⟩
    obtain ⟨G, hG⟩ : ∃ E, dyHi k a f c = E := ⟨_, rfl⟩
    rw [hE, hL, hG] at HD
    rw [hE] at LL h0
    have n1 : (E != 0) = true := by simpa using h0
    clear hE hL hG h0
    go_enter Tryz.func23, Tryz.ntmps23
    go_wp2_with (go_at_call 33; refine (HD.out _ (HT.out.below HC.out.bl)).mono ?_; rintro e w1 ⟨rfl, hb1⟩; have HC1 := Lib.hid (HC.out.below hb1); clear hb1)
    exact bodyPost_ret (v := .tuple #[.slice none 0 0, .int .i64 E]) (by simp [results, Tryz.results23, go_sem]) rfl (by rw [RetOwn2, LL.out.1, LL.out.2]; exact ⟨_, rfl, Own.nil _ _ _ _, (HC1.out.alloc _).bl⟩)
  have HCH := Lib.hid (fun W h => Changed_any (.slice A xs.length cap) xs n m (spLo k a f) (spHi k a c) W h)
  have hlo : dyLo k a f c = spLo k a f := by unfold dyLo; rw [if_pos h0]
  have hhi : dyHi k a f c = spHi k a c := by unfold dyHi; rw [if_pos h0]
  rw [h0, hlo, hhi] at HD
  by_cases hc0 : chE (xs.map (·.2)) (spLo k a f) (spHi k a c) = 0
  rotate_left
  · have LL := Lib.hid (pl_err (n := n) (m := m) (plE_chg (xs.map (·.2)) h0) hc0)
    obtain ⟨E, hE⟩ : ∃ E, chE (xs.map (·.2)) (spLo k a f) (spHi k a c) = E := ⟨_, rfl⟩
    obtain ⟨J, hJ⟩ : ∃ E, chO (xs.map (·.2)) n m (spLo k a f) (spHi k a c) = E := ⟨_, rfl⟩
    obtain ⟨L, hL⟩ : ∃ E, spLo k a f = E := ⟨_, rfl⟩
    obtain ⟨G, hG⟩ : ∃ E, spHi k a c = E := ⟨_, rfl⟩
    rw [hE, hJ] at HCH
    rw [hE] at LL hc0
    rw [hL, hG] at HD HCH
    have n1 : (E != 0) = true := by simpa using hc0
    clear hE hJ hL hG h0 hc0 hlo hhi
    unfold RetOwn2 at HCH
    go_enter Tryz.func23, Tryz.ntmps23
    go_wp2_with fail
    refine (HD.out _ (HT.out.below HC.out.bl)).mono ?_
    rintro e w1 ⟨rfl, hb1⟩
    have HC1 := Lib.hid ((HC.out.below hb1).alloc (.cells #[.int .i64 L, .int .i64 G] 37))
    clear hb1
    go_wp2_with fail
    refine (HCH.out _ (HV.out.below HC1.out.bl)).mono ?_
    rintro e w2 ⟨x, rfl, hown2, hb2⟩
    have HC2 := Lib.hid (HC1.out.below hb2)
    clear hb2 hown2
    go_wp2_with fail
    exact bodyPost_ret (v := .tuple #[.slice none 0 0, .int .i64 E]) (by simp [results, Tryz.results23, go_sem]) rfl (by rw [RetOwn2, LL.out.1, LL.out.2]; exact ⟨_, rfl, Own.nil _ _ _ _, HC2.out.bl⟩)
  have hp0 : plE k a (xs.map (·.2)) f c = 0 := (plE_chg _ h0).trans hc0
  have hchO : chO (xs.map (·.2)) n m (spLo k a f) (spHi k a c) = chgJ (xs.map (·.2)) n m (spLo k a f) (spHi k a c) := by unfold chO; rw [if_pos hc0]
  rw [hc0, hchO] at HCH
  have hcc := dyE_ok h0
  have hcp := cnt_pos hcc.1
  obtain ⟨C, rfl⟩ : ∃ C : Nat, c = C := ⟨c.toNat, by omega⟩
  have hC9 : C ≤ 13000 := by omega
  cases hJ : chgJ (xs.map (·.2)) n m (spLo k a f) (spHi k a (C : Int)) with
  | nil =>
    have LL := Lib.hid (pl_good hp0 (plB_nil hJ))
    have hN : ((C : Int) + 1 - (C : Int)).toNat = 1 := by omega
    rw [hN] at LL
    rw [hJ] at HCH
    obtain ⟨L, hL⟩ : ∃ E, spLo k a f = E := ⟨_, rfl⟩
    obtain ⟨G, hG⟩ : ∃ E, spHi k a (C : Int) = E := ⟨_, rfl⟩
    rw [hL, hG] at HD HCH
    clear hJ hL hG h0 hc0 hlo hhi hp0 hchO hcc hcp hN
    unfold RetOwn2 at HCH
    go_enter Tryz.func23, Tryz.ntmps23
    go_wp2_with fail
    refine (HD.out _ (HT.out.below HC.out.bl)).mono ?_
    rintro e w1 ⟨rfl, hb1⟩
    have HC1 := Lib.hid ((HC.out.below hb1).alloc (.cells #[.int .i64 L, .int .i64 G] 37))
    clear hb1
    go_wp2_with fail
    refine (HCH.out _ (HV.out.below HC1.out.bl)).mono ?_
    rintro e w2 ⟨x, rfl, hown2, hb2⟩
    have HBL := Lib.hid (HC1.out.below hb2).bl
    obtain ⟨Ax, cx, rfl⟩ := hown2.form
    simp only [prs_len, List.length_nil]
    clear hb2 hown2 HC1
    have e1 : IntKind.i64.wrap ((C : Int) - (C : Int)) = (C : Int) - (C : Int) := IntWalk.i64_in _ (by omega)
    have e2 : IntKind.i64.wrap ((C : Int) - (C : Int) + 1) = (1 : Int) := by rw [show (C : Int) - (C : Int) + 1 = (1 : Int) by omega]; exact IntWalk.i64_in _ (by omega)
    have HTI := Lib.hid rowInt
    obtain ⟨ti, tz, hi1, hi2, hi3, hi4, hi5⟩ := rowInt.hi
    have HTZ : Hid (Tryz.prog.info? 3 = some ti ∧ ti.zero = some tz ∧ ti.size = 1 ∧ ti.bytes = 8) := ⟨hi1, hi2, hi3, hi4⟩
    clear hi1 hi2 hi3 hi4 hi5
    go_wp2_with (at_make; refine wpList_make_own _ rfl _ _ 22 rfl w.heap.size 3 ti tz 1 rowInt.ht HTZ.out.1 HTZ.out.2.1 HTZ.out.2.2.1 .i64 .i64 _ 1 rfl rfl (by first | rfl | exact e2) (by rw [HTZ.out.2.2.2]; omega) (by unfold maxLen; omega) (by have := HBL.out.size; omega) ?_; intro w7 hown7 hg7)
    have H7 : Hid (Own w7 w.heap.size 3 1 _ (ints (plL (C : Int) 0)) ∧ Below w.heap.size w w7) := ⟨⟨hown7, Wide.nil 1⟩, HBL.out.grown hg7 HBL.out.size (by simp)⟩
    clear hown7 hg7 HTI HTZ
    go_loopw [21, 22] (fun r t wr => ∃ i : Nat, i ≤ 1 ∧ t = .int .i64 ((C : Int) + (i : Int)) ∧ Hid (Own wr w.heap.size 3 1 r (ints (plL (C : Int) i)) ∧ Below w.heap.size w wr)) (fun _ t _ => ((C : Int) + 1 - intOf t).toNat)
    case atStart => exact ⟨0, by omega, by simp, H7.out⟩
    case round =>
      clear H7
      obtain ⟨i, hi, rfl, HI⟩ := hrel
      obtain ⟨wo, rfl⟩ : ∃ wo : World, wo = wr := ⟨_, rfl⟩
      obtain ⟨Ar, cr, rfl⟩ := HI.out.1.form
      rw [ints_len, plL_len] at HI
      simp only [ints_len, plL_len]
      have hbs := HI.out.2.size
      by_cases hlt : i < 1
      · have g9 : decide ((C : Int) + (i : Int) ≤ (C : Int)) = true := decide_eq_true (by omega)
        have e3 : IntKind.i64.wrap ((C : Int) + (i : Int) + 1) = (C : Int) + ((i + 1 : Nat) : Int) := by rw [show (C : Int) + (i : Int) + 1 = (C : Int) + ((i + 1 : Nat) : Int) by omega]; exact IntWalk.i64_in _ (by omega)
        go_wp2_with (at_builtin; (refine wpList_append_sl rfl (.tmp 77) (.tmp 79) rfl rowInt w.heap.size _ _ _ [[.int .i64 ((C : Int) + (i : Int))]] rfl (HI.out.1.alloc _) rfl (Sl.one rfl rfl) (ints_wide [(C : Int) + (i : Int)]) (by rw [ints_len, plL_len]; unfold maxLen; simp <;> omega) (by rw [ints_len, plL_len]; simp <;> omega) (by simp <;> omega) ?_); intro v3 w3 hown3 hg3 _; have H3 : Hid (Own w3 w.heap.size 3 1 v3 (ints (plL (C : Int) (i + 1))) ∧ Below w.heap.size w w3) := ⟨by rw [plL_step, ints_append]; exact hown3, Own.grown (HI.out.1.alloc _) (HI.out.2.alloc hbs _) hg3 (by simp <;> omega)⟩; clear hown3 hg3)
        go_roundw
        case rel => exact ⟨i + 1, by omega, rfl, H3.out⟩
        case measure => simp [intOf]; omega
      · obtain rfl : 1 = i := by omega
        have g9 : decide ((C : Int) + ((1 : Nat) : Int) ≤ (C : Int)) = false := decide_eq_false (by omega)
        go_wp2_with fail
        exact bodyPost_ret (v := .tuple #[.slice Ar 1 cr, .int .i64 0]) (by simp [results, Tryz.results23, go_sem]) rfl (by rw [RetOwn2, LL.out.1, LL.out.2]; exact ⟨_, rfl, HI.out.1, HI.out.2⟩)
  | cons p J' =>
    obtain ⟨hr0, hr1, hr2⟩ := chgJ_in (xs := xs.map (·.2)) (a := n) (b := m) (dy_range h0).2.1 (p := p) (by rw [hJ]; simp)
    obtain ⟨hA1, n', hA2, hA3, hA4, hA5⟩ := aff_first h0 hr0 hr1 hr2
    have hb := (plB_cons hJ).trans hA3
    have LL := Lib.hid (pl_good hp0 hb)
    obtain ⟨N, hN⟩ : ∃ N : Nat, ((C : Int) + 1 - (n' : Int)).toNat = N := ⟨_, rfl⟩
    rw [hN] at LL
    obtain ⟨b, hbb⟩ : ∃ b : Int, (n' : Int) = b := ⟨_, rfl⟩
    rw [hJ] at HCH
    have HAF := Lib.hid (fun W g cap' h hs => Affected_any k a (.slice (some ⟨g, 0, none⟩) 1 cap') [p] f (C : Int) W h hs)
    unfold AffP at HAF
    rw [hA1, hA2] at HAF
    simp only [Option.getD_some, Option.isSome_some] at HAF
    obtain ⟨L, hL⟩ : ∃ E, spLo k a f = E := ⟨_, rfl⟩
    obtain ⟨G, hG⟩ : ∃ E, spHi k a (C : Int) = E := ⟨_, rfl⟩
    rw [hL, hG] at HD HCH
    rw [hbb] at LL HAF hA5 hN
    clear hJ hL hG h0 hc0 hlo hhi hp0 hchO hcc hcp hA1 hA2 hA3 hb hr0 hr1 hr2
    have hN1 : b + N = (C : Int) + 1 := by omega
    have hb0 : 0 ≤ b := by omega
    clear hN
    unfold RetOwn2 at HCH
    go_enter Tryz.func23, Tryz.ntmps23
    go_wp2_with fail
    refine (HD.out _ (HT.out.below HC.out.bl)).mono ?_
    rintro e w1 ⟨rfl, hb1⟩
    have HC1 := Lib.hid ((HC.out.below hb1).alloc (.cells #[.int .i64 L, .int .i64 G] 37))
    clear hb1
    go_wp2_with fail
    refine (HCH.out _ (HV.out.below HC1.out.bl)).mono ?_
    rintro e w2 ⟨x, rfl, hown2, hb2⟩
    have HC2 := Lib.hid (HC1.out.below hb2)
    obtain ⟨g, cx, rfl, hcx⟩ := hown2.some_form (by simp [prs])
    obtain ⟨M, hM⟩ : ∃ M, (prs (p :: J')).length = M := ⟨_, rfl⟩
    have hM1 : 1 ≤ M := by rw [← hM]; simp [prs]
    have hS := hown2.sl (by omega)
    have hcm : cx ≤ maxLen := by
      obtain ⟨A', c', hv', h1', h2', _⟩ := hS
      injection hv' with q1 q2 q3
      rw [q3]; exact h2'
    rw [hM] at hS hcx ⊢
    have hS1 := hS.take 1 hM1 cx (by omega) hcm
    rw [show (prs (p :: J')).take 1 = prs [p] by simp [prs]] at hS1
    have hS1d : Sl w2.drew 2 (.slice (some ⟨g, 0, none⟩) 1 cx) (prs [p]) := hS1.below ((Below.refl _ _).drew)
    have HAFF := Lib.hid (HAF.out w2.drew g cx (HT.out.below HC2.out.bl.drew) hS1d)
    obtain ⟨⟨c0, c1⟩, l1⟩ := HC2.out.facts
    have q0 : decide ((0 : Int) < (M : Int)) = true := decide_eq_true (by omega)
    have q0n : decide (0 < M) = true := decide_eq_true (by omega)
    have q1 : 1 ≤ cx := by omega
    have q2 : (1 : Int) ≤ (cx : Int) := by omega
    clear hb2 hown2 HC1 hM hS hS1 hS1d hcm HAF
    go_wp2_with fail
    go_region_with ((go_at_call 15; refine HAFF.out.mono ?_; rintro e w3 ⟨rfl, hb3⟩))
    have HBL : Hid (Below w.heap.size w w3) := below_after HC2.out.bl.drew hb3 HC2.out.bl.size
    clear hb3 c0 c1 l1 HC2 HAFF q0 q0n
    have e1 : IntKind.i64.wrap ((C : Int) - b) = (C : Int) - b := IntWalk.i64_in _ (by omega)
    have e2 : IntKind.i64.wrap ((C : Int) - b + 1) = (N : Int) := by rw [show (C : Int) - b + 1 = (N : Int) by omega]; exact IntWalk.i64_in _ (by omega)
    have HTI := Lib.hid rowInt
    obtain ⟨ti, tz, hi1, hi2, hi3, hi4, hi5⟩ := rowInt.hi
    have HTZ : Hid (Tryz.prog.info? 3 = some ti ∧ ti.zero = some tz ∧ ti.size = 1 ∧ ti.bytes = 8) := ⟨hi1, hi2, hi3, hi4⟩
    clear hi1 hi2 hi3 hi4 hi5
    go_wp2_with (at_make; refine wpList_make_own _ rfl _ _ 22 rfl w.heap.size 3 ti tz 1 rowInt.ht HTZ.out.1 HTZ.out.2.1 HTZ.out.2.2.1 .i64 .i64 _ N rfl rfl (by first | rfl | exact e2) (by rw [HTZ.out.2.2.2]; omega) (by unfold maxLen; omega) (by have := HBL.out.size; omega) ?_; intro w7 hown7 hg7)
    have H7 : Hid (Own w7 w.heap.size 3 1 _ (ints (plL b 0)) ∧ Below w.heap.size w w7) := ⟨⟨hown7, Wide.nil 1⟩, HBL.out.grown hg7 HBL.out.size (by simp)⟩
    clear hown7 hg7 HTI HTZ
    go_loopw [21, 22] (fun r t wr => ∃ i : Nat, i ≤ N ∧ t = .int .i64 (b + (i : Int)) ∧ Hid (Own wr w.heap.size 3 1 r (ints (plL b i)) ∧ Below w.heap.size w wr)) (fun _ t _ => (b + N - intOf t).toNat)
    case atStart => exact ⟨0, by omega, by simp, H7.out⟩
    case round =>
      clear H7
      obtain ⟨i, hi, rfl, HI⟩ := hrel
      obtain ⟨wo, rfl⟩ : ∃ wo : World, wo = wr := ⟨_, rfl⟩
      obtain ⟨Ar, cr, rfl⟩ := HI.out.1.form
      rw [ints_len, plL_len] at HI
      simp only [ints_len, plL_len]
      have hbs := HI.out.2.size
      by_cases hlt : i < N
      · have g9 : decide (b + (i : Int) ≤ (C : Int)) = true := decide_eq_true (by omega)
        have e3 : IntKind.i64.wrap (b + (i : Int) + 1) = b + ((i + 1 : Nat) : Int) := by rw [show b + (i : Int) + 1 = b + ((i + 1 : Nat) : Int) by omega]; exact IntWalk.i64_in _ (by omega)
        go_wp2_with (at_builtin; (refine wpList_append_sl rfl (.tmp 77) (.tmp 79) rfl rowInt w.heap.size _ _ _ [[.int .i64 (b + (i : Int))]] rfl (HI.out.1.alloc _) rfl (Sl.one rfl rfl) (ints_wide [b + (i : Int)]) (by rw [ints_len, plL_len]; unfold maxLen; simp <;> omega) (by rw [ints_len, plL_len]; simp <;> omega) (by simp <;> omega) ?_); intro v3 w3 hown3 hg3 _; have H3 : Hid (Own w3 w.heap.size 3 1 v3 (ints (plL b (i + 1))) ∧ Below w.heap.size w w3) := ⟨by rw [plL_step, ints_append]; exact hown3, Own.grown (HI.out.1.alloc _) (HI.out.2.alloc hbs _) hg3 (by simp <;> omega)⟩; clear hown3 hg3)
        go_roundw
        case rel => exact ⟨i + 1, by omega, rfl, H3.out⟩
        case measure => simp [intOf]; omega
      · obtain rfl : N = i := by omega
        have g9 : decide (b + ((N : Nat) : Int) ≤ (C : Int)) = false := decide_eq_false (by omega)
        go_wp2_with fail
        exact bodyPost_ret (v := .tuple #[.slice Ar N cr, .int .i64 0]) (by simp [results, Tryz.results23, go_sem]) rfl (by rw [RetOwn2, LL.out.1, LL.out.2]; exact ⟨_, rfl, HI.out.1, HI.out.2⟩)
end Go.Proofs.YtaafihdegnaokaaGreatDoor
/- Remainders. -/
namespace Go.Proofs.YtaafihdegnaokaaGreatDoor
open Go.RowKit

theorem tmod_lo (v n : Int) (hn : 0 < n) : -n < v.tmod n := by
  have := Int.tmod_lt_of_pos (-v) hn
  rw [Int.neg_tmod] at this; omega
theorem emod_of_tmod (v n : Int) (hn : 0 < n) : v % n = if v.tmod n < 0 then v.tmod n + n else v.tmod n := by
  rw [Int.emod_eq_tmod]
  have h1 := Int.tmod_lt_of_pos v hn
  have h2 := tmod_lo v n hn
  by_cases h0 : 0 ≤ v
  · rw [if_pos (.inl h0)]
    have h3 := Int.tmod_nonneg n h0
    rw [if_neg (by omega)]; omega
  · by_cases hd : n ∣ v
    · rw [if_pos (.inr hd)]
      have h3 : v.tmod n = 0 := Int.tmod_eq_zero_of_dvd hd
      rw [h3]; simp
    · rw [if_neg (by simp [h0, hd])]
      have h3 : v.tmod n ≤ 0 := by
        have := Int.tmod_nonneg n (show 0 ≤ -v by omega)
        rw [Int.neg_tmod] at this; omega
      have h4 : v.tmod n ≠ 0 := fun h => hd (Int.dvd_of_tmod_eq_zero h)
      rw [if_pos (by omega)]
      have : (n.natAbs : Int) = n := by omega
      omega

end Go.Proofs.YtaafihdegnaokaaGreatDoor
/- Contracts of paygen.Deck: New, Next, Pick. What is drawn is said by its range alone. -/
namespace Go.Proofs.YtaafihdegnaokaaGreatDoor
open Go.RowKit

/-- a deck in block D, of which so many numbers have been drawn -/
def Deck (w : World) (D dr : Nat) : Prop :=
  ∃ (A : Option Addr) (n c : Nat) (zs : List Int), w.heap[D]? = some (.cells #[.slice A n c, .int .i64 dr] 56 (0, 0)) ∧ zs.length = n ∧ n ≤ maxLen ∧
    (zs = [] ∨ ∃ b off, A = some ⟨b, off, none⟩ ∧ b < D ∧ ∀ i z, zs[i]? = some z → w.cell? ⟨b, off + i, none⟩ = some (.int .i64 z))
theorem Deck.lt {w : World} {D dr : Nat} (h : Deck w D dr) : D < w.heap.size := by
  obtain ⟨A, n, c, zs, hh, _⟩ := h
  rcases Nat.lt_or_ge D w.heap.size with hlt | hge
  · exact hlt
  · rw [Array.getElem?_eq_none hge] at hh; cases hh
theorem Deck.keep {w w' : World} {D dr : Nat} {row : Option Nat} (h : Deck w D dr) (hg : w.grownBy w' row) (hr : ∀ k, row = some k → D < k) : Deck w' D dr := by
  have hlt := h.lt
  obtain ⟨A, n, c, zs, hh, h1, h2, h3⟩ := h
  refine ⟨A, n, c, zs, (hg.block D hlt fun e => by have := hr D e.symm; omega).trans hh, h1, h2, ?_⟩
  rcases h3 with rfl | ⟨b, off, rfl, hb, hc⟩
  · exact .inl rfl
  · refine .inr ⟨b, off, rfl, hb, fun i z hz => ?_⟩
    exact (World.cell?_of_block (w := w) (a := ⟨b, off + i, none⟩) (hg.block b (by omega) fun e => by have := hr b e.symm; omega)).trans (hc i z hz)
theorem Deck.below {w w' : World} {D dr : Nat} (h : Deck w D dr) (hb : Below w.heap.size w w') : Deck w' D dr :=
  h.keep (row := none) ⟨hb.os, hb.tape, hb.output, hb.size, fun k hk _ => hb.block k hk⟩ (fun k hk => by cases hk)
theorem Deck.step {w : World} {D dr : Nat} (h : Deck w D dr) (q : Nat) : Deck ((w.drewN q).setCell ⟨D, 1, none⟩ (.int .i64 (dr + 1 : Nat))) D (dr + 1) ∧ w.grownBy ((w.drewN q).setCell ⟨D, 1, none⟩ (.int .i64 (dr + 1 : Nat))) (some D) := by
  refine ⟨?_, gb_set (gb_draws (World.grownBy.refl _ _) q) (.inl rfl) _⟩
  obtain ⟨A, n, c, zs, hh, h1, h2, h3⟩ := h
  refine ⟨A, n, c, zs, ?_, h1, h2, ?_⟩
  · simp only [World.setCell]
    rw [Array.getElem?_modify, if_pos rfl]
    show (w.heap[D]?).map _ = _
    rw [hh]; rfl
  · rcases h3 with rfl | ⟨b, off, rfl, hb, hc⟩
    · exact .inl rfl
    · refine .inr ⟨b, off, rfl, hb, fun i z hz => ?_⟩
      rw [World.cell?_setCell_other _ _ _ _ (by intro e; injection e; omega)]
      exact hc i z hz
/-- what a draw below n leaves -/
def NextPost (w : World) (D dr : Nat) (n : Int) (e : Ending) (w' : World) : Prop :=
  ∃ r : Int, (0 ≤ r ∧ r < n) ∧ e = .returned (.int .i64 r) ∧ Deck w' D (dr + 1) ∧ w.grownBy w' (some D)

set_option maxHeartbeats 1000000 in
theorem Next_any (D dr : Nat) (n : Int) (w : World) (hd : Deck w D dr) (hdr : dr ≤ 1099511627776) (hn : 0 < n) (hn2 : n ≤ 1099511627776) :
    Calls Tryz.prog 10 #[.pointer (some ⟨D, 0, none⟩), .int .i64 n] w (NextPost w D dr n) := by
  have hst := Lib.hid (fun q => hd.step q)
  obtain ⟨A, m, c, zs, hh, h1, h2, h3⟩ := hd
  have c0 : w.cell? ⟨D, 0, none⟩ = some (.slice A m c) := cell_of_row w D 0 _ _ _ hh
  have c1 : w.cell? ⟨D, 1, none⟩ = some (.int .i64 dr) := cell_of_row w D 1 _ _ _ hh
  have f1 : w.frozen? ⟨D, 1, none⟩ = false := frozen_of_row w D 1 _ _ hh
  have hz : (n == 0) = false := beq_eq_false_iff_ne.2 (by omega)
  unfold maxLen at h2
  have H1 := Lib.hid h1
  have H3 := Lib.hid h3
  clear hh h1 h3
  by_cases hlt : dr < m
  · rcases H3.out with h | ⟨b, off, rfl, hb, hc⟩
    · have := H1.out; rw [h] at this; simp at this; omega
    · obtain ⟨z, hzz⟩ : ∃ z, zs[dr]? = some z := ⟨_, List.getElem?_eq_getElem (by have := H1.out; omega)⟩
      have cz : w.cell? ⟨b, off + dr, none⟩ = some (.int .i64 z) := hc dr z hzz
      have t1 := Int.tmod_lt_of_pos z hn
      have t2 := tmod_lo z n hn
      have HE := Lib.hid (emod_of_tmod z n hn)
      have HR : Hid (0 ≤ z % n ∧ z % n < n) := ⟨Int.emod_nonneg _ (by omega), Int.emod_lt_of_pos _ hn⟩
      clear H3 hc hzz H1
      by_cases h0 : z.tmod n < 0
      · go_enter Tryz.func10, Tryz.ntmps10
        go_wp2
        go_quiet (fail)
        go_wp2
        go_quiet (fail)
        go_wp2
        go_ret
        exact ⟨_, HR.out, ret_int (by rw [HE.out, if_pos (by omega)]), (hst.out _).1, (hst.out _).2⟩
      · go_enter Tryz.func10, Tryz.ntmps10
        go_wp2
        go_quiet (fail)
        go_wp2
        go_quiet (fail)
        go_wp2
        go_ret
        exact ⟨_, HR.out, ret_int (by rw [HE.out, if_neg (by omega)]), (hst.out _).1, (hst.out _).2⟩
  · have t1 := Int.tmod_lt_of_pos (5 * (dr : Int) + 2) hn
    have HE : Hid ((5 * (dr : Int) + 2).tmod n = (5 * (dr : Int) + 2) % n) := Int.tmod_eq_emod_of_nonneg (by omega)
    have HR : Hid (0 ≤ (5 * (dr : Int) + 2) % n ∧ (5 * (dr : Int) + 2) % n < n) := ⟨Int.emod_nonneg _ (by omega), Int.emod_lt_of_pos _ hn⟩
    have hr1 := HR.out.1
    clear H3 H1 t1
    go_enter Tryz.func10, Tryz.ntmps10
    go_wp2
    go_quiet (fail)
    go_wp2
    go_ret
    exact ⟨_, HR.out, rfl, (hst.out _).1, (hst.out _).2⟩

end Go.Proofs.YtaafihdegnaokaaGreatDoor
/- Contract of paygen.New. -/
namespace Go.Proofs.YtaafihdegnaokaaGreatDoor
open Go.RowKit
theorem new_any (v : Value) (zs : List Int) (w : World) (hv : Sl w 1 v (ints zs)) :
    Calls Tryz.prog 8 #[v] w fun e w' => e = .returned (.pointer (some ⟨w.heap.size, 0, none⟩)) ∧ Deck w' w.heap.size 0 ∧ Below w.heap.size w w' := by
  obtain ⟨A, cap, rfl, h1, h2, _, h3⟩ := hv
  have H3 := Lib.hid h3
  clear h3
  go_enter Tryz.func8, Tryz.ntmps8
  go_wp2
  go_ret
  refine ⟨rfl, ⟨A, zs.length, cap, zs, by rw [← ints_len]; exact heap_alloc_new w _, rfl, by rw [ints_len] at h1; omega, ?_⟩, (Below.refl _ _).alloc (Nat.le_refl _) _⟩
  rcases H3.out with h | ⟨b, off, rfl, hc⟩
  · left
    have := congrArg List.length h
    rw [ints_len] at this
    exact List.eq_nil_of_length_eq_zero this
  · refine .inr ⟨b, off, rfl, hc.1, fun i z hz => ?_⟩
    rw [World.cell?_alloc_lt _ _ _ hc.1]
    have := hc.2 i [.int .i64 z] (by simp [ints, hz]) 0 _ rfl
    rwa [Nat.mul_one, Nat.add_zero] at this

end Go.Proofs.YtaafihdegnaokaaGreatDoor
/- Contracts of package paygen: Mod. -/
namespace Go.Proofs.YtaafihdegnaokaaGreatDoor
open Go.RowKit

theorem Mod_any (v n : Int) (w : World) (hn : 0 < n) (hn2 : n ≤ 1099511627776) :
    Calls Tryz.prog 13 #[.int .i64 v, .int .i64 n] w fun e w' => e = .returned (.int .i64 (v % n)) ∧ w = w' := by
  have h1 := Int.tmod_lt_of_pos v hn
  have h2 := tmod_lo v n hn
  have H := Lib.hid (emod_of_tmod v n hn)
  have hz : (n == 0) = false := beq_eq_false_iff_ne.2 (by omega)
  by_cases h0 : v.tmod n < 0
  · go_enter Tryz.func13, Tryz.ntmps13
    go_wp2
    go_ret
    exact ⟨ret_int (by rw [H.out, if_pos (by omega)]), rfl⟩
  · go_enter Tryz.func13, Tryz.ntmps13
    go_wp2
    go_ret
    exact ⟨ret_int (by rw [H.out, if_neg (by omega)]), rfl⟩

end Go.Proofs.YtaafihdegnaokaaGreatDoor
/- The laws' small functions: months, calendar, ints, ranges, few, awake. -/
namespace Go.Proofs.YtaafihdegnaokaaGreatDoor
open Go.RowKit

theorem months_any (w : World) : Calls Tryz.prog 32 #[] w fun e w' => e = .returned (.agg #[.int .i64 0, .int .i64 0]) ∧ Below w.heap.size w w' := by
  have h0 := Row.new w 24 #[.int .i64 0, .int .i64 0]
  have hb := (Below.refl w.heap.size w).alloc (Nat.le_refl _) (.cells #[.int .i64 0, .int .i64 0] 24)
  go_enter Tryz.func32, Tryz.ntmps32
  go_wp2
  exact bodyPost_ret (v := .agg #[.int .i64 0, .int .i64 0]) (by simp [results, Tryz.results32, go_sem]) rfl ⟨rfl, by repeat (first | exact hb | exact Below.refl _ _ | refine Below.draws ?_ _ | refine Below.setCell ?_ (by simp) _ | refine Below.alloc ?_ (Nat.le_refl _) _)⟩
theorem neG (a b : Int) (w : World) : (binOp .neq 37 (.agg #[.int .i64 a, .int .i64 b]) (.agg #[.int .i64 a, .int .i64 b])).run Tryz.prog w = .ok (.bool false) w := by simp [go_sem]

set_option maxRecDepth 100000 in
theorem same_ints_any (va vb : Value) (l : List Int) (w : World) (ha : Sl w 1 va (ints l)) (hb : Sl w 1 vb (ints l)) :
    Calls Tryz.prog 25 #[va, vb] w fun e w' => e = .returned (.bool true) ∧ Below w.heap.size w w' := by
  have HA := Lib.hid ha
  have HB := Lib.hid hb
  obtain ⟨A1, c1, rfl, h1, h2, -⟩ := ha
  obtain ⟨A2, c2, rfl, -⟩ := hb
  rw [ints_len] at *
  unfold maxLen at h2
  go_enter Tryz.func25, Tryz.ntmps25
  go_wp2_with fail
  go_loopw [5] (fun i wr => ∃ k : Nat, k ≤ l.length ∧ i = .int .i64 k ∧ Below w.heap.size w wr) (fun i _ => l.length - (intOf i).toNat)
  case atStart => exact ⟨0, by omega, rfl, Below.refl _ _⟩
  case round =>
    obtain ⟨k, hk, rfl, hbl⟩ := hrel
    obtain ⟨wo, rfl⟩ : ∃ wo : World, wo = wr := ⟨_, rfl⟩
    by_cases hlt : k < l.length
    · obtain ⟨p, po, rfl, hp⟩ := (HA.out.below hbl).cells (by rw [ints_len]; omega)
      obtain ⟨q, qo, rfl, hq⟩ := (HB.out.below hbl).cells (by rw [ints_len]; omega)
      have p0 := hp.int hlt
      have q0 := hq.int hlt
      have i1 : (k : Int) < (l.length : Int) := by omega
      have b1 := hp.1
      have b2 := hq.1
      clear hp hq
      go_wp2_with fail
      go_quiet (fail)
      go_wp2
      go_roundw
      case rel => exact ⟨k + 1, by omega, by go_num, Below.draws hbl _⟩
      case measure => simp [intOf]; omega
    · go_wp2
      go_ret
      exact ⟨rfl, hbl⟩

set_option maxRecDepth 100000 in
theorem same_ranges_any (va vb : Value) (l : List (Int × Int)) (w : World) (ha : Sl w 2 va (prs l)) (hb : Sl w 2 vb (prs l)) :
    Calls Tryz.prog 21 #[va, vb] w fun e w' => e = .returned (.bool true) ∧ Below w.heap.size w w' := by
  have HA := Lib.hid ha
  have HB := Lib.hid hb
  obtain ⟨A1, c1, rfl, h1, h2, -⟩ := ha
  obtain ⟨A2, c2, rfl, -⟩ := hb
  rw [prs_len] at *
  unfold maxLen at h2
  go_enter Tryz.func21, Tryz.ntmps21
  go_wp2_with fail
  go_loopw [5] (fun i wr => ∃ k : Nat, k ≤ l.length ∧ i = .int .i64 k ∧ Below w.heap.size w wr) (fun i _ => l.length - (intOf i).toNat)
  case atStart => exact ⟨0, by omega, rfl, Below.refl _ _⟩
  case round =>
    obtain ⟨k, hk, rfl, hbl⟩ := hrel
    obtain ⟨wo, rfl⟩ : ∃ wo : World, wo = wr := ⟨_, rfl⟩
    by_cases hlt : k < l.length
    · obtain ⟨p, po, rfl, hp⟩ := (HA.out.below hbl).cells (by rw [prs_len]; omega)
      obtain ⟨q, qo, rfl, hq⟩ := (HB.out.below hbl).cells (by rw [prs_len]; omega)
      obtain ⟨p0, p1⟩ := hp.pr hlt
      obtain ⟨q0, q1⟩ := hq.pr hlt
      have E := fun W => neG (l[k]).1 (l[k]).2 W
      have i1 : (k : Int) < (l.length : Int) := by omega
      have b1 := hp.1
      have b2 := hq.1
      clear hp hq
      go_wp2_with fail
      go_quiet (fail)
      go_wp2
      go_roundw
      case rel => exact ⟨k + 1, by omega, by go_num, Below.draws hbl _⟩
      case measure => simp [intOf]; omega
    · go_wp2
      go_ret
      exact ⟨rfl, hbl⟩

set_option maxRecDepth 100000 in
theorem few_any (v : Value) (xs : List (Value × List Chg)) (w : World) (hv : Tls w v xs) :
    Calls Tryz.prog 17 #[v] w fun e w' => (∃ b, e = .returned (.bool b)) ∧ Below w.heap.size w w' := by
  have HV := Lib.hid hv
  obtain ⟨A, cap, hvv, -⟩ := hv.sl
  rw [List.length_map] at hvv
  clear hv
  subst hvv
  by_cases hl : 70 < xs.length
  · have g1 : decide ((70 : Int) < (xs.length : Int)) = true := decide_eq_true (by omega)
    go_enter Tryz.func17, Tryz.ntmps17
    go_wp2
    go_ret
    exact ⟨⟨_, rfl⟩, Below.refl _ _⟩
  · have g1 : decide ((70 : Int) < (xs.length : Int)) = false := decide_eq_false (by omega)
    go_enter Tryz.func17, Tryz.ntmps17
    go_wp2_with fail
    go_loopw [3, 4] (fun n i wr => ∃ (k : Nat) (z : Int), k ≤ xs.length ∧ i = .int .i64 k ∧ n = .int .i64 z ∧ Below w.heap.size w wr) (fun _ i _ => xs.length - (intOf i).toNat)
    case atStart => exact ⟨0, 0, by omega, rfl, rfl, Below.refl _ _⟩
    case round =>
      obtain ⟨k, z, hk, rfl, rfl, hbl⟩ := hrel
      obtain ⟨wo, rfl⟩ : ∃ wo : World, wo = wr := ⟨_, rfl⟩
      by_cases hlt : k < xs.length
      · obtain ⟨bk, off, hA, hbw, c0, hsl⟩ := (HV.out.below hbl).at rfl hlt
        subst hA
        obtain ⟨y, hy⟩ : ∃ y, (xs[k]'hlt).1 = y := ⟨_, rfl⟩
        rw [hy] at c0 hsl
        obtain ⟨Ay, cy, rfl, -⟩ := hsl
        clear hy
        obtain ⟨S, hS⟩ : ∃ S, IntKind.i64.wrap (z + ((chgs (xs[k]'hlt).2).length : Int)) = S := ⟨_, rfl⟩
        go_wp2_with fail
        go_roundw
        case rel => exact ⟨k + 1, S, by omega, by go_num, rfl, hbl⟩
        case measure => simp [intOf]; omega
      · go_wp2
        go_ret
        exact ⟨⟨_, rfl⟩, hbl⟩

/-- a pay calendar has been drawn -/
def CalPost (w : World) (D dr : Nat) (e : Ending) (w' : World) : Prop :=
  ∃ (k a : Int) (d : Nat), e = .returned (.agg #[.int .i64 k, .int .i64 a]) ∧ CalOk k a ∧ Deck w' D d ∧ d ≤ dr + 2 ∧ w.grownBy w' (some D)
theorem row2 {w : World} {g : Nat} {t : TypeId} {a b : Value} (h : Row w g t #[a, b]) : (w.cell? ⟨g, 0, none⟩ = some a ∧ w.cell? ⟨g, 1, none⟩ = some b ∧ g < w.heap.size) ∧ w.frozen? ⟨g, 0, none⟩ = false ∧ w.frozen? ⟨g, 1, none⟩ = false := ⟨⟨h.cell 0, h.cell 1, h.lt⟩, h.frozen 0, h.frozen 1⟩
theorem cal_ok {k a : Int} (h0 : 0 ≤ k) (h1 : k ≤ 3) (h : (k = 2 ∧ 0 ≤ a ∧ a < 14) ∨ (k = 3 ∧ 0 ≤ a ∧ a < 7) ∨ a = 0) : CalOk k a := by
  refine ⟨h0, h1, by omega, ?_⟩
  rcases h with ⟨rfl, _, _⟩ | ⟨rfl, _, _⟩ | rfl
  · simp; omega
  · simp; omega
  · split
    · omega
    · split <;> omega
set_option maxRecDepth 100000 in
set_option maxHeartbeats 4000000 in
theorem calendar_any (D dr : Nat) (w : World) (hd : Deck w D dr) (hdr : dr ≤ 900000) :
    Calls Tryz.prog 9 #[.pointer (some ⟨D, 0, none⟩)] w (CalPost w D dr) := by
  have hD := hd.lt
  have hr0 := Row.new w 24 #[.int .i64 0, .int .i64 0]
  have hal := (Below.refl w.heap.size w).alloc (Nat.le_refl _) (.cells #[.int .i64 0, .int .i64 0] 24)
  go_enter Tryz.func9, Tryz.ntmps9
  go_wp2_with fail
  obtain ⟨w0, hw0⟩ : ∃ w0, w.alloc (.cells #[.int .i64 0, .int .i64 0] 24) = w0 := ⟨_, rfl⟩
  rw [hw0] at hr0 hal ⊢
  obtain ⟨r, hr⟩ : ∃ r, w.heap.size = r := ⟨_, rfl⟩
  rw [hr] at hr0 ⊢
  have hwr : w.heap.size ≤ r := by omega
  have hrD : r ≠ D := by omega
  have hd0 : Deck w0 D dr := hd.below hal
  have hg0 : w.grownBy w0 (some D) := gb_below (World.grownBy.refl _ _) hal
  clear hw0 hr hd hal
  refine (Next_any D dr 4 w0 hd0 (by omega) (by omega) (by omega)).mono ?_
  rintro e w1 ⟨k, ⟨k0, k1⟩, rfl, hd1, hg1⟩
  have hr1 := hr0.keep hg1 (fun e => hrD (Option.some.inj e))
  have hG1 := gb_trans hg0 hg1
  by_cases q2 : k = 2
  · subst q2
    go_wp2_with fail
    have hal1 := (Below.refl w1.heap.size w1).alloc (Nat.le_refl _) (.cells #[.int .i64 2, .int .i64 0] 24)
    have hx2 := Row.new w1 24 #[.int .i64 2, .int .i64 0]
    have hr2 := hr1.below hal1 hr1.lt
    have hd2 := hd1.below hal1
    have hG2 := gb_below hG1 hal1
    have hr1l := hr1.lt
    have hw1 := hG1.size
    have hD1 := hd1.lt
    obtain ⟨w2, hw2⟩ : ∃ w2, w1.alloc (.cells #[.int .i64 2, .int .i64 0] 24) = w2 := ⟨_, rfl⟩
    rw [hw2] at hx2 hr2 hd2 hG2 ⊢
    obtain ⟨m, hm⟩ : ∃ m, w1.heap.size = m := ⟨_, rfl⟩
    rw [hm] at hx2 ⊢
    have hmr : ¬ m = r := by omega
    have hrm : ¬ r = m := by omega
    have hmD : m ≠ D := by omega
    have hwm : w.heap.size ≤ m := by omega
    have hmd : D < r := by omega
    clear hr0 hd0 hg0 hd1 hg1 hr1 hG1 hal1 hw2 hm
    refine (Next_any D (dr + 1) 14 w2 hd2 (by omega) (by omega) (by omega)).mono ?_
    rintro e w3 ⟨a, ⟨z0, z1⟩, rfl, hd3, hg3⟩
    have hr3 := hr2.keep hg3 (fun e => hrD (Option.some.inj e))
    have hx3 := hx2.keep hg3 (fun e => hmD (Option.some.inj e))
    have hG3 := gb_trans hG2 hg3
    have hx4 := hx3.set 1 (.int .i64 a)
    have hr4 := hr3.far (p := ⟨m, 1, none⟩) (show r ≠ m from hrm) (.int .i64 a)
    have hG4 := gb_set (p := ⟨m, 1, none⟩) hG3 (.inr hwm) (.int .i64 a)
    have hd4 := hd3.keep (gb_set (p := ⟨m, 1, none⟩) (World.grownBy.refl _ (some m)) (.inl rfl) (.int .i64 a)) (fun g hg => by injection hg; omega)
    have HG := Lib.hid (gb_set (p := ⟨r, 1, none⟩) (gb_set (p := ⟨r, 0, none⟩) hG4 (.inr hwr) (.int .i64 2)) (.inr hwr) (.int .i64 a))
    have HK := Lib.hid (hd4.keep (gb_set (p := ⟨r, 1, none⟩) (gb_set (p := ⟨r, 0, none⟩) (World.grownBy.refl _ (some r)) (.inl rfl) (.int .i64 2)) (.inl rfl) (.int .i64 a)) (fun g hg => by injection hg; omega))
    have HR := Lib.hid (row2 ((hr4.set 0 (.int .i64 2)).set 1 (.int .i64 a))).1
    obtain ⟨⟨a0, a1, al⟩, ⟨b0, b1⟩⟩ := row2 hr3
    obtain ⟨⟨d0, d1, dl⟩, ⟨f0, f1⟩⟩ := row2 hx3
    clear hr2 hx2 hG2 hd2 hr3 hx3 hG3 hd3 hx4 hr4 hG4 hd4 hg3
    go_wp2
    obtain ⟨y0, y1, -⟩ := HR.out
    refine bodyPost_ret (v := .agg #[.int .i64 2, .int .i64 a]) (by simp only [results, Tryz.results9, go_sem]; simp [y0, y1, go_sem]) rfl ?_
    exact ⟨2, a, dr + 1 + 1, rfl, cal_ok (by omega) (by omega) (.inl ⟨rfl, z0, z1⟩), HK.out, by omega, HG.out⟩
  by_cases q3 : k = 3
  · subst q3
    go_wp2_with fail
    have hal1 := (Below.refl w1.heap.size w1).alloc (Nat.le_refl _) (.cells #[.int .i64 3, .int .i64 0] 24)
    have hx2 := Row.new w1 24 #[.int .i64 3, .int .i64 0]
    have hr2 := hr1.below hal1 hr1.lt
    have hd2 := hd1.below hal1
    have hG2 := gb_below hG1 hal1
    have hr1l := hr1.lt
    have hw1 := hG1.size
    have hD1 := hd1.lt
    obtain ⟨w2, hw2⟩ : ∃ w2, w1.alloc (.cells #[.int .i64 3, .int .i64 0] 24) = w2 := ⟨_, rfl⟩
    rw [hw2] at hx2 hr2 hd2 hG2 ⊢
    obtain ⟨m, hm⟩ : ∃ m, w1.heap.size = m := ⟨_, rfl⟩
    rw [hm] at hx2 ⊢
    have hmr : ¬ m = r := by omega
    have hrm : ¬ r = m := by omega
    have hmD : m ≠ D := by omega
    have hwm : w.heap.size ≤ m := by omega
    have hmd : D < r := by omega
    clear hr0 hd0 hg0 hd1 hg1 hr1 hG1 hal1 hw2 hm
    refine (Next_any D (dr + 1) 7 w2 hd2 (by omega) (by omega) (by omega)).mono ?_
    rintro e w3 ⟨a, ⟨z0, z1⟩, rfl, hd3, hg3⟩
    have hr3 := hr2.keep hg3 (fun e => hrD (Option.some.inj e))
    have hx3 := hx2.keep hg3 (fun e => hmD (Option.some.inj e))
    have hG3 := gb_trans hG2 hg3
    have hx4 := hx3.set 1 (.int .i64 a)
    have hr4 := hr3.far (p := ⟨m, 1, none⟩) (show r ≠ m from hrm) (.int .i64 a)
    have hG4 := gb_set (p := ⟨m, 1, none⟩) hG3 (.inr hwm) (.int .i64 a)
    have hd4 := hd3.keep (gb_set (p := ⟨m, 1, none⟩) (World.grownBy.refl _ (some m)) (.inl rfl) (.int .i64 a)) (fun g hg => by injection hg; omega)
    have HG := Lib.hid (gb_set (p := ⟨r, 1, none⟩) (gb_set (p := ⟨r, 0, none⟩) hG4 (.inr hwr) (.int .i64 3)) (.inr hwr) (.int .i64 a))
    have HK := Lib.hid (hd4.keep (gb_set (p := ⟨r, 1, none⟩) (gb_set (p := ⟨r, 0, none⟩) (World.grownBy.refl _ (some r)) (.inl rfl) (.int .i64 3)) (.inl rfl) (.int .i64 a)) (fun g hg => by injection hg; omega))
    have HR := Lib.hid (row2 ((hr4.set 0 (.int .i64 3)).set 1 (.int .i64 a))).1
    obtain ⟨⟨a0, a1, al⟩, ⟨b0, b1⟩⟩ := row2 hr3
    obtain ⟨⟨d0, d1, dl⟩, ⟨f0, f1⟩⟩ := row2 hx3
    clear hr2 hx2 hG2 hd2 hr3 hx3 hG3 hd3 hx4 hr4 hG4 hd4 hg3
    go_wp2
    obtain ⟨y0, y1, -⟩ := HR.out
    refine bodyPost_ret (v := .agg #[.int .i64 3, .int .i64 a]) (by simp only [results, Tryz.results9, go_sem]; simp [y0, y1, go_sem]) rfl ?_
    exact ⟨3, a, dr + 1 + 1, rfl, cal_ok (by omega) (by omega) (.inr (.inl ⟨rfl, z0, z1⟩)), HK.out, by omega, HG.out⟩
  have m2 : (k == 2) = false := by simpa using q2
  have m3 : (k == 3) = false := by simpa using q3
  obtain ⟨⟨a0, a1, al⟩, ⟨b0, b1⟩⟩ := row2 hr1
  have hs1 := gb_set (p := ⟨r, 1, none⟩) (gb_set (p := ⟨r, 0, none⟩) (World.grownBy.refl w1 (some r)) (.inl rfl) (.int .i64 k)) (.inl rfl) (.int .i64 0)
  have HG := Lib.hid (gb_alloc (gb_set (p := ⟨r, 1, none⟩) (gb_set (p := ⟨r, 0, none⟩) hG1 (.inr hwr) (.int .i64 k)) (.inr hwr) (.int .i64 0)) (.cells #[.int .i64 k, .int .i64 0] 24))
  have HK := Lib.hid ((hd1.keep hs1 (fun g hg => by injection hg; omega)).below ((Below.refl _ _).alloc (Nat.le_refl _) (.cells #[.int .i64 k, .int .i64 0] 24)))
  have HR := Lib.hid (row2 (((hr1.set 0 (.int .i64 k)).set 1 (.int .i64 0)).alloc (.cells #[.int .i64 k, .int .i64 0] 24))).1
  have hne : ¬ w1.heap.size = r := by have := hr1.lt; omega
  clear q2 q3 hr1 hd1 hG1 hr0 hd0 hg0 hg1 hs1
  go_wp2_with fail
  obtain ⟨y0, y1, -⟩ := HR.out
  refine bodyPost_ret (v := .agg #[.int .i64 k, .int .i64 0]) (by simp only [results, Tryz.results9, go_sem]; simp [y0, y1, go_sem]) rfl ?_
  exact ⟨k, 0, dr + 1, rfl, cal_ok (by omega) (by omega) (.inr (.inr rfl)), HK.out, by omega, HG.out⟩
end Go.Proofs.YtaafihdegnaokaaGreatDoor
/- payrolllaw36.awake: the example of the chapter. -/
namespace Go.Proofs.YtaafihdegnaokaaGreatDoor
open Go.RowKit

def exL : List Chg := [⟨73, 2, 5, false⟩]
theorem calOk00 : CalOk 0 0 := (calB_iff 0 0).1 (by decide)
theorem ex_sp0 : spE 0 0 0 = 0 ∧ spLo 0 0 0 = 0 := by
  obtain ⟨h1, h2, _⟩ := sp_ok calOk00 (n := 0) (by decide)
  exact ⟨h1, h2.trans (by decide +kernel)⟩
theorem ex_sp4 : spE 0 0 4 = 0 ∧ spHi 0 0 4 = 150 := by
  obtain ⟨h1, _, h3⟩ := sp_ok calOk00 (n := 4) (by decide)
  exact ⟨h1, h3.trans (by decide +kernel)⟩
theorem ex_sp14 : spE 0 0 14 = 0 ∧ spHi 0 0 14 = 454 := by
  obtain ⟨h1, _, h3⟩ := sp_ok calOk00 (n := 14) (by decide)
  exact ⟨h1, h3.trans (by decide +kernel)⟩
theorem ex_dy : dyE 0 0 0 4 = 0 := (dy_good ex_sp0.1 ex_sp4.1 (by decide)).1
theorem ex_ch : chE [exL] 0 150 = 0 := by decide +kernel
theorem ex_all : allD [exL] 1 2 0 150 = [(73, 150)] := by decide +kernel
theorem ex_J : chgJ [exL] 1 2 0 150 = [(73, 150)] :=
  (chgJ_unique (by decide) ⟨fun p hp => by rw [List.mem_singleton.1 hp]; decide, by simp⟩ fun d => by rw [ex_all]).symm
theorem ex_of73 : ofV 0 0 73 = 2 := (of_yes (n := 2) calOk00 (by decide) (by decide) ⟨by decide +kernel, by decide +kernel⟩).1
theorem ex_of365 : ofV 0 0 365 = 12 := (of_yes (n := 12) calOk00 (by decide) (by decide) ⟨by decide +kernel, by decide +kernel⟩).1
theorem ex_plan : plO 0 0 [exL] 1 2 0 4 = [2, 3, 4] ∧ plE 0 0 [exL] 0 4 = 0 := by
  have hp : plE 0 0 [exL] 0 4 = 0 := by
    rw [plE_chg _ ex_dy, ex_sp0.2, ex_sp4.2]
    exact ex_ch
  have hb : plB 0 0 [exL] 1 2 0 4 = 2 := by
    have hJ : chgJ [exL] 1 2 (spLo 0 0 0) (spHi 0 0 4) = (73, 150) :: [] := by rw [ex_sp0.2, ex_sp4.2]; exact ex_J
    rw [plB_cons hJ]
    exact ex_of73
  obtain ⟨h1, h2⟩ := pl_good hp hb
  exact ⟨h1.trans (by decide), h2⟩
theorem ex_start : stV 0 0 14 = 12 ∧ spE 0 0 14 = 0 := by
  refine ⟨?_, ex_sp14.1⟩
  unfold stV
  rw [if_pos ex_sp14.1, ex_sp14.2, yr_eq (y := 1971) ⟨by decide, by decide⟩, show bg 1971 = 365 by decide]
  exact ex_of365
theorem tls_one (w : World) (c : Chg) : Tls ((w.alloc (.cells #[.int .i64 c.f, .int .i64 c.k, .int .i64 c.v, .bool c.d] 66)).alloc (.cells #[.slice (some ⟨w.heap.size, 0, none⟩) 1 1] 49)) (.slice (some ⟨w.heap.size + 1, 0, none⟩) 1 1) [(.slice (some ⟨w.heap.size, 0, none⟩) 1 1, [c])] := by
  have h1 : Sl (w.alloc (.cells #[.int .i64 c.f, .int .i64 c.k, .int .i64 c.v, .bool c.d] 66)) 4 (.slice (some ⟨w.heap.size, 0, none⟩) 1 1) (chgs [c]) := Sl.one rfl rfl
  refine ⟨Sl.one (by simp) rfl, fun x hx => ?_⟩
  rw [List.mem_singleton.1 hx]
  exact h1.below ((Below.refl _ _).alloc (Nat.le_refl _) _)
set_option maxRecDepth 100000 in
set_option maxHeartbeats 4000000 in
theorem awake_any (w : World) (hT : LenT w) : Calls Tryz.prog 14 #[] w fun e w' => e = .returned (.bool true) ∧ Below w.heap.size w w' := by
  have HT := Lib.hid hT
  clear hT
  have HP := Lib.hid (fun W h hl => Plan_any 0 0 (.slice (some ⟨W, 0, none⟩) 1 1) [(.slice (some ⟨W - 1, 0, none⟩) 1 1, exL)] 1 2 0 4 h hl)
  have HS := Lib.hid (fun W h => Start_any 0 0 14 W h)
  rw [ex_start.1, ex_start.2] at HS
  have HPE := Lib.hid ex_plan
  go_enter Tryz.func14, Tryz.ntmps14
  go_wp2_with fail
  refine (months_any _).mono ?_
  rintro e w1 ⟨rfl, hb1⟩
  have HTL := Lib.hid (tls_one w1 ⟨73, 2, 5, false⟩)
  have hal : Below w.heap.size w ((w1.alloc (.cells #[.int .i64 73, .int .i64 2, .int .i64 5, .bool false] 66)).alloc (.cells #[.slice (some ⟨w1.heap.size, 0, none⟩) 1 1] 49)) := (hb1.alloc hb1.size _).alloc (Nat.le_trans hb1.size (by simp)) _
  have HB2 := Lib.hid hal
  clear hb1 hal HP
  go_wp2_with fail
  refine (Plan_any 0 0 _ [(.slice (some ⟨w1.heap.size, 0, none⟩) 1 1, exL)] 1 2 0 4 _ (HT.out.below HB2.out) HTL.out).mono ?_
  unfold RetOwn2
  rw [show List.map (fun x : Value × List Chg => x.2) [(Value.slice (some ⟨w1.heap.size, 0, none⟩) 1 1, exL)] = [exL] from rfl, HPE.out.1, HPE.out.2]
  rintro e w2 ⟨x, rfl, hown2, hb2⟩
  have HB3 := Lib.hid (below_after HB2.out hb2 HB2.out.size)
  have hS2 := hown2.sl (by omega)
  obtain ⟨Ax, cx, rfl⟩ := hown2.form
  simp only [ints_len, List.length_cons, List.length_nil, Nat.zero_add, Nat.reduceAdd] at hS2 ⊢
  have HS2 := Lib.hid hS2
  clear hown2 hb2 hS2 HTL HB2
  go_wp2_with fail
  refine (months_any _).mono ?_
  rintro e w3 ⟨rfl, hb3⟩
  have HB4 := Lib.hid (below_after HB3.out hb3 HB3.out.size)
  have HS3 := Lib.hid (HS2.out.below hb3)
  clear hb3 HB3 HS2
  go_wp2_with fail
  refine (HS.out _ (HT.out.below HB4.out)).mono ?_
  rintro e w4 ⟨rfl, hb4⟩
  have HB5 := Lib.hid (below_after HB4.out hb4 HB4.out.size)
  have hS4 := HS3.out.below hb4
  obtain ⟨b, off, rfl, hcl⟩ := hS4.cells (by simp [ints])
  have c0 := hcl.int (l := [2, 3, 4]) (k := 0) (by simp)
  have c2 := hcl.int (l := [2, 3, 4]) (k := 2) (by simp)
  have hbl := hcl.1
  simp only [List.getElem_cons_zero, List.getElem_cons_succ, Nat.add_zero] at c0 c2
  clear hb4 HB4 HS3 hS4 hcl
  go_wp2
  go_ret
  exact ⟨rfl, HB5.out⟩
end Go.Proofs.YtaafihdegnaokaaGreatDoor
/- Where a law stands: a deck, a drawn pay calendar. -/
namespace Go.Proofs.YtaafihdegnaokaaGreatDoor
open Go.RowKit

theorem below_deck {w0 w w' : World} {M : Nat} (h : Below w0.heap.size w0 w) (hg : w.grownBy w' (some M)) (hM : w0.heap.size ≤ M) : Below w0.heap.size w0 w' :=
  h.grown hg h.size (fun k hk => by injection hk; omega)
theorem Own.off_low {w : World} {base e sz D : Nat} {v : Value} {es : List (List Value)} (h : Own w base e sz v es) (hD : D < base) : v.ownBlock = none ∨ v.ownBlock ≠ some D := by
  cases hv : v.ownBlock with
  | none => exact .inl rfl
  | some g => exact .inr fun e => by have := (h.1.lt g hv).1; injection e with e; omega
/-- where a law stands: a deck in D, a pay calendar in m -/
structure LwS (w : World) (D m : Nat) (k a : Int) (d : Nat) (wr : World) : Prop where
  bl : Below w.heap.size w wr
  deck : Deck wr D d
  row : Row wr m 24 #[.int .i64 k, .int .i64 a]
  low : w.heap.size ≤ D
  ap : D < m
theorem LwS.draw {w w1 w2 : World} {D m d d' : Nat} {k a : Int} (h : LwS w D m k a d w1) (hd : Deck w2 D d') (hg : w1.grownBy w2 (some D)) : LwS w D m k a d' w2 := ⟨below_deck h.bl hg h.low, hd, h.row.keep hg (fun e => by injection e; have := h.ap; omega), h.low, h.ap⟩
theorem LwS.below {w w1 w2 : World} {D m d : Nat} {k a : Int} (h : LwS w D m k a d w1) (hb : Below w1.heap.size w1 w2) : LwS w D m k a d w2 := ⟨below_after h.bl hb h.bl.size, h.deck.below hb, h.row.below hb h.row.lt, h.low, h.ap⟩
theorem LwS.alloc {w w1 : World} {D m d : Nat} {k a : Int} (h : LwS w D m k a d w1) (o : Obj) : LwS w D m k a d (w1.alloc o) := h.below ((Below.refl _ _).alloc (Nat.le_refl _) _)
theorem LwS.grow {w w1 w2 : World} {D m d : Nat} {k a : Int} {row : Option Nat} (h : LwS w D m k a d w1) (hg : w1.grownBy w2 row) (hr : ∀ g, row = some g → m < g) : LwS w D m k a d w2 :=
  ⟨h.bl.grown hg h.bl.size (fun g hk => by have := hr g hk; have := h.ap; have := h.low; omega), h.deck.keep hg (fun g hk => by have := hr g hk; have := h.ap; omega), h.row.keep hg (fun e => by have := hr m e.symm; omega), h.low, h.ap⟩
theorem LwS.facts {w w1 : World} {D m d : Nat} {k a : Int} (h : LwS w D m k a d w1) : w1.cell? ⟨m, 0, none⟩ = some (.int .i64 k) ∧ w1.cell? ⟨m, 1, none⟩ = some (.int .i64 a) ∧ m < w1.heap.size := ⟨h.row.cell 0, h.row.cell 1, h.row.lt⟩
theorem LwS.start {w w1 : World} {D d : Nat} (k a : Int) (hb : Below w.heap.size w w1) (hd : Deck w1 D d) (hl : w.heap.size ≤ D) : LwS w D w1.heap.size k a d (w1.alloc (.cells #[.int .i64 k, .int .i64 a] 24)) :=
  ⟨hb.alloc hb.size _, hd.below ((Below.refl _ _).alloc (Nat.le_refl _) _), Row.new _ _ _, hl, hd.lt⟩
end Go.Proofs.YtaafihdegnaokaaGreatDoor
/- Append inside a region that draws its order: one step; worlds behind allocations in such a region. -/
namespace Go.Proofs.YtaafihdegnaokaaGreatDoor
open Go.RowKit

theorem step_append_sl {P : Program} {w : World} {ops : Array Oper} {o : Oper} {a : Act} {K : Act → World → Prop} {Q : Exit → Act → World → Prop} {E : Prop} (hgd : o.guard = none) (s x : Operand) {t e : TypeId} {sz bytes : Nat}
    (ho : o.op = .call { callee := .builtin .append, args := #[s, x], argTypes := #[t, t] }) (hT : RowTy P t e sz bytes) (base : Nat)
    (v u : Value) (es fs : List (List Value)) (hs : a.eval s = v) (hown : Own w base e sz v es) (hx : a.eval x = u) (hsl : Sl w sz u fs) (hwd : Wide sz fs)
    (h63 : es.length + fs.length ≤ maxLen) (hbytes : (es.length + fs.length) * bytes ≤ 140737488355328) (hbase : base ≤ w.heap.size)
    (h : ∀ v' w', Own w' base e sz v' (es ++ fs) → w.grownBy w' v.ownBlock → (v'.ownBlock = v.ownBlock ∨ v'.ownBlock = some w.heap.size) → K (a.put o.dst v') w') :
    if Region.wanted o (yielded ops a.tmps) = true then Oper.wp P o a w K Q else E := by
  have hw : Region.wanted o (yielded ops a.tmps) = true := by simp [Region.wanted, hgd]
  rw [if_pos hw]
  obtain ⟨v', w', hrun, k1, k2, k3⟩ := run_append_sl (P := P) w hT o.type base v u es fs hown hsl hwd h63 hbytes hbase
  unfold Oper.wp execOp
  simp only [ho, resolve, invoke, builtin, Sem.run_bind, Sem.run_pure, Result.andThen_ok, List.map_toArray, List.map_cons, List.map_nil, hs, hx, hrun]
  exact h v' w' k1 k2 k3
theorem Own.drew {w : World} {base e sz : Nat} {v : Value} {es : List (List Value)} (h : Own w base e sz v es) : Own w.drew base e sz v es := h.kept (Below.refl _ _).drew
theorem own_none (w : World) (e : TypeId) (sz base n : Nat) (hn : w.heap.size = n) (hb : base ≤ n) : Own (w.alloc (.cells #[] e)) base e sz (.slice (some ⟨n, 0, none⟩) 0 0) [] := by
  subst hn
  exact ⟨⟨by simp, .inr ⟨_, 0, #[], rfl, hb, heap_alloc_new w _, Nat.le_refl _, by unfold maxLen; omega, by simp, by simp⟩⟩, Wide.nil sz⟩
theorem below_a0 (w : World) : Below w.heap.size w w.drew := (Below.refl _ _).drew
theorem below_a1 (w : World) (o : Obj) : Below w.heap.size w (w.alloc o).drew := ((Below.refl _ _).alloc (Nat.le_refl _) _).drew
theorem below_a2 (w : World) (o o' : Obj) : Below w.heap.size w ((w.alloc o).alloc o').drew := (((Below.refl _ _).alloc (Nat.le_refl _) _).alloc (by simp) _).drew
theorem Sl.apart {w w' : World} {sz b off n cap : Nat} {row : Option Nat} {es : List (List Value)} (h : Sl w sz (.slice (some ⟨b, off, none⟩) n cap) es) (hg : w.grownBy w' row) (hne : some b ≠ row) : Sl w' sz (.slice (some ⟨b, off, none⟩) n cap) es := by
  obtain ⟨A', cap', hv, h1, h2, h0, hc⟩ := h
  injection hv with hv1 hv2 hv3
  subst hv1 hv2 hv3
  refine ⟨_, _, rfl, h1, h2, h0, ?_⟩
  rcases hc with rfl | ⟨b', off', hA, hc⟩
  · exact .inl rfl
  · injection hA with hA
    injection hA with e1 e2
    subst e1 e2
    exact .inr ⟨_, _, rfl, Nat.lt_of_lt_of_le hc.1 hg.size, fun i e hi j u hj => (World.cell?_of_block (w := w) (a := ⟨b, _, none⟩) (hg.block b hc.1 hne)).trans (hc.2 i e hi j u hj)⟩
theorem apps {w0 w w' : World} {base e sz : Nat} {v : Value} {es : List (List Value)} (hb : Below base w0 w) (h : Own w base e sz v es) (hg : w.grownBy w' v.ownBlock) (hB : base ≤ w.heap.size) : Below base w0 w' := Own.grown h hb hg hB
end Go.Proofs.YtaafihdegnaokaaGreatDoor
/- payrolllaw36.timelines: drawn timelines. -/
namespace Go.Proofs.YtaafihdegnaokaaGreatDoor
open Go.RowKit

def mildT (c : Chg) : Prop := 0 ≤ c.f ∧ c.f < 400 ∧ 0 ≤ c.k ∧ c.k < 6 ∧ 0 ≤ c.v ∧ c.v < 3 ∧ (c.d = true → c.v = 0)
/-- a drawn timeline -/
def GoodT (l : List Chg) : Prop := l.length ≤ 4 ∧ ∀ c ∈ l, mildT c
theorem orL_all : ∀ {l : List Int}, (∀ x ∈ l, x = 0) → orL l = 0
  | [], _ => rfl
  | a :: r, h => by rw [orL, if_pos (h a (by simp))]; exact orL_all fun x hx => h x (by simp [hx])
theorem GoodT.valid {l : List Chg} (h : GoodT l) : validE l = 0 := by
  unfold validE
  rw [if_neg (by have := h.1; omega)]
  refine orL_all fun x hx => ?_
  obtain ⟨c, hc, rfl⟩ := List.mem_map.1 hx
  obtain ⟨h1, h2, h3, h4, h5, h6, h7⟩ := h.2 c hc
  unfold errC
  rw [if_pos (show rngC c from ⟨h1, by omega, h3, by omega, by omega, by omega⟩), if_neg (fun h' => h'.2 (h7 h'.1))]
def tlv (xs : List (Value × List Chg)) : List (List Value) := xs.map fun x => [x.1]
theorem tlv_len (xs : List (Value × List Chg)) : (tlv xs).length = xs.length := by simp [tlv]
theorem tlv_append (a b : List (Value × List Chg)) : tlv (a ++ b) = tlv a ++ tlv b := by simp [tlv]
theorem tlv_one (l : List Chg) (v : Value) (h : ∃ A n c, v = .slice A n c) : Wide 1 (tlv [(v, l)]) := fun x hx => by
  obtain ⟨A, n, c, rfl⟩ := h
  simp only [tlv, List.map_cons, List.map_nil, List.mem_singleton] at hx
  subst hx
  exact ⟨rfl, by simp [Value.oneCell']⟩
theorem rowTls : RowTy Tryz.prog 41 49 1 24 := by
  obtain ⟨i, hi, hz, hs, hb⟩ := info_parts (show (Tryz.prog.info? 49).map (fun i => (i.zero, i.size, i.bytes)) = some (some (.slice none 0 0), 1, 24) by kernel_rfl)
  exact ⟨Tryz.underlying41, ⟨i, _, hi, hz, hs, hb, rfl⟩, by omega⟩
/-- slices of two types lie in two blocks -/
theorem own_types {w : World} {b1 b2 e1 e2 s1 s2 : Nat} {v1 v2 : Value} {l1 l2 : List (List Value)} (h1 : Own w b1 e1 s1 v1 l1) (h2 : Own w b2 e2 s2 v2 l2) (he : e1 ≠ e2) : v1.ownBlock = none ∨ v1.ownBlock ≠ v2.ownBlock := by
  cases hv1 : v1.ownBlock with
  | none => exact .inl rfl
  | some g =>
    refine .inr fun e => ?_
    rcases h1.1.2 with ⟨rfl, _⟩ | ⟨g1, c1, cur1, rfl, _, hg1, _⟩
    · simp [Value.ownBlock] at hv1
    · rcases h2.1.2 with ⟨rfl, _⟩ | ⟨g2, c2, cur2, rfl, _, hg2, _⟩
      · simp [Value.ownBlock] at e
      · simp only [Value.ownBlock, Option.some.injEq] at hv1 e
        subst hv1
        rw [← e, hg1] at hg2
        simp only [Option.some.injEq, Obj.cells.injEq] at hg2
        exact he hg2.2.1
theorem Own.keepD2 {w w' : World} {base e sz D : Nat} {v : Value} {es : List (List Value)} (h : Own w base e sz v es) (hg : w.grownBy w' (Option.some D)) (hD : D < base) : Own w' base e sz v es :=
  h.keepG hg (by
    cases hv : v.ownBlock with
    | none => exact .inl rfl
    | some g => exact .inr fun e => by have := (h.1.lt g hv).1; injection e with e; omega)
/-- timelines of the call's own -/
structure TlsOwn (w : World) (base : Nat) (v : Value) (xs : List (Value × List Chg)) : Prop where
  own : Own w base 49 1 v (tlv xs)
  each : ∀ x ∈ xs, Own w base 66 4 x.1 (chgs x.2)
theorem TlsOwn.at {w : World} {base : Nat} {v : Value} {xs : List (Value × List Chg)} (h : TlsOwn w base v xs) : Tls w v xs := ⟨h.own.sl (by omega), fun x hx => (h.each x hx).sl (by omega)⟩
theorem TlsOwn.kept {w w' : World} {base : Nat} {v : Value} {xs : List (Value × List Chg)} (h : TlsOwn w base v xs) (hb : Below w.heap.size w w') : TlsOwn w' base v xs := ⟨h.own.kept hb, fun x hx => (h.each x hx).kept hb⟩
theorem TlsOwn.keepD {w w' : World} {base D : Nat} {v : Value} {xs : List (Value × List Chg)} (h : TlsOwn w base v xs) (hg : w.grownBy w' (some D)) (hD : D < base) : TlsOwn w' base v xs := ⟨h.own.keepD2 hg hD, fun x hx => (h.each x hx).keepD2 hg hD⟩
theorem TlsOwn.app {w W w' : World} {base : Nat} {v v' vl : Value} {xs : List (Value × List Chg)} {l : List Chg} (h : TlsOwn w base v xs) (hW : Below w.heap.size w W) (hl : Own w base 66 4 vl (chgs l))
    (ho : Own w' base 49 1 v' (tlv xs ++ tlv [(vl, l)])) (hg : W.grownBy w' v.ownBlock) : TlsOwn w' base v' (xs ++ [(vl, l)]) := by
  have h2 := h.kept hW
  refine ⟨by rw [tlv_append]; exact ho, fun x hx => ?_⟩
  rcases List.mem_append.1 hx with hx | hx
  · exact (h2.each x hx).keepG hg (own_types (h2.each x hx) h2.own (by decide))
  · rw [List.mem_singleton.1 hx]
    exact (hl.kept hW).keepG hg (own_types (hl.kept hW) h2.own (by decide))
/-- timelines have been drawn -/
def TlPost (w : World) (D dr : Nat) (e : Ending) (w' : World) : Prop :=
  ∃ (x : Value) (xs : List (Value × List Chg)) (d : Nat), e = .returned x ∧ (∀ y ∈ xs, GoodT y.2) ∧ xs.length ≤ 3 ∧ TlsOwn w' w.heap.size x xs ∧ Deck w' D d ∧ d ≤ dr + 100 ∧ w.grownBy w' (some D)
/-- where the outer loop stands -/
structure TlL (w : World) (D dr K : Nat) (x : Value) (k : Nat) (xs : List (Value × List Chg)) (d : Nat) (wr : World) : Prop where
  kl : k ≤ K
  good : ∀ y ∈ xs, GoodT y.2
  len : xs.length + k ≤ K
  own : TlsOwn wr w.heap.size x xs
  deck : Deck wr D d
  d : d ≤ dr + 1 + 17 * (K - k)
  grown : w.grownBy wr (some D)
set_option maxRecDepth 100000 in
set_option maxHeartbeats 8000000 in
theorem timelines_any (D dr : Nat) (w : World) (hd : Deck w D dr) (hdr : dr ≤ 1000000) :
    Calls Tryz.prog 18 #[.pointer (some ⟨D, 0, none⟩)] w (TlPost w D dr) := by
  have hD := hd.lt
  go_enter Tryz.func18, Tryz.ntmps18
  go_wp2_with fail
  refine (Next_any D dr _ _ hd (by omega) (by omega) (by omega)).mono ?_
  rintro e w1 ⟨r, ⟨hr1, hr2⟩, rfl, hd1, hg1⟩
  obtain ⟨K, rfl⟩ := Int.eq_ofNat_of_zero_le hr1
  have hK : K ≤ 3 := by omega
  have H0 : Hid (TlL w D dr K (.slice none 0 0) K [] (dr + 1) w1) := ⟨Nat.le_refl _, (fun y hy => by cases hy), by simp, ⟨Own.nil _ _ _ _, (fun p hp => by cases hp)⟩, hd1, by omega, hg1⟩
  clear hd hd1 hg1
  go_wp2_with fail
  go_loopw [3, 4] (fun x t wr => ∃ (k : Nat) (xs : List (Value × List Chg)) (d : Nat), t = .int .i64 k ∧ Hid (TlL w D dr K x k xs d wr)) (fun _ t _ => (intOf t).toNat)
  case atStart => exact ⟨K, [], dr + 1, rfl, H0.out⟩
  case round =>
    clear H0
    obtain ⟨k, xs, d, rfl, HL⟩ := hrel
    obtain ⟨wo, rfl⟩ : ∃ wo : World, wo = wr := ⟨_, rfl⟩
    have hk := HL.out.kl
    have hlen := HL.out.len
    by_cases hpos : 0 < k
    rotate_left
    · have dp : decide ((0 : Int) < (k : Int)) = false := decide_eq_false (by omega)
      have hk0 : k = 0 := by omega
      have hdd := HL.out.d
      go_wp2
      go_ret
      exact ⟨_, xs, d, rfl, HL.out.good, by omega, HL.out.own, HL.out.deck, by omega, HL.out.grown⟩
    have dp : decide ((0 : Int) < (k : Int)) = true := decide_eq_true (by omega)
    have hdd := HL.out.d
    have hDo := HL.out.deck.lt
    go_wp2_with fail
    refine (Next_any D d _ _ HL.out.deck (by omega) (by omega) (by omega)).mono ?_
    rintro e wm ⟨r, ⟨hm1, hm2⟩, rfl, hdm, hgm⟩
    obtain ⟨M, rfl⟩ := Int.eq_ofNat_of_zero_le hm1
    have h00 : Hid (([] : List Chg).length + M ≤ 4 ∧ (∀ y ∈ ([] : List Chg), mildT y) ∧ Own wm wo.heap.size 66 4 (.slice none 0 0) (chgs []) ∧ Deck wm D (d + 1) ∧ wo.grownBy wm (some D)) := ⟨by simp; omega, (fun y hy => by cases hy), Own.nil _ _ _ _, hdm, hgm⟩
    clear hdm hgm
    go_wp2_with fail
    go_loopw [5, 6] (fun v t wi => ∃ (m : Nat) (acc : List Chg) (di : Nat), m ≤ M ∧ t = .int .i64 m ∧ di ≤ d + 1 + 4 * (M - m) ∧ Hid (acc.length + m ≤ 4 ∧ (∀ y ∈ acc, mildT y) ∧ Own wi wo.heap.size 66 4 v (chgs acc) ∧ Deck wi D di ∧ wo.grownBy wi (some D))) (fun _ t _ => (intOf t).toNat)
    case atStart => exact ⟨M, [], d + 1, Nat.le_refl _, rfl, by omega, h00.out⟩
    case round =>
      clear h00
      obtain ⟨m, acc, di, hmM, rfl, hdi, HI⟩ := hrel
      obtain ⟨wi, rfl⟩ : ∃ wi : World, wi = wr := ⟨_, rfl⟩
      have hgi := HI.out.2.2.2.2.size
      by_cases hmp : 0 < m
      rotate_left
      · have dq : decide ((0 : Int) < (m : Int)) = false := decide_eq_false (by omega)
        have hm0 : m = 0 := by omega
        have hAL := HI.out.1
        have hgood : GoodT acc := ⟨by omega, HI.out.2.1⟩
        have hgo := HI.out.2.2.2.2
        have HO := Lib.hid (HL.out.own.keepD hgo hD)
        have hlo := HI.out.2.2.1.more (show w.heap.size ≤ wo.heap.size from HL.out.grown.size)
        obtain ⟨Aa, ca, rfl⟩ := hlo.form
        rw [chgs_len] at hlo ⊢
        have HLO := Lib.hid hlo
        have hG := gb_trans HL.out.grown hgo
        have hdk := HI.out.2.2.2.1
        have HGS : Hid (∀ y ∈ xs ++ [((Value.slice Aa acc.length ca), acc)], GoodT y.2) := fun y hy => by
          rcases List.mem_append.1 hy with hy | hy
          · exact HL.out.good y hy
          · rw [List.mem_singleton.1 hy]; exact hgood
        have hb5 : Below wi.heap.size wi (wi.alloc (.cells #[.slice Aa acc.length ca] 49)) := (Below.refl _ _).alloc (Nat.le_refl _) _
        have HONE : Hid (Sl (wi.alloc (.cells #[.slice Aa acc.length ca] 49)) 1 (.slice (some ⟨wi.heap.size, 0, none⟩) 1 1) (tlv [(.slice Aa acc.length ca, acc)])) := Sl.one rfl rfl
        have hwl := HL.out.grown.size
        obtain ⟨Ax, cx, rfl⟩ := HO.out.own.form
        have HX := Lib.hid HL.out.good
        clear HI hlo hgo HL hgood
        simp only [tlv_len]
        rw [tlv_len] at HO
        go_wp2_with (at_builtin; refine wpList_append_sl rfl (.tmp 37) (.tmp 39) rfl rowTls w.heap.size _ _ (tlv xs) (tlv [(.slice Aa acc.length ca, acc)]) rfl (HO.out.own.alloc _) rfl HONE.out (tlv_one _ _ ⟨_, _, _, rfl⟩) (by rw [tlv_len, tlv_len]; unfold maxLen; simp; omega) (by rw [tlv_len, tlv_len]; simp; omega) (by have := hb5.size; omega) ?_; intro v6 w6 hown6 hg6 _)
        have hR6 := HO.out.app hb5 HLO.out hown6 hg6
        have hlt6 := fun g hg => (HO.out.own.1.lt g hg).1
        have hG6 := gb_new (gb_below hG hb5) hg6 hlt6
        have hd6 := (hdk.below hb5).keep hg6 (fun g hg => Nat.lt_of_lt_of_le hD (hlt6 g hg))
        have HEND : Hid (TlL w D dr K v6 (k - 1) (xs ++ [(.slice Aa acc.length ca, acc)]) di w6) := ⟨by omega, HGS.out, by simp; omega, hR6, hd6, by omega, hG6⟩
        clear hR6 hG6 hd6 hown6 hg6 hG hdk HO HLO HONE hlt6 HX HGS hb5
        go_roundw
        case rel => exact ⟨k - 1, _, di, by go_num, HEND.out⟩
        case measure => simp [intOf]; omega
      have dq : decide ((0 : Int) < (m : Int)) = true := decide_eq_true (by omega)
      go_wp2_with fail
      refine (Next_any D di 400 wi HI.out.2.2.2.1 (by omega) (by omega) (by omega)).mono ?_
      rintro e w2 ⟨f, ⟨f0, f1⟩, rfl, hd2, hg2⟩
      go_wp2_with fail
      refine (Next_any D (di + 1) 6 w2 hd2 (by omega) (by omega) (by omega)).mono ?_
      rintro e w2b ⟨k, ⟨k0, k1⟩, rfl, hd2b, hg2b⟩
      go_wp2_with fail
      refine (Next_any D (di + 1 + 1) 3 w2b hd2b (by omega) (by omega) (by omega)).mono ?_
      rintro e w3 ⟨v, ⟨v0, v1⟩, rfl, hd3, hg3⟩
      go_wp2_with fail
      refine (Next_any D (di + 1 + 1 + 1) 6 w3 hd3 (by omega) (by omega) (by omega)).mono ?_
      rintro e w4 ⟨z, -, rfl, hd4, hg4⟩
      have hG4 := gb_trans (gb_trans (gb_trans (gb_trans HI.out.2.2.2.2 hg2) hg2b) hg3) hg4
      have HO4 := Lib.hid ((((HI.out.2.2.1.keepD2 hg2 hDo).keepD2 hg2b hDo).keepD2 hg3 hDo).keepD2 hg4 hDo)
      clear hd2 hg2 hd2b hg2b hd3 hg3 hg4
      by_cases hz : z = 0
      · subst hz
        have HGA : Hid (∀ y ∈ acc ++ [(⟨f, k, 0, true⟩ : Chg)], mildT y) := fun y hy => by
          rcases List.mem_append.1 hy with hy | hy
          · exact HI.out.2.1 y hy
          · rw [List.mem_singleton.1 hy]
            exact ⟨f0, f1, k0, k1, Int.le_refl 0, (show (0 : Int) < 3 by decide), fun _ => rfl⟩
        have HL2 : Hid ((acc ++ [(⟨f, k, 0, true⟩ : Chg)]).length + (m - 1) ≤ 4) := by
          have := HI.out.1
          simp only [Hid, List.length_append, List.length_cons, List.length_nil]; omega
        have HLT := Lib.hid (fun g hg => (HO4.out.1.lt g hg).1)
        have hal1 := HI.out.1
        clear HI
        go_wp2_with (at_builtin; refine wpList_append_sl rfl (.tmp 33) (.tmp 35) rfl rowChg wo.heap.size _ _ (chgs acc) [Chg.vals ⟨f, k, 0, true⟩] rfl ((HO4.out.alloc _).alloc _) rfl (Sl.one (World.size_alloc _ _) rfl) (chgs_wide [⟨f, k, 0, true⟩]) (by rw [chgs_len]; unfold maxLen; simp; omega) (by rw [chgs_len]; simp; omega) (by have := hG4.size; simp only [World.size_alloc]; omega) ?_; intro v6 w6 hown6 hg6 _)
        have hG6 := gb_new (gb_alloc (gb_alloc hG4 _) _) hg6 HLT.out
        have hd6 := ((hd4.below ((Below.refl w4.heap.size w4).alloc (Nat.le_refl _) _)).below ((Below.refl _ _).alloc (Nat.le_refl _) _)).keep hg6 (fun g hg => Nat.lt_of_lt_of_le hDo (HLT.out g hg))
        have HEND : Hid ((acc ++ [(⟨f, k, 0, true⟩ : Chg)]).length + (m - 1) ≤ 4 ∧ (∀ y ∈ acc ++ [(⟨f, k, 0, true⟩ : Chg)], mildT y) ∧ Own w6 wo.heap.size 66 4 v6 (chgs (acc ++ [(⟨f, k, 0, true⟩ : Chg)])) ∧ Deck w6 D (di + 1 + 1 + 1 + 1) ∧ wo.grownBy w6 (some D)) := ⟨HL2.out, HGA.out, by rw [chgs_append]; exact hown6, hd6, hG6⟩
        clear hG6 hd6 hown6 hg6 HL hG4 hd4 HO4 HLT HGA HL2
        go_roundw
        case rel => exact ⟨m - 1, _, di + 1 + 1 + 1 + 1, by omega, by go_num, by omega, HEND.out⟩
        case measure => simp [intOf]; omega
      · have mz : (z == 0) = false := by simpa using hz
        clear hz
        have HGA : Hid (∀ y ∈ acc ++ [(⟨f, k, v, false⟩ : Chg)], mildT y) := fun y hy => by
          rcases List.mem_append.1 hy with hy | hy
          · exact HI.out.2.1 y hy
          · rw [List.mem_singleton.1 hy]
            exact ⟨f0, f1, k0, k1, v0, v1, (fun h => by cases h)⟩
        have HL2 : Hid ((acc ++ [(⟨f, k, v, false⟩ : Chg)]).length + (m - 1) ≤ 4) := by
          have := HI.out.1
          simp only [Hid, List.length_append, List.length_cons, List.length_nil]; omega
        have HLT := Lib.hid (fun g hg => (HO4.out.1.lt g hg).1)
        have hal1 := HI.out.1
        clear HI
        go_wp2_with (at_builtin; refine wpList_append_sl rfl (.tmp 33) (.tmp 35) rfl rowChg wo.heap.size _ _ (chgs acc) [Chg.vals ⟨f, k, v, false⟩] rfl ((HO4.out.alloc _).alloc _) rfl (Sl.one (World.size_alloc _ _) rfl) (chgs_wide [⟨f, k, v, false⟩]) (by rw [chgs_len]; unfold maxLen; simp; omega) (by rw [chgs_len]; simp; omega) (by have := hG4.size; simp only [World.size_alloc]; omega) ?_; intro v6 w6 hown6 hg6 _)
        have hG6 := gb_new (gb_alloc (gb_alloc hG4 _) _) hg6 HLT.out
        have hd6 := ((hd4.below ((Below.refl w4.heap.size w4).alloc (Nat.le_refl _) _)).below ((Below.refl _ _).alloc (Nat.le_refl _) _)).keep hg6 (fun g hg => Nat.lt_of_lt_of_le hDo (HLT.out g hg))
        have HEND : Hid ((acc ++ [(⟨f, k, v, false⟩ : Chg)]).length + (m - 1) ≤ 4 ∧ (∀ y ∈ acc ++ [(⟨f, k, v, false⟩ : Chg)], mildT y) ∧ Own w6 wo.heap.size 66 4 v6 (chgs (acc ++ [(⟨f, k, v, false⟩ : Chg)])) ∧ Deck w6 D (di + 1 + 1 + 1 + 1) ∧ wo.grownBy w6 (some D)) := ⟨HL2.out, HGA.out, by rw [chgs_append]; exact hown6, hd6, hG6⟩
        clear hG6 hd6 hown6 hg6 HL hG4 hd4 HO4 HLT HGA HL2
        go_roundw
        case rel => exact ⟨m - 1, _, di + 1 + 1 + 1 + 1, by omega, by go_num, by omega, HEND.out⟩
        case measure => simp [intOf]; omega
end Go.Proofs.YtaafihdegnaokaaGreatDoor
/- Contracts: the reference's days, Affected. -/
namespace Go.Proofs.YtaafihdegnaokaaGreatDoor
open Go.RowKit

theorem okR_and (x y : Int) : okR (x, y) = (decide (0 ≤ x) && (decide (y ≤ 84005) && decide (x ≤ y))) := by
  unfold okR
  cases decide (x ≤ y) <;> cases decide (0 ≤ x) <;> cases decide (y ≤ 84005) <;> rfl
theorem daysR_any (x y : Int) (w : World) : Calls Tryz.prog 34 #[.agg #[.int .i64 x, .int .i64 y]] w fun e w' => e = .returned (.bool (okR (x, y))) ∧ Below w.heap.size w w' := by
  have HB : Hid (∀ q, Below w.heap.size w ((w.alloc (.cells #[.int .i64 x, .int .i64 y] 37)).drewN q)) := fun q => Below.draws ((Below.refl _ _).alloc (Nat.le_refl _) _) q
  have hcase : (0 ≤ x ∧ y ≤ 84005 ∧ x ≤ y) ∨ (0 ≤ x ∧ y ≤ 84005 ∧ ¬ x ≤ y) ∨ (0 ≤ x ∧ ¬ y ≤ 84005) ∨ ¬ 0 ≤ x := by omega
  rcases hcase with ⟨h1, h2, h3⟩ | ⟨h1, h2, h3⟩ | ⟨h1, h2⟩ | h1
  · have q1 := decide_eq_true h1
    have q2 := decide_eq_true h2
    have q3 := decide_eq_true h3
    have L : Hid (okR (x, y) = true) := by rw [Hid, okR_and, q1, q2, q3]; rfl
    clear h1 h2 h3
    go_enter Tryz.func34, Tryz.ntmps34
    go_wp2
    go_ret
    exact ⟨ret_bool L.out.symm, HB.out 0⟩
  · have q1 := decide_eq_true h1
    have q2 := decide_eq_true h2
    have q3 := decide_eq_false h3
    have L : Hid (okR (x, y) = false) := by rw [Hid, okR_and, q1, q2, q3]; rfl
    clear h1 h2 h3
    go_enter Tryz.func34, Tryz.ntmps34
    go_wp2
    go_ret
    exact ⟨ret_bool L.out.symm, HB.out 0⟩
  · have q1 := decide_eq_true h1
    have q2 := decide_eq_false h2
    have L : Hid (okR (x, y) = false) := by rw [Hid, okR_and, q1, q2]; rfl
    clear h1 h2
    go_enter Tryz.func34, Tryz.ntmps34
    go_wp2
    go_ret
    exact ⟨ret_bool L.out.symm, HB.out 0⟩
  · have q1 := decide_eq_false h1
    have L : Hid (okR (x, y) = false) := by rw [Hid, okR_and, q1]; rfl
    clear h1
    go_enter Tryz.func34, Tryz.ntmps34
    go_wp2
    go_ret
    exact ⟨ret_bool L.out.symm, HB.out 0⟩
theorem dyE_of1 {k a f c : Int} (h : ¬ spE k a f = 0) : dyE k a f c = 2 := (dy_err1 h).1
/-- where the reference's loops stand -/
structure AgS (w wr : World) (k a : Int) (v : Value) (R : List (Int × Int)) : Prop where
  box : CBox w wr k a
  sl : Sl wr 2 v (prs R)
theorem AgS.below {w w1 w2 : World} {k a : Int} {v : Value} {R : List (Int × Int)} (h : AgS w w1 k a v R) (hb : Below w1.heap.size w1 w2) : AgS w w2 k a v R := ⟨h.box.below hb, h.sl.below hb⟩
theorem AgS.alloc {w w1 : World} {k a : Int} {v : Value} {R : List (Int × Int)} (h : AgS w w1 k a v R) (o : Obj) : AgS w (w1.alloc o) k a v R := h.below ((Below.refl _ _).alloc (Nat.le_refl _) _)
theorem AgS.drew {w w1 : World} {k a : Int} {v : Value} {R : List (Int × Int)} (h : AgS w w1 k a v R) (q : Nat) : AgS w (w1.drewN q) k a v R := h.below (Below.draws (Below.refl _ _) q)
theorem hit_take {R : List (Int × Int)} {lo hi : Int} (h : ∀ j (hj : j < R.length), ¬ ((R[j]).1 ≤ hi ∧ lo ≤ (R[j]).2)) : ¬ Hit R lo hi := by
  rintro ⟨r, hr, h1, h2⟩
  obtain ⟨j, hj, rfl⟩ := List.mem_iff_getElem.1 hr
  exact h j hj ⟨h1, h2⟩
theorem hit_at {R : List (Int × Int)} {lo hi : Int} {j : Nat} (hj : j < R.length) (h : (R[j]).1 ≤ hi) (h' : lo ≤ (R[j]).2) : Hit R lo hi := ⟨R[j], List.getElem_mem hj, h, h'⟩
theorem no_next {R : List (Int × Int)} {lo hi : Int} {i : Nat} (hi' : i < R.length) (h : ∀ j (hj : j < R.length), j < i → ¬ ((R[j]).1 ≤ hi ∧ lo ≤ (R[j]).2)) (hn : ¬ ((R[i]).1 ≤ hi ∧ lo ≤ (R[i]).2)) : ∀ j (hj : j < R.length), j < i + 1 → ¬ ((R[j]).1 ≤ hi ∧ lo ≤ (R[j]).2) := fun j hj h' => by
  rcases Nat.lt_or_ge j i with h2 | h2
  · exact h j hj h2
  · have : j = i := by omega
    subst this; exact hn
set_option maxRecDepth 100000 in
set_option maxHeartbeats 4000000 in
theorem AffectedR_any (k a : Int) (v : Value) (R : List (Int × Int)) (f c : Int) (w : World) (hv : Sl w 2 v (prs R)) :
    Calls Tryz.prog 16 #[.agg #[.int .i64 k, .int .i64 a], v, .int .i64 f, .int .i64 c] w (AffP k a R f c w) := by
  have HC := Lib.hid (CBox.new w k a)
  have HS1 := Lib.hid (fun w => SpanR_any k a f w)
  have HS2 := Lib.hid (fun w => SpanR_any k a c w)
  unfold SpP at HS1 HS2
  have HV := Lib.hid hv
  obtain ⟨A, cap, rfl, -⟩ := hv
  rw [prs_len] at HV ⊢
  by_cases h1 : spE k a f = 0
  rotate_left
  · have e1 := (dy_err1 (c := c) h1).1
    have LL := Lib.hid (aff_err ((affE_days R (by rw [e1]; decide)).trans e1) (by decide))
    rw [sp_two h1] at HS1
    obtain ⟨L1, hL1⟩ : ∃ x, spLo k a f = x := ⟨_, rfl⟩
    obtain ⟨G1, hG1⟩ : ∃ x, spHi k a f = x := ⟨_, rfl⟩
    rw [hL1, hG1] at HS1
    clear h1 hL1 hG1 e1
    go_enter Tryz.func16, Tryz.ntmps16
    go_wp2_with (go_at_call 30; refine (HS1.out _).mono ?_; rintro e w1 ⟨rfl, hb1⟩; have HC1 := Lib.hid (HC.out.below hb1); clear hb1)
    exact bodyPost_ret (v := .tuple #[.int .i64 0, .bool false, .int .i64 2]) (by simp [results, Tryz.results16, go_sem]) rfl ⟨by rw [LL.out.1, LL.out.2.1, LL.out.2.2], (HC1.out.alloc _).bl⟩
  rw [h1] at HS1
  obtain ⟨L1, hL1⟩ : ∃ x, spLo k a f = x := ⟨_, rfl⟩
  obtain ⟨G1, hG1⟩ : ∃ x, spHi k a f = x := ⟨_, rfl⟩
  rw [hL1, hG1] at HS1
  have hd1 := fun h2 => (dy_err2 (c := c) h1 h2).1
  have hd2 := fun h2 h3 => (dy_err3 (c := c) h1 h2 h3).1
  have hd3 := fun h2 h3 => (dy_good (c := c) h1 h2 h3).1
  clear hL1 hG1 h1
  by_cases h2 : spE k a c = 0
  rotate_left
  · have e1 := hd1 h2
    have LL := Lib.hid (aff_err ((affE_days R (by rw [e1]; decide)).trans e1) (by decide))
    rw [sp_two h2] at HS2
    obtain ⟨L2, hL2⟩ : ∃ x, spLo k a c = x := ⟨_, rfl⟩
    obtain ⟨G2, hG2⟩ : ∃ x, spHi k a c = x := ⟨_, rfl⟩
    rw [hL2, hG2] at HS2
    clear h2 hL2 hG2 hd1 hd2 hd3 e1
    go_enter Tryz.func16, Tryz.ntmps16
    go_wp2_with fail
    refine (HS1.out _).mono ?_
    rintro e w1 ⟨rfl, hb1⟩
    have HC1 := Lib.hid (HC.out.below hb1)
    obtain ⟨⟨c0, c1⟩, l1⟩ := HC1.out.facts
    clear hb1
    go_wp2_with fail
    refine (HS2.out _).mono ?_
    rintro e w2 ⟨rfl, hb2⟩
    have HC2 := Lib.hid ((HC1.out.alloc _).below hb2)
    clear hb2 c0 c1 l1
    go_wp2_with fail
    exact bodyPost_ret (v := .tuple #[.int .i64 0, .bool false, .int .i64 2]) (by simp [results, Tryz.results16, go_sem]) rfl ⟨by rw [LL.out.1, LL.out.2.1, LL.out.2.2], (HC2.out.alloc _).bl⟩
  rw [h2] at HS2
  obtain ⟨L2, hL2⟩ : ∃ x, spLo k a c = x := ⟨_, rfl⟩
  obtain ⟨G2, hG2⟩ : ∃ x, spHi k a c = x := ⟨_, rfl⟩
  rw [hL2, hG2] at HS2
  clear hL2 hG2 hd1
  by_cases h3 : c < f
  · have e1 := hd2 h2 h3
    have LL := Lib.hid (aff_err ((affE_days R (by rw [e1]; decide)).trans e1) (by decide))
    have g3 : decide (c < f) = true := decide_eq_true h3
    clear h2 h3 hd2 hd3 e1
    go_enter Tryz.func16, Tryz.ntmps16
    go_wp2_with fail
    refine (HS1.out _).mono ?_
    rintro e w1 ⟨rfl, hb1⟩
    have HC1 := Lib.hid (HC.out.below hb1)
    obtain ⟨⟨c0, c1⟩, l1⟩ := HC1.out.facts
    clear hb1
    go_wp2_with fail
    refine (HS2.out _).mono ?_
    rintro e w2 ⟨rfl, hb2⟩
    have HC2 := Lib.hid ((HC1.out.alloc _).below hb2)
    clear hb2 c0 c1 l1
    go_wp2_with fail
    exact bodyPost_ret (v := .tuple #[.int .i64 0, .bool false, .int .i64 1]) (by simp [results, Tryz.results16, go_sem]) rfl ⟨by rw [LL.out.1, LL.out.2.1, LL.out.2.2], (HC2.out.alloc _).bl⟩
  have h0 := hd3 h2 h3
  have g3 : decide (c < f) = false := decide_eq_false h3
  clear hd2 hd3 h2 h3
  by_cases hl : 1024 < R.length
  · have LL := Lib.hid (aff_err (affE_len h0 hl) (by decide))
    have g1 : decide ((1024 : Int) < (R.length : Int)) = true := decide_eq_true (by omega)
    clear h0 hl
    go_enter Tryz.func16, Tryz.ntmps16
    go_wp2_with fail
    refine (HS1.out _).mono ?_
    rintro e w1 ⟨rfl, hb1⟩
    have HC1 := Lib.hid (HC.out.below hb1)
    obtain ⟨⟨c0, c1⟩, l1⟩ := HC1.out.facts
    clear hb1
    go_wp2_with fail
    refine (HS2.out _).mono ?_
    rintro e w2 ⟨rfl, hb2⟩
    have HC2 := Lib.hid ((HC1.out.alloc _).below hb2)
    clear hb2 c0 c1 l1
    go_wp2_with fail
    exact bodyPost_ret (v := .tuple #[.int .i64 0, .bool false, .int .i64 3]) (by simp [results, Tryz.results16, go_sem]) rfl ⟨by rw [LL.out.1, LL.out.2.1, LL.out.2.2], (HC2.out.alloc _).bl⟩
  have HBAD : Hid (∀ i (hi : i < R.length), okR R[i] = false → ((((affO k a R f c).getD 0 : Nat) : Int) = 0 ∧ (affO k a R f c).isSome = false ∧ affE k a R f c = 2)) := fun i hi hb => aff_err (affE_bad h0 hl hi hb) (by decide)
  have HGOOD : Hid ((∀ i (hi : i < R.length), okR R[i] = true) → affE k a R f c = 0) := fun hb => affE_good h0 hl hb
  obtain ⟨f', c', rfl, rfl, g2, g4, hc, -⟩ := dy_days h0
  have HSP : Hid (∀ m : Nat, m ≤ c' → ∀ w, Calls Tryz.prog 30 #[.agg #[.int .i64 k, .int .i64 a], .int .i64 m] w fun e w' => e = .returned (.tuple #[.agg #[.int .i64 (loP k a m), .int .i64 (hiP k a m)], .int .i64 0]) ∧ Below w.heap.size w w') := fun m hm w => by
    have := SpanR_any k a m w
    unfold SpP at this
    obtain ⟨e1, e2, e3⟩ := sp_ok hc (n := m) (by omega)
    rw [e1, e2, e3] at this
    exact this
  have HYES : Hid (affE k a R f' c' = 0 → ∀ n : Nat, f' ≤ n → n ≤ c' → Hit R (loP k a n) (hiP k a n) → (∀ m, f' ≤ m → m < n → ¬ Hit R (loP k a m) (hiP k a m)) → ((((affO k a R f' c').getD 0 : Nat) : Int) = n ∧ (affO k a R f' c').isSome = true ∧ affE k a R f' c' = 0)) := fun h n q1 q2 q3 q4 => by
    rw [affO_some h (by omega) (by omega) q3 (fun m m1 m2 => q4 m (by omega) m2), h]
    exact ⟨rfl, rfl, rfl⟩
  have HNO : Hid (affE k a R f' c' = 0 → (∀ m, f' ≤ m → m ≤ c' → ¬ Hit R (loP k a m) (hiP k a m)) → ((((affO k a R f' c').getD 0 : Nat) : Int) = 0 ∧ (affO k a R f' c').isSome = false ∧ affE k a R f' c' = 0)) := fun h q4 => by
    rw [affO_none (fun m m1 m2 => q4 m (by omega) (by omega)) (by omega), h]
    exact ⟨rfl, rfl, rfl⟩
  have g3n : decide (c' < f') = false := decide_eq_false (by omega)
  have hcp := cnt_pos hc
  have hc9 : c' ≤ 13000 := by omega
  have g1 : decide ((1024 : Int) < (R.length : Int)) = false := decide_eq_false (by omega)
  have hl' : R.length ≤ 1024 := by omega
  clear h0 hl g4 hc hcp
  go_enter Tryz.func16, Tryz.ntmps16
  go_wp2_with fail
  refine (HS1.out _).mono ?_
  rintro e w1 ⟨rfl, hb1⟩
  have HC1 := Lib.hid (HC.out.below hb1)
  obtain ⟨⟨c0, c1⟩, l1⟩ := HC1.out.facts
  clear hb1
  go_wp2_with fail
  refine (HS2.out _).mono ?_
  rintro e w2 ⟨rfl, hb2⟩
  have hC2 := (HC1.out.alloc _).below hb2
  have HX : Hid (AgS w (w2.alloc (.cells #[.int .i64 L2, .int .i64 G2] 37)) k a (.slice A R.length cap) R) := ⟨hC2.alloc _, (HV.out.below hC2.bl).below ((Below.refl _ _).alloc (Nat.le_refl _) _)⟩
  clear hb2 c0 c1 l1 hC2
  go_wp2_with fail
  go_loopw [15] (fun t wr => ∃ i : Nat, i ≤ R.length ∧ t = .int .i64 i ∧ Hid (AgS w wr k a (.slice A R.length cap) R ∧ ∀ j (hj : j < R.length), j < i → okR R[j] = true)) (fun t _ => R.length - (intOf t).toNat)
  case atStart => exact ⟨0, by omega, rfl, HX.out, fun j _ h => by omega⟩
  case round =>
    clear HX
    obtain ⟨i, hi', rfl, HI⟩ := hrel
    obtain ⟨wo, rfl⟩ : ∃ wo : World, wo = wr := ⟨_, rfl⟩
    by_cases hlt : i < R.length
    · obtain ⟨b, off, rfl, hcl⟩ := HI.out.1.sl.cells (by rw [prs_len]; omega)
      obtain ⟨c0, c1⟩ := hcl.pr hlt
      have hbl := hcl.1
      have HQ : Hid (okR R[i] = true → ∀ j (hj : j < R.length), j < i + 1 → okR R[j] = true) := fun hk j hj h => by
        rcases Nat.lt_or_ge j i with h' | h'
        · exact HI.out.2 j hj h'
        · have : j = i := by omega
          subst this; exact hk
      have HB := Lib.hid (HBAD.out i hlt)
      have HDA := Lib.hid (fun w => daysR_any (R[i]'hlt).1 (R[i]'hlt).2 w)
      rw [show ((R[i]'hlt).1, (R[i]'hlt).2) = R[i]'hlt from rfl] at HDA
      obtain ⟨x, hx⟩ : ∃ x, (R[i]'hlt).1 = x := ⟨_, rfl⟩
      obtain ⟨y, hy⟩ : ∃ x, (R[i]'hlt).2 = x := ⟨_, rfl⟩
      rw [hx] at c0
      rw [hy] at c1
      rw [hx, hy] at HDA
      have HX := Lib.hid HI.out.1
      clear hcl hx hy HI
      cases ho : okR (R[i]'hlt)
      · have LL := Lib.hid (HB.out ho)
        rw [ho] at HDA
        clear ho HB HQ
        go_wp2_with (go_at_call 34; refine (HDA.out _).mono ?_; rintro e w3 ⟨rfl, hb3⟩; have HB3 := Lib.hid (HX.out.below hb3); clear hb3)
        exact bodyPost_ret (v := .tuple #[.int .i64 0, .bool false, .int .i64 2]) (by simp [results, Tryz.results16, go_sem]) rfl ⟨by rw [LL.out.1, LL.out.2.1, LL.out.2.2], HB3.out.box.bl⟩
      · have HN := Lib.hid (HQ.out ho)
        rw [ho] at HDA
        clear ho HB HQ
        go_wp2_with (go_at_call 34; refine (HDA.out _).mono ?_; rintro e w3 ⟨rfl, hb3⟩; have HB3 := Lib.hid (HX.out.below hb3); clear hb3)
        go_roundw
        case rel => exact ⟨i + 1, by omega, by go_num, HB3.out, HN.out⟩
        case measure => simp [intOf]; omega
    · obtain rfl : i = R.length := by omega
      have HE := Lib.hid (HGOOD.out fun j hj => HI.out.2 j hj hj)
      have HY2 := Lib.hid (HYES.out HE.out)
      have HN2 := Lib.hid (HNO.out HE.out)
      have HX := Lib.hid HI.out.1
      clear HI HGOOD HBAD HYES HNO HE
      go_wp2_with fail
      go_loopw [16] (fun t wr => ∃ m : Nat, f' ≤ m ∧ m ≤ c' + 1 ∧ t = .int .i64 m ∧ Hid (AgS w wr k a (.slice A R.length cap) R ∧ ∀ j, f' ≤ j → j < m → ¬ Hit R (loP k a j) (hiP k a j))) (fun t _ => c' + 1 - (intOf t).toNat)
      case atStart => exact ⟨f', Nat.le_refl _, by omega, rfl, HX.out, fun j h1 h2 => by omega⟩
      case round =>
        clear HX
        obtain ⟨m, hm1, hm2, rfl, HI⟩ := hrel
        obtain ⟨wo, rfl⟩ : ∃ wo : World, wo = wr := ⟨_, rfl⟩
        by_cases hlt : m ≤ c'
        · have q1 : decide ((m : Int) ≤ (c' : Int)) = true := decide_eq_true (by omega)
          have q1n : decide (m ≤ c') = true := decide_eq_true (by omega)
          have HS := Lib.hid (HSP.out m hlt)
          obtain ⟨⟨c0, c1⟩, l1⟩ := HI.out.1.box.facts
          have HYM := Lib.hid (fun h => HY2.out m hm1 hlt h HI.out.2)
          have HNM : Hid (¬ Hit R (loP k a m) (hiP k a m) → ∀ j, f' ≤ j → j < m + 1 → ¬ Hit R (loP k a j) (hiP k a j)) := fun h j j1 j2 => by
            rcases Nat.lt_or_ge j m with h' | h'
            · exact HI.out.2 j j1 h'
            · have : j = m := by omega
              subst this; exact h
          have HX := Lib.hid HI.out.1
          obtain ⟨lo, hlo⟩ : ∃ x, loP k a m = x := ⟨_, rfl⟩
          obtain ⟨hi, hhi⟩ : ∃ x, hiP k a m = x := ⟨_, rfl⟩
          rw [hlo, hhi] at HS HYM HNM
          clear hlo hhi HI
          go_wp2_with fail
          refine (HS.out _).mono ?_
          rintro e w3 ⟨rfl, hb3⟩
          have hX3 := HX.out.below hb3
          have HX4 := Lib.hid (hX3.alloc (.cells #[.int .i64 lo, .int .i64 hi] 37))
          have HR4 := Lib.hid (Row.new w3 37 #[.int .i64 lo, .int .i64 hi])
          clear hb3 HX hX3 c0 c1 l1
          go_wp2_with fail
          obtain ⟨g, hg⟩ : ∃ g, w3.heap.size = g := ⟨_, rfl⟩
          rw [hg] at HR4 ⊢
          clear hg
          go_loopw [19] (fun t wr => ∃ i : Nat, i ≤ R.length ∧ t = .int .i64 i ∧ Hid (AgS w wr k a (.slice A R.length cap) R ∧ Row wr g 37 #[.int .i64 lo, .int .i64 hi] ∧ ∀ j (hj : j < R.length), j < i → ¬ ((R[j]).1 ≤ hi ∧ lo ≤ (R[j]).2))) (fun t _ => R.length - (intOf t).toNat)
          case atStart => exact ⟨0, by omega, rfl, HX4.out, HR4.out, fun j _ h => by omega⟩
          case round =>
            clear HX4 HR4
            obtain ⟨i, hi', rfl, HI⟩ := hrel
            obtain ⟨wo, rfl⟩ : ∃ wo : World, wo = wr := ⟨_, rfl⟩
            by_cases hlt2 : i < R.length
            · obtain ⟨b, off, rfl, hcl⟩ := HI.out.1.sl.cells (by rw [prs_len]; omega)
              obtain ⟨c0, c1⟩ := hcl.pr hlt2
              have hbl := hcl.1
              have r0 : wo.cell? ⟨g, 0, none⟩ = some (.int .i64 lo) := HI.out.2.1.cell 0
              have r1 : wo.cell? ⟨g, 1, none⟩ = some (.int .i64 hi) := HI.out.2.1.cell 1
              have rl := HI.out.2.1.lt
              have HNX := Lib.hid (no_next hlt2 HI.out.2.2)
              have HAT := Lib.hid (hit_at (lo := lo) (hi := hi) hlt2)
              obtain ⟨x, hx⟩ : ∃ x, (R[i]'hlt2).1 = x := ⟨_, rfl⟩
              obtain ⟨y, hy⟩ : ∃ x, (R[i]'hlt2).2 = x := ⟨_, rfl⟩
              rw [hx] at c0
              rw [hy] at c1
              rw [hx, hy] at HNX HAT
              have HX := Lib.hid HI.out.1
              have HR := Lib.hid HI.out.2.1
              have i1 : (i : Int) < (R.length : Int) := by omega
              clear hcl hx hy HI
              by_cases h1 : x ≤ hi
              · have q2 : decide (x ≤ hi) = true := decide_eq_true h1
                by_cases h2 : lo ≤ y
                · have q3 : decide (lo ≤ y) = true := decide_eq_true h2
                  have LL := Lib.hid (HYM.out (HAT.out h1 h2))
                  clear h1 h2 HNX HAT HYM HNM
                  go_wp2_with fail
                  go_quiet (fail)
                  go_wp2
                  exact bodyPost_ret (v := .tuple #[.int .i64 m, .bool true, .int .i64 0]) (by simp [results, Tryz.results16, go_sem]) rfl ⟨by rw [LL.out.1, LL.out.2.1, LL.out.2.2], (HX.out.drew _).box.bl⟩
                · have q3 : decide (lo ≤ y) = false := decide_eq_false h2
                  have HN := Lib.hid (HNX.out (fun h => h2 h.2))
                  clear h1 h2 HNX HAT
                  go_wp2_with fail
                  go_quiet (fail)
                  go_wp2
                  go_roundw
                  case rel => exact ⟨i + 1, by omega, by go_num, HX.out.drew _, HR.out.below (Below.draws (Below.refl _ _) _) HR.out.lt, HN.out⟩
                  case measure => simp [intOf]; omega
              · have q2 : decide (x ≤ hi) = false := decide_eq_false h1
                have HN := Lib.hid (HNX.out (fun h => h1 h.1))
                clear h1 HNX HAT
                go_wp2_with fail
                go_quiet (fail)
                go_wp2
                go_roundw
                case rel => exact ⟨i + 1, by omega, by go_num, HX.out.drew _, HR.out.below (Below.draws (Below.refl _ _) _) HR.out.lt, HN.out⟩
                case measure => simp [intOf]; omega
            · obtain rfl : i = R.length := by omega
              have HN := Lib.hid (HNM.out (hit_take fun j hj => HI.out.2.2 j hj hj))
              have HX := Lib.hid HI.out.1
              clear HI HYM HNM
              go_wp2_with fail
              go_roundw
              case rel => exact ⟨m + 1, by omega, by omega, by go_num, HX.out, HN.out⟩
              case measure => simp [intOf]; omega
        · have q1 : decide ((m : Int) ≤ (c' : Int)) = false := decide_eq_false (by omega)
          have q1n : decide (m ≤ c') = false := decide_eq_false (by omega)
          have LL := Lib.hid (HN2.out fun j j1 j2 => HI.out.2 j j1 (by omega))
          have HX := Lib.hid HI.out.1
          clear HI HY2 HN2
          go_wp2_with fail
          exact bodyPost_ret (v := .tuple #[.int .i64 0, .bool false, .int .i64 0]) (by simp [results, Tryz.results16, go_sem]) rfl ⟨by rw [LL.out.1, LL.out.2.1, LL.out.2.2], HX.out.box.bl⟩
end Go.Proofs.YtaafihdegnaokaaGreatDoor
/- payrollref6.Compare. -/
namespace Go.Proofs.YtaafihdegnaokaaGreatDoor
open Go.RowKit

def keyC (a : Chg) : List Int := [a.f, a.k, nb a.d, a.v]
theorem cmp_keys (a b : Chg) : orL ((List.range 4).map fun i => cmpI ((keyC a).getD i 0) ((keyC b).getD i 0)) = cmpC a b := by
  rw [← orL_cmp]; rfl
theorem keys_lt {a b : Chg} {k : Nat} (hk : k < 4) (h : ∀ j, j < k → (keyC a).getD j 0 = (keyC b).getD j 0) (hl : (keyC a).getD k 0 < (keyC b).getD k 0) : cmpC a b = -1 := by
  rw [← cmp_keys, orL_at (k := k) (by simp; omega) (fun j hj h' => by simp only [List.getElem_map, List.getElem_range]; rw [h j h']; simp [cmpI]) (by simp only [List.getElem_map, List.getElem_range, cmpI, hl, if_true]; decide)]
  simp only [List.getElem_map, List.getElem_range, cmpI, hl, if_true]
theorem keys_gt {a b : Chg} {k : Nat} (hk : k < 4) (h : ∀ j, j < k → (keyC a).getD j 0 = (keyC b).getD j 0) (hl : (keyC b).getD k 0 < (keyC a).getD k 0) : cmpC a b = 1 := by
  have hn : ¬ (keyC a).getD k 0 < (keyC b).getD k 0 := by omega
  rw [← cmp_keys, orL_at (k := k) (by simp; omega) (fun j hj h' => by simp only [List.getElem_map, List.getElem_range]; rw [h j h']; simp [cmpI]) (by simp only [List.getElem_map, List.getElem_range]; simp only [cmpI, hn, hl, if_true, if_false]; decide)]
  simp only [List.getElem_map, List.getElem_range]; simp only [cmpI, hn, hl, if_true, if_false]
theorem keys_eq {a b : Chg} (h : ∀ j, j < 4 → (keyC a).getD j 0 = (keyC b).getD j 0) : cmpC a b = 0 := by
  rw [← cmp_keys, orL_none (fun j hj => by simp only [List.getElem_map, List.getElem_range]; rw [h j (by simpa using hj)]; simp [cmpI])]
theorem row_key {w : World} {g : Nat} {T : TypeId} {a : Chg} (h : Row w g T #[.int .i64 a.f, .int .i64 a.k, .int .i64 (nb a.d), .int .i64 a.v]) {k : Nat} (hk : k < 4) : w.cell? ⟨g, k, none⟩ = some (.int .i64 ((keyC a).getD k 0)) := by
  match k, hk with
  | 0, _ => exact h.cell 0
  | 1, _ => exact h.cell 1
  | 2, _ => exact h.cell 2
  | 3, _ => exact h.cell 3

def CmpP (w : World) (x : Int) (e : Ending) (w' : World) : Prop := e = .returned (.int .i64 x) ∧ Below w.heap.size w w'
def CmpR (w : World) (a b : Chg) (i : Value) (wr : World) : Prop := ∃ k : Nat, k ≤ 4 ∧ i = .int .i64 k ∧ Below w.heap.size w wr ∧ Hid (∀ j, j < k → (keyC a).getD j 0 = (keyC b).getD j 0)
theorem Row.new' {w : World} {n : Nat} (hn : w.heap.size = n) (t : TypeId) (cs : Array Value) : Row (w.alloc (.cells cs t)) n t cs := by subst hn; exact Row.new w t cs
theorem row4 {w : World} {g : Nat} {T : TypeId} {a b c d : Value} (h : Row w g T #[a, b, c, d]) : w.cell? ⟨g, 2, none⟩ = some c ∧ w.cell? ⟨g, 3, none⟩ = some d ∧ w.frozen? ⟨g, 2, none⟩ = false ∧ g < w.heap.size := ⟨h.cell 2, h.cell 3, h.frozen 2, h.lt⟩
set_option maxRecDepth 100000 in
set_option maxHeartbeats 1000000 in
theorem refCompare_any (a b : Chg) (w : World) : Calls Tryz.prog 91 #[.agg #[.int .i64 a.f, .int .i64 a.k, .int .i64 a.v, .bool a.d], .agg #[.int .i64 b.f, .int .i64 b.k, .int .i64 b.v, .bool b.d]] w (CmpP w (cmpC a b)) := by
  obtain ⟨c, hc⟩ : ∃ c, cmpC a b = c := ⟨_, rfl⟩
  rw [hc]
  have HC := Lib.hid hc
  clear hc
  obtain ⟨af, ak, av, ad⟩ := a
  obtain ⟨bf, bk, bv, bd⟩ := b
  simp only
  go_enter Tryz.func91, Tryz.ntmps91
  go_upto_if 23 with (fail)
  obtain ⟨W, hW⟩ : ∃ W : World, (((w.alloc (.cells #[.int .i64 af, .int .i64 ak, .int .i64 av, .bool ad] 66)).alloc (.cells #[.int .i64 bf, .int .i64 bk, .int .i64 bv, .bool bd] 66)).alloc (.cells #[.int .i64 af, .int .i64 ak, .int .i64 0, .int .i64 av] 121)).alloc (.cells #[.int .i64 bf, .int .i64 bk, .int .i64 0, .int .i64 bv] 121) = W := ⟨_, rfl⟩
  have rb : Row W (w.heap.size + 1) 66 #[.int .i64 bf, .int .i64 bk, .int .i64 bv, .bool bd] := by rw [← hW]; exact (((Row.new' (by simp) 66 #[.int .i64 bf, .int .i64 bk, .int .i64 bv, .bool bd]).alloc _).alloc _)
  have rx : Row W (w.heap.size + 1 + 1) 121 #[.int .i64 af, .int .i64 ak, .int .i64 0, .int .i64 av] := by rw [← hW]; exact ((Row.new' (by simp) 121 #[.int .i64 af, .int .i64 ak, .int .i64 0, .int .i64 av]).alloc _)
  have ry : Row W (w.heap.size + 1 + 1 + 1) 121 #[.int .i64 bf, .int .i64 bk, .int .i64 0, .int .i64 bv] := by rw [← hW]; exact Row.new' (by simp) 121 #[.int .i64 bf, .int .i64 bk, .int .i64 0, .int .i64 bv]
  have hb : Below w.heap.size w W := by rw [← hW]; exact (((((Below.refl _ _).alloc (Nat.le_refl _) _).alloc (by simp) _).alloc (by simp; omega) _).alloc (by simp; omega) _)
  rw [hW]
  clear hW
  go_cut [] (fun wx => Row wx (w.heap.size + 1) 66 #[.int .i64 bf, .int .i64 bk, .int .i64 bv, .bool bd] ∧ Row wx (w.heap.size + 1 + 1) 121 #[.int .i64 af, .int .i64 ak, .int .i64 (nb ad), .int .i64 av] ∧ Row wx (w.heap.size + 1 + 1 + 1) 121 #[.int .i64 bf, .int .i64 bk, .int .i64 0, .int .i64 bv] ∧ Below w.heap.size w wx)
  case first =>
    obtain ⟨x2, x3, xf, xl⟩ := row4 rx
    cases ad
    · go_wp2_with fail
      go_meet
      exact ⟨rb, rx, ry, hb⟩
    · go_wp2_with fail
      go_meet
      exact ⟨rb.far (by simp) _, rx.set 2 _, ry.far (by simp) _, hb.setCell (by simp; omega) _⟩
  case rest =>
    clear rb rx ry hb
    obtain ⟨rb, rx, ry, hb⟩ := hcut
    obtain ⟨W1, hW1⟩ : ∃ W1 : World, W1 = wc := ⟨_, rfl⟩
    subst hW1
    obtain ⟨b2, b3, _, bl⟩ := row4 rb
    go_upto_if 26 with (fail)
    go_cut [] (fun wx => Row wx (w.heap.size + 1 + 1) 121 #[.int .i64 af, .int .i64 ak, .int .i64 (nb ad), .int .i64 av] ∧ Row wx (w.heap.size + 1 + 1 + 1) 121 #[.int .i64 bf, .int .i64 bk, .int .i64 (nb bd), .int .i64 bv] ∧ Below w.heap.size w wx)
    case first =>
      obtain ⟨x2, x3, xf, xl⟩ := row4 ry
      cases bd
      · go_wp2_with fail
        go_meet
        exact ⟨rx, ry, hb⟩
      · go_wp2_with fail
        go_meet
        exact ⟨rx.far (by simp) _, ry.set 2 _, hb.setCell (by simp; omega) _⟩
    case rest =>
      clear rb rx ry hb b2 b3 bl
      obtain ⟨rx, ry, hb⟩ := hcut
      obtain ⟨W2, hW2⟩ : ∃ W2 : World, W2 = wc := ⟨_, rfl⟩
      subst hW2
      have lx := rx.lt
      have ly := ry.lt
      have HX : Hid (∀ k, k < 4 → W2.cell? ⟨w.heap.size + 1 + 1, k, none⟩ = some (.int .i64 ((keyC ⟨af, ak, av, ad⟩).getD k 0))) := fun k hk => row_key (a := ⟨af, ak, av, ad⟩) rx hk
      have HY : Hid (∀ k, k < 4 → W2.cell? ⟨w.heap.size + 1 + 1 + 1, k, none⟩ = some (.int .i64 ((keyC ⟨bf, bk, bv, bd⟩).getD k 0))) := fun k hk => row_key (a := ⟨bf, bk, bv, bd⟩) ry hk
      clear rx ry
      generalize (⟨af, ak, av, ad⟩ : Chg) = a at HX HY HC
      generalize (⟨bf, bk, bv, bd⟩ : Chg) = b at HX HY HC
      go_wp2_with fail
      go_loopw [7] (fun i wr => CmpR W2 a b i wr) (fun i _ => 4 - (intOf i).toNat)
      case atStart => exact ⟨0, by omega, rfl, Below.refl _ _, fun j hj => by omega⟩
      case round =>
        obtain ⟨k, hk, rfl, hbl, HE⟩ := hrel
        obtain ⟨wo, rfl⟩ : ∃ wo : World, wo = wr := ⟨_, rfl⟩
        by_cases hlt : k < 4
        · have x0 := (hbl.cell (p := ⟨w.heap.size + 1 + 1, k, none⟩) lx).trans (HX.out k hlt)
          have y0 := (hbl.cell (p := ⟨w.heap.size + 1 + 1 + 1, k, none⟩) ly).trans (HY.out k hlt)
          have i1 : (k : Int) < 4 := by omega
          obtain ⟨x, hx⟩ : ∃ x, (keyC a).getD k 0 = x := ⟨_, rfl⟩
          obtain ⟨y, hy⟩ : ∃ y, (keyC b).getD k 0 = y := ⟨_, rfl⟩
          rw [hx] at x0
          rw [hy] at y0
          by_cases hxy : x < y
          · have HR : Hid (c = -1) := by rw [Hid, ← HC.out]; exact keys_lt hlt HE.out (by rw [hx, hy]; exact hxy)
            clear hx hy
            go_wp2_with fail
            go_quiet (fail)
            go_wp2
            go_ret
            exact ⟨ret_int HR.out.symm, hb.trans ((Below.draws hbl _).mono hb.size)⟩
          · by_cases hyx : y < x
            · have HR : Hid (c = 1) := by rw [Hid, ← HC.out]; exact keys_gt hlt HE.out (by rw [hx, hy]; exact hyx)
              clear hx hy
              go_wp2_with fail
              go_quiet (fail)
              go_wp2_with fail
              go_quiet (fail)
              go_wp2
              go_ret
              exact ⟨ret_int HR.out.symm, hb.trans ((Below.draws (Below.draws hbl _) _).mono hb.size)⟩
            · have HR : Hid (∀ j, j < k + 1 → (keyC a).getD j 0 = (keyC b).getD j 0) := fun j hj => by
                by_cases e : j = k
                · subst e; omega
                · exact HE.out j (by omega)
              clear hx hy
              go_wp2_with fail
              go_quiet (fail)
              go_wp2_with fail
              go_quiet (fail)
              go_wp2
              go_roundw
              case rel => exact ⟨k + 1, by omega, by go_num, Below.draws hbl _, HR⟩
              case measure => simp [intOf]; omega
        · have HR : Hid (c = 0) := by rw [Hid, ← HC.out]; exact keys_eq fun j hj => HE.out j (by omega)
          go_wp2
          go_ret
          exact ⟨ret_int HR.out.symm, hb.trans (hbl.mono hb.size)⟩
end Go.Proofs.YtaafihdegnaokaaGreatDoor
/- payrollref6.counting. -/
namespace Go.Proofs.YtaafihdegnaokaaGreatDoor
open Go.RowKit

theorem cnt_no {l : List Chg} {kn : Int} {c : Chg} (h : ¬ c.k ≤ kn) : cntB l kn c = false := by
  rw [Bool.eq_false_iff]; intro hh; exact h (cnt_iff.1 hh).1
theorem cnt_out {l : List Chg} {kn : Int} {c x : Chg} (hx : x ∈ l) (h1 : x.f = c.f) (h2 : x.k ≤ kn) (h3 : ltC c x) : cntB l kn c = false := by
  rw [Bool.eq_false_iff]; intro hh; exact (cnt_iff.1 hh).2 x hx h1 h2 h3
theorem cnt_yes {l : List Chg} {kn : Int} {c : Chg} (h : c.k ≤ kn) (hh : ∀ j (hj : j < l.length), ¬ ((l[j]).f = c.f ∧ (l[j]).k ≤ kn ∧ ltC c l[j])) : cntB l kn c = true :=
  cnt_iff.2 ⟨h, fun x hx h1 h2 h3 => by obtain ⟨j, hj, rfl⟩ := List.mem_iff_getElem.1 hx; exact hh j hj ⟨h1, h2, h3⟩⟩
def CntP (w : World) (b : Bool) (e : Ending) (w' : World) : Prop := e = .returned (.bool b) ∧ Below w.heap.size w w'
def CnR (w : World) (l : List Chg) (kn : Int) (c : Chg) (i : Value) (wr : World) : Prop :=
  ∃ k : Nat, k ≤ l.length ∧ i = .int .i64 k ∧ Below w.heap.size w wr ∧ Hid (∀ j (hj : j < l.length), j < k → ¬ ((l[j]).f = c.f ∧ (l[j]).k ≤ kn ∧ ltC c l[j]))
theorem cnr_next {l : List Chg} {kn : Int} {c : Chg} {k : Nat} (h : ∀ j (hj : j < l.length), j < k → ¬ ((l[j]).f = c.f ∧ (l[j]).k ≤ kn ∧ ltC c l[j])) (hk : k < l.length) (hn : ¬ ((l[k]).f = c.f ∧ (l[k]).k ≤ kn ∧ ltC c l[k])) :
    ∀ j (hj : j < l.length), j < k + 1 → ¬ ((l[j]).f = c.f ∧ (l[j]).k ≤ kn ∧ ltC c l[j]) := fun j hj h' => by
  by_cases e : j = k
  · subst e; exact hn
  · exact h j hj (by omega)

set_option maxRecDepth 100000 in
set_option maxHeartbeats 2000000 in
theorem counting_any (v : Value) (l : List Chg) (i : Nat) (kn : Int) (w : World) (hv : Sl w 4 v (chgs l)) (hi : i < l.length) (hl : l.length ≤ 1024) :
    Calls Tryz.prog 69 #[v, .int .i64 i, .int .i64 kn] w (CntP w (cntB l kn l[i])) := by
  have fv : ∃ P c, v = .slice P l.length c := by obtain ⟨P, c, h, _⟩ := hv; rw [chgs_len] at h; exact ⟨P, c, h⟩
  obtain ⟨A, cap, rfl⟩ := fv
  obtain ⟨b, off, rfl, hc0⟩ := hv.cells (by rw [chgs_len]; omega)
  obtain ⟨c0, c1, c2, c3⟩ := hc0.chg hi
  have HC := Lib.hid hc0
  have hbl := hc0.1
  clear hc0 hv
  obtain ⟨c, hc⟩ : ∃ c, l[i] = c := ⟨_, rfl⟩
  rw [hc] at c0 c1 c2 c3 ⊢
  have HI := Lib.hid hc
  clear hc
  by_cases hk : c.k ≤ kn
  · go_enter Tryz.func69, Tryz.ntmps69
    go_wp2
    clear c0 c1 c2 c3
    go_loopw [7] (fun i wr => CnR w l kn c i wr) (fun i _ => l.length - (intOf i).toNat)
    case atStart => exact ⟨0, by omega, rfl, Below.refl _ _, fun j _ h => by omega⟩
    case round =>
      obtain ⟨k, hkl, rfl, hb, HE⟩ := hrel
      obtain ⟨wo, rfl⟩ : ∃ wo : World, wo = wr := ⟨_, rfl⟩
      have hbs := hb.size
      by_cases hlt : k < l.length
      · obtain ⟨d0, d1, d2, d3⟩ := (HC.out.below hb HC.out.1).chg hlt
        obtain ⟨c0, c1, c2, c3⟩ := (HC.out.below hb HC.out.1).chg hi
        rw [HI.out] at c0 c1 c2 c3
        obtain ⟨x, hx⟩ : ∃ x, l[k] = x := ⟨_, rfl⟩
        have hm : x ∈ l := by rw [← hx]; exact List.getElem_mem hlt
        have HN := Lib.hid (cnr_next HE.out hlt)
        rw [hx] at d0 d1 d2 d3 HN
        clear hx
        have hbo : b < wo.heap.size := by omega
        have e0 := ext_cell hbo d0
        have e1 := ext_cell hbo d1
        have e2 := ext_cell hbo d2
        have e3 := ext_cell hbo d3
        have g0 := ext_cell hbo c0
        have g1 := ext_cell hbo c1
        have g2 := ext_cell hbo c2
        have g3 := ext_cell hbo c3
        have hbx : ∀ y : Ext wo, Hid (Below w.heap.size w y.val) := fun y => hb.trans (y.property.mono hbs)
        have i1 : (k : Int) < (l.length : Int) := by omega
        have i2 : (i : Int) < (l.length : Int) := by omega
        clear c0 c1 c2 c3 d0 d1 d2 d3
        cases hf : (x.f == c.f)
        · have HR := Lib.hid (HN.out (fun h => by simp [h.1] at hf))
          clear HN
          go_wp2_with fail
          refine region_ext (by kernel_rfl) (by kernel_rfl) ?_
          repeat (go_big_quiet_step (fail))
          refine wpQuiet_nil ?_
          rintro _ ⟨y, rfl⟩
          go_wp2
          go_roundw
          case rel => exact ⟨k + 1, by omega, by go_num, (hbx y).out, HR⟩
          case measure => simp [intOf]; omega
        · have HF := Lib.hid (show x.f = c.f by simpa using hf)
          cases hkk : decide (x.k ≤ kn)
          · have HR := Lib.hid (HN.out (fun h => by simp [h.2.1] at hkk))
            clear HN
            go_wp2_with fail
            refine region_ext (by kernel_rfl) (by kernel_rfl) ?_
            repeat (go_big_quiet_step (fail))
            refine wpQuiet_nil ?_
            rintro _ ⟨y, rfl⟩
            go_wp2
            go_roundw
            case rel => exact ⟨k + 1, by omega, by go_num, (hbx y).out, HR⟩
            case measure => simp [intOf]; omega
          · have HK := Lib.hid (show x.k ≤ kn by simpa using hkk)
            have HCON := Lib.hid (fun y : Ext wo => refCompare_any x c y.val)
            obtain ⟨z, hz⟩ : ∃ z, cmpC x c = z := ⟨_, rfl⟩
            rw [hz] at HCON
            have HZ := Lib.hid hz
            clear hz
            cases hzz : decide (0 < z)
            · have HR := Lib.hid (HN.out (fun h => by have := cmpC_pos.2 h.2.2; rw [HZ.out] at this; simp [this] at hzz))
              clear HN
              go_wp2_with fail
              refine region_ext (by kernel_rfl) (by kernel_rfl) ?_
              repeat (go_big_quiet_step ((go_at_call 91; exact ext_call (HCON.out _))))
              refine wpQuiet_nil ?_
              rintro _ ⟨y, rfl⟩
              go_wp2
              go_roundw
              case rel => exact ⟨k + 1, by omega, by go_num, (hbx y).out, HR⟩
              case measure => simp [intOf]; omega
            · have HR : Hid (cntB l kn c = false) := cnt_out hm HF.out HK.out (cmpC_pos.1 (by rw [HZ.out]; simpa using hzz))
              clear HN
              go_wp2_with fail
              refine region_ext (by kernel_rfl) (by kernel_rfl) ?_
              repeat (go_big_quiet_step ((go_at_call 91; exact ext_call (HCON.out _))))
              refine wpQuiet_nil ?_
              rintro _ ⟨y, rfl⟩
              go_wp2
              go_ret
              exact ⟨ret_bool HR.out.symm, (hbx y).out⟩
      · have HR : Hid (cntB l kn c = true) := cnt_yes hk fun j hj => HE.out j hj (by omega)
        go_wp2
        go_ret
        exact ⟨ret_bool HR.out.symm, hb⟩
  · have HE := Lib.hid (cnt_no (l := l) hk)
    go_enter Tryz.func69, Tryz.ntmps69
    go_wp2
    go_ret
    exact ⟨ret_bool HE.out.symm, Below.refl _ _⟩
end Go.Proofs.YtaafihdegnaokaaGreatDoor
/- Inserting into sorted lists of changes, as the reference does: no program in sight. -/
namespace Go.Proofs.YtaafihdegnaokaaGreatDoor

/-- where a change is inserted -/
theorem insC_at {c : Chg} : ∀ {l : List Chg} {k : Nat} (_ : k ≤ l.length) (_ : ∀ j (hj : j < l.length), j < k → ltC l[j] c) (_ : ∀ h : k < l.length, ¬ ltC l[k] c), (l[k]? = some c → insC c l = l) ∧ (¬ l[k]? = some c → insC c l = l.take k ++ c :: l.drop k)
  | [], k, hk, _, _ => by
    have : k = 0 := by simpa using hk
    subst this; simp [insC]
  | x :: r, 0, _, _, h2 => by
    have h := h2 (by simp)
    simp only [List.getElem_cons_zero] at h
    simp only [List.getElem?_cons_zero, Option.some.injEq, List.take_zero, List.nil_append, List.drop_zero]
    constructor
    · intro e
      subst e
      unfold insC
      rw [if_neg (ltC_irr x), if_neg (ltC_irr x)]
    · intro e
      have hc : ltC c x := Classical.byContradiction fun h' => e (ltC_total h h')
      unfold insC
      rw [if_neg h, if_pos hc]
  | x :: r, k + 1, hk, h1, h2 => by
    have hx := h1 0 (by simp) (by omega)
    simp only [List.getElem_cons_zero] at hx
    have ih := insC_at (c := c) (l := r) (k := k) (by simpa using hk) (fun j hj hjk => h1 (j + 1) (by simpa using hj) (by omega)) (fun h => h2 (by simpa using h))
    have e1 : insC c (x :: r) = x :: insC c r := by
      conv => lhs; unfold insC
      rw [if_pos hx]
    simp only [List.getElem?_cons_succ]
    exact ⟨fun h => by rw [e1, ih.1 h], fun h => by rw [e1, ih.2 h]; simp⟩
theorem ascC_snoc (l : List Chg) (c : Chg) : ascC (l ++ [c]) = insC c (ascC l) := by rw [ascC, List.foldl_append]; rfl
theorem asc_days {l : List Chg} (h : l.Pairwise (fun a b => a.f < b.f)) : l.Pairwise ltC := h.imp fun hab => .inl hab
/-- what in has after k changes -/
def InTo (l : List Chg) (kn : Int) (k : Nat) (o : List Chg) : Prop := o.Pairwise (fun a b => a.f < b.f) ∧ ∀ c, c ∈ o ↔ c ∈ l.take k ∧ pB l kn c = true
theorem inTo_start (l : List Chg) (kn : Int) : InTo l kn 0 [] := ⟨.nil, fun c => by simp⟩
theorem inTo_end {l o : List Chg} {kn : Int} {k : Nat} (h : InTo l kn k o) (hk : l.length ≤ k) : o = inC l kn := by
  refine asc_unique (asc_days h.1) (asc_inC l kn) fun x => ?_
  rw [h.2, List.take_of_length_le hk, mem_inC, pB, Bool.and_eq_true, Bool.not_eq_true']
theorem take_mem {l : List Chg} {k : Nat} (hk : k < l.length) {c : Chg} : c ∈ l.take (k + 1) ↔ c ∈ l.take k ∨ c = l[k] := by
  rw [List.take_succ_eq_append_getElem hk, List.mem_append, List.mem_singleton]
theorem inTo_skip {l o : List Chg} {kn : Int} {k : Nat} (h : InTo l kn k o) (hk : k < l.length) (hp : pB l kn l[k] = false) : InTo l kn (k + 1) o :=
  ⟨h.1, fun c => by
    rw [h.2, take_mem hk]
    constructor
    · rintro ⟨h1, h2⟩; exact ⟨.inl h1, h2⟩
    · rintro ⟨h1 | h1, h2⟩
      · exact ⟨h1, h2⟩
      · rw [h1, hp] at h2; cases h2⟩
theorem pB_cnt {l : List Chg} {kn : Int} {c : Chg} (h : pB l kn c = true) : cntB l kn c = true := by
  rw [pB, Bool.and_eq_true] at h; exact h.1
theorem inTo_same {l o : List Chg} {kn : Int} {k j : Nat} (h : InTo l kn k o) (hk : k < l.length) (hp : pB l kn l[k] = true) (hj : j < o.length) (hf : (o[j]).f = (l[k]).f) : InTo l kn (k + 1) o := by
  have ho := (h.2 o[j]).1 (List.getElem_mem hj)
  have he : o[j] = l[k] := cnt_unique (List.mem_of_mem_take ho.1) (List.getElem_mem hk) (pB_cnt ho.2) (pB_cnt hp) hf
  refine ⟨h.1, fun c => ?_⟩
  rw [h.2, take_mem hk]
  constructor
  · rintro ⟨h1, h2⟩; exact ⟨.inl h1, h2⟩
  · rintro ⟨h1 | h1, h2⟩
    · exact ⟨h1, h2⟩
    · rw [h1, ← he]; exact ho
theorem inTo_ins {l o : List Chg} {kn : Int} {k j : Nat} (h : InTo l kn k o) (hk : k < l.length) (hp : pB l kn l[k] = true) (hj : j ≤ o.length) (h1 : ∀ i (hi : i < o.length), i < j → (o[i]).f < (l[k]).f) (h2 : ∀ hi : j < o.length, ¬ (o[j]).f < (l[k]).f ∧ ¬ (o[j]).f = (l[k]).f) :
    InTo l kn (k + 1) (o.take j ++ l[k] :: o.drop j) := by
  have hgt : ∀ x ∈ o.drop j, (l[k]).f < x.f := fun x hx => by
    obtain ⟨i, hi, rfl⟩ := List.mem_iff_getElem.1 hx
    rw [List.length_drop] at hi
    rw [List.getElem_drop]
    have h3 := h2 (by omega)
    by_cases e : i = 0
    · subst e; simp only [Nat.add_zero]; omega
    · have := List.pairwise_iff_getElem.1 h.1 j (j + i) (by omega) (by omega) (by omega)
      omega
  have hlt : ∀ x ∈ o.take j, x.f < (l[k]).f := fun x hx => by
    obtain ⟨i, hi, rfl⟩ := List.mem_iff_getElem.1 hx
    rw [List.length_take] at hi
    rw [List.getElem_take]
    exact h1 i (by omega) (by omega)
  refine ⟨?_, fun c => ?_⟩
  · rw [List.pairwise_append]
    refine ⟨h.1.sublist (List.take_sublist _ _), ?_, ?_⟩
    · rw [List.pairwise_cons]
      exact ⟨hgt, h.1.sublist (List.drop_sublist _ _)⟩
    · intro a ha b hb
      rcases List.mem_cons.1 hb with rfl | hb
      · exact hlt a ha
      · have := hlt a ha; have := hgt b hb; omega
  · rw [List.mem_append, List.mem_cons, take_mem hk]
    have hmem : c ∈ o ↔ c ∈ o.take j ∨ c ∈ o.drop j := by rw [← List.mem_append, List.take_append_drop]
    have h3 := h.2 c
    constructor
    · rintro (hc | rfl | hc)
      · have := h3.1 (hmem.2 (.inl hc)); exact ⟨.inl this.1, this.2⟩
      · exact ⟨.inr rfl, hp⟩
      · have := h3.1 (hmem.2 (.inr hc)); exact ⟨.inl this.1, this.2⟩
    · rintro ⟨hc | rfl, hcp⟩
      · rcases hmem.1 (h3.2 ⟨hc, hcp⟩) with hc | hc
        · exact .inl hc
        · exact .inr (.inr hc)
      · exact .inr (.inl rfl)
end Go.Proofs.YtaafihdegnaokaaGreatDoor
/- copy(out[k+1:], out[k:]) in a slice of the call's own, elements of any width. -/
namespace Go.Proofs.YtaafihdegnaokaaGreatDoor
open Go.RowKit

theorem setRun_tail (us : List Value) (xs : List Value) (j : Nat) (h : j + us.length = xs.length) : setRun xs j us = xs.take j ++ us := by
  apply List.ext_getElem?
  intro t
  rw [setRun_get us xs j t (by omega)]
  by_cases h1 : t < j
  · rw [if_neg (by omega), List.getElem?_append_left (by rw [List.length_take]; omega), List.getElem?_take, if_pos h1]
  · rw [List.getElem?_append_right (by rw [List.length_take]; omega), List.length_take, Nat.min_eq_left (by omega)]
    by_cases h2 : t < j + us.length
    · rw [if_pos ⟨by omega, h2⟩]
    · rw [if_neg (by omega), List.getElem?_eq_none (by omega), List.getElem?_eq_none (by omega)]
theorem Wide.take {sz : Nat} {es : List (List Value)} (h : Wide sz es) (k : Nat) : Wide sz (es.take k) := fun x hx => h x (List.mem_of_mem_take hx)
theorem Wide.drop {sz : Nat} {es : List (List Value)} (h : Wide sz es) (k : Nat) : Wide sz (es.drop k) := fun x hx => h x (List.mem_of_mem_drop hx)
theorem flat_take {sz : Nat} {es : List (List Value)} (h : Wide sz es) (k : Nat) (hk : k ≤ es.length) : es.flatten.take (k * sz) = (es.take k).flatten := by
  have h1 : es.flatten = (es.take k).flatten ++ (es.drop k).flatten := by rw [← List.flatten_append, List.take_append_drop]
  have h2 : (es.take k).flatten.length = k * sz := by rw [(h.take k).flat, List.length_take, Nat.min_eq_left hk]
  rw [h1, ← h2, List.take_left]

theorem run_copy_ins {P : Program} {w : World} {t e : TypeId} {sz bytes : Nat} (hT : RowTy P t e sz bytes) (ty : TypeId) {base g n cap : Nat} {es : List (List Value)}
    (h : Own w base e sz (.slice (some ⟨g, 0, none⟩) n cap) es) (k : Nat) (hk : k < n) (dp : Option Addr) (dLen dCap sLen sCap : Nat) (hd : dLen = n - (k + 1)) (hdp : dLen = 0 ∨ dp = some ⟨g, (k + 1) * sz, none⟩) (hs : sLen = n - k) :
    ∃ w', (Builtin.copy_ #[t, t] ty #[.slice dp dLen dCap, .slice (some ⟨g, k * sz, none⟩) sLen sCap]).run P w = .ok (goInt dLen) w' ∧ Own w' base e sz (.slice (some ⟨g, 0, none⟩) n cap) (es.take (k + 1) ++ (es.drop k).take dLen) ∧ w.grownBy w' (some g) := by
  obtain ⟨i, z, hi, hz, hsz, hby, hzs⟩ := hT.hi
  have hn : n = es.length := by
    rcases h.1.2 with ⟨h', _⟩ | ⟨g', cap', cur, h', _⟩
    · simp at h'
    · injection h'
  subst hn
  have hmin : Nat.min sLen dLen = dLen := by simp only [Nat.min_def]; split <;> omega
  have hwc : Wide sz ((es.drop k).take dLen) := (h.2.drop k).take dLen
  have hcl : ((es.drop k).take dLen).flatten.length = dLen * sz := by rw [hwc.flat, List.length_take, List.length_drop, Nat.min_eq_left (by omega)]
  have hsrc : ∀ j v, ((es.drop k).take dLen).flatten[j]? = some v → w.cell? ((⟨g, k * sz, none⟩ : Addr).add j) = some v := fun j v hj => by
    have hadd : (⟨g, k * sz, none⟩ : Addr).add j = ⟨g, k * sz + j, none⟩ := by unfold Addr.add; split <;> simp_all
    rw [hwc.get hT.hsz] at hj
    cases hx : ((es.drop k).take dLen)[j / sz]? with
    | none => rw [hx] at hj; cases hj
    | some x =>
      rw [hx] at hj
      have hlt : j / sz < dLen := by
        have := (List.getElem?_eq_some_iff.1 hx).1
        rw [List.length_take] at this; omega
      rw [List.getElem?_take, if_pos hlt, List.getElem?_drop] at hx
      have := h.cellE hT.hsz hx hj
      have e1 := Nat.div_add_mod j sz
      rw [hadd, ← this]
      congr 2
      rw [Nat.add_mul, Nat.mul_comm (j / sz)]; omega
  have hl := run_loadCells_list (P := P) w ⟨g, k * sz, none⟩ ((es.drop k).take dLen).flatten hsrc
  rw [hcl] at hl
  rcases Nat.eq_zero_or_pos dLen with h0 | hpos
  · subst h0
    refine ⟨w, ?_, ?_, World.grownBy.refl _ _⟩
    · have hl0 : (loadCells ⟨g, k * sz, none⟩ 0).run P w = .ok #[] w := by simpa using run_loadCells_list (P := P) w ⟨g, k * sz, none⟩ [] (by simp)
      cases dp <;> simp [Builtin.copy_, run_underlying hT.ht, Builtin.lenOf, Builtin.firstCells, sizeOf, typeInfo, hi, storeCells, hl0]
    · rw [List.take_zero, List.append_nil, List.take_of_length_le (by omega)]; exact h
  · have hdp' : dp = some ⟨g, (k + 1) * sz, none⟩ := hdp.resolve_left (by omega)
    subst hdp'
    have hfit : (k + 1) * sz + dLen * sz = es.length * sz := by rw [← Nat.add_mul]; congr 1; omega
    have hst := run_storeCells_cells (P := P) g ((k + 1) * sz) ((es.drop k).take dLen).flatten 0 w (fun j hj => by
      rw [hcl] at hj
      have hlt : (k + 1) * sz + j < es.length * sz := by omega
      obtain ⟨u, hu⟩ : ∃ u, es.flatten[(k + 1) * sz + j]? = some u := ⟨_, List.getElem?_eq_getElem (by rw [h.2.flat]; exact hlt)⟩
      rw [h.2.get hT.hsz] at hu
      cases hx : es[((k + 1) * sz + j) / sz]? with
      | none => rw [hx] at hu; cases hu
      | some x =>
        rw [hx] at hu
        have := h.cellE hT.hsz hx hu
        have e1 := Nat.div_add_mod ((k + 1) * sz + j) sz
        rw [Nat.mul_comm (((k + 1) * sz + j) / sz) sz, e1] at this
        rw [Nat.add_zero, this]; rfl) (fun j _ => h.frozenE _) hwc.one
    obtain ⟨k1, k2⟩ := storeRun_own ((es.drop k).take dLen).flatten ((k + 1) * sz) h.1
    refine ⟨storeRun w g ((k + 1) * sz) ((es.drop k).take dLen).flatten, ?_, ⟨?_, ?_⟩, k2⟩
    · rw [← storeRun_set]
      simp [Builtin.copy_, run_underlying hT.ht, Builtin.lenOf, Builtin.firstCells, sizeOf, typeInfo, hi, hsz, hmin, hl, hst]
    · have hlen : (es.take (k + 1) ++ (es.drop k).take dLen).length = es.length := by
        rw [List.length_append, List.length_take, List.length_take, List.length_drop]; omega
      rw [hlen, List.flatten_append, ← flat_take h.2 (k + 1) (by omega), ← setRun_tail _ _ _ (by rw [hcl, h.2.flat]; exact hfit)]
      exact k1
    · exact (h.2.take _).append hwc

theorem wpList_copy_ins {P : Program} {w : World} {ops : Array Oper} {rest : List Oper} {o : Oper} {a : Act} {Q : Exit → Act → World → Prop} (hgd : o.guard = none) (d s : Operand) {t e : TypeId} {sz bytes : Nat}
    (ho : o.op = .call { callee := .builtin .copy, args := #[d, s], argTypes := #[t, t] }) (hT : RowTy P t e sz bytes) {base g n cap : Nat} {es : List (List Value)}
    (h : Own w base e sz (.slice (some ⟨g, 0, none⟩) n cap) es) (k : Nat) (hk : k < n) (dp : Option Addr) (dLen dCap sLen sCap : Nat) (hd : dLen = n - (k + 1)) (hdp : dLen = 0 ∨ dp = some ⟨g, (k + 1) * sz, none⟩) (hs : sLen = n - k)
    (hde : a.eval d = .slice dp dLen dCap) (hse : a.eval s = .slice (some ⟨g, k * sz, none⟩) sLen sCap)
    (hh : ∀ w', Own w' base e sz (.slice (some ⟨g, 0, none⟩) n cap) (es.take (k + 1) ++ (es.drop k).take (n - (k + 1))) → w.grownBy w' (some g) → wpList P ops Q rest (a.put o.dst (goInt dLen)) w') : wpList P ops Q (o :: rest) a w := by
  refine wpList_plain hgd fun K hK => ?_
  obtain ⟨w', hrun, k1, k2⟩ := run_copy_ins (P := P) hT o.type h k hk dp dLen dCap sLen sCap hd hdp hs
  rw [hd] at k1
  unfold Oper.wp execOp
  simp only [ho, resolve, invoke, builtin, Sem.run_bind, Sem.run_pure, Result.andThen_ok, List.map_toArray, List.map_cons, List.map_nil, hde, hse, hrun]
  exact hK _ _ (hh w' k1 k2)

/-- the list behind the three statements -/
theorem ins_list {α : Type} (l : List α) (z c : α) (k : Nat) (hk : k ≤ l.length) : (((l ++ [z]).take (k + 1) ++ ((l ++ [z]).drop k).take (l.length - k)).set k c) = l.take k ++ c :: l.drop k := by
  have e1 : ((l ++ [z]).drop k).take (l.length - k) = l.drop k := by
    rw [List.drop_append_of_le_length hk, List.take_append_of_le_length (by simp), List.take_of_length_le (by simp)]
  have e2 : ∃ y, (l ++ [z]).take (k + 1) = l.take k ++ [y] := by
    rw [List.take_succ_eq_append_getElem (by simp; omega), List.take_append_of_le_length hk]
    exact ⟨_, rfl⟩
  obtain ⟨y, hy⟩ := e2
  have hl : (l.take k).length = k := by rw [List.length_take]; omega
  rw [e1, hy, List.append_assoc, List.set_append_right _ _ (by omega), hl, Nat.sub_self]
  rfl
end Go.Proofs.YtaafihdegnaokaaGreatDoor
/- Contracts of payrollgen.Tape: New, Next, Pick, and of payrollgen.Mod. What is drawn is said by its range alone. -/
namespace Go.Proofs.YtaafihdegnaokaaGreatDoor
open Go.RowKit

theorem tape_lo (z n : Int) (hn : 0 < n) : -n < z.tmod n := by
  have := Int.lt_tmod_of_pos z hn; omega
theorem tape_mod (z n : Int) (hn : 0 < n) : z % n = if z.tmod n < 0 then z.tmod n + n else z.tmod n := by
  have h1 := Int.tmod_eq_emod (a := z) (b := n)
  have h2 := Int.emod_nonneg z (show n ≠ 0 by omega)
  have h3 := Int.emod_lt_of_pos z hn
  rw [h1]
  have : (n.natAbs : Int) = n := by omega
  split <;> split at * <;> omega
end Go.Proofs.YtaafihdegnaokaaGreatDoor
/- payrollgen.Tape.Changes; the day of the laws of timeline. -/
namespace Go.Proofs.YtaafihdegnaokaaGreatDoor
open Go.RowKit

theorem Own.ne_low {w : World} {base e sz D : Nat} {v : Value} {es : List (List Value)} (h : Own w base e sz v es) (hD : D < base) : v.ownBlock = none ∨ v.ownBlock ≠ some D := by
  rcases hv : v.ownBlock with _ | k
  · exact .inl rfl
  · refine .inr fun e => ?_
    have := (h.1.lt k hv).1
    injection e; omega
/-- a change that a mild tape makes -/
def mildC (c : Chg) : Prop := 0 ≤ c.f ∧ c.f ≤ 84005 ∧ 1 ≤ c.k ∧ c.k ≤ 6 ∧ 0 ≤ c.v ∧ c.v ≤ 3 ∧ (c.d = true → c.v = 0)
def MildL (wild : Bool) (cs : List Chg) : Prop := wild = false → ∀ c ∈ cs, mildC c
theorem MildL.snoc {wild : Bool} {cs : List Chg} (h : MildL wild cs) {c : Chg} (hc : wild = false → mildC c) : MildL wild (cs ++ [c]) := fun hw x hx => by
  rcases List.mem_append.1 hx with hx | hx
  · exact h hw x hx
  · rw [List.mem_singleton.1 hx]; exact hc hw
theorem chg_wide (c : Chg) : Wide 4 [c.vals] := fun x hx => by
  obtain rfl := List.mem_singleton.1 hx
  exact ⟨rfl, by simp [Chg.vals, Value.oneCell']⟩

end Go.Proofs.YtaafihdegnaokaaGreatDoor
/- payrollref6.in. -/
namespace Go.Proofs.YtaafihdegnaokaaGreatDoor
open Go.RowKit

theorem not_both {a b : Int} (h : ¬ a < b) (e : (a == b) = false) : b ≤ a ∧ ¬ a = b := ⟨by omega, by simpa using e⟩
theorem size_Dalloc {w : World} {o : Obj} {q n : Nat} (h : n ≤ w.heap.size) : n ≤ ((w.drewN q).alloc o).heap.size := by
  have : (w.drewN q).heap.size = w.heap.size := rfl
  rw [World.size_alloc, this]; omega
theorem zero_wide : Wide 4 [Chg.vals ⟨0, 0, 0, false⟩] := chg_wide _
/-- the cells of one element -/
theorem Own.four {w : World} {base e g n cap : Nat} {es : List (List Value)} (h : Own w base e 4 (.slice (some ⟨g, 0, none⟩) n cap) es) {j : Nat} (hj : j < es.length) :
    ∃ a b c d, (w.cell? ⟨g, j * 4, none⟩ = some a ∧ w.cell? ⟨g, j * 4 + 1, none⟩ = some b ∧ w.cell? ⟨g, j * 4 + 2, none⟩ = some c ∧ w.cell? ⟨g, j * 4 + 3, none⟩ = some d) ∧ (w.frozen? ⟨g, j * 4, none⟩ = false ∧ w.frozen? ⟨g, j * 4 + 1, none⟩ = false ∧ w.frozen? ⟨g, j * 4 + 2, none⟩ = false ∧ w.frozen? ⟨g, j * 4 + 3, none⟩ = false) := by
  have hx := (h.2 _ (List.getElem_mem hj)).1
  have hg : es[j]? = some es[j] := List.getElem?_eq_getElem hj
  match hy : es[j], hx with
  | [a, b, c, d], _ =>
    rw [hy] at hg
    exact ⟨a, b, c, d, ⟨h.cellE (by omega) hg (j := 0) rfl, h.cellE (by omega) hg (j := 1) rfl, h.cellE (by omega) hg (j := 2) rfl, h.cellE (by omega) hg (j := 3) rfl⟩, h.frozenE _, h.frozenE _, h.frozenE _, h.frozenE _⟩
theorem ins_chgs (o : List Chg) (c : Chg) (j : Nat) (hj : j ≤ o.length) : (((chgs o ++ [Chg.vals ⟨0, 0, 0, false⟩]).take (j + 1) ++ ((chgs o ++ [Chg.vals ⟨0, 0, 0, false⟩]).drop j).take (o.length + 1 - (j + 1))).set j c.vals) = chgs (o.take j ++ c :: o.drop j) := by
  have h := ins_list (chgs o) (Chg.vals ⟨0, 0, 0, false⟩) c.vals j (by rw [chgs_len]; exact hj)
  rw [chgs_len, show o.length - j = o.length + 1 - (j + 1) by omega] at h
  rw [h, chgs_append, chgs, chgs, List.map_take]
  simp [chgs]
theorem ins_len (o : List Chg) (j : Nat) (hj : j ≤ o.length) : ((chgs o ++ [Chg.vals ⟨0, 0, 0, false⟩]).take (j + 1) ++ ((chgs o ++ [Chg.vals ⟨0, 0, 0, false⟩]).drop j).take (o.length + 1 - (j + 1))).length = o.length + 1 := by
  rw [List.length_append, List.length_take, List.length_take, List.length_drop, List.length_append, chgs_len]
  simp only [List.length_cons, List.length_nil]; omega

def InR (w : World) (l : List Chg) (kn : Int) (v i : Value) (wr : World) : Prop :=
  ∃ k : Nat, ∃ o : List Chg, k ≤ l.length ∧ i = .int .i64 k ∧ o.length ≤ k ∧ Hid (InTo l kn k o) ∧ Hid (Own wr w.heap.size 66 4 v (chgs o)) ∧ Below w.heap.size w wr
def InQ (w : World) (o : List Chg) (c : Chg) (i : Value) (wr : World) : Prop :=
  ∃ j : Nat, j ≤ o.length ∧ i = .int .i64 j ∧ Below w.heap.size w wr ∧ Hid (∀ i (hi : i < o.length), i < j → (o[i]).f < c.f)

set_option maxRecDepth 100000 in
set_option maxHeartbeats 4000000 in
theorem in_any (v : Value) (l : List Chg) (kn : Int) (w : World) (hv : Sl w 4 v (chgs l)) (hl : l.length ≤ 1024) :
    Calls Tryz.prog 41 #[v, .int .i64 kn] w (RetOwn w 66 4 (chgs (inC l kn))) := by
  have fv : ∃ P c, v = .slice P l.length c := by obtain ⟨P, c, h, _⟩ := hv; rw [chgs_len] at h; exact ⟨P, c, h⟩
  obtain ⟨A, cap, rfl⟩ := fv
  have HV := Lib.hid hv
  clear hv
  go_enter Tryz.func41, Tryz.ntmps41
  go_wp2_with fail
  go_loopw [5, 6] (fun v i wr => InR w l kn v i wr) (fun _ i _ => l.length - (intOf i).toNat)
  case atStart => exact ⟨0, [], by omega, rfl, by simp, inTo_start l kn, Own.nil _ _ _ _, Below.refl _ _⟩
  case round =>
    obtain ⟨k, o, hk, rfl, hok, HI, HO, hb⟩ := hrel
    obtain ⟨wo, rfl⟩ : ∃ wo : World, wo = wr := ⟨_, rfl⟩
    have hbs := hb.size
    by_cases hlt : k < l.length
    · obtain ⟨b, off, rfl, hc0⟩ := HV.out.cells (by rw [chgs_len]; omega)
      have HC := Lib.hid hc0
      clear hc0
      have hbw := HC.out.1
      obtain ⟨d0, d1, d2, d3⟩ := (HC.out.below hb HC.out.1).chg hlt
      have HSK := Lib.hid (inTo_skip HI.out hlt)
      have HCON := Lib.hid (counting_any (.slice (some ⟨b, off, none⟩) l.length cap) l k kn wo (HV.out.below hb) hlt hl)
      have HPB : Hid (pB l kn l[k] = (cntB l kn l[k] && !(l[k]).d)) := rfl
      have HINS := Lib.hid (fun (j : Nat) (hj : j ≤ o.length) => inTo_ins HI.out hlt (j := j))
      have HSAME := Lib.hid (fun (j : Nat) => inTo_same HI.out hlt (j := j))
      obtain ⟨x, hx⟩ : ∃ x, l[k] = x := ⟨_, rfl⟩
      have HX := Lib.hid hx
      rw [hx] at d0 d1 d2 d3 HSK HCON HPB HINS HSAME
      clear hx HI
      obtain ⟨n0, hn0⟩ : ∃ n0, cntB l kn x = n0 := ⟨_, rfl⟩
      rw [hn0] at HCON HPB
      clear hn0
      cases hd : x.d
      · rw [hd] at d3 HPB
        cases n0
        · have HR := Lib.hid (HSK.out HPB.out)
          go_wp2_with (go_at_call 69; (with_reducible refine HCON.out.mono ?_); rintro e w5 ⟨rfl, hb5⟩)
          go_roundw
          case rel => exact ⟨k + 1, o, by omega, by go_num, by omega, HR, HO.out.kept hb5, hb.trans (hb5.mono hbs)⟩
          case measure => simp [intOf]; omega
        · go_wp2_with (go_at_call 69; (with_reducible refine HCON.out.mono ?_); rintro e w5 ⟨rfl, hb5⟩)
          have HP : Hid (pB l kn x = true) := HPB.out
          have ho5 := HO.out.kept hb5
          have hB5 := hb.trans (hb5.mono hbs)
          have hbs5 := hB5.size
          clear HO hb hb5 HSK HCON HPB d0 d1 d2 d3
          obtain ⟨A5, cap5, rfl⟩ := ho5.form
          rw [chgs_len] at ho5 ⊢
          have HO5 := Lib.hid ho5
          clear ho5
          go_loopw [7] (fun i wr => InQ w5 o x i wr) (fun i _ => o.length - (intOf i).toNat)
          case atStart => exact ⟨0, by omega, rfl, Below.refl _ _, fun i _ h => by omega⟩
          case round =>
            obtain ⟨j, hj, rfl, hbj, HJ⟩ := hrel
            obtain ⟨wi, rfl⟩ : ∃ wi : World, wi = wr := ⟨_, rfl⟩
            have hBi := hB5.trans (hbj.mono hbs5)
            have hbsi := hbj.size
            obtain ⟨d0, d1, d2, d3⟩ := (HC.out.below hBi HC.out.1).chg hlt
            rw [HX.out] at d0 d1 d2 d3
            have i1 : (k : Int) < (l.length : Int) := by omega
            have hown := HO5.out.kept hbj
            by_cases hjo : j < o.length
            · obtain ⟨g5, off5, rfl, hc5⟩ := (hown.sl (by omega)).cells (by rw [chgs_len]; omega)
              obtain ⟨q0, q1, q2, q3⟩ := hc5.chg hjo
              have dl : decide (j < o.length) = true := decide_eq_true hjo
              have i2 : (j : Int) < (o.length : Int) := by omega
              obtain ⟨yf, hyf⟩ : ∃ yf, (o[j]).f = yf := ⟨_, rfl⟩
              rw [hyf] at q0
              have HYF := Lib.hid hyf
              clear hyf hc5 q1 q2 q3
              by_cases hf : yf < x.f
              · have HN : Hid (∀ i (hi : i < o.length), i < j + 1 → (o[i]).f < x.f) := fun i hi h => by
                  by_cases e : i = j
                  · subst e; rw [HYF.out]; exact hf
                  · exact HJ.out i hi (by omega)
                have df : decide (yf < x.f) = true := decide_eq_true hf
                go_wp2_with fail
                go_quiet (fail)
                go_wp2
                go_roundw
                case rel => exact ⟨j + 1, by omega, by go_num, Below.draws hbj _, HN⟩
                case measure => simp [intOf]; omega
              · have df : decide (yf < x.f) = false := decide_eq_false hf
                cases he : (yf == x.f)
                · have HR := Lib.hid (HINS.out j hj HP.out (by omega) HJ.out (fun _ => by rw [HYF.out]; exact not_both hf he))
                  go_wp2_with fail
                  go_quiet (fail)
                  have hol : o.length ≤ 1024 := by omega
                  go_wp2_with fail
                  go_quiet (fail)
                  have HOq : Hid (∀ q, Own (wi.drewN q) w.heap.size 66 4 _ (chgs o)) := fun q => hown.kept (Below.draws (Below.refl _ _) q)
                  go_wp2_with (at_builtin; go_loud ((refine wpList_append_sl rfl (.tmp 62) (.tmp 64) rfl rowChg w.heap.size _ _ _ [Chg.vals ⟨0, 0, 0, false⟩] rfl ((HOq.out _).alloc _) rfl (Sl.one rfl rfl) (chg_wide _) (by simp only [chgs_len, List.length_cons, List.length_nil]; unfold maxLen; omega) (by simp only [chgs_len, List.length_cons, List.length_nil]; omega) (size_Dalloc hBi.size) ?_); intro v7 w7 hown7 hg7 _; have hb7 := Own.grown ((HOq.out _).alloc _) ((Below.draws hBi _).alloc hBi.size _) hg7 (size_Dalloc hBi.size); obtain ⟨g, cap7, rfl, hcap7⟩ := hown7.some_form (by simp); simp only [List.length_append, chgs_len, List.length_cons, List.length_nil, Nat.zero_add] at hown7 hcap7 ⊢; have HO7 := Lib.hid hown7; clear hown7 hg7))
                  have hq9 : j < cap7 := by omega
                  have hqa : ¬ cap7 = j := by omega
                  have hqb : j ≤ o.length + 1 := by omega
                  have hqc : j + 1 ≤ o.length + 1 := by omega
                  have hqd : j + 1 ≤ cap7 := by omega
                  have hqe : j ≤ cap7 := by omega
                  have hqf : (j : Int) ≤ (o.length : Int) + 1 := by omega
                  have i3 : (j : Int) < (cap7 : Int) := by omega

                  have hjc : ¬ cap7 = j + 1 := by omega
                  have i4 : ((j : Int) + 1) < (cap7 : Int) := by omega

                  have e1 : IntKind.i64.wrap ((j : Int) + 1) = (j : Int) + 1 := IntWalk.i64_in _ (by omega)
                  have e2 : ((j : Int) + 1).toNat = j + 1 := by omega
                  have e3 : (0 : Int) ≤ (j : Int) + 1 := by omega
                  go_wp2_with fail
                  refine region_tail 7 (by kernel_rfl) (by kernel_rfl) ?_
                  simp only [List.take_succ_cons, List.take_zero, List.drop_succ_cons, List.drop_zero]
                  repeat still_step
                  refine wpStill_nil ?_
                  clear e1 e2 e3
                  have ho7 := HO7.out.drew
                  have hb7' := hb7.drew
                  generalize w7.drew = w8 at ho7 hb7' ⊢
                  have hbs8 : w.heap.size ≤ w8.heap.size := hb7'.size
                  have HO8 := Lib.hid ho7
                  clear ho7 hb7 HO7
                  refine wpList_copy_ins rfl (.tmp 69) (.tmp 72) rfl rowChg HO8.out j (by omega) _ _ _ _ _ (by omega) (.inr rfl) (by omega) rfl rfl ?_; (intro w9 hown9 hg9; have hb9 := HO8.out.grown hb7' hg9 hbs8; have HO9 := Lib.hid hown9; obtain ⟨y0, y1, y2, y3, ⟨z0, z1, z2, z3⟩, u0, u1, u2, u3⟩ := hown9.four (j := j) (by rw [ins_len o j hj]; omega); have hl9 := (hown9.lt rfl).2; clear hown9 hg9; obtain ⟨d0, d1, d2, d3⟩ := (HC.out.below hb9 HC.out.1).chg hlt; rw [HX.out, hd] at d3; rw [HX.out] at d0 d1 d2)
                  go_wp2
                  go_roundw
                  case rel =>
                    have hst := HO9.out.store (by omega) j (by rw [ins_len o j hj]; omega) x.vals rfl (by simp [Chg.vals, Value.oneCell'])
                    rw [ins_chgs o x j hj] at hst
                    refine ⟨k + 1, _, by omega, by go_num, ?_, HR, ?_, ?_⟩
                    · simp; omega
                    · have := hst.1
                      rw [Chg.vals, hd] at this
                      exact this
                    · have := HO9.out.grown hb9 hst.2 hb9.size
                      rw [Chg.vals, hd] at this
                      exact this
                  case measure => simp [intOf]; omega
                · have HR := Lib.hid (HSAME.out j HP.out hjo (by rw [HYF.out]; simpa using he))
                  go_wp2_with fail
                  go_quiet (fail)
                  go_wp2_with fail
                  go_quiet (fail)
                  go_wp2
                  go_roundw
                  case rel => exact ⟨k + 1, o, by omega, by go_num, by omega, HR, hown.kept (Below.draws (Below.refl _ _) _), Below.draws hBi _⟩
                  case measure => simp [intOf]; omega
            · have dl : decide (j < o.length) = false := decide_eq_false hjo
              have HR := Lib.hid (HINS.out j hj HP.out (by omega) HJ.out (fun h => absurd h hjo))
              go_wp2_with fail
              go_quiet (fail)
              have hol : o.length ≤ 1024 := by omega
              go_wp2_with fail
              go_quiet (fail)
              have HOq : Hid (∀ q, Own (wi.drewN q) w.heap.size 66 4 _ (chgs o)) := fun q => hown.kept (Below.draws (Below.refl _ _) q)
              go_wp2_with (at_builtin; go_loud ((refine wpList_append_sl rfl (.tmp 62) (.tmp 64) rfl rowChg w.heap.size _ _ _ [Chg.vals ⟨0, 0, 0, false⟩] rfl ((HOq.out _).alloc _) rfl (Sl.one rfl rfl) (chg_wide _) (by simp only [chgs_len, List.length_cons, List.length_nil]; unfold maxLen; omega) (by simp only [chgs_len, List.length_cons, List.length_nil]; omega) (size_Dalloc hBi.size) ?_); intro v7 w7 hown7 hg7 _; have hb7 := Own.grown ((HOq.out _).alloc _) ((Below.draws hBi _).alloc hBi.size _) hg7 (size_Dalloc hBi.size); obtain ⟨g, cap7, rfl, hcap7⟩ := hown7.some_form (by simp); simp only [List.length_append, chgs_len, List.length_cons, List.length_nil, Nat.zero_add] at hown7 hcap7 ⊢; have HO7 := Lib.hid hown7; clear hown7 hg7))
              have hq9 : j < cap7 := by omega
              have hqa : ¬ cap7 = j := by omega
              have hqb : j ≤ o.length + 1 := by omega
              have hqc : j + 1 ≤ o.length + 1 := by omega
              have hqd : j + 1 ≤ cap7 := by omega
              have hqe : j ≤ cap7 := by omega
              have hqf : (j : Int) ≤ (o.length : Int) + 1 := by omega
              have i3 : (j : Int) < (cap7 : Int) := by omega

              by_cases hjc : cap7 = j + 1
              · subst hjc
                have e1 : IntKind.i64.wrap ((j : Int) + 1) = (j : Int) + 1 := IntWalk.i64_in _ (by omega)
                have e2 : ((j : Int) + 1).toNat = j + 1 := by omega
                have e3 : (0 : Int) ≤ (j : Int) + 1 := by omega
                go_wp2_with fail
                refine region_tail 7 (by kernel_rfl) (by kernel_rfl) ?_
                simp only [List.take_succ_cons, List.take_zero, List.drop_succ_cons, List.drop_zero]
                repeat still_step
                refine wpStill_nil ?_
                clear e1 e2 e3
                have ho7 := HO7.out.drew
                have hb7' := hb7.drew
                generalize w7.drew = w8 at ho7 hb7' ⊢
                have hbs8 : w.heap.size ≤ w8.heap.size := hb7'.size
                have HO8 := Lib.hid ho7
                clear ho7 hb7 HO7
                refine wpList_copy_ins rfl (.tmp 69) (.tmp 72) rfl rowChg HO8.out j (by omega) _ _ _ _ _ (by omega) (.inl (by omega)) (by omega) rfl rfl ?_; (intro w9 hown9 hg9; have hb9 := HO8.out.grown hb7' hg9 hbs8; have HO9 := Lib.hid hown9; obtain ⟨y0, y1, y2, y3, ⟨z0, z1, z2, z3⟩, u0, u1, u2, u3⟩ := hown9.four (j := j) (by rw [ins_len o j hj]; omega); have hl9 := (hown9.lt rfl).2; clear hown9 hg9; obtain ⟨d0, d1, d2, d3⟩ := (HC.out.below hb9 HC.out.1).chg hlt; rw [HX.out, hd] at d3; rw [HX.out] at d0 d1 d2)
                go_wp2
                go_roundw
                case rel =>
                  have hst := HO9.out.store (by omega) j (by rw [ins_len o j hj]; omega) x.vals rfl (by simp [Chg.vals, Value.oneCell'])
                  rw [ins_chgs o x j hj] at hst
                  refine ⟨k + 1, _, by omega, by go_num, ?_, HR, ?_, ?_⟩
                  · simp; omega
                  · have := hst.1
                    rw [Chg.vals, hd] at this
                    exact this
                  · have := HO9.out.grown hb9 hst.2 hb9.size
                    rw [Chg.vals, hd] at this
                    exact this
                case measure => simp [intOf]; omega

              · have i4 : ((j : Int) + 1) < (cap7 : Int) := by omega
                have e1 : IntKind.i64.wrap ((j : Int) + 1) = (j : Int) + 1 := IntWalk.i64_in _ (by omega)
                have e2 : ((j : Int) + 1).toNat = j + 1 := by omega
                have e3 : (0 : Int) ≤ (j : Int) + 1 := by omega
                go_wp2_with fail
                refine region_tail 7 (by kernel_rfl) (by kernel_rfl) ?_
                simp only [List.take_succ_cons, List.take_zero, List.drop_succ_cons, List.drop_zero]
                repeat still_step
                refine wpStill_nil ?_
                clear e1 e2 e3
                have ho7 := HO7.out.drew
                have hb7' := hb7.drew
                generalize w7.drew = w8 at ho7 hb7' ⊢
                have hbs8 : w.heap.size ≤ w8.heap.size := hb7'.size
                have HO8 := Lib.hid ho7
                clear ho7 hb7 HO7
                refine wpList_copy_ins rfl (.tmp 69) (.tmp 72) rfl rowChg HO8.out j (by omega) _ _ _ _ _ (by omega) (.inr rfl) (by omega) rfl rfl ?_; (intro w9 hown9 hg9; have hb9 := HO8.out.grown hb7' hg9 hbs8; have HO9 := Lib.hid hown9; obtain ⟨y0, y1, y2, y3, ⟨z0, z1, z2, z3⟩, u0, u1, u2, u3⟩ := hown9.four (j := j) (by rw [ins_len o j hj]; omega); have hl9 := (hown9.lt rfl).2; clear hown9 hg9; obtain ⟨d0, d1, d2, d3⟩ := (HC.out.below hb9 HC.out.1).chg hlt; rw [HX.out, hd] at d3; rw [HX.out] at d0 d1 d2)
                go_wp2
                go_roundw
                case rel =>
                  have hst := HO9.out.store (by omega) j (by rw [ins_len o j hj]; omega) x.vals rfl (by simp [Chg.vals, Value.oneCell'])
                  rw [ins_chgs o x j hj] at hst
                  refine ⟨k + 1, _, by omega, by go_num, ?_, HR, ?_, ?_⟩
                  · simp; omega
                  · have := hst.1
                    rw [Chg.vals, hd] at this
                    exact this
                  · have := HO9.out.grown hb9 hst.2 hb9.size
                    rw [Chg.vals, hd] at this
                    exact this
                case measure => simp [intOf]; omega
      · have HR := Lib.hid (HSK.out (by rw [HPB.out, hd]; simp))
        rw [hd] at d3
        go_wp2
        go_roundw
        case rel => exact ⟨k + 1, o, by omega, by go_num, by omega, HR, HO, hb⟩
        case measure => simp [intOf]; omega
    · have HE : Hid (o = inC l kn) := inTo_end HI.out (by omega)
      go_wp2
      go_ret
      exact ⟨_, rfl, by rw [← HE.out]; exact HO.out, hb⟩
end Go.Proofs.YtaafihdegnaokaaGreatDoor
