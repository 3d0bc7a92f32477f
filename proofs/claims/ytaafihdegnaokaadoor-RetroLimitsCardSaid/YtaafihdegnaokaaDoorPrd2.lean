/- Contracts of package period: weeks, of. -/
import Derived.Test.YtaafihdegnaokaaDoorPrd
import Derived.Test.YtaafihdegnaokaaDoorPrdS
namespace Go.Proofs.YtaafihdegnaokaaDoor
open Go.RowKit

theorem LenT.alloc {w : World} (h : LenT w) (o : Obj) : LenT (w.alloc o) := h.below ((Below.refl _ _).alloc (Nat.le_refl _) _)
set_option maxHeartbeats 1000000 in
theorem weeks_any (k a : Int) (w : World) (hc : CalOk k a) (hk : k = 2 ∨ k = 3) :
    Calls Tryd.prog 36 #[.agg #[.int .i64 k, .int .i64 a]] w fun e w' => e = .returned (.tuple #[.int .i64 (perL k), .int .i64 (perS k a)]) ∧ Below w.heap.size w w' := by
  have a0 := hc.a0
  have a1 := hc.a1
  rcases hk with rfl | rfl
  · simp at a1
    have s1 : IntKind.i64.wrap (14 - a) = 14 - a := IntWalk.i64_in _ (by omega)
    go_enter Tryd.func36, Tryd.ntmps36
    go_wp2
    go_region
    go_wp2
    exact bodyPost_ret (v := .tuple #[.int .i64 14, .int .i64 ((14 - a) % 14)]) (by simp [results, Tryd.results36, go_sem]) rfl ⟨rfl, by repeat (first | exact Below.refl _ _ | refine Below.draws ?_ _ | refine Below.alloc ?_ (Nat.le_refl _) _ | refine Below.setCell ?_ (by simp) _)⟩
  · simp at a1
    have s1 : IntKind.i64.wrap (7 - a) = 7 - a := IntWalk.i64_in _ (by omega)
    go_enter Tryd.func36, Tryd.ntmps36
    go_wp2
    go_region
    go_wp2
    exact bodyPost_ret (v := .tuple #[.int .i64 7, .int .i64 ((7 - a) % 7)]) (by simp [results, Tryd.results36, go_sem]) rfl ⟨rfl, by repeat (first | exact Below.refl _ _ | refine Below.draws ?_ _ | refine Below.alloc ?_ (Nat.le_refl _) _ | refine Below.setCell ?_ (by simp) _)⟩
set_option maxHeartbeats 1000000 in
theorem of_any (k a d : Int) (n : Nat) (w : World) (hT : LenT w) (hc : CalOk k a) (h0 : 0 ≤ d) (h1 : d ≤ 84005) (hp : IsPer k a d n) :
    Calls Tryd.prog 23 #[.agg #[.int .i64 k, .int .i64 a], .int .i64 d] w fun e w' => e = .returned (.int .i64 n) ∧ Below w.heap.size w w' := by
  have k0 := hc.k0
  have k1 := hc.k1
  by_cases q0 : k = 0
  · subst q0
    obtain ⟨p0, p1⟩ := per_mon hp
    have HM := Lib.hid (fun w h => Month_any d n w h (fm_lt p0 h1) p0 p1)
    clear p0 p1 hp hc
    go_enter Tryd.func23, Tryd.ntmps23
    go_wp2_with (go_at_call 37; refine (HM.out _ (by repeat (first | assumption | apply LenT.drew | apply LenT.alloc))).mono ?_; rintro e w1 ⟨rfl, q, rfl⟩)
    go_ret
    exact ⟨rfl, by repeat (first | exact Below.refl _ _ | refine Below.draws ?_ _ | refine Below.alloc ?_ (Nat.le_refl _) _ | refine Below.setCell ?_ (by simp) _)⟩
  by_cases q1 : k = 1
  · subst q1
    obtain ⟨p0, p1, p2⟩ := per_half hp
    have hm := fm_lt p0 h1
    have HM := Lib.hid (fun w h => Month_any d (n / 2) w h hm p0 p1)
    obtain ⟨y, m, t, hd⟩ := date_ex h0 h1
    obtain ⟨n', hn', hmm, g0, g1, ht⟩ := hd.mon
    obtain rfl := mon_unique ⟨g0, g1⟩ ⟨p0, p1⟩
    rw [← ht] at p2
    have HD := Lib.hid (fun w h => Date_any d y t m w h hd)
    obtain ⟨h, hh⟩ : ∃ h, n / 2 = h := ⟨_, rfl⟩
    rw [hh] at hm HM hn'
    have s1 : IntKind.i64.wrap (2 * (h : Int)) = 2 * (h : Int) := IntWalk.i64_in _ (by omega)
    have s2 : IntKind.i64.wrap (2 * (h : Int) + 1) = 2 * (h : Int) + 1 := IntWalk.i64_in _ (by omega)
    clear g0 g1 p0 p1 ht hmm hd hp hc
    rcases p2 with ⟨e, p2⟩ | ⟨e, p2⟩
    · have g2 : decide (15 < t) = false := decide_eq_false (by omega)
      have L : Hid ((n : Int) = 2 * (h : Int)) := by unfold Hid; omega
      clear p2 e hh
      go_enter Tryd.func23, Tryd.ntmps23
      go_wp2_with (first | (go_at_call 37; refine (HM.out _ (by repeat (first | assumption | apply LenT.drew | apply LenT.alloc))).mono ?_; rintro e w1 ⟨rfl, q, rfl⟩) | (go_at_call 32; refine (HD.out _ (by repeat (first | assumption | apply LenT.drew | apply LenT.alloc))).mono ?_; rintro e w1 ⟨rfl, q1, rfl⟩))
      go_ret
      exact ⟨by rw [L.out]; rfl, by repeat (first | exact Below.refl _ _ | refine Below.draws ?_ _ | refine Below.alloc ?_ (Nat.le_refl _) _ | refine Below.setCell ?_ (by simp) _)⟩
    · have g2 : decide (15 < t) = true := decide_eq_true (by omega)
      have L : Hid ((n : Int) = 2 * (h : Int) + 1) := by unfold Hid; omega
      clear p2 e hh
      go_enter Tryd.func23, Tryd.ntmps23
      go_wp2_with (first | (go_at_call 37; refine (HM.out _ (by repeat (first | assumption | apply LenT.drew | apply LenT.alloc))).mono ?_; rintro e w1 ⟨rfl, q, rfl⟩) | (go_at_call 32; refine (HD.out _ (by repeat (first | assumption | apply LenT.drew | apply LenT.alloc))).mono ?_; rintro e w1 ⟨rfl, q1, rfl⟩))
      go_ret
      exact ⟨by rw [L.out]; rfl, by repeat (first | exact Below.refl _ _ | refine Below.draws ?_ _ | refine Below.alloc ?_ (Nat.le_refl _) _ | refine Below.setCell ?_ (by simp) _)⟩
  have HW := Lib.hid (fun w => weeks_any k a w hc (by omega))
  have L := Lib.hid (per_days q0 q1 hp)
  have b1 := perS_le hc
  have b2 := perL_pos k
  have m0 : (k == 0) = false := by simpa using q0
  have m1 : (k == 1) = false := by simpa using q1
  have s1 : IntKind.i64.wrap (d + perS k a) = d + perS k a := IntWalk.i64_in _ (by omega)
  have t1 : (d + perS k a).tdiv (perL k) = (n : Int) := by rw [Int.tdiv_eq_ediv_of_nonneg (by omega), L.out]
  have z1 : (perL k == 0) = false := by simp; omega
  have hN : (n : Int) ≤ 100000 := by
    have := L.out
    rcases perL_cases k with e | e <;> rw [e] at this b1 <;> omega
  have s2 : IntKind.i64.wrap ((n : Int)) = (n : Int) := IntWalk.i64_in _ (by omega)
  clear hp hc q0 q1
  go_enter Tryd.func23, Tryd.ntmps23
  go_wp2_with (go_at_call 36; refine (HW.out _).mono ?_; rintro e w1 ⟨rfl, hb1⟩)
  go_ret
  exact ⟨rfl, (((Below.refl _ _).alloc (Nat.le_refl _) _).trans (hb1.mono (by simp)))⟩
end Go.Proofs.YtaafihdegnaokaaDoor
