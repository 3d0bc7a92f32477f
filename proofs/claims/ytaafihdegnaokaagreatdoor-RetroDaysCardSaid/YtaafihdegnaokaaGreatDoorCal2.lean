/- Contracts of package calendar: Date, Day, Month, First, Length. -/
import Derived.Test.YtaafihdegnaokaaGreatDoorCal
namespace Go.Proofs.YtaafihdegnaokaaGreatDoor
open Go.RowKit

theorem rest_stop {d y : Int} {k : Nat} {t : Int} (h : IsDate d y k t) {j : Nat} (hj : j ≤ k) :
    mlen y ((j : Int) + 1) ≤ d - bg y - cumN y j ↔ j < k := by
  have h0 := h.t0
  have h1 := h.t1
  have h2 := h.eq
  constructor
  · intro h3
    rcases Nat.lt_or_ge j k with hlt | hge
    · exact hlt
    · have : j = k := by omega
      subst this
      omega
  · intro hlt
    have h3 := cumN_mono y (j + 1) (k - (j + 1))
    rw [show j + 1 + (k - (j + 1)) = k by omega, cumN] at h3
    omega
theorem IsDate.bounds {d y : Int} {k : Nat} {t : Int} (h : IsDate d y k t) : t ≤ 31 ∧ (0 ≤ d ∧ d ≤ 84005) ∧ (0 ≤ bg y ∧ bg y ≤ d) := by
  have h1 := h.t1
  have h2 := mlen_pos y (k + 1)
  have h3 := h.lt
  have h4 := bg_start h.y0
  have h5 := h.y0
  exact ⟨by omega, h.days, by omega, h3.1⟩
set_option maxHeartbeats 1000000 in
theorem Date_any (d y t : Int) (k : Nat) (w : World) (hT : LenT w) (hd : IsDate d y k t) :
    Calls Tryz.prog 27 #[.int .i64 d] w (Qt w (.tuple #[.int .i64 y, .int .i64 ((k : Int) + 1), .int .i64 t, .bool true])) := by
  obtain ⟨hb1, ⟨hb2, hb3⟩, hb4, hb5⟩ := hd.bounds
  have y0 := hd.y0
  have y1 := hd.y1
  have k1 := hd.k1
  have t0 := hd.t0
  have heq := Lib.hid hd.eq
  have HS := Lib.hid (fun j => @rest_stop d y k t hd j)
  have HY := Lib.hid (fun w => yearOf_any d y w y0 y1 hd.lt)
  have HG := Lib.hid (fun w => begin_any y w y0 (by omega))
  have HT := Lib.hid hT
  have g0 : decide (0 ≤ d) = true := decide_eq_true hb2
  have g1 : decide (d ≤ 84005) = true := decide_eq_true hb3
  have hV : Hid (∀ w, Calls Tryz.prog 47 #[.int .i64 d] w (Qt w (.bool true))) := fun w => by
    go_enter Tryz.func47, Tryz.ntmps47
    go_wp2
    go_ret
    exact ⟨rfl, 0, rfl⟩
  have s0 : IntKind.i64.wrap (d - bg y) = d - bg y := IntWalk.i64_in _ (by omega)
  clear hd hT g0 g1
  go_enter Tryz.func27, Tryz.ntmps27
  go_wp2_with (go_at_call 47; refine (hV.out _).mono ?_; rintro e w1 ⟨rfl, q, rfl⟩)
  go_wp2_with (go_at_call 48; refine (HY.out _).mono ?_; rintro e w1 ⟨rfl, q1, rfl⟩; rw [World.drewN_drewN])
  go_wp2_with (go_at_call 49; refine (HG.out _).mono ?_; rintro e w1 ⟨rfl, q2, rfl⟩; rw [World.drewN_drewN])
  go_wp2_with fail
  go_loopw [7, 8] (fun r m wr => ∃ j q : Nat, j ≤ k ∧ r = .int .i64 (d - bg y - cumN y j) ∧ m = .int .i64 ((j : Int) + 1) ∧ wr = w.drewN q) (fun _ m _ => (k + 1 - (intOf m).toNat))
  case atStart => exact ⟨0, _, by omega, by simp [cumN], rfl, rfl⟩
  case round =>
    obtain ⟨j, q, hj, rfl, rfl, rfl⟩ := hrel
    have d1 := cumN_pos y j
    have d2 := mlen_pos y ((j : Int) + 1)
    have HN := Lib.hid (fun w' h => length_any y ((j : Int) + 1) j rfl w' h (by omega) (by omega) (by omega))
    by_cases hlt : j < k
    · have HR := Lib.hid ((HS.out j hj).2 hlt)
      have g1 : decide (mlen y ((j : Int) + 1) ≤ d - bg y - cumN y j) = true := decide_eq_true HR.out
      have hr := HR.out
      have s1 : IntKind.i64.wrap (d - bg y - cumN y j - mlen y ((j : Int) + 1)) = d - bg y - cumN y (j + 1) := by rw [cumN, Int.sub_sub]; exact IntWalk.i64_in _ (by omega)
      have s2 : IntKind.i64.wrap ((j : Int) + 1 + 1) = ((j + 1 : Nat) : Int) + 1 := IntWalk.i64_in _ (by omega)
      go_wp2_with fail
      refine (HN.out _ (HT.out.drew q)).mono ?_
      rintro e w2 ⟨rfl, r, rfl⟩
      rw [World.drewN_drewN]
      go_wp2_with fail
      refine (HN.out _ (HT.out.drew _)).mono ?_
      rintro e w2 ⟨rfl, r2, rfl⟩
      rw [World.drewN_drewN]
      go_wp2_with fail
      go_roundw
      case rel => exact ⟨j + 1, _, by omega, rfl, rfl, rfl⟩
      case measure => simp [intOf]; omega
    · have hjk : j = k := by omega
      subst hjk
      have g1 : decide (mlen y ((j : Int) + 1) ≤ d - bg y - cumN y j) = false := decide_eq_false (fun h => hlt ((HS.out j hj).1 h))
      have s1 : IntKind.i64.wrap (d - bg y - cumN y j + 1) = t := by rw [show d - bg y - cumN y j + 1 = t by have := heq.out; omega]; exact IntWalk.i64_in _ (by omega)
      go_wp2_with fail
      refine (HN.out _ (HT.out.drew q)).mono ?_
      rintro e w2 ⟨rfl, r, rfl⟩
      rw [World.drewN_drewN]
      go_wp2_with fail
      exact bodyPost_ret (v := .tuple #[.int .i64 y, .int .i64 ((j : Int) + 1), .int .i64 t, .bool true]) (by simp [results, Tryz.results27, go_sem]) rfl ⟨rfl, _, rfl⟩
end Go.Proofs.YtaafihdegnaokaaGreatDoor
