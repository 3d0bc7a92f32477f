/- The law RetroAffected: it returns true. -/
import Derived.Test.YtaafihdegnaokaaGreatDoorBaA
namespace Go.Proofs.YtaafihdegnaokaaGreatDoor
open Go.RowKit

set_option maxRecDepth 100000 in
set_option maxHeartbeats 4000000 in
theorem RetroAffected_any (v : Value) (zs : List Int) (vr : Value) (R : List (Int × Int)) (n1 n2 : Int) (w : World) (hT : LenT w) (hv : Sl w 1 v (ints zs)) (hr : Sl w 2 vr (prs R)) :
    Calls Tryz.prog 4 #[v, vr, .int .i64 n1, .int .i64 n2] w fun e w' => e = .returned (.bool true) ∧ Below w.heap.size w w' := by
  have HT := Lib.hid hT
  have HR := Lib.hid hr
  have HN := Lib.hid (new_any v zs w hv)
  have HA := Lib.hid (awake_any w hT)
  obtain ⟨A0, c0, rfl, -⟩ := hv
  obtain ⟨A1, c1, rfl, h11, h12, -⟩ := hr
  rw [prs_len] at HR h11 ⊢
  unfold maxLen at h12
  clear hT
  by_cases hl : 60 < R.length
  · have g1 : decide ((60 : Int) < (R.length : Int)) = true := decide_eq_true (by omega)
    clear hl HN HR
    go_enter Tryz.func4, Tryz.ntmps4
    go_wp2_with (go_at_call 14; refine HA.out.mono ?_; rintro e w1 ⟨rfl, hb1⟩)
    go_ret
    exact ⟨rfl, hb1⟩
  have g1 : decide ((60 : Int) < (R.length : Int)) = false := decide_eq_false (by omega)
  clear hl HA h11 h12
  go_enter Tryz.func4, Tryz.ntmps4
  go_wp2_with fail
  refine HN.out.mono ?_
  rintro e w1 ⟨rfl, hd1, hb1⟩
  clear HN
  go_wp2_with fail
  refine (calendar_any w.heap.size 0 w1 hd1 (by omega)).mono ?_
  rintro e w2 ⟨k, a, d2, rfl, hok, hd2, hdd, hg2⟩
  have HL3 := Lib.hid (LwS.start k a (below_deck hb1 hg2 (Nat.le_refl _)) hd2 (Nat.le_refl _))
  clear hd1 hg2 hb1 hd2 hok
  go_wp2_with fail
  obtain ⟨w3, hw3⟩ : ∃ w3, w2.alloc (.cells #[.int .i64 k, .int .i64 a] 24) = w3 := ⟨_, rfl⟩
  obtain ⟨m, hm⟩ : ∃ m, w2.heap.size = m := ⟨_, rfl⟩
  rw [hw3, hm] at HL3
  rw [hw3, hm]
  clear hw3 hm
  refine (Next_any w.heap.size d2 4 w3 HL3.out.deck (by omega) (by omega) (by omega)).mono ?_
  rintro e w4 ⟨r, ⟨hr1, hr2⟩, rfl, hd4, hg4⟩
  obtain ⟨K, rfl⟩ := Int.eq_ofNat_of_zero_le hr1
  have HL4 := Lib.hid (HL3.out.draw hd4 hg4)
  clear hd4 hg4 HL3
  go_wp2_with fail
  go_loopw [11, 12] (fun x t wr => ∃ (q : Nat) (acc : List (Int × Int)) (d : Nat), q ≤ K ∧ acc.length + q ≤ K ∧ t = .int .i64 q ∧ d ≤ d2 + 1 + 2 * (K - q) ∧ Hid (LwS w w.heap.size m k a d wr ∧ Own wr (m + 1) 37 2 x (prs acc))) (fun _ t _ => (intOf t).toNat)
  case atStart => exact ⟨K, [], d2 + 1, Nat.le_refl _, by simp, rfl, by omega, HL4.out, Own.nil _ _ _ _⟩
  case round =>
    clear HL4
    obtain ⟨q, acc, d, hq, hql, rfl, hd, HI⟩ := hrel
    obtain ⟨wo, rfl⟩ : ∃ wo : World, wo = wr := ⟨_, rfl⟩
    by_cases hpos : 0 < q
    · have dp : decide ((0 : Int) < (q : Int)) = true := decide_eq_true (by omega)
      have hsz := HI.out.1.row.lt
      have hap := HI.out.1.ap
      go_wp2_with fail
      refine (Next_any w.heap.size d 700 wo HI.out.1.deck (by omega) (by omega) (by omega)).mono ?_
      rintro e w5 ⟨x, ⟨x0, x1⟩, rfl, hd5, hg5⟩
      have hL5 := HI.out.1.draw hd5 hg5
      have hO5 := HI.out.2.keepG hg5 (HI.out.2.off_low (by omega))
      clear hd5 hg5 HI
      go_wp2_with fail
      refine (Next_any w.heap.size (d + 1) 40 w5 hL5.deck (by omega) (by omega) (by omega)).mono ?_
      rintro e w6 ⟨y, ⟨y0, y1⟩, rfl, hd6, hg6⟩
      have HL6 := Lib.hid (hL5.draw hd6 hg6)
      have HO6 := Lib.hid (hO5.keepG hg6 (hO5.off_low (by omega)))
      clear hd6 hg6 hL5 hO5
      have s1 : IntKind.i64.wrap (x + y) = x + y := IntWalk.i64_in _ (by omega)
      have hs6 := HL6.out.row.lt
      obtain ⟨Ar, cr, rfl⟩ := HO6.out.form
      rw [prs_len] at HO6
      simp only [prs_len]
      go_wp2_with (at_builtin; (refine wpList_append_sl rfl (.tmp 46) (.tmp 53) rfl rowRng (m + 1) _ _ _ [[.int .i64 x, .int .i64 (x + y)]] rfl (HO6.out.alloc _) rfl (Sl.one (by simp) rfl) (pr_wide x (x + y)) (by rw [prs_len]; unfold maxLen; simp <;> omega) (by rw [prs_len]; simp <;> omega) (by simp; omega) ?_); intro v7 w7 hown7 hg7 _; have H7 : Hid (LwS w w.heap.size m k a (d + 1 + 1) w7 ∧ Own w7 (m + 1) 37 2 v7 (prs (acc ++ [(x, x + y)]))) := ⟨(HL6.out.alloc _).grow hg7 (fun g hg => by have := (HO6.out.1.lt g hg).1; omega), by rw [prs_append]; exact hown7⟩; clear hown7 hg7)
      go_roundw
      case rel => exact ⟨q - 1, acc ++ [(x, x + y)], d + 1 + 1, by omega, by simp; omega, by go_num, by omega, H7.out⟩
      case measure => simp [intOf]; omega
    · have dp : decide ((0 : Int) < (q : Int)) = false := decide_eq_false (by omega)
      have HO := Lib.hid HI.out.2
      obtain ⟨Ar, cr, rfl⟩ := HO.out.form
      rw [prs_len] at HO
      simp only [prs_len]
      have HL := Lib.hid HI.out.1
      clear HI
      go_wp2_with fail
      refine (Next_any w.heap.size d 10 wo HL.out.deck (by omega) (by omega) (by omega)).mono ?_
      rintro e w5 ⟨x, -, rfl, hd5, hg5⟩
      have hap := HL.out.ap
      have hL5 := HL.out.draw hd5 hg5
      have hO5 := HO.out.keepG hg5 (HO.out.off_low (by omega))
      clear hd5 hg5 HL HO
      go_wp2_with fail
      refine (Next_any w.heap.size (d + 1) 24 w5 hL5.deck (by omega) (by omega) (by omega)).mono ?_
      rintro e w6 ⟨y, -, rfl, hd6, hg6⟩
      have HL6 := Lib.hid (hL5.draw hd6 hg6)
      have HS6 := Lib.hid ((hO5.keepG hg6 (hO5.off_low (by omega))).sl (by omega))
      clear hd6 hg6 hL5 hO5
      obtain ⟨r0, r1, rl⟩ := HL6.out.facts
      obtain ⟨X, hX⟩ : ∃ X : Int, (((affO k a acc x y).getD 0 : Nat) : Int) = X := ⟨_, rfl⟩
      obtain ⟨Y, hY⟩ : ∃ X, (affO k a acc x y).isSome = X := ⟨_, rfl⟩
      obtain ⟨Z, hZ⟩ : ∃ X, affE k a acc x y = X := ⟨_, rfl⟩
      have HP1 := Lib.hid (fun W h hs => Affected_any k a (.slice Ar acc.length cr) acc x y W h hs)
      have HP2 := Lib.hid (fun W hs => AffectedR_any k a (.slice Ar acc.length cr) acc x y W hs)
      unfold AffP at HP1 HP2
      rw [hX, hY, hZ] at HP1 HP2
      clear hX hY hZ
      go_wp2_with fail
      refine (HP1.out _ (HT.out.below HL6.out.bl) HS6.out).mono ?_
      rintro e w7 ⟨rfl, hb7⟩
      have HL7 := Lib.hid (HL6.out.below hb7)
      have HS7 := Lib.hid (HS6.out.below hb7)
      clear hb7 HL6 HS6 r0 r1 rl HP1
      obtain ⟨r0, r1, rl⟩ := HL7.out.facts
      go_wp2_with fail
      refine (HP2.out _ HS7.out).mono ?_
      rintro e w8 ⟨rfl, hb8⟩
      have HL8 := Lib.hid (HL7.out.below hb8)
      clear hb8 HL7 HS7 r0 r1 rl HP2
      obtain ⟨r0, r1, rl⟩ := HL8.out.facts
      have hm1 : 0 ≤ n1 % 60 := by omega
      have hm2 : n1 % 60 ≤ 59 := by omega
      have hm3 : 0 ≤ n2 % 60 := by omega
      have hm4 : n2 % 60 ≤ 59 := by omega
      have s1 : IntKind.i64.wrap (n1 % 60 - 2) = n1 % 60 - 2 := IntWalk.i64_in _ (by omega)
      have s2 : IntKind.i64.wrap (n2 % 60 - 2) = n2 % 60 - 2 := IntWalk.i64_in _ (by omega)
      go_wp2_with fail
      refine (Mod_any _ _ _ (by omega) (by omega)).mono ?_
      rintro e wx ⟨rfl, rfl⟩
      go_wp2_with fail
      refine (Mod_any _ _ _ (by omega) (by omega)).mono ?_
      rintro e wx ⟨rfl, rfl⟩
      obtain ⟨U, hU⟩ : ∃ U, n1 % 60 - 2 = U := ⟨_, rfl⟩
      obtain ⟨V, hV⟩ : ∃ U, n2 % 60 - 2 = U := ⟨_, rfl⟩
      rw [hU] at s1
      rw [hV] at s2
      clear hm1 hm2 hm3 hm4
      obtain ⟨X2, hX⟩ : ∃ X : Int, (((affO k a R U V).getD 0 : Nat) : Int) = X := ⟨_, rfl⟩
      obtain ⟨Y2, hY⟩ : ∃ X, (affO k a R U V).isSome = X := ⟨_, rfl⟩
      obtain ⟨Z2, hZ⟩ : ∃ X, affE k a R U V = X := ⟨_, rfl⟩
      have HP1 := Lib.hid (fun W h hs => Affected_any k a (.slice A1 R.length c1) R U V W h hs)
      have HP2 := Lib.hid (fun W hs => AffectedR_any k a (.slice A1 R.length c1) R U V W hs)
      unfold AffP at HP1 HP2
      rw [hX, hY, hZ] at HP1 HP2
      clear hX hY hZ
      go_wp2_with fail
      refine (HP1.out _ (HT.out.below HL8.out.bl) (HR.out.below HL8.out.bl)).mono ?_
      rintro e w9 ⟨rfl, hb9⟩
      have HL9 := Lib.hid (HL8.out.below hb9)
      clear hb9 HL8 r0 r1 rl HP1
      obtain ⟨r0, r1, rl⟩ := HL9.out.facts
      go_wp2_with fail
      refine (HP2.out _ (HR.out.below HL9.out.bl)).mono ?_
      rintro e w10 ⟨rfl, hb10⟩
      have HL10 := Lib.hid (HL9.out.below hb10).bl
      clear hb10 HL9 r0 r1 rl HP2
      go_wp2_with fail
      refine (awake_any _ (HT.out.below HL10.out)).mono ?_
      rintro e w11 ⟨rfl, hb11⟩
      have HB11 := Lib.hid (below_after HL10.out hb11 HL10.out.size)
      clear hb11
      go_wp2
      go_ret
      exact ⟨rfl, HB11.out⟩
end Go.Proofs.YtaafihdegnaokaaGreatDoor
