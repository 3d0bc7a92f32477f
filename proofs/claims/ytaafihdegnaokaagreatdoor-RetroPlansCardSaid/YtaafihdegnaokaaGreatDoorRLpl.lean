/- The law RetroPlans: it returns true. -/
import Derived.Test.YtaafihdegnaokaaGreatDoorBaA
import Derived.Test.YtaafihdegnaokaaGreatDoorBaB
namespace Go.Proofs.YtaafihdegnaokaaGreatDoor
open Go.RowKit

set_option maxRecDepth 100000 in
set_option maxHeartbeats 8000000 in
theorem RetroPlans_any (v : Value) (zs : List Int) (vx : Value) (xs : List (Value × List Chg)) (n3 n4 : Int) (w : World) (hT : LenT w) (hv : Sl w 1 v (ints zs)) (hx : Tls w vx xs) :
    Calls Tryz.prog 7 #[v, vx, .int .i64 n3, .int .i64 n4] w fun e w' => e = .returned (.bool true) ∧ Below w.heap.size w w' := by
  have HT := Lib.hid hT
  have HX := Lib.hid hx
  have HV := Lib.hid hv
  have HF := Lib.hid (few_any vx xs w hx)
  obtain ⟨A0, c0, rfl, -⟩ := hv
  clear hT hx
  go_enter Tryz.func7, Tryz.ntmps7
  go_wp2_with fail
  refine HF.out.mono ?_
  rintro e w1 ⟨⟨b, rfl⟩, hb1⟩
  have HB1 := Lib.hid hb1
  clear HF hb1
  cases b with
  | false =>
    go_wp2_with fail
    refine (awake_any _ (HT.out.below HB1.out)).mono ?_
    rintro e w2 ⟨rfl, hb2⟩
    have HB2 := Lib.hid (below_after HB1.out hb2 HB1.out.size)
    clear hb2
    go_wp2
    go_ret
    exact ⟨rfl, HB2.out⟩
  | true =>
    go_wp2_with fail
    refine (new_any _ zs _ (HV.out.below HB1.out)).mono ?_
    rintro e w2 ⟨rfl, hd2, hb2⟩
    obtain ⟨D, hD⟩ : ∃ D, w1.heap.size = D := ⟨_, rfl⟩
    have hsz := HB1.out.size
    have HB2 := Lib.hid (below_after HB1.out hb2 HB1.out.size)
    rw [hD] at hd2
    have hDw : w.heap.size ≤ D := by omega
    rw [hD]
    clear hb2 hD HB1 hsz HV
    go_wp2_with fail
    refine (calendar_any D 0 w2 hd2 (by omega)).mono ?_
    rintro e w2b ⟨k, a, d2, rfl, hok, hd2b, hdd, hg2⟩
    have HL3 := Lib.hid (LwS.start k a (below_deck HB2.out hg2 hDw) hd2b hDw)
    clear hd2 hg2 HB2 hd2b hok
    go_wp2_with fail
    obtain ⟨w3, hw3⟩ : ∃ w3, w2b.alloc (.cells #[.int .i64 k, .int .i64 a] 24) = w3 := ⟨_, rfl⟩
    obtain ⟨m, hm⟩ : ∃ m, w2b.heap.size = m := ⟨_, rfl⟩
    rw [hw3, hm] at HL3
    rw [hw3, hm]
    clear hw3 hm
    refine (timelines_any D d2 w3 HL3.out.deck (by omega)).mono ?_
    rintro e w4 ⟨vt, ys, d4, rfl, hgd, hxl, hown4, hd4, hdd4, hg4⟩
    have HL4 := Lib.hid (HL3.out.draw hd4 hg4)
    have HV4 := Lib.hid hown4
    have hlt2 : D < w3.heap.size := by have := HL3.out.row.lt; have := HL3.out.ap; omega
    obtain ⟨At, ct, rfl⟩ := hown4.own.form
    rw [tlv_len] at HV4
    simp only [tlv_len]
    clear hd4 hg4 HL3 hown4 hgd
    go_wp2_with fail
    refine (Next_any D (d4) 6 w4 HL4.out.deck (by omega) (by omega) (by omega)).mono ?_
    rintro e w5 ⟨x, ⟨x0, x1⟩, rfl, hd, hg⟩
    have HL5 := Lib.hid (HL4.out.draw hd hg)
    have HV5 := Lib.hid (HV4.out.keepD hg hlt2)
    clear hd hg HL4 HV4
    go_wp2_with fail
    refine (Next_any D (d4 + 1) 6 w5 HL5.out.deck (by omega) (by omega) (by omega)).mono ?_
    rintro e w6 ⟨y, ⟨y0, y1⟩, rfl, hd, hg⟩
    have HL6 := Lib.hid (HL5.out.draw hd hg)
    have HV6 := Lib.hid (HV5.out.keepD hg hlt2)
    clear hd hg HL5 HV5
    go_wp2_with fail
    refine (Next_any D (d4 + 1 + 1) 8 w6 HL6.out.deck (by omega) (by omega) (by omega)).mono ?_
    rintro e w7 ⟨u, ⟨u0, u1⟩, rfl, hd, hg⟩
    have HL7 := Lib.hid (HL6.out.draw hd hg)
    have HV7 := Lib.hid (HV6.out.keepD hg hlt2)
    clear hd hg HL6 HV6
    go_wp2_with fail
    refine (Next_any D (d4 + 1 + 1 + 1) 14 w7 HL7.out.deck (by omega) (by omega) (by omega)).mono ?_
    rintro e w8 ⟨z, ⟨z0, z1⟩, rfl, hd, hg⟩
    have HL8 := Lib.hid (HL7.out.draw hd hg)
    have HV8 := Lib.hid (HV7.out.keepD hg hlt2)
    clear hd hg HL7 HV7
    have HV9 := Lib.hid HV8.out.at
    have s0 : IntKind.i64.wrap (u + z) = u + z := IntWalk.i64_in _ (by omega)
    have s1 : IntKind.i64.wrap (u + z - 1) = u + z - 1 := IntWalk.i64_in _ (by omega)
    have HCH := Lib.hid (fun W h hl => Plan_any k a (.slice At ys.length ct) ys x y u (u + z - 1) W h hl)
    have HCR := Lib.hid (fun W hl => PlanR_any k a (.slice At ys.length ct) ys x y u (u + z - 1) W hl)
    unfold RetOwn2 at HCH HCR
    obtain ⟨J, hJ⟩ : ∃ J, plO k a (ys.map (·.2)) x y u (u + z - 1) = J := ⟨_, rfl⟩
    obtain ⟨E, hE⟩ : ∃ J, plE k a (ys.map (·.2)) u (u + z - 1) = J := ⟨_, rfl⟩
    rw [hJ, hE] at HCH HCR
    clear hJ hE
    obtain ⟨r0, r1, rl⟩ := HL8.out.facts
    go_wp2_with fail
    refine (HCH.out _ (HT.out.below HL8.out.bl) HV9.out).mono ?_
    rintro e w9 ⟨x1, rfl, hown9, hb9⟩
    have HL9 := Lib.hid (HL8.out.below hb9)
    have HV10 := Lib.hid (HV9.out.below hb9)
    have HS9 := Lib.hid (hown9.sl (by omega))
    obtain ⟨A1, c1, rfl⟩ := hown9.form
    rw [ints_len] at HS9
    simp only [ints_len]
    clear hb9 hown9 HL8 HV8 HV9 HCH r0 r1 rl
    obtain ⟨r0, r1, rl⟩ := HL9.out.facts
    go_wp2_with fail
    refine (HCR.out _ HV10.out).mono ?_
    rintro e w10 ⟨x2, rfl, hown10, hb10⟩
    have HL10 := Lib.hid (HL9.out.below hb10)
    have HS10 := Lib.hid (HS9.out.below hb10)
    have HT10 := Lib.hid (hown10.sl (by omega))
    obtain ⟨A2, c2, rfl⟩ := hown10.form
    rw [ints_len] at HT10
    simp only [ints_len]
    clear hb10 hown10 HL9 HV10 HCR HS9 r0 r1 rl
    obtain ⟨r0, r1, rl⟩ := HL10.out.facts
    have hm1 : 0 ≤ n3 % 30 := by omega
    have hm2 : n3 % 30 ≤ 29 := by omega
    have hm3 : 0 ≤ n4 % 30 := by omega
    have hm4 : n4 % 30 ≤ 29 := by omega
    have s3 : IntKind.i64.wrap (n3 % 30 - 1) = n3 % 30 - 1 := IntWalk.i64_in _ (by omega)
    have s4 : IntKind.i64.wrap (n4 % 30 - 1) = n4 % 30 - 1 := IntWalk.i64_in _ (by omega)
    have HM3 := Lib.hid (fun W => Mod_any n3 30 W (by omega) (by omega))
    have HM4 := Lib.hid (fun W => Mod_any n4 30 W (by omega) (by omega))
    obtain ⟨p, hp⟩ : ∃ p, n3 % 30 = p := ⟨_, rfl⟩
    obtain ⟨q, hq⟩ : ∃ p, n4 % 30 = p := ⟨_, rfl⟩
    rw [hp] at HM3 s3
    rw [hq] at HM4 s4
    clear hm1 hm2 hm3 hm4 hp hq
    obtain ⟨Ax, cx, hvx, -⟩ := HX.out.sl
    rw [List.length_map] at hvx
    subst hvx
    have HCH := Lib.hid (fun W h hl => Plan_any k a (.slice Ax xs.length cx) xs x y (p - 1) (q - 1) W h hl)
    have HCR := Lib.hid (fun W hl => PlanR_any k a (.slice Ax xs.length cx) xs x y (p - 1) (q - 1) W hl)
    unfold RetOwn2 at HCH HCR
    obtain ⟨K, hJ⟩ : ∃ J, plO k a (xs.map (·.2)) x y (p - 1) (q - 1) = J := ⟨_, rfl⟩
    obtain ⟨G, hE⟩ : ∃ J, plE k a (xs.map (·.2)) (p - 1) (q - 1) = J := ⟨_, rfl⟩
    rw [hJ, hE] at HCH HCR
    clear hJ hE
    go_wp2_with fail
    refine region_mix [10, 5] (by kernel_rfl) (by kernel_rfl) (by kernel_rfl) ?_
    simp only [wpMix, List.take_succ_cons, List.take_zero, List.drop_succ_cons, List.drop_zero]
    repeat still_step
    still_call ((HM3.out _).mono fun _ _ h => ⟨h.1, h.2.symm⟩)
    repeat still_step
    still_call ((HM4.out _).mono fun _ _ h => ⟨h.1, h.2.symm⟩)
    repeat still_step
    refine wpStill_nil ?_
    have hdr : Below w10.heap.size w10 w10.drew := (Below.refl _ _).drew
    have HLd := Lib.hid (HL10.out.below hdr)
    replace HS10 := Lib.hid (HS10.out.below hdr)
    replace HT10 := Lib.hid (HT10.out.below hdr)
    clear hdr HL10 r0 r1 rl
    obtain ⟨wd, hwd⟩ : ∃ wd, w10.drew = wd := ⟨_, rfl⟩
    rw [hwd] at HLd HS10 HT10
    rw [hwd]
    clear hwd
    go_wp2_with fail
    refine (HCH.out _ (HT.out.below HLd.out.bl) (HX.out.below HLd.out.bl)).mono ?_
    rintro e w11 ⟨x3, rfl, hownN, hbN⟩
    have HL11 := Lib.hid (HLd.out.below hbN)
    replace HS10 := Lib.hid (HS10.out.below hbN)
    replace HT10 := Lib.hid (HT10.out.below hbN)
    have HUw11 := Lib.hid (hownN.sl (by omega))
    obtain ⟨A3, c3, rfl⟩ := hownN.form
    rw [ints_len] at HUw11
    simp only [ints_len]
    clear hbN hownN HLd HCH
    go_wp2_with fail
    repeat still_step
    refine wpStill_nil ?_
    obtain ⟨r0, r1, rl⟩ := HL11.out.facts
    go_wp2_with fail
    refine region_mix [10, 5] (by kernel_rfl) (by kernel_rfl) (by kernel_rfl) ?_
    simp only [wpMix, List.take_succ_cons, List.take_zero, List.drop_succ_cons, List.drop_zero]
    repeat still_step
    still_call ((HM3.out _).mono fun _ _ h => ⟨h.1, h.2.symm⟩)
    repeat still_step
    still_call ((HM4.out _).mono fun _ _ h => ⟨h.1, h.2.symm⟩)
    repeat still_step
    refine wpStill_nil ?_
    have hdr : Below w11.heap.size w11 w11.drew := (Below.refl _ _).drew
    have HLd := Lib.hid (HL11.out.below hdr)
    replace HS10 := Lib.hid (HS10.out.below hdr)
    replace HT10 := Lib.hid (HT10.out.below hdr)
    replace HUw11 := Lib.hid (HUw11.out.below hdr)
    clear hdr HL11 r0 r1 rl
    obtain ⟨wd, hwd⟩ : ∃ wd, w11.drew = wd := ⟨_, rfl⟩
    rw [hwd] at HLd HS10 HT10 HUw11
    rw [hwd]
    clear hwd
    go_wp2_with fail
    refine (HCR.out _ (HX.out.below HLd.out.bl)).mono ?_
    rintro e w12 ⟨x4, rfl, hownN, hbN⟩
    have HL12 := Lib.hid (HLd.out.below hbN)
    replace HS10 := Lib.hid (HS10.out.below hbN)
    replace HT10 := Lib.hid (HT10.out.below hbN)
    replace HUw11 := Lib.hid (HUw11.out.below hbN)
    have HUw12 := Lib.hid (hownN.sl (by omega))
    obtain ⟨A4, c4, rfl⟩ := hownN.form
    rw [ints_len] at HUw12
    simp only [ints_len]
    clear hbN hownN HLd HCR
    go_wp2_with fail
    repeat still_step
    refine wpStill_nil ?_
    clear HM3 HM4
    go_wp2_with fail
    refine (same_ints_any _ _ J _ HS10.out HT10.out).mono ?_
    rintro e w13 ⟨rfl, hb13⟩
    have HL13 := Lib.hid (HL12.out.below hb13)
    have HU13 := Lib.hid (HUw11.out.below hb13)
    have HW13 := Lib.hid (HUw12.out.below hb13)
    clear hb13 HL12 HS10 HT10 HUw11 HUw12
    go_wp2_with fail
    refine (same_ints_any _ _ K _ HU13.out HW13.out).mono ?_
    rintro e w14 ⟨rfl, hb14⟩
    have HL14 := Lib.hid (HL13.out.below hb14)
    clear hb14 HL13 HU13 HW13
    go_wp2_with fail
    refine (awake_any _ (HT.out.below HL14.out.bl)).mono ?_
    rintro e w15 ⟨rfl, hb15⟩
    have HB15 := Lib.hid (below_after HL14.out.bl hb15 HL14.out.bl.size)
    clear hb15
    go_wp2
    go_ret
    exact ⟨rfl, HB15.out⟩
end Go.Proofs.YtaafihdegnaokaaGreatDoor
