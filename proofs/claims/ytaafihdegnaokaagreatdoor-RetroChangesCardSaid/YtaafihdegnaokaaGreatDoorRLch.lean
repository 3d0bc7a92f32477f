/- The law RetroChanges: it returns true. -/
import Derived.Test.YtaafihdegnaokaaGreatDoorBaA
import Derived.Test.YtaafihdegnaokaaGreatDoorBaB
namespace Go.Proofs.YtaafihdegnaokaaGreatDoor
open Go.RowKit

/-- where a law without a pay calendar stands -/
structure LdS (w : World) (D d : Nat) (wr : World) : Prop where
  bl : Below w.heap.size w wr
  deck : Deck wr D d
  low : w.heap.size ≤ D
theorem LdS.draw {w w1 w2 : World} {D d d' : Nat} (h : LdS w D d w1) (hd : Deck w2 D d') (hg : w1.grownBy w2 (some D)) : LdS w D d' w2 := ⟨below_deck h.bl hg h.low, hd, h.low⟩
theorem LdS.below {w w1 w2 : World} {D d : Nat} (h : LdS w D d w1) (hb : Below w1.heap.size w1 w2) : LdS w D d w2 := ⟨below_after h.bl hb h.bl.size, h.deck.below hb, h.low⟩
set_option maxRecDepth 100000 in
set_option maxHeartbeats 8000000 in
theorem RetroChanges_any (v : Value) (zs : List Int) (vx : Value) (xs : List (Value × List Chg)) (n1 n2 n3 n4 : Int) (w : World) (hT : LenT w) (hv : Sl w 1 v (ints zs)) (hx : Tls w vx xs) :
    Calls Tryz.prog 5 #[v, vx, .int .i64 n1, .int .i64 n2, .int .i64 n3, .int .i64 n4] w fun e w' => e = .returned (.bool true) ∧ Below w.heap.size w w' := by
  have HT := Lib.hid hT
  have HX := Lib.hid hx
  have HV := Lib.hid hv
  have HF := Lib.hid (few_any vx xs w hx)
  obtain ⟨A0, c0, rfl, -⟩ := hv
  clear hT hx
  go_enter Tryz.func5, Tryz.ntmps5
  go_wp2_with fail
  refine HF.out.mono ?_
  rintro e w1 ⟨⟨b, rfl⟩, hb1⟩
  have HB1 := Lib.hid hb1
  clear HF hb1
  cases b with
  | false =>
    go_wp2_with fail
    refine (awake_any _ (HT.out.below HB1.out)).mono ?_
    rintro e w2 ⟨rfl, hb2⟩
    have HB2 := Lib.hid (below_after HB1.out hb2 HB1.out.size)
    clear hb2
    go_wp2
    go_ret
    exact ⟨rfl, HB2.out⟩
  | true =>
    go_wp2_with fail
    refine (new_any _ zs _ (HV.out.below HB1.out)).mono ?_
    rintro e w2 ⟨rfl, hd2, hb2⟩
    obtain ⟨D, hD⟩ : ∃ D, w1.heap.size = D := ⟨_, rfl⟩
    have hsz := HB1.out.size
    have HL2 : Hid (LdS w D 0 w2) := ⟨below_after HB1.out hb2 HB1.out.size, by rw [← hD]; exact hd2, by omega⟩
    have hlt2 := hd2.lt
    rw [hD] at hlt2
    rw [hD]
    clear hd2 hb2 hD HB1 hsz HV
    go_wp2_with fail
    refine (timelines_any D 0 w2 HL2.out.deck (by omega)).mono ?_
    rintro e w4 ⟨vt, ys, d4, rfl, hgd, hxl, hown4, hd4, hdd4, hg4⟩
    have HL4 := Lib.hid (HL2.out.draw hd4 hg4)
    have HV4 := Lib.hid hown4
    obtain ⟨At, ct, rfl⟩ := hown4.own.form
    rw [tlv_len] at HV4
    simp only [tlv_len]
    clear hd4 hg4 HL2 hown4 hgd
    go_wp2_with fail
    refine (Next_any D (d4) 6 w4 HL4.out.deck (by omega) (by omega) (by omega)).mono ?_
    rintro e w5 ⟨x, ⟨x0, x1⟩, rfl, hd, hg⟩
    have HL5 := Lib.hid (HL4.out.draw hd hg)
    have HV5 := Lib.hid (HV4.out.keepD hg hlt2)
    clear hd hg HL4 HV4
    go_wp2_with fail
    refine (Next_any D (d4 + 1) 6 w5 HL5.out.deck (by omega) (by omega) (by omega)).mono ?_
    rintro e w6 ⟨y, ⟨y0, y1⟩, rfl, hd, hg⟩
    have HL6 := Lib.hid (HL5.out.draw hd hg)
    have HV6 := Lib.hid (HV5.out.keepD hg hlt2)
    clear hd hg HL5 HV5
    go_wp2_with fail
    refine (Next_any D (d4 + 1 + 1) 100 w6 HL6.out.deck (by omega) (by omega) (by omega)).mono ?_
    rintro e w7 ⟨u, ⟨u0, u1⟩, rfl, hd, hg⟩
    have HL7 := Lib.hid (HL6.out.draw hd hg)
    have HV7 := Lib.hid (HV6.out.keepD hg hlt2)
    clear hd hg HL6 HV6
    go_wp2_with fail
    refine (Next_any D (d4 + 1 + 1 + 1) 300 w7 HL7.out.deck (by omega) (by omega) (by omega)).mono ?_
    rintro e w8 ⟨z, ⟨z0, z1⟩, rfl, hd, hg⟩
    have HL8 := Lib.hid (HL7.out.draw hd hg)
    have HV8 := Lib.hid (HV7.out.keepD hg hlt2)
    clear hd hg HL7 HV7
    have HV9 := Lib.hid HV8.out.at
    have HCH := Lib.hid (fun W h => Changed_any (.slice At ys.length ct) ys x y u (100 + z) W h)
    have HCR := Lib.hid (fun W h => ChangedR_any (.slice At ys.length ct) ys x y u (100 + z) W h)
    unfold RetOwn2 at HCH HCR
    obtain ⟨J, hJ⟩ : ∃ J, chO (ys.map (·.2)) x y u (100 + z) = J := ⟨_, rfl⟩
    obtain ⟨E, hE⟩ : ∃ J, chE (ys.map (·.2)) u (100 + z) = J := ⟨_, rfl⟩
    rw [hJ, hE] at HCH HCR
    clear hJ hE
    have s1 : IntKind.i64.wrap (100 + z) = 100 + z := IntWalk.i64_in _ (by omega)
    go_wp2_with fail
    refine (HCH.out _ HV9.out).mono ?_
    rintro e w9 ⟨x1, rfl, hown9, hb9⟩
    have HL9 := Lib.hid (HL8.out.below hb9)
    have HV10 := Lib.hid (HV9.out.below hb9)
    have HS9 := Lib.hid (hown9.sl (by omega))
    obtain ⟨A1, c1, rfl⟩ := hown9.form
    rw [prs_len] at HS9
    simp only [prs_len]
    clear hb9 hown9 HL8 HV8 HV9 HCH
    go_wp2_with fail
    refine (HCR.out _ HV10.out).mono ?_
    rintro e w10 ⟨x2, rfl, hown10, hb10⟩
    have HL10 := Lib.hid (HL9.out.below hb10)
    have HS10 := Lib.hid (HS9.out.below hb10)
    have HT10 := Lib.hid (hown10.sl (by omega))
    obtain ⟨A2, c2, rfl⟩ := hown10.form
    rw [prs_len] at HT10
    simp only [prs_len]
    clear hb10 hown10 HL9 HV10 HCR HS9
    have hm1 : 0 ≤ n3 % 900 := by omega
    have hm2 : n3 % 900 ≤ 899 := by omega
    have hm3 : 0 ≤ n4 % 900 := by omega
    have hm4 : n4 % 900 ≤ 899 := by omega
    have s3 : IntKind.i64.wrap (n3 % 900 - 2) = n3 % 900 - 2 := IntWalk.i64_in _ (by omega)
    have s4 : IntKind.i64.wrap (n4 % 900 - 2) = n4 % 900 - 2 := IntWalk.i64_in _ (by omega)
    have HM3 := Lib.hid (fun W => Mod_any n3 900 W (by omega) (by omega))
    have HM4 := Lib.hid (fun W => Mod_any n4 900 W (by omega) (by omega))
    obtain ⟨p, hp⟩ : ∃ p, n3 % 900 = p := ⟨_, rfl⟩
    obtain ⟨q, hq⟩ : ∃ p, n4 % 900 = p := ⟨_, rfl⟩
    rw [hp] at HM3 s3
    rw [hq] at HM4 s4
    clear hm1 hm2 hm3 hm4 hp hq
    obtain ⟨Ax, cx, hvx, -⟩ := HX.out.sl
    rw [List.length_map] at hvx
    subst hvx
    have HCH := Lib.hid (fun W h => Changed_any (.slice Ax xs.length cx) xs n1 n2 (p - 2) (q - 2) W h)
    have HCR := Lib.hid (fun W h => ChangedR_any (.slice Ax xs.length cx) xs n1 n2 (p - 2) (q - 2) W h)
    unfold RetOwn2 at HCH HCR
    obtain ⟨K, hJ⟩ : ∃ J, chO (xs.map (·.2)) n1 n2 (p - 2) (q - 2) = J := ⟨_, rfl⟩
    obtain ⟨G, hE⟩ : ∃ J, chE (xs.map (·.2)) (p - 2) (q - 2) = J := ⟨_, rfl⟩
    rw [hJ, hE] at HCH HCR
    clear hJ hE
    go_wp2_with fail
    refine (HM3.out _).mono ?_
    rintro e wx ⟨rfl, rfl⟩
    go_wp2_with fail
    refine (HM4.out _).mono ?_
    rintro e wx ⟨rfl, rfl⟩
    go_wp2_with fail
    refine (HCH.out _ (HX.out.below HL10.out.bl)).mono ?_
    rintro e w11 ⟨x3, rfl, hown11, hb11⟩
    have HL11 := Lib.hid (HL10.out.below hb11)
    have HS11 := Lib.hid (HS10.out.below hb11)
    have HT11 := Lib.hid (HT10.out.below hb11)
    have HU11 := Lib.hid (hown11.sl (by omega))
    obtain ⟨A3, c3, rfl⟩ := hown11.form
    rw [prs_len] at HU11
    simp only [prs_len]
    clear hb11 hown11 HL10 HS10 HT10 HCH
    go_wp2_with fail
    refine (HM3.out _).mono ?_
    rintro e wx ⟨rfl, rfl⟩
    go_wp2_with fail
    refine (HM4.out _).mono ?_
    rintro e wx ⟨rfl, rfl⟩
    go_wp2_with fail
    refine (HCR.out _ (HX.out.below HL11.out.bl)).mono ?_
    rintro e w12 ⟨x4, rfl, hown12, hb12⟩
    have HL12 := Lib.hid (HL11.out.below hb12)
    have HS12 := Lib.hid (HS11.out.below hb12)
    have HT12 := Lib.hid (HT11.out.below hb12)
    have HU12 := Lib.hid (HU11.out.below hb12)
    have HW12 := Lib.hid (hown12.sl (by omega))
    obtain ⟨A4, c4, rfl⟩ := hown12.form
    rw [prs_len] at HW12
    simp only [prs_len]
    clear hb12 hown12 HL11 HS11 HT11 HU11 HCR HM3 HM4
    go_wp2_with fail
    refine (same_ranges_any _ _ J _ HS12.out HT12.out).mono ?_
    rintro e w13 ⟨rfl, hb13⟩
    have HL13 := Lib.hid (HL12.out.below hb13)
    have HU13 := Lib.hid (HU12.out.below hb13)
    have HW13 := Lib.hid (HW12.out.below hb13)
    clear hb13 HL12 HS12 HT12 HU12 HW12
    go_wp2_with fail
    refine (same_ranges_any _ _ K _ HU13.out HW13.out).mono ?_
    rintro e w14 ⟨rfl, hb14⟩
    have HL14 := Lib.hid (HL13.out.below hb14)
    clear hb14 HL13 HU13 HW13
    go_wp2_with fail
    refine (awake_any _ (HT.out.below HL14.out.bl)).mono ?_
    rintro e w15 ⟨rfl, hb15⟩
    have HB15 := Lib.hid (below_after HL14.out.bl hb15 HL14.out.bl.size)
    clear hb15
    go_wp2
    go_ret
    exact ⟨rfl, HB15.out⟩
end Go.Proofs.YtaafihdegnaokaaGreatDoor
