/- The law RetroCovers: it returns true. -/
import Derived.Test.YtaafihdegnaokaaDoorBaA
namespace Go.Proofs.YtaafihdegnaokaaDoor
open Go.RowKit

set_option maxRecDepth 100000 in
set_option maxHeartbeats 8000000 in
theorem RetroCovers_any (v : Value) (zs : List Int) (w : World) (hT : LenT w) (hv : Sl w 1 v (ints zs)) :
    Calls Tryd.prog 4 #[v] w fun e w' => e = .returned (.bool true) ∧ Below w.heap.size w w' := by
  have HT := Lib.hid hT
  have HN := Lib.hid (new_any v zs w hv)
  obtain ⟨A0, c0, rfl, -⟩ := hv
  clear hT
  go_enter Tryd.func4, Tryd.ntmps4
  go_wp2_with fail
  refine HN.out.mono ?_
  rintro e w1 ⟨rfl, hd1, hb1⟩
  clear HN
  go_wp2_with fail
  refine (calendar_any w.heap.size 0 w1 hd1 (by omega)).mono ?_
  rintro e w2 ⟨k, a, d2, rfl, hok, hd2, hdd, hg2⟩
  have HL3 := Lib.hid (LwS.start k a (below_deck hb1 hg2 (Nat.le_refl _)) hd2 (Nat.le_refl _))
  have HOK := Lib.hid hok
  clear hd1 hg2 hb1 hd2 hok
  go_wp2_with fail
  obtain ⟨w3, hw3⟩ : ∃ w3, w2.alloc (.cells #[.int .i64 k, .int .i64 a] 34) = w3 := ⟨_, rfl⟩
  obtain ⟨m, hm⟩ : ∃ m, w2.heap.size = m := ⟨_, rfl⟩
  rw [hw3, hm] at HL3
  rw [hw3, hm]
  clear hw3 hm
  refine (timelines_any w.heap.size d2 w3 HL3.out.deck (by omega)).mono ?_
  rintro e w4 ⟨vt, xs, d4, rfl, hgd, hxl, hown4, hd4, hdd4, hg4⟩
  have HL4 := Lib.hid (HL3.out.draw hd4 hg4)
  have HV4 := Lib.hid hown4
  have HGD := Lib.hid hgd
  have hw34 := HL3.out.row.lt
  have hap := HL3.out.ap
  obtain ⟨At, ct, rfl⟩ := hown4.own.form
  rw [tlv_len] at HV4
  simp only [tlv_len]
  clear hd4 hg4 HL3 hown4 hgd
  go_wp2_with fail
  refine (Next_any w.heap.size d4 6 w4 HL4.out.deck (by omega) (by omega) (by omega)).mono ?_
  rintro e w5 ⟨x, -, rfl, hd5, hg5⟩
  have HL5 := Lib.hid (HL4.out.draw hd5 hg5)
  have HV5 := Lib.hid (HV4.out.keepD hg5 (by omega))
  clear hd5 hg5 HL4 HV4
  go_wp2_with fail
  refine (Next_any w.heap.size (d4 + 1) 6 w5 HL5.out.deck (by omega) (by omega) (by omega)).mono ?_
  rintro e w6 ⟨y, -, rfl, hd6, hg6⟩
  have HL6 := Lib.hid (HL5.out.draw hd6 hg6)
  have HV6 := Lib.hid (HV5.out.keepD hg6 (by omega))
  clear hd6 hg6 HL5 HV5
  go_wp2_with fail
  refine (Next_any w.heap.size (d4 + 1 + 1) 6 w6 HL6.out.deck (by omega) (by omega) (by omega)).mono ?_
  rintro e w7 ⟨z, -, rfl, hd7, hg7⟩
  have HL7 := Lib.hid (HL6.out.draw hd7 hg7)
  have HV7 := Lib.hid (HV6.out.keepD hg7 (by omega))
  clear hd7 hg7 HL6 HV6
  go_wp2_with fail
  refine (Next_any w.heap.size (d4 + 1 + 1 + 1) 16 w7 HL7.out.deck (by omega) (by omega) (by omega)).mono ?_
  rintro e w10 ⟨c, ⟨c0', c1'⟩, rfl, hd8, hg8⟩
  obtain ⟨C, rfl⟩ := Int.eq_ofNat_of_zero_le c0'
  have HL10 := Lib.hid (HL7.out.draw hd8 hg8)
  have HV10 := Lib.hid (HV7.out.keepD hg8 (by omega)).at
  clear hd8 hg8 HL7 HV7
  obtain ⟨r0, r1, rl⟩ := HL10.out.facts
  have hdy := good_dy HOK.out (f := 0) (C := C) (by omega) (by omega)
  have hpl := good_pl HOK.out HGD.out hxl (f := 0) (C := C) (by omega) (by omega)
  have hdy' : dyE k a 0 (C : Int) = 0 := hdy
  have hpl' : plE k a (xs.map (·.2)) 0 (C : Int) = 0 := hpl
  have hcv := plB_cover (ls := xs.map (·.2)) (x := x) (y := y) (z := z) hdy'
  have hsm := plB_same (ls := xs.map (·.2)) (x := x) hdy'
  have l1 := plB_le (ls := xs.map (·.2)) (n := x) (m := y) hdy'
  have l2 := plB_le (ls := xs.map (·.2)) (n := y) (m := z) hdy'
  have l3 := plB_le (ls := xs.map (·.2)) (n := x) (m := z) hdy'
  have HP11 := Lib.hid (fun W h hl => Plan_any k a (.slice At xs.length ct) xs x y 0 (C : Int) W h hl)
  have HP12 := Lib.hid (fun W h hl => Plan_any k a (.slice At xs.length ct) xs y z 0 (C : Int) W h hl)
  have HP13 := Lib.hid (fun W h hl => Plan_any k a (.slice At xs.length ct) xs x z 0 (C : Int) W h hl)
  have HP14 := Lib.hid (fun W h hl => Plan_any k a (.slice At xs.length ct) xs x x 0 (C : Int) W h hl)
  obtain ⟨b1, hb1⟩ : ∃ b, plB k a (xs.map (·.2)) x y 0 (C : Int) = b := ⟨_, rfl⟩
  obtain ⟨b2, hb2⟩ : ∃ b, plB k a (xs.map (·.2)) y z 0 (C : Int) = b := ⟨_, rfl⟩
  obtain ⟨b3, hb3⟩ : ∃ b, plB k a (xs.map (·.2)) x z 0 (C : Int) = b := ⟨_, rfl⟩
  rw [(pl_good hpl' hb1).1, hpl'] at HP11
  rw [(pl_good hpl' hb2).1, hpl'] at HP12
  rw [(pl_good hpl' hb3).1, hpl'] at HP13
  rw [(pl_good hpl' hsm).1, hpl', show ((C : Int) + 1 - (C : Int)).toNat = 1 by omega] at HP14
  rw [hb1] at l1 hcv
  rw [hb2] at l2 hcv
  rw [hb3] at l3 hcv
  obtain ⟨N1, hN1⟩ : ∃ N, ((C : Int) + 1 - b1).toNat = N + 1 := ⟨((C : Int) - b1).toNat, by omega⟩
  obtain ⟨N2, hN2⟩ : ∃ N, ((C : Int) + 1 - b2).toNat = N + 1 := ⟨((C : Int) - b2).toNat, by omega⟩
  obtain ⟨N3, hN3⟩ : ∃ N, ((C : Int) + 1 - b3).toNat = N + 1 := ⟨((C : Int) - b3).toNat, by omega⟩
  rw [hN1] at HP11
  rw [hN2] at HP12
  rw [hN3] at HP13
  have hq3 : b3 + (N3 : Int) = (C : Int) := by omega
  have HQ3 := Lib.hid hq3
  have HCV := Lib.hid hcv
  have h30 : 0 ≤ b3 := by omega
  have h31 : b3 ≤ (C : Int) := by omega
  have hN39 : N3 ≤ 16 := by omega
  have hN19 : N1 ≤ 16 := by omega
  have hN29 : N2 ≤ 16 := by omega
  clear hdy hpl hdy' hpl' hcv hsm l1 l2 l3 hb1 hb2 hb3 hN1 hN2 hN3 hq3 HOK HGD
  go_wp2_with fail
  refine (HP11.out _ (HT.out.below HL10.out.bl) HV10.out).mono ?_
  unfold RetOwn2
  rintro e w11 ⟨x11, rfl, hown11, hb11⟩
  have HL11 := Lib.hid (HL10.out.below hb11)
  have HV11 := Lib.hid (HV10.out.below hb11)
  have HS11 := Lib.hid (hown11.sl (by omega))
  obtain ⟨A11, c11, rfl⟩ := hown11.form
  rw [ints_len, plL_len] at HS11
  simp only [ints_len, plL_len]
  clear hown11 hb11 HL10 HV10 HP11 r0 r1 rl
  obtain ⟨r0, r1, rl⟩ := HL11.out.facts

  go_wp2_with fail
  refine (HP12.out _ (HT.out.below HL11.out.bl) HV11.out).mono ?_
  unfold RetOwn2
  rintro e w12 ⟨x12, rfl, hown12, hb12⟩
  have HL12 := Lib.hid (HL11.out.below hb12)
  have HV12 := Lib.hid (HV11.out.below hb12)
  have HS12 := Lib.hid (hown12.sl (by omega))
  obtain ⟨A12, c12, rfl⟩ := hown12.form
  rw [ints_len, plL_len] at HS12
  simp only [ints_len, plL_len]
  replace HS11 := Lib.hid (HS11.out.below hb12)
  clear hown12 hb12 HL11 HV11 HP12 r0 r1 rl
  obtain ⟨r0, r1, rl⟩ := HL12.out.facts

  go_wp2_with fail
  refine (HP13.out _ (HT.out.below HL12.out.bl) HV12.out).mono ?_
  unfold RetOwn2
  rintro e w13 ⟨x13, rfl, hown13, hb13⟩
  have HL13 := Lib.hid (HL12.out.below hb13)
  have HV13 := Lib.hid (HV12.out.below hb13)
  have HS13 := Lib.hid (hown13.sl (by omega))
  obtain ⟨A13, c13, rfl⟩ := hown13.form
  rw [ints_len, plL_len] at HS13
  simp only [ints_len, plL_len]
  replace HS11 := Lib.hid (HS11.out.below hb13)
  replace HS12 := Lib.hid (HS12.out.below hb13)
  clear hown13 hb13 HL12 HV12 HP13 r0 r1 rl
  obtain ⟨r0, r1, rl⟩ := HL13.out.facts

  go_wp2_with fail
  refine (HP14.out _ (HT.out.below HL13.out.bl) HV13.out).mono ?_
  unfold RetOwn2
  rintro e w14 ⟨x14, rfl, hown14, hb14⟩
  have HL14 := Lib.hid (HL13.out.below hb14)
  have HV14 := Lib.hid (HV13.out.below hb14)
  have HS14 := Lib.hid (hown14.sl (by omega))
  obtain ⟨A14, c14, rfl⟩ := hown14.form
  rw [ints_len, plL_len] at HS14
  simp only [ints_len, plL_len]
  replace HS11 := Lib.hid (HS11.out.below hb14)
  replace HS12 := Lib.hid (HS12.out.below hb14)
  replace HS13 := Lib.hid (HS13.out.below hb14)
  clear hown14 hb14 HL13 HV13 HP14 r0 r1 rl
  obtain ⟨r0, r1, rl⟩ := HL14.out.facts

  have g1 : (((N1 : Int) + 1) == 0) = false := by simp; omega
  have g2 : (((N2 : Int) + 1) == 0) = false := by simp; omega
  have g3 : (((N3 : Int) + 1) == 0) = false := by simp; omega
  go_wp2_with fail
  obtain ⟨p1, o1, rfl, hc1⟩ := HS11.out.cells (by rw [ints_len, plL_len]; omega)
  obtain ⟨p2, o2, rfl, hc2⟩ := HS12.out.cells (by rw [ints_len, plL_len]; omega)
  obtain ⟨p3, o3, rfl, hc3⟩ := HS13.out.cells (by rw [ints_len, plL_len]; omega)
  obtain ⟨p4, o4, rfl, hc4⟩ := HS14.out.cells (by rw [ints_len, plL_len]; omega)
  have u1 := ext_cell hc1.1 (hc1.int (k := 0) (by rw [plL_len]; omega))
  have u2 := ext_cell hc2.1 (hc2.int (k := 0) (by rw [plL_len]; omega))
  have u3 := ext_cell hc3.1 (hc3.int (k := 0) (by rw [plL_len]; omega))
  have u5 := ext_cell hc3.1 (hc3.int (k := N3) (by rw [plL_len]; omega))
  have u4 := ext_cell hc4.1 (hc4.int (k := 0) (by rw [plL_len]; omega))
  simp only [plL_at, Nat.add_zero, Int.natCast_zero, Int.add_zero] at u1 u2 u3 u4 u5
  rw [HQ3.out] at u5
  obtain ⟨M, hM⟩ : ∃ M, min b1 b2 = M := ⟨_, rfl⟩
  have hMb : M ≤ b3 := by rw [← hM]; exact HCV.out
  have q1 : decide (M ≤ b3) = true := decide_eq_true hMb
  have s1 : IntKind.i64.wrap ((N3 : Int) + 1 - 1) = (N3 : Int) := by rw [show (N3 : Int) + 1 - 1 = (N3 : Int) by omega]; exact IntWalk.i64_in _ (by omega)
  have s2 : IntKind.i64.wrap (N3 : Int) = (N3 : Int) := IntWalk.i64_in _ (by omega)
  have s3 : IntKind.i64.wrap ((C : Int) - b3) = (C : Int) - b3 := IntWalk.i64_in _ (by omega)
  have s4 : IntKind.i64.wrap ((C : Int) - b3 + 1) = (N3 : Int) + 1 := by rw [show (C : Int) - b3 + 1 = (N3 : Int) + 1 by have := HQ3.out; omega]; exact IntWalk.i64_in _ (by omega)
  have i1 : (N3 : Int) < (N3 : Int) + 1 := by omega
  have HAX : Hid (∀ x : Ext w14, Calls Tryd.prog 10 #[] x.val fun e w' => e = .returned (.bool true) ∧ Below x.val.heap.size x.val w') := fun x => awake_any _ (HT.out.below (HL14.out.below x.property).bl)
  clear hc1 hc2 hc3 hc4 hMb HS11 HS12 HS13 HS14 r0 r1 rl HCV HQ3 h30 h31
  refine region_ext (by kernel_rfl) (by kernel_rfl) ?_
  repeat (go_big_quiet_step ((go_at_call 10; exact ext_call (HAX.out _))))
  refine wpQuiet_nil ?_
  rintro _ ⟨W, rfl⟩
  have HB := Lib.hid (HL14.out.below W.property).bl
  clear u1 u2 u3 u4 u5
  go_wp2
  go_ret
  exact ⟨rfl, HB.out⟩
end Go.Proofs.YtaafihdegnaokaaDoor
