/- The law RatioOrder: it returns true. -/
import Derived.Test.YtkdmbkhgcahpiaaDoorRatZ
import Derived.Test.YtkdmbkhgcahpiaaDoorTRat
import Derived.Deep.CutBlock
import Derived.Deep.DeepCutAuto
namespace Go.Proofs.YtkdmbkhgcahpiaaDoor
open Go.RowKit

theorem cmp_in (a b c d : Int) : -1 ≤ cmpF a b c d ∧ cmpF a b c d ≤ 1 := by
  unfold cmpF; split
  · split
    · omega
    · split <;> omega
  · omega
set_option maxRecDepth 100000 in
set_option maxHeartbeats 6400000 in
theorem RatioOrder_any (v : Value) (zs : List Int) (w : World) (hT : Tabs w) (hE : Errs w) (hv : Sl w 1 v (ints zs)) :
    Calls Tryd.prog 6 #[v] w fun e w' => e = .returned (.bool true) ∧ Below w.heap.size w w' := by
  have HT := Lib.hid hT
  have HE := Lib.hid hE
  have HV := Lib.hid hv
  clear hT hE hv
  go_enter Tryd.func6, Tryd.ntmps6
  go_wp2_with fail
  refine (tapeNew_any v zs w HV.out).mono ?_
  rintro e w1 ⟨rfl, ht_1, hb⟩
  have hB_1 : Below w.heap.size w w1 := hb
  clear hb
  have hs_1 := hB_1.size
  have htl_1 := ht_1.lt
  clear HV
  go_wp2_with fail
  refine (TRat_any _ _ ht_1).mono ?_
  rintro e w2 ⟨a1, a2, va, rfl, ht_2, hh⟩
  have hB_2 := hB_1.grown hh hB_1.size (fun g hg => by cases hg; omega)
  clear ht_1 hB_1 hh
  have hs_2 := hB_2.size
  have htl_2 := ht_2.lt
  go_wp2_with fail
  refine (TRat_any _ _ ht_2).mono ?_
  rintro e w3 ⟨b1, b2, vb, rfl, ht_3, hh⟩
  have hB_3 := hB_2.grown hh hB_2.size (fun g hg => by cases hg; omega)
  clear ht_2 hB_2 hh
  have hs_3 := hB_3.size
  have htl_3 := ht_3.lt
  go_wp2_with fail
  refine (TRat_any _ _ ht_3).mono ?_
  rintro e w4 ⟨c1, c2, vc, rfl, ht_4, hh⟩
  have hB_4 := hB_3.grown hh hB_3.size (fun g hg => by cases hg; omega)
  clear ht_3 hB_3 hh
  have hs_4 := hB_4.size
  have htl_4 := ht_4.lt
  have VA := Lib.hid va
  have VB := Lib.hid vb
  have VC := Lib.hid vc
  obtain ⟨ia1, ia2, ia3, ia4, -⟩ := vld_iff.1 va
  clear va vb vc
  go_wp2_with fail
  obtain ⟨A_5, Bx_5, C_5, hal0⟩ := rows3 w4 23 #[.int .i64 a1, .int .i64 a2] #[.int .i64 b1, .int .i64 b2] #[.int .i64 c1, .int .i64 c2]
  have hal : Below w4.heap.size w4 (((w4.alloc (Obj.cells #[Value.int .i64 a1, Value.int .i64 a2] 23)).alloc (Obj.cells #[Value.int .i64 b1, Value.int .i64 b2] 23)).alloc (Obj.cells #[Value.int .i64 c1, Value.int .i64 c2] 23)) := hal0
  have ht_5 := ht_4.below hal
  have hB_5 := below_after hB_4 hal hB_4.size
  clear hal hal0 ht_4 hB_4
  generalize (((w4.alloc (Obj.cells #[Value.int .i64 a1, Value.int .i64 a2] 23)).alloc (Obj.cells #[Value.int .i64 b1, Value.int .i64 b2] 23)).alloc (Obj.cells #[Value.int .i64 c1, Value.int .i64 c2] 23)) = w5 at A_5 Bx_5 C_5 ht_5 hB_5 ⊢
  generalize hg3 : w4.heap.size = gA at A_5 Bx_5 C_5 hs_4 htl_4 ⊢
  clear hg3
  have hs_5 := hB_5.size
  have htl_5 := ht_5.lt
  obtain ⟨x, hx⟩ : ∃ x, x = cmpF a1 a2 b1 b2 := ⟨_, rfl⟩
  have hxi := cmp_in a1 a2 b1 b2
  rw [← hx] at hxi
  have HX := Lib.hid hx
  clear hx
  refine (Compare_any a1 a2 b1 b2 _).mono ?_
  rintro e w6 ⟨rfl, hb⟩
  rw [← HX.out]
  have A_6 := A_5.below hb A_5.lt
  have Bx_6 := Bx_5.below hb Bx_5.lt
  have C_6 := C_5.below hb C_5.lt
  have ht_6 := ht_5.below hb
  have hB_6 := below_after hB_5 hb hB_5.size
  clear A_5 Bx_5 C_5 ht_5 hB_5 hb
  have hs_6 := hB_6.size
  have htl_6 := ht_6.lt
  obtain ⟨cA0, cA1, fA0, fA1⟩ := pair_cells A_6
  have lA := A_6.lt
  obtain ⟨cBx0, cBx1, fBx0, fBx1⟩ := pair_cells Bx_6
  have lBx := Bx_6.lt
  obtain ⟨cC0, cC1, fC0, fC1⟩ := pair_cells C_6
  have lC := C_6.lt
  go_upto_region 4 with (fail)
  go_cut [53] (fun s wx => s = .bool false ∧ Below w6.heap.size w6 wx)
  case first =>
    have hM_6 : Below w6.heap.size w6 w6 := Below.refl _ _
    have y0 : cmpF b1 b2 a1 a2 = -x := by rw [HX.out, ← order_neg VA.out VB.out]; omega
    have HY := Lib.hid y0
    clear y0
    obtain ⟨cA0, cA1, fA0, fA1⟩ := pair_cells A_6
    have lA := A_6.lt
    obtain ⟨cBx0, cBx1, fBx0, fBx1⟩ := pair_cells Bx_6
    have lBx := Bx_6.lt
    obtain ⟨cC0, cC1, fC0, fC1⟩ := pair_cells C_6
    have lC := C_6.lt
    go_wp2_with fail
    clear cA0 cA1 fA0 fA1 lA cBx0 cBx1 fBx0 fBx1 lBx cC0 cC1 fC0 fC1 lC
    refine (Compare_any b1 b2 a1 a2 _).mono ?_
    rintro e w7 ⟨rfl, hb⟩
    rw [HY.out]
    have hM_7 := below_after hM_6 hb hM_6.size
    have A_7 := A_6.below hb A_6.lt
    have Bx_7 := Bx_6.below hb Bx_6.lt
    have C_7 := C_6.below hb C_6.lt
    have ht_7 := ht_6.below hb
    have hB_7 := below_after hB_6 hb hB_6.size
    clear A_6 Bx_6 C_6 ht_6 hB_6 hb
    have hs_7 := hB_7.size
    have htl_7 := ht_7.lt
    have q0 : (x != - -x) = false := by simp
    have q1 : (x == - -x) = true := by simp
    have HO := Lib.hid (order_eq VA.out VB.out)
    rw [← HX.out] at HO
    by_cases hx1 : x = 0
    · skip
      have z1 : (x == 0) = true := by simpa using hx1
      have z2 : (a1 == b1) = true := by simpa using (HO.out.1 hx1).1
      have z3 : (a2 == b2) = true := by simpa using (HO.out.1 hx1).2
      clear hx1
      cases hx0 : decide (x ≤ 0)
      · skip
        obtain ⟨cA0, cA1, fA0, fA1⟩ := pair_cells A_7
        have lA := A_7.lt
        obtain ⟨cBx0, cBx1, fBx0, fBx1⟩ := pair_cells Bx_7
        have lBx := Bx_7.lt
        obtain ⟨cC0, cC1, fC0, fC1⟩ := pair_cells C_7
        have lC := C_7.lt
        go_wp2_with fail
        clear cA0 cA1 fA0 fA1 lA cBx0 cBx1 fBx0 fBx1 lBx cC0 cC1 fC0 fC1 lC
        go_meet
        exact ⟨rfl, hM_7⟩
      obtain ⟨y, hy⟩ : ∃ y, y = cmpF b1 b2 c1 c2 := ⟨_, rfl⟩
      have HYY := Lib.hid hy
      clear hy
      obtain ⟨cA0, cA1, fA0, fA1⟩ := pair_cells A_7
      have lA := A_7.lt
      obtain ⟨cBx0, cBx1, fBx0, fBx1⟩ := pair_cells Bx_7
      have lBx := Bx_7.lt
      obtain ⟨cC0, cC1, fC0, fC1⟩ := pair_cells C_7
      have lC := C_7.lt
      go_wp2_with fail
      clear cA0 cA1 fA0 fA1 lA cBx0 cBx1 fBx0 fBx1 lBx cC0 cC1 fC0 fC1 lC
      refine (Compare_any b1 b2 c1 c2 _).mono ?_
      rintro e w8 ⟨rfl, hb⟩
      rw [← HYY.out]
      have hM_8 := below_after hM_7 hb hM_7.size
      have A_8 := A_7.below hb A_7.lt
      have Bx_8 := Bx_7.below hb Bx_7.lt
      have C_8 := C_7.below hb C_7.lt
      have ht_8 := ht_7.below hb
      have hB_8 := below_after hB_7 hb hB_7.size
      clear A_7 Bx_7 C_7 ht_7 hB_7 hb
      have hs_8 := hB_8.size
      have htl_8 := ht_8.lt
      cases hy0 : decide (y ≤ 0)
      · skip
        obtain ⟨cA0, cA1, fA0, fA1⟩ := pair_cells A_8
        have lA := A_8.lt
        obtain ⟨cBx0, cBx1, fBx0, fBx1⟩ := pair_cells Bx_8
        have lBx := Bx_8.lt
        obtain ⟨cC0, cC1, fC0, fC1⟩ := pair_cells C_8
        have lC := C_8.lt
        go_wp2_with fail
        clear cA0 cA1 fA0 fA1 lA cBx0 cBx1 fBx0 fBx1 lBx cC0 cC1 fC0 fC1 lC
        go_meet
        exact ⟨rfl, hM_8⟩
      have hz := order_trans VA.out VB.out VC.out (by rw [← HX.out]; exact of_decide_eq_true hx0) (by rw [← HYY.out]; exact of_decide_eq_true hy0)
      obtain ⟨z, hze⟩ : ∃ z, z = cmpF a1 a2 c1 c2 := ⟨_, rfl⟩
      rw [← hze] at hz
      have HZ := Lib.hid hze
      clear hze
      have hz0 : decide (0 < z) = false := by simp; omega
      obtain ⟨cA0, cA1, fA0, fA1⟩ := pair_cells A_8
      have lA := A_8.lt
      obtain ⟨cBx0, cBx1, fBx0, fBx1⟩ := pair_cells Bx_8
      have lBx := Bx_8.lt
      obtain ⟨cC0, cC1, fC0, fC1⟩ := pair_cells C_8
      have lC := C_8.lt
      go_wp2_with fail
      clear cA0 cA1 fA0 fA1 lA cBx0 cBx1 fBx0 fBx1 lBx cC0 cC1 fC0 fC1 lC
      refine (Compare_any a1 a2 c1 c2 _).mono ?_
      rintro e w9 ⟨rfl, hb⟩
      rw [← HZ.out]
      have hM_9 := below_after hM_8 hb hM_8.size
      have A_9 := A_8.below hb A_8.lt
      have Bx_9 := Bx_8.below hb Bx_8.lt
      have C_9 := C_8.below hb C_8.lt
      have ht_9 := ht_8.below hb
      have hB_9 := below_after hB_8 hb hB_8.size
      clear A_8 Bx_8 C_8 ht_8 hB_8 hb
      have hs_9 := hB_9.size
      have htl_9 := ht_9.lt
      obtain ⟨cA0, cA1, fA0, fA1⟩ := pair_cells A_9
      have lA := A_9.lt
      obtain ⟨cBx0, cBx1, fBx0, fBx1⟩ := pair_cells Bx_9
      have lBx := Bx_9.lt
      obtain ⟨cC0, cC1, fC0, fC1⟩ := pair_cells C_9
      have lC := C_9.lt
      go_wp2_with fail
      clear cA0 cA1 fA0 fA1 lA cBx0 cBx1 fBx0 fBx1 lBx cC0 cC1 fC0 fC1 lC
      go_meet
      exact ⟨rfl, hM_9⟩
    have z1 : (x == 0) = false := by simpa using hx1
    by_cases ha1 : a1 = b1
    · skip
      have z2 : (a1 == b1) = true := by simpa using ha1
      have z3 : (a2 == b2) = false := by
        have : ¬ a2 = b2 := fun e => hx1 (HO.out.2 ⟨ha1, e⟩)
        simpa using this
      clear hx1 ha1
      cases hx0 : decide (x ≤ 0)
      · skip
        obtain ⟨cA0, cA1, fA0, fA1⟩ := pair_cells A_7
        have lA := A_7.lt
        obtain ⟨cBx0, cBx1, fBx0, fBx1⟩ := pair_cells Bx_7
        have lBx := Bx_7.lt
        obtain ⟨cC0, cC1, fC0, fC1⟩ := pair_cells C_7
        have lC := C_7.lt
        go_wp2_with fail
        clear cA0 cA1 fA0 fA1 lA cBx0 cBx1 fBx0 fBx1 lBx cC0 cC1 fC0 fC1 lC
        go_meet
        exact ⟨rfl, hM_7⟩
      obtain ⟨y, hy⟩ : ∃ y, y = cmpF b1 b2 c1 c2 := ⟨_, rfl⟩
      have HYY := Lib.hid hy
      clear hy
      obtain ⟨cA0, cA1, fA0, fA1⟩ := pair_cells A_7
      have lA := A_7.lt
      obtain ⟨cBx0, cBx1, fBx0, fBx1⟩ := pair_cells Bx_7
      have lBx := Bx_7.lt
      obtain ⟨cC0, cC1, fC0, fC1⟩ := pair_cells C_7
      have lC := C_7.lt
      go_wp2_with fail
      clear cA0 cA1 fA0 fA1 lA cBx0 cBx1 fBx0 fBx1 lBx cC0 cC1 fC0 fC1 lC
      refine (Compare_any b1 b2 c1 c2 _).mono ?_
      rintro e w8 ⟨rfl, hb⟩
      rw [← HYY.out]
      have hM_8 := below_after hM_7 hb hM_7.size
      have A_8 := A_7.below hb A_7.lt
      have Bx_8 := Bx_7.below hb Bx_7.lt
      have C_8 := C_7.below hb C_7.lt
      have ht_8 := ht_7.below hb
      have hB_8 := below_after hB_7 hb hB_7.size
      clear A_7 Bx_7 C_7 ht_7 hB_7 hb
      have hs_8 := hB_8.size
      have htl_8 := ht_8.lt
      cases hy0 : decide (y ≤ 0)
      · skip
        obtain ⟨cA0, cA1, fA0, fA1⟩ := pair_cells A_8
        have lA := A_8.lt
        obtain ⟨cBx0, cBx1, fBx0, fBx1⟩ := pair_cells Bx_8
        have lBx := Bx_8.lt
        obtain ⟨cC0, cC1, fC0, fC1⟩ := pair_cells C_8
        have lC := C_8.lt
        go_wp2_with fail
        clear cA0 cA1 fA0 fA1 lA cBx0 cBx1 fBx0 fBx1 lBx cC0 cC1 fC0 fC1 lC
        go_meet
        exact ⟨rfl, hM_8⟩
      have hz := order_trans VA.out VB.out VC.out (by rw [← HX.out]; exact of_decide_eq_true hx0) (by rw [← HYY.out]; exact of_decide_eq_true hy0)
      obtain ⟨z, hze⟩ : ∃ z, z = cmpF a1 a2 c1 c2 := ⟨_, rfl⟩
      rw [← hze] at hz
      have HZ := Lib.hid hze
      clear hze
      have hz0 : decide (0 < z) = false := by simp; omega
      obtain ⟨cA0, cA1, fA0, fA1⟩ := pair_cells A_8
      have lA := A_8.lt
      obtain ⟨cBx0, cBx1, fBx0, fBx1⟩ := pair_cells Bx_8
      have lBx := Bx_8.lt
      obtain ⟨cC0, cC1, fC0, fC1⟩ := pair_cells C_8
      have lC := C_8.lt
      go_wp2_with fail
      clear cA0 cA1 fA0 fA1 lA cBx0 cBx1 fBx0 fBx1 lBx cC0 cC1 fC0 fC1 lC
      refine (Compare_any a1 a2 c1 c2 _).mono ?_
      rintro e w9 ⟨rfl, hb⟩
      rw [← HZ.out]
      have hM_9 := below_after hM_8 hb hM_8.size
      have A_9 := A_8.below hb A_8.lt
      have Bx_9 := Bx_8.below hb Bx_8.lt
      have C_9 := C_8.below hb C_8.lt
      have ht_9 := ht_8.below hb
      have hB_9 := below_after hB_8 hb hB_8.size
      clear A_8 Bx_8 C_8 ht_8 hB_8 hb
      have hs_9 := hB_9.size
      have htl_9 := ht_9.lt
      obtain ⟨cA0, cA1, fA0, fA1⟩ := pair_cells A_9
      have lA := A_9.lt
      obtain ⟨cBx0, cBx1, fBx0, fBx1⟩ := pair_cells Bx_9
      have lBx := Bx_9.lt
      obtain ⟨cC0, cC1, fC0, fC1⟩ := pair_cells C_9
      have lC := C_9.lt
      go_wp2_with fail
      clear cA0 cA1 fA0 fA1 lA cBx0 cBx1 fBx0 fBx1 lBx cC0 cC1 fC0 fC1 lC
      go_meet
      exact ⟨rfl, hM_9⟩
    have z2 : (a1 == b1) = false := by simpa using ha1
    clear hx1 ha1
    cases hx0 : decide (x ≤ 0)
    · skip
      obtain ⟨cA0, cA1, fA0, fA1⟩ := pair_cells A_7
      have lA := A_7.lt
      obtain ⟨cBx0, cBx1, fBx0, fBx1⟩ := pair_cells Bx_7
      have lBx := Bx_7.lt
      obtain ⟨cC0, cC1, fC0, fC1⟩ := pair_cells C_7
      have lC := C_7.lt
      go_wp2_with fail
      clear cA0 cA1 fA0 fA1 lA cBx0 cBx1 fBx0 fBx1 lBx cC0 cC1 fC0 fC1 lC
      go_meet
      exact ⟨rfl, hM_7⟩
    obtain ⟨y, hy⟩ : ∃ y, y = cmpF b1 b2 c1 c2 := ⟨_, rfl⟩
    have HYY := Lib.hid hy
    clear hy
    obtain ⟨cA0, cA1, fA0, fA1⟩ := pair_cells A_7
    have lA := A_7.lt
    obtain ⟨cBx0, cBx1, fBx0, fBx1⟩ := pair_cells Bx_7
    have lBx := Bx_7.lt
    obtain ⟨cC0, cC1, fC0, fC1⟩ := pair_cells C_7
    have lC := C_7.lt
    go_wp2_with fail
    clear cA0 cA1 fA0 fA1 lA cBx0 cBx1 fBx0 fBx1 lBx cC0 cC1 fC0 fC1 lC
    refine (Compare_any b1 b2 c1 c2 _).mono ?_
    rintro e w8 ⟨rfl, hb⟩
    rw [← HYY.out]
    have hM_8 := below_after hM_7 hb hM_7.size
    have A_8 := A_7.below hb A_7.lt
    have Bx_8 := Bx_7.below hb Bx_7.lt
    have C_8 := C_7.below hb C_7.lt
    have ht_8 := ht_7.below hb
    have hB_8 := below_after hB_7 hb hB_7.size
    clear A_7 Bx_7 C_7 ht_7 hB_7 hb
    have hs_8 := hB_8.size
    have htl_8 := ht_8.lt
    cases hy0 : decide (y ≤ 0)
    · skip
      obtain ⟨cA0, cA1, fA0, fA1⟩ := pair_cells A_8
      have lA := A_8.lt
      obtain ⟨cBx0, cBx1, fBx0, fBx1⟩ := pair_cells Bx_8
      have lBx := Bx_8.lt
      obtain ⟨cC0, cC1, fC0, fC1⟩ := pair_cells C_8
      have lC := C_8.lt
      go_wp2_with fail
      clear cA0 cA1 fA0 fA1 lA cBx0 cBx1 fBx0 fBx1 lBx cC0 cC1 fC0 fC1 lC
      go_meet
      exact ⟨rfl, hM_8⟩
    have hz := order_trans VA.out VB.out VC.out (by rw [← HX.out]; exact of_decide_eq_true hx0) (by rw [← HYY.out]; exact of_decide_eq_true hy0)
    obtain ⟨z, hze⟩ : ∃ z, z = cmpF a1 a2 c1 c2 := ⟨_, rfl⟩
    rw [← hze] at hz
    have HZ := Lib.hid hze
    clear hze
    have hz0 : decide (0 < z) = false := by simp; omega
    obtain ⟨cA0, cA1, fA0, fA1⟩ := pair_cells A_8
    have lA := A_8.lt
    obtain ⟨cBx0, cBx1, fBx0, fBx1⟩ := pair_cells Bx_8
    have lBx := Bx_8.lt
    obtain ⟨cC0, cC1, fC0, fC1⟩ := pair_cells C_8
    have lC := C_8.lt
    go_wp2_with fail
    clear cA0 cA1 fA0 fA1 lA cBx0 cBx1 fBx0 fBx1 lBx cC0 cC1 fC0 fC1 lC
    refine (Compare_any a1 a2 c1 c2 _).mono ?_
    rintro e w9 ⟨rfl, hb⟩
    rw [← HZ.out]
    have hM_9 := below_after hM_8 hb hM_8.size
    have A_9 := A_8.below hb A_8.lt
    have Bx_9 := Bx_8.below hb Bx_8.lt
    have C_9 := C_8.below hb C_8.lt
    have ht_9 := ht_8.below hb
    have hB_9 := below_after hB_8 hb hB_8.size
    clear A_8 Bx_8 C_8 ht_8 hB_8 hb
    have hs_9 := hB_9.size
    have htl_9 := ht_9.lt
    obtain ⟨cA0, cA1, fA0, fA1⟩ := pair_cells A_9
    have lA := A_9.lt
    obtain ⟨cBx0, cBx1, fBx0, fBx1⟩ := pair_cells Bx_9
    have lBx := Bx_9.lt
    obtain ⟨cC0, cC1, fC0, fC1⟩ := pair_cells C_9
    have lC := C_9.lt
    go_wp2_with fail
    clear cA0 cA1 fA0 fA1 lA cBx0 cBx1 fBx0 fBx1 lBx cC0 cC1 fC0 fC1 lC
    go_meet
    exact ⟨rfl, hM_9⟩
  case rest =>
    obtain ⟨rfl, hb⟩ := hcut
    obtain ⟨w7, hwc⟩ : ∃ x : World, x = wc := ⟨_, rfl⟩
    subst hwc
    clear cA0 cA1 fA0 fA1 lA cBx0 cBx1 fBx0 fBx1 lBx cC0 cC1 fC0 fC1 lC
    have A_7 := A_6.below hb A_6.lt
    have Bx_7 := Bx_6.below hb Bx_6.lt
    have C_7 := C_6.below hb C_6.lt
    have ht_7 := ht_6.below hb
    have hB_7 := below_after hB_6 hb hB_6.size
    clear A_6 Bx_6 C_6 ht_6 hB_6 hb
    have hs_7 := hB_7.size
    have htl_7 := ht_7.lt
    clear ht_7
    obtain ⟨P, hP⟩ : ∃ P, P = addF a1 a2 c1 c2 := ⟨_, rfl⟩
    obtain ⟨Q, hQ⟩ : ∃ Q, Q = addF b1 b2 c1 c2 := ⟨_, rfl⟩
    have HP := Lib.hid hP
    have HQ := Lib.hid hQ
    clear hP hQ
    obtain ⟨cA0, cA1, fA0, fA1⟩ := pair_cells A_7
    have lA := A_7.lt
    obtain ⟨cBx0, cBx1, fBx0, fBx1⟩ := pair_cells Bx_7
    have lBx := Bx_7.lt
    obtain ⟨cC0, cC1, fC0, fC1⟩ := pair_cells C_7
    have lC := C_7.lt
    go_wp2_with fail
    clear cA0 cA1 fA0 fA1 lA cBx0 cBx1 fBx0 fBx1 lBx cC0 cC1 fC0 fC1 lC
    refine (Add_any a1 a2 c1 c2 _).mono ?_
    rintro e w8 ⟨rfl, hb⟩
    rw [← HP.out]
    have A_8 := A_7.below hb A_7.lt
    have Bx_8 := Bx_7.below hb Bx_7.lt
    have C_8 := C_7.below hb C_7.lt
    have hB_8 := below_after hB_7 hb hB_7.size
    clear A_7 Bx_7 C_7 hB_7 hb
    have hs_8 := hB_8.size
    obtain ⟨cA0, cA1, fA0, fA1⟩ := pair_cells A_8
    have lA := A_8.lt
    obtain ⟨cBx0, cBx1, fBx0, fBx1⟩ := pair_cells Bx_8
    have lBx := Bx_8.lt
    obtain ⟨cC0, cC1, fC0, fC1⟩ := pair_cells C_8
    have lC := C_8.lt
    go_wp2_with fail
    clear cA0 cA1 fA0 fA1 lA cBx0 cBx1 fBx0 fBx1 lBx cC0 cC1 fC0 fC1 lC
    have hal : Below w8.heap.size w8 (w8.alloc (.cells #[.int .i64 P.n, .int .i64 P.d] 23)) := (Below.refl _ _).alloc (Nat.le_refl _) _
    have P_9 := Row.new w8 23 #[.int .i64 P.n, .int .i64 P.d]
    have oAP : gA + 0 < w8.heap.size := A_8.lt
    have A_9 := A_8.below hal A_8.lt
    have oBxP : gA + 1 < w8.heap.size := Bx_8.lt
    have Bx_9 := Bx_8.below hal Bx_8.lt
    have oCP : gA + 2 < w8.heap.size := C_8.lt
    have C_9 := C_8.below hal C_8.lt
    have hB_9 := below_after hB_8 hal hB_8.size
    clear hal A_8 Bx_8 C_8 hB_8
    generalize w8.alloc (Obj.cells #[Value.int .i64 P.n, Value.int .i64 P.d] 23) = w9 at A_9 Bx_9 C_9 P_9 hB_9 ⊢
    have hbx_9 : w.heap.size ≤ w8.heap.size := hs_8
    generalize hgP : w8.heap.size = gP at P_9 hbx_9 hs_8 oAP oBxP oCP  ⊢
    clear hgP
    have hs_9 := hB_9.size
    refine (Add_any b1 b2 c1 c2 _).mono ?_
    rintro e w10 ⟨rfl, hb⟩
    rw [← HQ.out]
    have A_10 := A_9.below hb A_9.lt
    have Bx_10 := Bx_9.below hb Bx_9.lt
    have C_10 := C_9.below hb C_9.lt
    have P_10 := P_9.below hb P_9.lt
    have hB_10 := below_after hB_9 hb hB_9.size
    clear A_9 Bx_9 C_9 P_9 hB_9 hb
    have hs_10 := hB_10.size
    obtain ⟨cA0, cA1, fA0, fA1⟩ := pair_cells A_10
    have lA := A_10.lt
    obtain ⟨cBx0, cBx1, fBx0, fBx1⟩ := pair_cells Bx_10
    have lBx := Bx_10.lt
    obtain ⟨cC0, cC1, fC0, fC1⟩ := pair_cells C_10
    have lC := C_10.lt
    obtain ⟨cP0, cP1, fP0, fP1⟩ := pair_cells P_10
    have lP := P_10.lt
    go_upto_region 8 with (fail)
    clear cA0 cA1 fA0 fA1 lA cBx0 cBx1 fBx0 fBx1 lBx cC0 cC1 fC0 fC1 lC cP0 cP1 fP0 fP1 lP
    have hal : Below w10.heap.size w10 (w10.alloc (.cells #[.int .i64 Q.n, .int .i64 Q.d] 23)) := (Below.refl _ _).alloc (Nat.le_refl _) _
    have Q_11 := Row.new w10 23 #[.int .i64 Q.n, .int .i64 Q.d]
    have oAQ : gA + 0 < w10.heap.size := A_10.lt
    have A_11 := A_10.below hal A_10.lt
    have oBxQ : gA + 1 < w10.heap.size := Bx_10.lt
    have Bx_11 := Bx_10.below hal Bx_10.lt
    have oCQ : gA + 2 < w10.heap.size := C_10.lt
    have C_11 := C_10.below hal C_10.lt
    have oPQ : gP < w10.heap.size := P_10.lt
    have P_11 := P_10.below hal P_10.lt
    have hB_11 := below_after hB_10 hal hB_10.size
    clear hal A_10 Bx_10 C_10 P_10 hB_10
    generalize w10.alloc (Obj.cells #[Value.int .i64 Q.n, Value.int .i64 Q.d] 23) = w11 at A_11 Bx_11 C_11 P_11 Q_11 hB_11 ⊢
    have hbx_11 : w.heap.size ≤ w10.heap.size := hs_10
    generalize hgQ : w10.heap.size = gQ at Q_11 hbx_11 hs_10 oAQ oBxQ oCQ oPQ  ⊢
    clear hgQ
    have hs_11 := hB_11.size
    obtain ⟨cA0, cA1, fA0, fA1⟩ := pair_cells A_11
    have lA := A_11.lt
    obtain ⟨cBx0, cBx1, fBx0, fBx1⟩ := pair_cells Bx_11
    have lBx := Bx_11.lt
    obtain ⟨cC0, cC1, fC0, fC1⟩ := pair_cells C_11
    have lC := C_11.lt
    obtain ⟨cP0, cP1, fP0, fP1⟩ := pair_cells P_11
    have lP := P_11.lt
    obtain ⟨cQ0, cQ1, fQ0, fQ1⟩ := pair_cells Q_11
    have lQ := Q_11.lt
    go_cut [78] (fun s wx => s = .bool false ∧ Below w11.heap.size w11 wx)
    case first =>
      have hM_11 : Below w11.heap.size w11 w11 := Below.refl _ _
      cases e0 : (P.e == 0)
      · skip
        obtain ⟨cA0, cA1, fA0, fA1⟩ := pair_cells A_11
        have lA := A_11.lt
        obtain ⟨cBx0, cBx1, fBx0, fBx1⟩ := pair_cells Bx_11
        have lBx := Bx_11.lt
        obtain ⟨cC0, cC1, fC0, fC1⟩ := pair_cells C_11
        have lC := C_11.lt
        obtain ⟨cP0, cP1, fP0, fP1⟩ := pair_cells P_11
        have lP := P_11.lt
        obtain ⟨cQ0, cQ1, fQ0, fQ1⟩ := pair_cells Q_11
        have lQ := Q_11.lt
        go_wp2_with fail
        clear cA0 cA1 fA0 fA1 lA cBx0 cBx1 fBx0 fBx1 lBx cC0 cC1 fC0 fC1 lC cP0 cP1 fP0 fP1 lP cQ0 cQ1 fQ0 fQ1 lQ
        go_meet
        exact ⟨rfl, hM_11⟩
      cases f0 : (Q.e == 0)
      · skip
        obtain ⟨cA0, cA1, fA0, fA1⟩ := pair_cells A_11
        have lA := A_11.lt
        obtain ⟨cBx0, cBx1, fBx0, fBx1⟩ := pair_cells Bx_11
        have lBx := Bx_11.lt
        obtain ⟨cC0, cC1, fC0, fC1⟩ := pair_cells C_11
        have lC := C_11.lt
        obtain ⟨cP0, cP1, fP0, fP1⟩ := pair_cells P_11
        have lP := P_11.lt
        obtain ⟨cQ0, cQ1, fQ0, fQ1⟩ := pair_cells Q_11
        have lQ := Q_11.lt
        go_wp2_with fail
        clear cA0 cA1 fA0 fA1 lA cBx0 cBx1 fBx0 fBx1 lBx cC0 cC1 fC0 fC1 lC cP0 cP1 fP0 fP1 lP cQ0 cQ1 fQ0 fQ1 lQ
        go_meet
        exact ⟨rfl, hM_11⟩
      have HL : Hid (cmpF P.n P.d Q.n Q.d = x) := by
        rw [Hid, HX.out, HP.out, HQ.out]
        exact order_add VA.out VB.out VC.out (by rw [← HP.out]; simpa using e0) (by rw [← HQ.out]; simpa using f0)
      have x1 : (x != x) = false := by simp
      have x2 : (x == x) = true := by simp
      obtain ⟨cA0, cA1, fA0, fA1⟩ := pair_cells A_11
      have lA := A_11.lt
      obtain ⟨cBx0, cBx1, fBx0, fBx1⟩ := pair_cells Bx_11
      have lBx := Bx_11.lt
      obtain ⟨cC0, cC1, fC0, fC1⟩ := pair_cells C_11
      have lC := C_11.lt
      obtain ⟨cP0, cP1, fP0, fP1⟩ := pair_cells P_11
      have lP := P_11.lt
      obtain ⟨cQ0, cQ1, fQ0, fQ1⟩ := pair_cells Q_11
      have lQ := Q_11.lt
      go_wp2_with fail
      clear cA0 cA1 fA0 fA1 lA cBx0 cBx1 fBx0 fBx1 lBx cC0 cC1 fC0 fC1 lC cP0 cP1 fP0 fP1 lP cQ0 cQ1 fQ0 fQ1 lQ
      refine (Compare_any P.n P.d Q.n Q.d _).mono ?_
      rintro e w12 ⟨rfl, hb⟩
      rw [HL.out]
      have hM_12 := below_after hM_11 hb hM_11.size
      have A_12 := A_11.below hb A_11.lt
      have Bx_12 := Bx_11.below hb Bx_11.lt
      have C_12 := C_11.below hb C_11.lt
      have P_12 := P_11.below hb P_11.lt
      have Q_12 := Q_11.below hb Q_11.lt
      have hB_12 := below_after hB_11 hb hB_11.size
      clear A_11 Bx_11 C_11 P_11 Q_11 hB_11 hb
      have hs_12 := hB_12.size
      obtain ⟨cA0, cA1, fA0, fA1⟩ := pair_cells A_12
      have lA := A_12.lt
      obtain ⟨cBx0, cBx1, fBx0, fBx1⟩ := pair_cells Bx_12
      have lBx := Bx_12.lt
      obtain ⟨cC0, cC1, fC0, fC1⟩ := pair_cells C_12
      have lC := C_12.lt
      obtain ⟨cP0, cP1, fP0, fP1⟩ := pair_cells P_12
      have lP := P_12.lt
      obtain ⟨cQ0, cQ1, fQ0, fQ1⟩ := pair_cells Q_12
      have lQ := Q_12.lt
      go_wp2_with fail
      clear cA0 cA1 fA0 fA1 lA cBx0 cBx1 fBx0 fBx1 lBx cC0 cC1 fC0 fC1 lC cP0 cP1 fP0 fP1 lP cQ0 cQ1 fQ0 fQ1 lQ
      go_meet
      exact ⟨rfl, hM_12⟩
    case rest =>
      obtain ⟨rfl, hb⟩ := hcut
      obtain ⟨w12, hwc⟩ : ∃ x : World, x = wc := ⟨_, rfl⟩
      subst hwc
      clear cA0 cA1 fA0 fA1 lA cBx0 cBx1 fBx0 fBx1 lBx cC0 cC1 fC0 fC1 lC cP0 cP1 fP0 fP1 lP cQ0 cQ1 fQ0 fQ1 lQ
      have A_12 := A_11.below hb A_11.lt
      have Bx_12 := Bx_11.below hb Bx_11.lt
      have C_12 := C_11.below hb C_11.lt
      have P_12 := P_11.below hb P_11.lt
      have Q_12 := Q_11.below hb Q_11.lt
      have hB_12 := below_after hB_11 hb hB_11.size
      clear A_11 Bx_11 C_11 P_11 Q_11 hB_11 hb
      have hs_12 := hB_12.size
      clear HP HQ
      obtain ⟨P2, hP⟩ : ∃ P, P = mulF a1 a2 c1 c2 := ⟨_, rfl⟩
      obtain ⟨Q2, hQ⟩ : ∃ Q, Q = mulF b1 b2 c1 c2 := ⟨_, rfl⟩
      have HP := Lib.hid hP
      have HQ := Lib.hid hQ
      clear hP hQ
      obtain ⟨cA0, cA1, fA0, fA1⟩ := pair_cells A_12
      have lA := A_12.lt
      obtain ⟨cBx0, cBx1, fBx0, fBx1⟩ := pair_cells Bx_12
      have lBx := Bx_12.lt
      obtain ⟨cC0, cC1, fC0, fC1⟩ := pair_cells C_12
      have lC := C_12.lt
      obtain ⟨cP0, cP1, fP0, fP1⟩ := pair_cells P_12
      have lP := P_12.lt
      obtain ⟨cQ0, cQ1, fQ0, fQ1⟩ := pair_cells Q_12
      have lQ := Q_12.lt
      go_wp2_with fail
      clear cA0 cA1 fA0 fA1 lA cBx0 cBx1 fBx0 fBx1 lBx cC0 cC1 fC0 fC1 lC cP0 cP1 fP0 fP1 lP cQ0 cQ1 fQ0 fQ1 lQ
      refine (Mul_any a1 a2 c1 c2 _).mono ?_
      rintro e w13 ⟨rfl, hb⟩
      rw [← HP.out]
      have A_13 := A_12.below hb A_12.lt
      have Bx_13 := Bx_12.below hb Bx_12.lt
      have C_13 := C_12.below hb C_12.lt
      have P_13 := P_12.below hb P_12.lt
      have Q_13 := Q_12.below hb Q_12.lt
      have hB_13 := below_after hB_12 hb hB_12.size
      clear A_12 Bx_12 C_12 P_12 Q_12 hB_12 hb
      have hs_13 := hB_13.size
      obtain ⟨cA0, cA1, fA0, fA1⟩ := pair_cells A_13
      have lA := A_13.lt
      obtain ⟨cBx0, cBx1, fBx0, fBx1⟩ := pair_cells Bx_13
      have lBx := Bx_13.lt
      obtain ⟨cC0, cC1, fC0, fC1⟩ := pair_cells C_13
      have lC := C_13.lt
      obtain ⟨cP0, cP1, fP0, fP1⟩ := pair_cells P_13
      have lP := P_13.lt
      obtain ⟨cQ0, cQ1, fQ0, fQ1⟩ := pair_cells Q_13
      have lQ := Q_13.lt
      go_wp2_with fail
      clear cA0 cA1 fA0 fA1 lA cBx0 cBx1 fBx0 fBx1 lBx cC0 cC1 fC0 fC1 lC cP0 cP1 fP0 fP1 lP cQ0 cQ1 fQ0 fQ1 lQ
      have A_14 := (A_13.far (p := ⟨gP, 0, none⟩) (show gA + 0 ≠ gP by omega) (.int .i64 P2.n)).far (p := ⟨gP, 1, none⟩) (show gA + 0 ≠ gP by omega) (.int .i64 P2.d)
      have Bx_14 := (Bx_13.far (p := ⟨gP, 0, none⟩) (show gA + 1 ≠ gP by omega) (.int .i64 P2.n)).far (p := ⟨gP, 1, none⟩) (show gA + 1 ≠ gP by omega) (.int .i64 P2.d)
      have C_14 := (C_13.far (p := ⟨gP, 0, none⟩) (show gA + 2 ≠ gP by omega) (.int .i64 P2.n)).far (p := ⟨gP, 1, none⟩) (show gA + 2 ≠ gP by omega) (.int .i64 P2.d)
      have P_14 : Row ((w13.setCell ⟨gP, 0, none⟩ (.int .i64 P2.n)).setCell ⟨gP, 1, none⟩ (.int .i64 P2.d)) (gP) 23 #[.int .i64 P2.n, .int .i64 P2.d] := (P_13.set 0 _).set 1 _
      have Q_14 := (Q_13.far (p := ⟨gP, 0, none⟩) (show gQ ≠ gP by omega) (.int .i64 P2.n)).far (p := ⟨gP, 1, none⟩) (show gQ ≠ gP by omega) (.int .i64 P2.d)
      have hB_14 : Below w.heap.size w ((w13.setCell ⟨gP, 0, none⟩ (.int .i64 P2.n)).setCell ⟨gP, 1, none⟩ (.int .i64 P2.d)) := Below.set2 hB_13 (by omega) _ _
      clear A_13 Bx_13 C_13 P_13 Q_13 hB_13
      generalize ((w13.setCell ⟨gP, 0, none⟩ (.int .i64 P2.n)).setCell ⟨gP, 1, none⟩ (.int .i64 P2.d)) = w14 at A_14 Bx_14 C_14 P_14 Q_14 hB_14 ⊢
      have hs_14 := hB_14.size
      refine (Mul_any b1 b2 c1 c2 _).mono ?_
      rintro e w15 ⟨rfl, hb⟩
      rw [← HQ.out]
      have A_15 := A_14.below hb A_14.lt
      have Bx_15 := Bx_14.below hb Bx_14.lt
      have C_15 := C_14.below hb C_14.lt
      have P_15 := P_14.below hb P_14.lt
      have Q_15 := Q_14.below hb Q_14.lt
      have hB_15 := below_after hB_14 hb hB_14.size
      clear A_14 Bx_14 C_14 P_14 Q_14 hB_14 hb
      have hs_15 := hB_15.size
      obtain ⟨cA0, cA1, fA0, fA1⟩ := pair_cells A_15
      have lA := A_15.lt
      obtain ⟨cBx0, cBx1, fBx0, fBx1⟩ := pair_cells Bx_15
      have lBx := Bx_15.lt
      obtain ⟨cC0, cC1, fC0, fC1⟩ := pair_cells C_15
      have lC := C_15.lt
      obtain ⟨cP0, cP1, fP0, fP1⟩ := pair_cells P_15
      have lP := P_15.lt
      obtain ⟨cQ0, cQ1, fQ0, fQ1⟩ := pair_cells Q_15
      have lQ := Q_15.lt
      go_upto_region 12 with (fail)
      clear cA0 cA1 fA0 fA1 lA cBx0 cBx1 fBx0 fBx1 lBx cC0 cC1 fC0 fC1 lC cP0 cP1 fP0 fP1 lP cQ0 cQ1 fQ0 fQ1 lQ
      have A_16 := (A_15.far (p := ⟨gQ, 0, none⟩) (show gA + 0 ≠ gQ by omega) (.int .i64 Q2.n)).far (p := ⟨gQ, 1, none⟩) (show gA + 0 ≠ gQ by omega) (.int .i64 Q2.d)
      have Bx_16 := (Bx_15.far (p := ⟨gQ, 0, none⟩) (show gA + 1 ≠ gQ by omega) (.int .i64 Q2.n)).far (p := ⟨gQ, 1, none⟩) (show gA + 1 ≠ gQ by omega) (.int .i64 Q2.d)
      have C_16 := (C_15.far (p := ⟨gQ, 0, none⟩) (show gA + 2 ≠ gQ by omega) (.int .i64 Q2.n)).far (p := ⟨gQ, 1, none⟩) (show gA + 2 ≠ gQ by omega) (.int .i64 Q2.d)
      have P_16 := (P_15.far (p := ⟨gQ, 0, none⟩) (show gP ≠ gQ by omega) (.int .i64 Q2.n)).far (p := ⟨gQ, 1, none⟩) (show gP ≠ gQ by omega) (.int .i64 Q2.d)
      have Q_16 : Row ((w15.setCell ⟨gQ, 0, none⟩ (.int .i64 Q2.n)).setCell ⟨gQ, 1, none⟩ (.int .i64 Q2.d)) (gQ) 23 #[.int .i64 Q2.n, .int .i64 Q2.d] := (Q_15.set 0 _).set 1 _
      have hB_16 : Below w.heap.size w ((w15.setCell ⟨gQ, 0, none⟩ (.int .i64 Q2.n)).setCell ⟨gQ, 1, none⟩ (.int .i64 Q2.d)) := Below.set2 hB_15 (by omega) _ _
      clear A_15 Bx_15 C_15 P_15 Q_15 hB_15
      generalize ((w15.setCell ⟨gQ, 0, none⟩ (.int .i64 Q2.n)).setCell ⟨gQ, 1, none⟩ (.int .i64 Q2.d)) = w16 at A_16 Bx_16 C_16 P_16 Q_16 hB_16 ⊢
      have hs_16 := hB_16.size
      obtain ⟨cA0, cA1, fA0, fA1⟩ := pair_cells A_16
      have lA := A_16.lt
      obtain ⟨cBx0, cBx1, fBx0, fBx1⟩ := pair_cells Bx_16
      have lBx := Bx_16.lt
      obtain ⟨cC0, cC1, fC0, fC1⟩ := pair_cells C_16
      have lC := C_16.lt
      obtain ⟨cP0, cP1, fP0, fP1⟩ := pair_cells P_16
      have lP := P_16.lt
      obtain ⟨cQ0, cQ1, fQ0, fQ1⟩ := pair_cells Q_16
      have lQ := Q_16.lt
      go_cut [108] (fun s wx => s = .bool false ∧ Below w16.heap.size w16 wx)
      case first =>
        have hM_16 : Below w16.heap.size w16 w16 := Below.refl _ _
        cases e0 : (P2.e == 0)
        · skip
          obtain ⟨cA0, cA1, fA0, fA1⟩ := pair_cells A_16
          have lA := A_16.lt
          obtain ⟨cBx0, cBx1, fBx0, fBx1⟩ := pair_cells Bx_16
          have lBx := Bx_16.lt
          obtain ⟨cC0, cC1, fC0, fC1⟩ := pair_cells C_16
          have lC := C_16.lt
          obtain ⟨cP0, cP1, fP0, fP1⟩ := pair_cells P_16
          have lP := P_16.lt
          obtain ⟨cQ0, cQ1, fQ0, fQ1⟩ := pair_cells Q_16
          have lQ := Q_16.lt
          go_wp2_with fail
          clear cA0 cA1 fA0 fA1 lA cBx0 cBx1 fBx0 fBx1 lBx cC0 cC1 fC0 fC1 lC cP0 cP1 fP0 fP1 lP cQ0 cQ1 fQ0 fQ1 lQ
          go_meet
          exact ⟨rfl, hM_16⟩
        cases f0 : (Q2.e == 0)
        · skip
          obtain ⟨cA0, cA1, fA0, fA1⟩ := pair_cells A_16
          have lA := A_16.lt
          obtain ⟨cBx0, cBx1, fBx0, fBx1⟩ := pair_cells Bx_16
          have lBx := Bx_16.lt
          obtain ⟨cC0, cC1, fC0, fC1⟩ := pair_cells C_16
          have lC := C_16.lt
          obtain ⟨cP0, cP1, fP0, fP1⟩ := pair_cells P_16
          have lP := P_16.lt
          obtain ⟨cQ0, cQ1, fQ0, fQ1⟩ := pair_cells Q_16
          have lQ := Q_16.lt
          go_wp2_with fail
          clear cA0 cA1 fA0 fA1 lA cBx0 cBx1 fBx0 fBx1 lBx cC0 cC1 fC0 fC1 lC cP0 cP1 fP0 fP1 lP cQ0 cQ1 fQ0 fQ1 lQ
          go_meet
          exact ⟨rfl, hM_16⟩
        cases n0 : decide (0 < c1)
        · skip
          obtain ⟨cA0, cA1, fA0, fA1⟩ := pair_cells A_16
          have lA := A_16.lt
          obtain ⟨cBx0, cBx1, fBx0, fBx1⟩ := pair_cells Bx_16
          have lBx := Bx_16.lt
          obtain ⟨cC0, cC1, fC0, fC1⟩ := pair_cells C_16
          have lC := C_16.lt
          obtain ⟨cP0, cP1, fP0, fP1⟩ := pair_cells P_16
          have lP := P_16.lt
          obtain ⟨cQ0, cQ1, fQ0, fQ1⟩ := pair_cells Q_16
          have lQ := Q_16.lt
          go_wp2_with fail
          clear cA0 cA1 fA0 fA1 lA cBx0 cBx1 fBx0 fBx1 lBx cC0 cC1 fC0 fC1 lC cP0 cP1 fP0 fP1 lP cQ0 cQ1 fQ0 fQ1 lQ
          go_meet
          exact ⟨rfl, hM_16⟩
        have HL : Hid (cmpF P2.n P2.d Q2.n Q2.d = x) := by
          rw [Hid, HX.out, HP.out, HQ.out]
          exact order_mul VA.out VB.out VC.out (of_decide_eq_true n0) (by rw [← HP.out]; simpa using e0) (by rw [← HQ.out]; simpa using f0)
        have x1 : (x != x) = false := by simp
        have x2 : (x == x) = true := by simp
        obtain ⟨cA0, cA1, fA0, fA1⟩ := pair_cells A_16
        have lA := A_16.lt
        obtain ⟨cBx0, cBx1, fBx0, fBx1⟩ := pair_cells Bx_16
        have lBx := Bx_16.lt
        obtain ⟨cC0, cC1, fC0, fC1⟩ := pair_cells C_16
        have lC := C_16.lt
        obtain ⟨cP0, cP1, fP0, fP1⟩ := pair_cells P_16
        have lP := P_16.lt
        obtain ⟨cQ0, cQ1, fQ0, fQ1⟩ := pair_cells Q_16
        have lQ := Q_16.lt
        go_wp2_with fail
        clear cA0 cA1 fA0 fA1 lA cBx0 cBx1 fBx0 fBx1 lBx cC0 cC1 fC0 fC1 lC cP0 cP1 fP0 fP1 lP cQ0 cQ1 fQ0 fQ1 lQ
        refine (Compare_any P2.n P2.d Q2.n Q2.d _).mono ?_
        rintro e w17 ⟨rfl, hb⟩
        rw [HL.out]
        have hM_17 := below_after hM_16 hb hM_16.size
        have A_17 := A_16.below hb A_16.lt
        have Bx_17 := Bx_16.below hb Bx_16.lt
        have C_17 := C_16.below hb C_16.lt
        have P_17 := P_16.below hb P_16.lt
        have Q_17 := Q_16.below hb Q_16.lt
        have hB_17 := below_after hB_16 hb hB_16.size
        clear A_16 Bx_16 C_16 P_16 Q_16 hB_16 hb
        have hs_17 := hB_17.size
        obtain ⟨cA0, cA1, fA0, fA1⟩ := pair_cells A_17
        have lA := A_17.lt
        obtain ⟨cBx0, cBx1, fBx0, fBx1⟩ := pair_cells Bx_17
        have lBx := Bx_17.lt
        obtain ⟨cC0, cC1, fC0, fC1⟩ := pair_cells C_17
        have lC := C_17.lt
        obtain ⟨cP0, cP1, fP0, fP1⟩ := pair_cells P_17
        have lP := P_17.lt
        obtain ⟨cQ0, cQ1, fQ0, fQ1⟩ := pair_cells Q_17
        have lQ := Q_17.lt
        go_wp2_with fail
        clear cA0 cA1 fA0 fA1 lA cBx0 cBx1 fBx0 fBx1 lBx cC0 cC1 fC0 fC1 lC cP0 cP1 fP0 fP1 lP cQ0 cQ1 fQ0 fQ1 lQ
        go_meet
        exact ⟨rfl, hM_17⟩
      case rest =>
        obtain ⟨rfl, hb⟩ := hcut
        obtain ⟨w17, hwc⟩ : ∃ x : World, x = wc := ⟨_, rfl⟩
        subst hwc
        clear cA0 cA1 fA0 fA1 lA cBx0 cBx1 fBx0 fBx1 lBx cC0 cC1 fC0 fC1 lC cP0 cP1 fP0 fP1 lP cQ0 cQ1 fQ0 fQ1 lQ
        have A_17 := A_16.below hb A_16.lt
        have Bx_17 := Bx_16.below hb Bx_16.lt
        have C_17 := C_16.below hb C_16.lt
        have P_17 := P_16.below hb P_16.lt
        have Q_17 := Q_16.below hb Q_16.lt
        have hB_17 := below_after hB_16 hb hB_16.size
        clear A_16 Bx_16 C_16 P_16 Q_16 hB_16 hb
        have hs_17 := hB_17.size
        clear HP HQ
        obtain ⟨n, hn⟩ : ∃ n, n = flrF a1 a2 := ⟨_, rfl⟩
        have hfb := (flr_bound VA.out).2
        rw [← hn] at hfb
        have HF := Lib.hid hn
        clear hn
        have hle := order_floor VA.out
        rw [← HF.out] at hle
        obtain ⟨y, hy⟩ : ∃ y, y = cmpF n 1 a1 a2 := ⟨_, rfl⟩
        rw [← hy] at hle
        have HY := Lib.hid hy
        clear hy
        have y0 : decide (y ≤ 0) = true := by simpa using hle
        obtain ⟨cA0, cA1, fA0, fA1⟩ := pair_cells A_17
        have lA := A_17.lt
        obtain ⟨cBx0, cBx1, fBx0, fBx1⟩ := pair_cells Bx_17
        have lBx := Bx_17.lt
        obtain ⟨cC0, cC1, fC0, fC1⟩ := pair_cells C_17
        have lC := C_17.lt
        obtain ⟨cP0, cP1, fP0, fP1⟩ := pair_cells P_17
        have lP := P_17.lt
        obtain ⟨cQ0, cQ1, fQ0, fQ1⟩ := pair_cells Q_17
        have lQ := Q_17.lt
        go_wp2_with fail
        clear cA0 cA1 fA0 fA1 lA cBx0 cBx1 fBx0 fBx1 lBx cC0 cC1 fC0 fC1 lC cP0 cP1 fP0 fP1 lP cQ0 cQ1 fQ0 fQ1 lQ
        refine (Floor_any a1 a2 _).mono ?_
        rintro e w18 ⟨rfl, hb⟩
        rw [← HF.out]
        have A_18 := A_17.below hb A_17.lt
        have Bx_18 := Bx_17.below hb Bx_17.lt
        have C_18 := C_17.below hb C_17.lt
        have P_18 := P_17.below hb P_17.lt
        have Q_18 := Q_17.below hb Q_17.lt
        have hB_18 := below_after hB_17 hb hB_17.size
        clear A_17 Bx_17 C_17 P_17 Q_17 hB_17 hb
        have hs_18 := hB_18.size
        obtain ⟨cA0, cA1, fA0, fA1⟩ := pair_cells A_18
        have lA := A_18.lt
        obtain ⟨cBx0, cBx1, fBx0, fBx1⟩ := pair_cells Bx_18
        have lBx := Bx_18.lt
        obtain ⟨cC0, cC1, fC0, fC1⟩ := pair_cells C_18
        have lC := C_18.lt
        obtain ⟨cP0, cP1, fP0, fP1⟩ := pair_cells P_18
        have lP := P_18.lt
        obtain ⟨cQ0, cQ1, fQ0, fQ1⟩ := pair_cells Q_18
        have lQ := Q_18.lt
        go_wp2_with fail
        clear cA0 cA1 fA0 fA1 lA cBx0 cBx1 fBx0 fBx1 lBx cC0 cC1 fC0 fC1 lC cP0 cP1 fP0 fP1 lP cQ0 cQ1 fQ0 fQ1 lQ
        refine (Compare_any n 1 a1 a2 _).mono ?_
        rintro e w19 ⟨rfl, hb⟩
        rw [← HY.out]
        have A_19 := A_18.below hb A_18.lt
        have Bx_19 := Bx_18.below hb Bx_18.lt
        have C_19 := C_18.below hb C_18.lt
        have P_19 := P_18.below hb P_18.lt
        have Q_19 := Q_18.below hb Q_18.lt
        have hB_19 := below_after hB_18 hb hB_18.size
        clear A_18 Bx_18 C_18 P_18 Q_18 hB_18 hb
        have hs_19 := hB_19.size
        cases n0 : decide (1000000000000 ≤ n)
        · have hup := order_above VA.out (by rw [← HF.out]; simp at n0; omega)
          rw [← HF.out] at hup
          obtain ⟨z, hz⟩ : ∃ z, z = cmpF (n + 1) 1 a1 a2 := ⟨_, rfl⟩
          rw [← hz] at hup
          have HZ := Lib.hid hz
          clear hz
          have z0 : decide (0 < z) = true := by simpa using hup
          obtain ⟨cA0, cA1, fA0, fA1⟩ := pair_cells A_19
          have lA := A_19.lt
          obtain ⟨cBx0, cBx1, fBx0, fBx1⟩ := pair_cells Bx_19
          have lBx := Bx_19.lt
          obtain ⟨cC0, cC1, fC0, fC1⟩ := pair_cells C_19
          have lC := C_19.lt
          obtain ⟨cP0, cP1, fP0, fP1⟩ := pair_cells P_19
          have lP := P_19.lt
          obtain ⟨cQ0, cQ1, fQ0, fQ1⟩ := pair_cells Q_19
          have lQ := Q_19.lt
          go_wp2_with fail
          clear cA0 cA1 fA0 fA1 lA cBx0 cBx1 fBx0 fBx1 lBx cC0 cC1 fC0 fC1 lC cP0 cP1 fP0 fP1 lP cQ0 cQ1 fQ0 fQ1 lQ
          refine (Compare_any (n + 1) 1 a1 a2 _).mono ?_
          rintro e w20 ⟨rfl, hb⟩
          rw [← HZ.out]
          have A_20 := A_19.below hb A_19.lt
          have Bx_20 := Bx_19.below hb Bx_19.lt
          have C_20 := C_19.below hb C_19.lt
          have P_20 := P_19.below hb P_19.lt
          have Q_20 := Q_19.below hb Q_19.lt
          have hB_20 := below_after hB_19 hb hB_19.size
          clear A_19 Bx_19 C_19 P_19 Q_19 hB_19 hb
          have hs_20 := hB_20.size
          obtain ⟨cA0, cA1, fA0, fA1⟩ := pair_cells A_20
          have lA := A_20.lt
          obtain ⟨cBx0, cBx1, fBx0, fBx1⟩ := pair_cells Bx_20
          have lBx := Bx_20.lt
          obtain ⟨cC0, cC1, fC0, fC1⟩ := pair_cells C_20
          have lC := C_20.lt
          obtain ⟨cP0, cP1, fP0, fP1⟩ := pair_cells P_20
          have lP := P_20.lt
          obtain ⟨cQ0, cQ1, fQ0, fQ1⟩ := pair_cells Q_20
          have lQ := Q_20.lt
          go_wp2_with fail
          clear cA0 cA1 fA0 fA1 lA cBx0 cBx1 fBx0 fBx1 lBx cC0 cC1 fC0 fC1 lC cP0 cP1 fP0 fP1 lP cQ0 cQ1 fQ0 fQ1 lQ
          refine (sane_any _ (HT.out.below hB_20) (HE.out.below hB_20)).mono ?_
          rintro e wz ⟨rfl, hbz⟩
          go_wp2
          go_ret
          exact ⟨rfl, below_after hB_20 hbz hB_20.size⟩
        obtain ⟨cA0, cA1, fA0, fA1⟩ := pair_cells A_19
        have lA := A_19.lt
        obtain ⟨cBx0, cBx1, fBx0, fBx1⟩ := pair_cells Bx_19
        have lBx := Bx_19.lt
        obtain ⟨cC0, cC1, fC0, fC1⟩ := pair_cells C_19
        have lC := C_19.lt
        obtain ⟨cP0, cP1, fP0, fP1⟩ := pair_cells P_19
        have lP := P_19.lt
        obtain ⟨cQ0, cQ1, fQ0, fQ1⟩ := pair_cells Q_19
        have lQ := Q_19.lt
        go_wp2_with fail
        clear cA0 cA1 fA0 fA1 lA cBx0 cBx1 fBx0 fBx1 lBx cC0 cC1 fC0 fC1 lC cP0 cP1 fP0 fP1 lP cQ0 cQ1 fQ0 fQ1 lQ
        refine (sane_any _ (HT.out.below hB_19) (HE.out.below hB_19)).mono ?_
        rintro e wz ⟨rfl, hbz⟩
        go_wp2
        go_ret
        exact ⟨rfl, below_after hB_19 hbz hB_19.size⟩
end Go.Proofs.YtkdmbkhgcahpiaaDoor
