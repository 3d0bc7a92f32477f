/- Contracts of Add, Sub, Compare and Neg of packages ratio and payrollref1, Div of payrollref1. -/
import Derived.Test.YtkdmbkhgcahpiaaDoorRef11
import Derived.Test.YtkdmbkhgcahpiaaDoorRatS
namespace Go.Proofs.YtkdmbkhgcahpiaaDoor
open Go.RowKit

theorem two_no {a b c d : Int} (h : (vldB a b && vldB c d) = false) (q : Rat) : two a b c d q = ⟨0, 0, 1⟩ := by rw [two, h]; rfl
theorem prod_in {a b : Int} (ha : -1000000000000 ≤ a ∧ a ≤ 1000000000000) (hb : 1 ≤ b ∧ b ≤ 1000000) : -1000000000000000000 ≤ a * b ∧ a * b ≤ 1000000000000000000 := by
  have h1 : a * b ≤ 1000000000000 * b := Int.mul_le_mul_of_nonneg_right ha.2 (by omega)
  have h2 : -1000000000000 * b ≤ a * b := Int.mul_le_mul_of_nonneg_right ha.1 (by omega)
  omega
theorem den_in {a b : Int} (ha : 1 ≤ a ∧ a ≤ 1000000) (hb : 1 ≤ b ∧ b ≤ 1000000) : 1 ≤ a * b ∧ a * b ≤ 1000000000000 := by
  have h1 : a * b ≤ 1000000 * b := Int.mul_le_mul_of_nonneg_right ha.2 (by omega)
  have h2 : 1 * b ≤ a * b := Int.mul_le_mul_of_nonneg_right ha.1 (by omega)
  omega

theorem div_no {a b c d : Int} (h : (vldB a b && vldB c d) = false) : divF a b c d = ⟨0, 0, 1⟩ := by rw [divF, h]; rfl

set_option maxRecDepth 100000 in
set_option maxHeartbeats 1600000 in
theorem Add_any (a b c d : Int) (w : World) :
    Calls Tryd.prog 24 #[.agg #[.int .i64 a, .int .i64 b], .agg #[.int .i64 c, .int .i64 d]] w (RetF (addF a b c d) w) := by
  cases hv1 : vldB a b
  · have HV1 := Lib.hid hv1
    have HE : Hid (addF a b c d = ⟨0, 0, 1⟩) := two_no (by rw [hv1]; rfl) _
    clear hv1
    go_enter Tryd.func24, Tryd.ntmps24
    go_wp2_with fail
    obtain ⟨rA, rB, rR, hb0⟩ := rows3 w 23 #[.int .i64 a, .int .i64 b] #[.int .i64 c, .int .i64 d] #[.int .i64 0, .int .i64 0]
    generalize (((w.alloc (Obj.cells #[Value.int .i64 a, Value.int .i64 b] 23)).alloc (Obj.cells #[Value.int .i64 c, Value.int .i64 d] 23)).alloc (Obj.cells #[Value.int .i64 0, Value.int .i64 0] 23)) = w0 at rA rB rR hb0 ⊢
    have hs0 := hb0.size
    refine (Valid_any a b _).mono ?_
    rintro e w1 ⟨rfl, hb1⟩
    rw [HV1.out]
    have hB1 := below_after hb0 hb1 hs0
    have rA1 := rA.below hb1 rA.lt
    have rB1 := rB.below hb1 rB.lt
    have rR1 := rR.below hb1 rR.lt
    clear rA rB rR hb0 hb1 hs0
    obtain ⟨c0, c1, f0, f1⟩ := pair_cells rR1
    go_wp2_with fail
    refine bodyPost_ret (v := .tuple #[.agg #[.int .i64 0, .int .i64 0], .int .i64 1]) (by simp [results, Tryd.results24, go_sem, c0, c1]) rfl (RetF.of HE.out ?_)
    exact Below.set2 hB1 (by omega) _ _
  · cases hv2 : vldB c d
    · have HV1 := Lib.hid hv1
      have HV2 := Lib.hid hv2
      have HE : Hid (addF a b c d = ⟨0, 0, 1⟩) := two_no (by rw [hv1, hv2]; rfl) _
      clear hv1 hv2
      go_enter Tryd.func24, Tryd.ntmps24
      go_wp2_with fail
      obtain ⟨rA, rB, rR, hb0⟩ := rows3 w 23 #[.int .i64 a, .int .i64 b] #[.int .i64 c, .int .i64 d] #[.int .i64 0, .int .i64 0]
      generalize (((w.alloc (Obj.cells #[Value.int .i64 a, Value.int .i64 b] 23)).alloc (Obj.cells #[Value.int .i64 c, Value.int .i64 d] 23)).alloc (Obj.cells #[Value.int .i64 0, Value.int .i64 0] 23)) = w0 at rA rB rR hb0 ⊢
      have hs0 := hb0.size
      refine (Valid_any a b _).mono ?_
      rintro e w1 ⟨rfl, hb1⟩
      rw [HV1.out]
      have hB1 := below_after hb0 hb1 hs0
      have rA1 := rA.below hb1 rA.lt
      have rB1 := rB.below hb1 rB.lt
      have rR1 := rR.below hb1 rR.lt
      clear rA rB rR hb0 hb1 hs0
      obtain ⟨b0, b1, _, _⟩ := pair_cells rB1
      have hs1 := hB1.size
      go_wp2_with fail
      refine (Valid_any c d _).mono ?_
      rintro e w2 ⟨rfl, hb2⟩
      rw [HV2.out]
      have hB2 := below_after hB1 hb2 hs1
      have rA2 := rA1.below hb2 rA1.lt
      have rB2 := rB1.below hb2 rB1.lt
      have rR2 := rR1.below hb2 rR1.lt
      clear rA1 rB1 rR1 hB1 hb2 hs1 b0 b1
      obtain ⟨c0, c1, f0, f1⟩ := pair_cells rR2
      go_wp2_with fail
      refine bodyPost_ret (v := .tuple #[.agg #[.int .i64 0, .int .i64 0], .int .i64 1]) (by simp [results, Tryd.results24, go_sem, c0, c1]) rfl (RetF.of HE.out ?_)
      exact Below.set2 hB2 (by omega) _ _
    · have HV1 := Lib.hid hv1
      have HV2 := Lib.hid hv2
      obtain ⟨i1, i2, i3, i4, _⟩ := vld_iff.1 hv1
      obtain ⟨j1, j2, j3, j4, _⟩ := vld_iff.1 hv2
      have m1 := prod_in (a := a) (b := d) ⟨i3, i4⟩ ⟨j1, j2⟩
      have m2 := prod_in (a := c) (b := b) ⟨j3, j4⟩ ⟨i1, i2⟩
      have m3 := den_in (a := b) (b := d) ⟨i1, i2⟩ ⟨j1, j2⟩
      have HE : Hid (addF a b c d = newF (a * d + c * b) (b * d)) := by
        rw [Hid, addF, two_yes hv1 hv2, newF, if_neg (by omega), rq_add hv1 hv2]
      clear hv1 hv2
      go_enter Tryd.func24, Tryd.ntmps24
      go_wp2_with fail
      obtain ⟨rA, rB, rR, hb0⟩ := rows3 w 23 #[.int .i64 a, .int .i64 b] #[.int .i64 c, .int .i64 d] #[.int .i64 0, .int .i64 0]
      generalize (((w.alloc (Obj.cells #[Value.int .i64 a, Value.int .i64 b] 23)).alloc (Obj.cells #[Value.int .i64 c, Value.int .i64 d] 23)).alloc (Obj.cells #[Value.int .i64 0, Value.int .i64 0] 23)) = w0 at rA rB rR hb0 ⊢
      have hs0 := hb0.size
      refine (Valid_any a b _).mono ?_
      rintro e w1 ⟨rfl, hb1⟩
      rw [HV1.out]
      have hB1 := below_after hb0 hb1 hs0
      have rA1 := rA.below hb1 rA.lt
      have rB1 := rB.below hb1 rB.lt
      have rR1 := rR.below hb1 rR.lt
      clear rA rB rR hb0 hb1 hs0
      obtain ⟨b0, b1, _, _⟩ := pair_cells rB1
      have hs1 := hB1.size
      go_wp2_with fail
      refine (Valid_any c d _).mono ?_
      rintro e w2 ⟨rfl, hb2⟩
      rw [HV2.out]
      have hB2 := below_after hB1 hb2 hs1
      have rA2 := rA1.below hb2 rA1.lt
      have rB2 := rB1.below hb2 rB1.lt
      have rR2 := rR1.below hb2 rR1.lt
      clear rA1 rB1 rR1 hB1 hb2 hs1 b0 b1
      obtain ⟨a0, a1, _, _⟩ := pair_cells rA2
      obtain ⟨b0, b1, _, _⟩ := pair_cells rB2
      have hs2 := hB2.size
      go_wp2_with fail
      refine (New_any (a * d + c * b) (b * d) _ (by omega) (by omega)).mono ?_
      rintro e w3 ⟨rfl, hb3⟩
      rw [← HE.out]
      have hB3 := below_after hB2 hb3 hs2
      obtain ⟨c0, c1, f0, f1⟩ := pair_cells (rR2.below hb3 rR2.lt)
      clear rA2 rB2 rR2 hB2 hb3 a0 a1 b0 b1
      go_wp2_with fail
      refine bodyPost_ret (v := .tuple #[.agg #[.int .i64 (addF a b c d).n, .int .i64 (addF a b c d).d], .int .i64 (addF a b c d).e]) (by simp [results, Tryd.results24, go_sem, c0, c1]) rfl (RetF.of rfl ?_)
      exact Below.set2 hB3 (by omega) _ _

set_option maxRecDepth 100000 in
set_option maxHeartbeats 1600000 in
theorem Sub_any (a b c d : Int) (w : World) :
    Calls Tryd.prog 27 #[.agg #[.int .i64 a, .int .i64 b], .agg #[.int .i64 c, .int .i64 d]] w (RetF (subF a b c d) w) := by
  cases hv1 : vldB a b
  · have HV1 := Lib.hid hv1
    have HE : Hid (subF a b c d = ⟨0, 0, 1⟩) := two_no (by rw [hv1]; rfl) _
    clear hv1
    go_enter Tryd.func27, Tryd.ntmps27
    go_wp2_with fail
    obtain ⟨rA, rB, rR, hb0⟩ := rows3 w 23 #[.int .i64 a, .int .i64 b] #[.int .i64 c, .int .i64 d] #[.int .i64 0, .int .i64 0]
    generalize (((w.alloc (Obj.cells #[Value.int .i64 a, Value.int .i64 b] 23)).alloc (Obj.cells #[Value.int .i64 c, Value.int .i64 d] 23)).alloc (Obj.cells #[Value.int .i64 0, Value.int .i64 0] 23)) = w0 at rA rB rR hb0 ⊢
    have hs0 := hb0.size
    refine (Valid_any a b _).mono ?_
    rintro e w1 ⟨rfl, hb1⟩
    rw [HV1.out]
    have hB1 := below_after hb0 hb1 hs0
    have rA1 := rA.below hb1 rA.lt
    have rB1 := rB.below hb1 rB.lt
    have rR1 := rR.below hb1 rR.lt
    clear rA rB rR hb0 hb1 hs0
    obtain ⟨c0, c1, f0, f1⟩ := pair_cells rR1
    go_wp2_with fail
    refine bodyPost_ret (v := .tuple #[.agg #[.int .i64 0, .int .i64 0], .int .i64 1]) (by simp [results, Tryd.results27, go_sem, c0, c1]) rfl (RetF.of HE.out ?_)
    exact Below.set2 hB1 (by omega) _ _
  · cases hv2 : vldB c d
    · have HV1 := Lib.hid hv1
      have HV2 := Lib.hid hv2
      have HE : Hid (subF a b c d = ⟨0, 0, 1⟩) := two_no (by rw [hv1, hv2]; rfl) _
      clear hv1 hv2
      go_enter Tryd.func27, Tryd.ntmps27
      go_wp2_with fail
      obtain ⟨rA, rB, rR, hb0⟩ := rows3 w 23 #[.int .i64 a, .int .i64 b] #[.int .i64 c, .int .i64 d] #[.int .i64 0, .int .i64 0]
      generalize (((w.alloc (Obj.cells #[Value.int .i64 a, Value.int .i64 b] 23)).alloc (Obj.cells #[Value.int .i64 c, Value.int .i64 d] 23)).alloc (Obj.cells #[Value.int .i64 0, Value.int .i64 0] 23)) = w0 at rA rB rR hb0 ⊢
      have hs0 := hb0.size
      refine (Valid_any a b _).mono ?_
      rintro e w1 ⟨rfl, hb1⟩
      rw [HV1.out]
      have hB1 := below_after hb0 hb1 hs0
      have rA1 := rA.below hb1 rA.lt
      have rB1 := rB.below hb1 rB.lt
      have rR1 := rR.below hb1 rR.lt
      clear rA rB rR hb0 hb1 hs0
      obtain ⟨b0, b1, _, _⟩ := pair_cells rB1
      have hs1 := hB1.size
      go_wp2_with fail
      refine (Valid_any c d _).mono ?_
      rintro e w2 ⟨rfl, hb2⟩
      rw [HV2.out]
      have hB2 := below_after hB1 hb2 hs1
      have rA2 := rA1.below hb2 rA1.lt
      have rB2 := rB1.below hb2 rB1.lt
      have rR2 := rR1.below hb2 rR1.lt
      clear rA1 rB1 rR1 hB1 hb2 hs1 b0 b1
      obtain ⟨c0, c1, f0, f1⟩ := pair_cells rR2
      go_wp2_with fail
      refine bodyPost_ret (v := .tuple #[.agg #[.int .i64 0, .int .i64 0], .int .i64 1]) (by simp [results, Tryd.results27, go_sem, c0, c1]) rfl (RetF.of HE.out ?_)
      exact Below.set2 hB2 (by omega) _ _
    · have HV1 := Lib.hid hv1
      have HV2 := Lib.hid hv2
      obtain ⟨i1, i2, i3, i4, _⟩ := vld_iff.1 hv1
      obtain ⟨j1, j2, j3, j4, _⟩ := vld_iff.1 hv2
      have m1 := prod_in (a := a) (b := d) ⟨i3, i4⟩ ⟨j1, j2⟩
      have m2 := prod_in (a := c) (b := b) ⟨j3, j4⟩ ⟨i1, i2⟩
      have m3 := den_in (a := b) (b := d) ⟨i1, i2⟩ ⟨j1, j2⟩
      have HE : Hid (subF a b c d = newF (a * d - c * b) (b * d)) := by
        rw [Hid, subF, two_yes hv1 hv2, newF, if_neg (by omega), rq_sub hv1 hv2]
      clear hv1 hv2
      go_enter Tryd.func27, Tryd.ntmps27
      go_wp2_with fail
      obtain ⟨rA, rB, rR, hb0⟩ := rows3 w 23 #[.int .i64 a, .int .i64 b] #[.int .i64 c, .int .i64 d] #[.int .i64 0, .int .i64 0]
      generalize (((w.alloc (Obj.cells #[Value.int .i64 a, Value.int .i64 b] 23)).alloc (Obj.cells #[Value.int .i64 c, Value.int .i64 d] 23)).alloc (Obj.cells #[Value.int .i64 0, Value.int .i64 0] 23)) = w0 at rA rB rR hb0 ⊢
      have hs0 := hb0.size
      refine (Valid_any a b _).mono ?_
      rintro e w1 ⟨rfl, hb1⟩
      rw [HV1.out]
      have hB1 := below_after hb0 hb1 hs0
      have rA1 := rA.below hb1 rA.lt
      have rB1 := rB.below hb1 rB.lt
      have rR1 := rR.below hb1 rR.lt
      clear rA rB rR hb0 hb1 hs0
      obtain ⟨b0, b1, _, _⟩ := pair_cells rB1
      have hs1 := hB1.size
      go_wp2_with fail
      refine (Valid_any c d _).mono ?_
      rintro e w2 ⟨rfl, hb2⟩
      rw [HV2.out]
      have hB2 := below_after hB1 hb2 hs1
      have rA2 := rA1.below hb2 rA1.lt
      have rB2 := rB1.below hb2 rB1.lt
      have rR2 := rR1.below hb2 rR1.lt
      clear rA1 rB1 rR1 hB1 hb2 hs1 b0 b1
      obtain ⟨a0, a1, _, _⟩ := pair_cells rA2
      obtain ⟨b0, b1, _, _⟩ := pair_cells rB2
      have hs2 := hB2.size
      go_wp2_with fail
      refine (New_any (a * d - c * b) (b * d) _ (by omega) (by omega)).mono ?_
      rintro e w3 ⟨rfl, hb3⟩
      rw [← HE.out]
      have hB3 := below_after hB2 hb3 hs2
      obtain ⟨c0, c1, f0, f1⟩ := pair_cells (rR2.below hb3 rR2.lt)
      clear rA2 rB2 rR2 hB2 hb3 a0 a1 b0 b1
      go_wp2_with fail
      refine bodyPost_ret (v := .tuple #[.agg #[.int .i64 (subF a b c d).n, .int .i64 (subF a b c d).d], .int .i64 (subF a b c d).e]) (by simp [results, Tryd.results27, go_sem, c0, c1]) rfl (RetF.of rfl ?_)
      exact Below.set2 hB3 (by omega) _ _

set_option maxRecDepth 100000 in
set_option maxHeartbeats 1600000 in
theorem refAdd_any (a b c d : Int) (w : World) :
    Calls Tryd.prog 42 #[.agg #[.int .i64 a, .int .i64 b], .agg #[.int .i64 c, .int .i64 d]] w (RetF (addF a b c d) w) := by
  cases hv1 : vldB a b
  · have HV1 := Lib.hid hv1
    have HE : Hid (addF a b c d = ⟨0, 0, 1⟩) := two_no (by rw [hv1]; rfl) _
    clear hv1
    go_enter Tryd.func42, Tryd.ntmps42
    go_wp2_with fail
    obtain ⟨rA, rB, rR, hb0⟩ := rows3 w 23 #[.int .i64 a, .int .i64 b] #[.int .i64 c, .int .i64 d] #[.int .i64 0, .int .i64 0]
    generalize (((w.alloc (Obj.cells #[Value.int .i64 a, Value.int .i64 b] 23)).alloc (Obj.cells #[Value.int .i64 c, Value.int .i64 d] 23)).alloc (Obj.cells #[Value.int .i64 0, Value.int .i64 0] 23)) = w0 at rA rB rR hb0 ⊢
    have hs0 := hb0.size
    refine (refValid_any a b _).mono ?_
    rintro e w1 ⟨rfl, hb1⟩
    rw [HV1.out]
    have hB1 := below_after hb0 hb1 hs0
    have rA1 := rA.below hb1 rA.lt
    have rB1 := rB.below hb1 rB.lt
    have rR1 := rR.below hb1 rR.lt
    clear rA rB rR hb0 hb1 hs0
    obtain ⟨c0, c1, f0, f1⟩ := pair_cells rR1
    go_wp2_with fail
    refine bodyPost_ret (v := .tuple #[.agg #[.int .i64 0, .int .i64 0], .int .i64 1]) (by simp [results, Tryd.results42, go_sem, c0, c1]) rfl (RetF.of HE.out ?_)
    exact Below.set2 hB1 (by omega) _ _
  · cases hv2 : vldB c d
    · have HV1 := Lib.hid hv1
      have HV2 := Lib.hid hv2
      have HE : Hid (addF a b c d = ⟨0, 0, 1⟩) := two_no (by rw [hv1, hv2]; rfl) _
      clear hv1 hv2
      go_enter Tryd.func42, Tryd.ntmps42
      go_wp2_with fail
      obtain ⟨rA, rB, rR, hb0⟩ := rows3 w 23 #[.int .i64 a, .int .i64 b] #[.int .i64 c, .int .i64 d] #[.int .i64 0, .int .i64 0]
      generalize (((w.alloc (Obj.cells #[Value.int .i64 a, Value.int .i64 b] 23)).alloc (Obj.cells #[Value.int .i64 c, Value.int .i64 d] 23)).alloc (Obj.cells #[Value.int .i64 0, Value.int .i64 0] 23)) = w0 at rA rB rR hb0 ⊢
      have hs0 := hb0.size
      refine (refValid_any a b _).mono ?_
      rintro e w1 ⟨rfl, hb1⟩
      rw [HV1.out]
      have hB1 := below_after hb0 hb1 hs0
      have rA1 := rA.below hb1 rA.lt
      have rB1 := rB.below hb1 rB.lt
      have rR1 := rR.below hb1 rR.lt
      clear rA rB rR hb0 hb1 hs0
      obtain ⟨b0, b1, _, _⟩ := pair_cells rB1
      have hs1 := hB1.size
      go_wp2_with fail
      refine (refValid_any c d _).mono ?_
      rintro e w2 ⟨rfl, hb2⟩
      rw [HV2.out]
      have hB2 := below_after hB1 hb2 hs1
      have rA2 := rA1.below hb2 rA1.lt
      have rB2 := rB1.below hb2 rB1.lt
      have rR2 := rR1.below hb2 rR1.lt
      clear rA1 rB1 rR1 hB1 hb2 hs1 b0 b1
      obtain ⟨c0, c1, f0, f1⟩ := pair_cells rR2
      go_wp2_with fail
      refine bodyPost_ret (v := .tuple #[.agg #[.int .i64 0, .int .i64 0], .int .i64 1]) (by simp [results, Tryd.results42, go_sem, c0, c1]) rfl (RetF.of HE.out ?_)
      exact Below.set2 hB2 (by omega) _ _
    · have HV1 := Lib.hid hv1
      have HV2 := Lib.hid hv2
      obtain ⟨i1, i2, i3, i4, _⟩ := vld_iff.1 hv1
      obtain ⟨j1, j2, j3, j4, _⟩ := vld_iff.1 hv2
      have m1 := prod_in (a := a) (b := d) ⟨i3, i4⟩ ⟨j1, j2⟩
      have m2 := prod_in (a := c) (b := b) ⟨j3, j4⟩ ⟨i1, i2⟩
      have m3 := den_in (a := b) (b := d) ⟨i1, i2⟩ ⟨j1, j2⟩
      have HE : Hid (addF a b c d = newF (a * d + c * b) (b * d)) := by
        rw [Hid, addF, two_yes hv1 hv2, newF, if_neg (by omega), rq_add hv1 hv2]
      clear hv1 hv2
      go_enter Tryd.func42, Tryd.ntmps42
      go_wp2_with fail
      obtain ⟨rA, rB, rR, hb0⟩ := rows3 w 23 #[.int .i64 a, .int .i64 b] #[.int .i64 c, .int .i64 d] #[.int .i64 0, .int .i64 0]
      generalize (((w.alloc (Obj.cells #[Value.int .i64 a, Value.int .i64 b] 23)).alloc (Obj.cells #[Value.int .i64 c, Value.int .i64 d] 23)).alloc (Obj.cells #[Value.int .i64 0, Value.int .i64 0] 23)) = w0 at rA rB rR hb0 ⊢
      have hs0 := hb0.size
      refine (refValid_any a b _).mono ?_
      rintro e w1 ⟨rfl, hb1⟩
      rw [HV1.out]
      have hB1 := below_after hb0 hb1 hs0
      have rA1 := rA.below hb1 rA.lt
      have rB1 := rB.below hb1 rB.lt
      have rR1 := rR.below hb1 rR.lt
      clear rA rB rR hb0 hb1 hs0
      obtain ⟨b0, b1, _, _⟩ := pair_cells rB1
      have hs1 := hB1.size
      go_wp2_with fail
      refine (refValid_any c d _).mono ?_
      rintro e w2 ⟨rfl, hb2⟩
      rw [HV2.out]
      have hB2 := below_after hB1 hb2 hs1
      have rA2 := rA1.below hb2 rA1.lt
      have rB2 := rB1.below hb2 rB1.lt
      have rR2 := rR1.below hb2 rR1.lt
      clear rA1 rB1 rR1 hB1 hb2 hs1 b0 b1
      obtain ⟨a0, a1, _, _⟩ := pair_cells rA2
      obtain ⟨b0, b1, _, _⟩ := pair_cells rB2
      have hs2 := hB2.size
      go_wp2_with fail
      refine (refNew_any (a * d + c * b) (b * d) _ (by omega) (by omega)).mono ?_
      rintro e w3 ⟨rfl, hb3⟩
      rw [← HE.out]
      have hB3 := below_after hB2 hb3 hs2
      obtain ⟨c0, c1, f0, f1⟩ := pair_cells (rR2.below hb3 rR2.lt)
      clear rA2 rB2 rR2 hB2 hb3 a0 a1 b0 b1
      go_wp2_with fail
      refine bodyPost_ret (v := .tuple #[.agg #[.int .i64 (addF a b c d).n, .int .i64 (addF a b c d).d], .int .i64 (addF a b c d).e]) (by simp [results, Tryd.results42, go_sem, c0, c1]) rfl (RetF.of rfl ?_)
      exact Below.set2 hB3 (by omega) _ _

set_option maxRecDepth 100000 in
set_option maxHeartbeats 1600000 in
theorem refSub_any (a b c d : Int) (w : World) :
    Calls Tryd.prog 43 #[.agg #[.int .i64 a, .int .i64 b], .agg #[.int .i64 c, .int .i64 d]] w (RetF (subF a b c d) w) := by
  cases hv1 : vldB a b
  · have HV1 := Lib.hid hv1
    have HE : Hid (subF a b c d = ⟨0, 0, 1⟩) := two_no (by rw [hv1]; rfl) _
    clear hv1
    go_enter Tryd.func43, Tryd.ntmps43
    go_wp2_with fail
    obtain ⟨rA, rB, rR, hb0⟩ := rows3 w 23 #[.int .i64 a, .int .i64 b] #[.int .i64 c, .int .i64 d] #[.int .i64 0, .int .i64 0]
    generalize (((w.alloc (Obj.cells #[Value.int .i64 a, Value.int .i64 b] 23)).alloc (Obj.cells #[Value.int .i64 c, Value.int .i64 d] 23)).alloc (Obj.cells #[Value.int .i64 0, Value.int .i64 0] 23)) = w0 at rA rB rR hb0 ⊢
    have hs0 := hb0.size
    refine (refValid_any a b _).mono ?_
    rintro e w1 ⟨rfl, hb1⟩
    rw [HV1.out]
    have hB1 := below_after hb0 hb1 hs0
    have rA1 := rA.below hb1 rA.lt
    have rB1 := rB.below hb1 rB.lt
    have rR1 := rR.below hb1 rR.lt
    clear rA rB rR hb0 hb1 hs0
    obtain ⟨c0, c1, f0, f1⟩ := pair_cells rR1
    go_wp2_with fail
    refine bodyPost_ret (v := .tuple #[.agg #[.int .i64 0, .int .i64 0], .int .i64 1]) (by simp [results, Tryd.results43, go_sem, c0, c1]) rfl (RetF.of HE.out ?_)
    exact Below.set2 hB1 (by omega) _ _
  · cases hv2 : vldB c d
    · have HV1 := Lib.hid hv1
      have HV2 := Lib.hid hv2
      have HE : Hid (subF a b c d = ⟨0, 0, 1⟩) := two_no (by rw [hv1, hv2]; rfl) _
      clear hv1 hv2
      go_enter Tryd.func43, Tryd.ntmps43
      go_wp2_with fail
      obtain ⟨rA, rB, rR, hb0⟩ := rows3 w 23 #[.int .i64 a, .int .i64 b] #[.int .i64 c, .int .i64 d] #[.int .i64 0, .int .i64 0]
      generalize (((w.alloc (Obj.cells #[Value.int .i64 a, Value.int .i64 b] 23)).alloc (Obj.cells #[Value.int .i64 c, Value.int .i64 d] 23)).alloc (Obj.cells #[Value.int .i64 0, Value.int .i64 0] 23)) = w0 at rA rB rR hb0 ⊢
      have hs0 := hb0.size
      refine (refValid_any a b _).mono ?_
      rintro e w1 ⟨rfl, hb1⟩
      rw [HV1.out]
      have hB1 := below_after hb0 hb1 hs0
      have rA1 := rA.below hb1 rA.lt
      have rB1 := rB.below hb1 rB.lt
      have rR1 := rR.below hb1 rR.lt
      clear rA rB rR hb0 hb1 hs0
      obtain ⟨b0, b1, _, _⟩ := pair_cells rB1
      have hs1 := hB1.size
      go_wp2_with fail
      refine (refValid_any c d _).mono ?_
      rintro e w2 ⟨rfl, hb2⟩
      rw [HV2.out]
      have hB2 := below_after hB1 hb2 hs1
      have rA2 := rA1.below hb2 rA1.lt
      have rB2 := rB1.below hb2 rB1.lt
      have rR2 := rR1.below hb2 rR1.lt
      clear rA1 rB1 rR1 hB1 hb2 hs1 b0 b1
      obtain ⟨c0, c1, f0, f1⟩ := pair_cells rR2
      go_wp2_with fail
      refine bodyPost_ret (v := .tuple #[.agg #[.int .i64 0, .int .i64 0], .int .i64 1]) (by simp [results, Tryd.results43, go_sem, c0, c1]) rfl (RetF.of HE.out ?_)
      exact Below.set2 hB2 (by omega) _ _
    · have HV1 := Lib.hid hv1
      have HV2 := Lib.hid hv2
      obtain ⟨i1, i2, i3, i4, _⟩ := vld_iff.1 hv1
      obtain ⟨j1, j2, j3, j4, _⟩ := vld_iff.1 hv2
      have m1 := prod_in (a := a) (b := d) ⟨i3, i4⟩ ⟨j1, j2⟩
      have m2 := prod_in (a := c) (b := b) ⟨j3, j4⟩ ⟨i1, i2⟩
      have m3 := den_in (a := b) (b := d) ⟨i1, i2⟩ ⟨j1, j2⟩
      have HE : Hid (subF a b c d = newF (a * d - c * b) (b * d)) := by
        rw [Hid, subF, two_yes hv1 hv2, newF, if_neg (by omega), rq_sub hv1 hv2]
      clear hv1 hv2
      go_enter Tryd.func43, Tryd.ntmps43
      go_wp2_with fail
      obtain ⟨rA, rB, rR, hb0⟩ := rows3 w 23 #[.int .i64 a, .int .i64 b] #[.int .i64 c, .int .i64 d] #[.int .i64 0, .int .i64 0]
      generalize (((w.alloc (Obj.cells #[Value.int .i64 a, Value.int .i64 b] 23)).alloc (Obj.cells #[Value.int .i64 c, Value.int .i64 d] 23)).alloc (Obj.cells #[Value.int .i64 0, Value.int .i64 0] 23)) = w0 at rA rB rR hb0 ⊢
      have hs0 := hb0.size
      refine (refValid_any a b _).mono ?_
      rintro e w1 ⟨rfl, hb1⟩
      rw [HV1.out]
      have hB1 := below_after hb0 hb1 hs0
      have rA1 := rA.below hb1 rA.lt
      have rB1 := rB.below hb1 rB.lt
      have rR1 := rR.below hb1 rR.lt
      clear rA rB rR hb0 hb1 hs0
      obtain ⟨b0, b1, _, _⟩ := pair_cells rB1
      have hs1 := hB1.size
      go_wp2_with fail
      refine (refValid_any c d _).mono ?_
      rintro e w2 ⟨rfl, hb2⟩
      rw [HV2.out]
      have hB2 := below_after hB1 hb2 hs1
      have rA2 := rA1.below hb2 rA1.lt
      have rB2 := rB1.below hb2 rB1.lt
      have rR2 := rR1.below hb2 rR1.lt
      clear rA1 rB1 rR1 hB1 hb2 hs1 b0 b1
      obtain ⟨a0, a1, _, _⟩ := pair_cells rA2
      obtain ⟨b0, b1, _, _⟩ := pair_cells rB2
      have hs2 := hB2.size
      go_wp2_with fail
      refine (refNew_any (a * d - c * b) (b * d) _ (by omega) (by omega)).mono ?_
      rintro e w3 ⟨rfl, hb3⟩
      rw [← HE.out]
      have hB3 := below_after hB2 hb3 hs2
      obtain ⟨c0, c1, f0, f1⟩ := pair_cells (rR2.below hb3 rR2.lt)
      clear rA2 rB2 rR2 hB2 hb3 a0 a1 b0 b1
      go_wp2_with fail
      refine bodyPost_ret (v := .tuple #[.agg #[.int .i64 (subF a b c d).n, .int .i64 (subF a b c d).d], .int .i64 (subF a b c d).e]) (by simp [results, Tryd.results43, go_sem, c0, c1]) rfl (RetF.of rfl ?_)
      exact Below.set2 hB3 (by omega) _ _

set_option maxRecDepth 100000 in
set_option maxHeartbeats 1600000 in
theorem refDiv_any (a b c d : Int) (w : World) :
    Calls Tryd.prog 45 #[.agg #[.int .i64 a, .int .i64 b], .agg #[.int .i64 c, .int .i64 d]] w (RetF (divF a b c d) w) := by
  cases hv1 : vldB a b
  · have HV1 := Lib.hid hv1
    have HE : Hid (divF a b c d = ⟨0, 0, 1⟩) := div_no (by rw [hv1]; rfl)
    clear hv1
    go_enter Tryd.func45, Tryd.ntmps45
    go_wp2_with fail
    obtain ⟨rA, rB, rR, hb0⟩ := rows3 w 23 #[.int .i64 a, .int .i64 b] #[.int .i64 c, .int .i64 d] #[.int .i64 0, .int .i64 0]
    generalize (((w.alloc (Obj.cells #[Value.int .i64 a, Value.int .i64 b] 23)).alloc (Obj.cells #[Value.int .i64 c, Value.int .i64 d] 23)).alloc (Obj.cells #[Value.int .i64 0, Value.int .i64 0] 23)) = w0 at rA rB rR hb0 ⊢
    have hs0 := hb0.size
    refine (refValid_any a b _).mono ?_
    rintro e w1 ⟨rfl, hb1⟩
    rw [HV1.out]
    have hB1 := below_after hb0 hb1 hs0
    have rA1 := rA.below hb1 rA.lt
    have rB1 := rB.below hb1 rB.lt
    have rR1 := rR.below hb1 rR.lt
    clear rA rB rR hb0 hb1 hs0
    obtain ⟨c0, c1, f0, f1⟩ := pair_cells rR1
    go_wp2_with fail
    refine bodyPost_ret (v := .tuple #[.agg #[.int .i64 0, .int .i64 0], .int .i64 1]) (by simp [results, Tryd.results45, go_sem, c0, c1]) rfl (RetF.of HE.out ?_)
    exact Below.set2 hB1 (by omega) _ _
  · cases hv2 : vldB c d
    · have HV1 := Lib.hid hv1
      have HV2 := Lib.hid hv2
      have HE : Hid (divF a b c d = ⟨0, 0, 1⟩) := div_no (by rw [hv1, hv2]; rfl)
      clear hv1 hv2
      go_enter Tryd.func45, Tryd.ntmps45
      go_wp2_with fail
      obtain ⟨rA, rB, rR, hb0⟩ := rows3 w 23 #[.int .i64 a, .int .i64 b] #[.int .i64 c, .int .i64 d] #[.int .i64 0, .int .i64 0]
      generalize (((w.alloc (Obj.cells #[Value.int .i64 a, Value.int .i64 b] 23)).alloc (Obj.cells #[Value.int .i64 c, Value.int .i64 d] 23)).alloc (Obj.cells #[Value.int .i64 0, Value.int .i64 0] 23)) = w0 at rA rB rR hb0 ⊢
      have hs0 := hb0.size
      refine (refValid_any a b _).mono ?_
      rintro e w1 ⟨rfl, hb1⟩
      rw [HV1.out]
      have hB1 := below_after hb0 hb1 hs0
      have rA1 := rA.below hb1 rA.lt
      have rB1 := rB.below hb1 rB.lt
      have rR1 := rR.below hb1 rR.lt
      clear rA rB rR hb0 hb1 hs0
      obtain ⟨b0, b1, _, _⟩ := pair_cells rB1
      have hs1 := hB1.size
      go_wp2_with fail
      refine (refValid_any c d _).mono ?_
      rintro e w2 ⟨rfl, hb2⟩
      rw [HV2.out]
      have hB2 := below_after hB1 hb2 hs1
      have rA2 := rA1.below hb2 rA1.lt
      have rB2 := rB1.below hb2 rB1.lt
      have rR2 := rR1.below hb2 rR1.lt
      clear rA1 rB1 rR1 hB1 hb2 hs1 b0 b1
      obtain ⟨c0, c1, f0, f1⟩ := pair_cells rR2
      go_wp2_with fail
      refine bodyPost_ret (v := .tuple #[.agg #[.int .i64 0, .int .i64 0], .int .i64 1]) (by simp [results, Tryd.results45, go_sem, c0, c1]) rfl (RetF.of HE.out ?_)
      exact Below.set2 hB2 (by omega) _ _
    · have HV1 := Lib.hid hv1
      have HV2 := Lib.hid hv2
      obtain ⟨i1, i2, i3, i4, _⟩ := vld_iff.1 hv1
      obtain ⟨j1, j2, j3, j4, _⟩ := vld_iff.1 hv2
      by_cases hz : c = 0
      · have HE : Hid (divF a b c d = ⟨0, 0, 5⟩) := by rw [Hid, divF, hv1, hv2, if_pos hz]; rfl
        have hz1 : (c == 0) = true := by simpa using hz
        clear hv1 hv2 hz
        go_enter Tryd.func45, Tryd.ntmps45
        go_wp2_with fail
        obtain ⟨rA, rB, rR, hb0⟩ := rows3 w 23 #[.int .i64 a, .int .i64 b] #[.int .i64 c, .int .i64 d] #[.int .i64 0, .int .i64 0]
        generalize (((w.alloc (Obj.cells #[Value.int .i64 a, Value.int .i64 b] 23)).alloc (Obj.cells #[Value.int .i64 c, Value.int .i64 d] 23)).alloc (Obj.cells #[Value.int .i64 0, Value.int .i64 0] 23)) = w0 at rA rB rR hb0 ⊢
        have hs0 := hb0.size
        refine (refValid_any a b _).mono ?_
        rintro e w1 ⟨rfl, hb1⟩
        rw [HV1.out]
        have hB1 := below_after hb0 hb1 hs0
        have rA1 := rA.below hb1 rA.lt
        have rB1 := rB.below hb1 rB.lt
        have rR1 := rR.below hb1 rR.lt
        clear rA rB rR hb0 hb1 hs0
        obtain ⟨b0, b1, _, _⟩ := pair_cells rB1
        have hs1 := hB1.size
        go_wp2_with fail
        refine (refValid_any c d _).mono ?_
        rintro e w2 ⟨rfl, hb2⟩
        rw [HV2.out]
        have hB2 := below_after hB1 hb2 hs1
        have rA2 := rA1.below hb2 rA1.lt
        have rB2 := rB1.below hb2 rB1.lt
        have rR2 := rR1.below hb2 rR1.lt
        clear rA1 rB1 rR1 hB1 hb2 hs1 b0 b1
        obtain ⟨c0, c1, f0, f1⟩ := pair_cells rR2
        obtain ⟨b0, b1, _, _⟩ := pair_cells rB2
        go_wp2_with fail
        refine bodyPost_ret (v := .tuple #[.agg #[.int .i64 0, .int .i64 0], .int .i64 5]) (by simp [results, Tryd.results45, go_sem, c0, c1]) rfl (RetF.of HE.out ?_)
        exact Below.set2 hB2 (by omega) _ _
      have hz1 : (c == 0) = false := by simpa using hz
      have m1 := prod_in (a := a) (b := d) ⟨i3, i4⟩ ⟨j1, j2⟩
      have m2 := prod_in (a := c) (b := b) ⟨j3, j4⟩ ⟨i1, i2⟩
      rw [Int.mul_comm c b] at m2
      have HE := Lib.hid (divF_eq hv1 hv2 hz).1
      clear hv1 hv2
      go_enter Tryd.func45, Tryd.ntmps45
      go_wp2_with fail
      obtain ⟨rA, rB, rR, hb0⟩ := rows3 w 23 #[.int .i64 a, .int .i64 b] #[.int .i64 c, .int .i64 d] #[.int .i64 0, .int .i64 0]
      generalize (((w.alloc (Obj.cells #[Value.int .i64 a, Value.int .i64 b] 23)).alloc (Obj.cells #[Value.int .i64 c, Value.int .i64 d] 23)).alloc (Obj.cells #[Value.int .i64 0, Value.int .i64 0] 23)) = w0 at rA rB rR hb0 ⊢
      have hs0 := hb0.size
      refine (refValid_any a b _).mono ?_
      rintro e w1 ⟨rfl, hb1⟩
      rw [HV1.out]
      have hB1 := below_after hb0 hb1 hs0
      have rA1 := rA.below hb1 rA.lt
      have rB1 := rB.below hb1 rB.lt
      have rR1 := rR.below hb1 rR.lt
      clear rA rB rR hb0 hb1 hs0
      obtain ⟨b0, b1, _, _⟩ := pair_cells rB1
      have hs1 := hB1.size
      go_wp2_with fail
      refine (refValid_any c d _).mono ?_
      rintro e w2 ⟨rfl, hb2⟩
      rw [HV2.out]
      have hB2 := below_after hB1 hb2 hs1
      have rA2 := rA1.below hb2 rA1.lt
      have rB2 := rB1.below hb2 rB1.lt
      have rR2 := rR1.below hb2 rR1.lt
      clear rA1 rB1 rR1 hB1 hb2 hs1 b0 b1
      obtain ⟨a0, a1, _, _⟩ := pair_cells rA2
      obtain ⟨b0, b1, _, _⟩ := pair_cells rB2
      have hs2 := hB2.size
      go_wp2_with fail
      refine (refNew_any (a * d) (b * c) _ (by omega) (by omega)).mono ?_
      rintro e w3 ⟨rfl, hb3⟩
      rw [← HE.out]
      have hB3 := below_after hB2 hb3 hs2
      obtain ⟨c0, c1, f0, f1⟩ := pair_cells (rR2.below hb3 rR2.lt)
      clear rA2 rB2 rR2 hB2 hb3 a0 a1 b0 b1
      go_wp2_with fail
      refine bodyPost_ret (v := .tuple #[.agg #[.int .i64 (divF a b c d).n, .int .i64 (divF a b c d).d], .int .i64 (divF a b c d).e]) (by simp [results, Tryd.results45, go_sem, c0, c1]) rfl (RetF.of rfl ?_)
      exact Below.set2 hB3 (by omega) _ _

end Go.Proofs.YtkdmbkhgcahpiaaDoor
