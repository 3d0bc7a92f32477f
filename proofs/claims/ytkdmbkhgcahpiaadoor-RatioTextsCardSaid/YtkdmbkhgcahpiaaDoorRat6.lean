/- Contracts of Mul and Div of package ratio. -/
import Derived.Test.YtkdmbkhgcahpiaaDoorRat5
import Derived.Test.YtkdmbkhgcahpiaaDoorMix
namespace Go.Proofs.YtkdmbkhgcahpiaaDoor
open Go.RowKit

theorem mul_no {a b c d : Int} (h : (vldB a b && vldB c d) = false) : mulF a b c d = ⟨0, 0, 1⟩ := two_no h _

set_option maxRecDepth 100000 in
set_option maxHeartbeats 1600000 in
theorem Mul_any (a b c d : Int) (w : World) :
    Calls Tryd.prog 25 #[.agg #[.int .i64 a, .int .i64 b], .agg #[.int .i64 c, .int .i64 d]] w (RetF (mulF a b c d) w) := by
  cases hv1 : vldB a b
  · have HV1 := Lib.hid hv1
    have HE : Hid (mulF a b c d = ⟨0, 0, 1⟩) := mul_no (by rw [hv1]; rfl)
    clear hv1
    go_enter Tryd.func25, Tryd.ntmps25
    go_wp2_with fail
    obtain ⟨rA, rB, rR, hb0⟩ := rows3 w 23 #[.int .i64 a, .int .i64 b] #[.int .i64 c, .int .i64 d] #[.int .i64 0, .int .i64 0]
    generalize (((w.alloc (Obj.cells #[Value.int .i64 a, Value.int .i64 b] 23)).alloc (Obj.cells #[Value.int .i64 c, Value.int .i64 d] 23)).alloc (Obj.cells #[Value.int .i64 0, Value.int .i64 0] 23)) = w0 at rA rB rR hb0 ⊢
    have hs0 := hb0.size
    refine (Valid_any a b _).mono ?_
    rintro e w1 ⟨rfl, hb1⟩
    rw [HV1.out]
    have hB1 := below_after hb0 hb1 hs0
    have rA1 := rA.below hb1 rA.lt
    have rB1 := rB.below hb1 rB.lt
    have rR1 := rR.below hb1 rR.lt
    clear rA rB rR hb0 hb1 hs0
    obtain ⟨c0, c1, f0, f1⟩ := pair_cells rR1
    go_wp2_with fail
    refine bodyPost_ret (v := .tuple #[.agg #[.int .i64 0, .int .i64 0], .int .i64 1]) (by simp [results, Tryd.results25, go_sem, c0, c1]) rfl (RetF.of HE.out ?_)
    exact Below.set2 hB1 (by omega) _ _
  · cases hv2 : vldB c d
    · have HV1 := Lib.hid hv1
      have HV2 := Lib.hid hv2
      have HE : Hid (mulF a b c d = ⟨0, 0, 1⟩) := mul_no (by rw [hv1, hv2]; rfl)
      clear hv1 hv2
      go_enter Tryd.func25, Tryd.ntmps25
      go_wp2_with fail
      obtain ⟨rA, rB, rR, hb0⟩ := rows3 w 23 #[.int .i64 a, .int .i64 b] #[.int .i64 c, .int .i64 d] #[.int .i64 0, .int .i64 0]
      generalize (((w.alloc (Obj.cells #[Value.int .i64 a, Value.int .i64 b] 23)).alloc (Obj.cells #[Value.int .i64 c, Value.int .i64 d] 23)).alloc (Obj.cells #[Value.int .i64 0, Value.int .i64 0] 23)) = w0 at rA rB rR hb0 ⊢
      have hs0 := hb0.size
      refine (Valid_any a b _).mono ?_
      rintro e w1 ⟨rfl, hb1⟩
      rw [HV1.out]
      have hB1 := below_after hb0 hb1 hs0
      have rA1 := rA.below hb1 rA.lt
      have rB1 := rB.below hb1 rB.lt
      have rR1 := rR.below hb1 rR.lt
      clear rA rB rR hb0 hb1 hs0
      obtain ⟨b0, b1, _, _⟩ := pair_cells rB1
      have hs1 := hB1.size
      go_wp2_with fail
      refine (Valid_any c d _).mono ?_
      rintro e w2 ⟨rfl, hb2⟩
      rw [HV2.out]
      have hB2 := below_after hB1 hb2 hs1
      have rA2 := rA1.below hb2 rA1.lt
      have rB2 := rB1.below hb2 rB1.lt
      have rR2 := rR1.below hb2 rR1.lt
      clear rA1 rB1 rR1 hB1 hb2 hs1 b0 b1
      obtain ⟨c0, c1, f0, f1⟩ := pair_cells rR2
      go_wp2_with fail
      refine bodyPost_ret (v := .tuple #[.agg #[.int .i64 0, .int .i64 0], .int .i64 1]) (by simp [results, Tryd.results25, go_sem, c0, c1]) rfl (RetF.of HE.out ?_)
      exact Below.set2 hB2 (by omega) _ _
    · have HV1 := Lib.hid hv1
      have HV2 := Lib.hid hv2
      obtain ⟨i1, i2, i3, i4, i5⟩ := vld_iff.1 hv1
      obtain ⟨j1, j2, j3, j4, j5⟩ := vld_iff.1 hv2
      obtain ⟨k, rfl⟩ : ∃ k : Nat, b = (k : Int) := ⟨b.toNat, by omega⟩
      obtain ⟨l, rfl⟩ : ∃ l : Nat, d = (l : Int) := ⟨d.toNat, by omega⟩
      have HE : Hid (mulF a k c l = fitF (!decide (a < 0) == decide (c < 0)) (a.natAbs * c.natAbs) (k * l)) := mulF_eq hv1 hv2
      rw [Int.natAbs_natCast] at i5 j5
      have W1 : IntKind.u64.wrap (k : Int) = (k : Int) := u64_in (by omega)
      have W2 : IntKind.u64.wrap (l : Int) = (l : Int) := u64_in (by omega)
      have C5 := Lib.hid i5
      have D5 := Lib.hid j5
      have hD : k * l < 18446744073709551616 := by have : k * l ≤ 1000000 * 1000000 := Nat.mul_le_mul (by omega) (by omega); omega
      clear hv1 hv2 i5 j5
      go_enter Tryd.func25, Tryd.ntmps25
      go_wp2_with fail
      obtain ⟨rA, rB, rR, hb0⟩ := rows3 w 23 #[.int .i64 a, .int .i64 (k : Int)] #[.int .i64 c, .int .i64 (l : Int)] #[.int .i64 0, .int .i64 0]
      generalize (((w.alloc (Obj.cells #[Value.int .i64 a, Value.int .i64 (k : Int)] 23)).alloc (Obj.cells #[Value.int .i64 c, Value.int .i64 (l : Int)] 23)).alloc (Obj.cells #[Value.int .i64 0, Value.int .i64 0] 23)) = w0 at rA rB rR hb0 ⊢
      have hs0 := hb0.size
      refine (Valid_any a k _).mono ?_
      rintro e w1 ⟨rfl, hb1⟩
      rw [HV1.out]
      have hB1 := below_after hb0 hb1 hs0
      have rA1 := rA.below hb1 rA.lt
      have rB1 := rB.below hb1 rB.lt
      have rR1 := rR.below hb1 rR.lt
      clear rA rB rR hb0 hb1 hs0
      obtain ⟨b0, b1, _, _⟩ := pair_cells rB1
      have hs1 := hB1.size
      go_wp2_with fail
      refine (Valid_any c l _).mono ?_
      rintro e w2 ⟨rfl, hb2⟩
      rw [HV2.out]
      have hB2 := below_after hB1 hb2 hs1
      have rA2 := rA1.below hb2 rA1.lt
      have rB2 := rB1.below hb2 rB1.lt
      have rR2 := rR1.below hb2 rR1.lt
      clear rA1 rB1 rR1 hB1 hb2 hs1 b0 b1
      obtain ⟨a0, a1, _, _⟩ := pair_cells rA2
      obtain ⟨b0, b1, _, _⟩ := pair_cells rB2
      have hs2 := hB2.size
      go_wp2_with fail
      refine region_mix [13, 2, 1] (by kernel_rfl) (by kernel_rfl) (by kernel_rfl) ?_
      simp only [wpMix, List.take_succ_cons, List.take_zero, List.drop_succ_cons, List.drop_zero]
      repeat still_step
      still_call (mag_any a _ (by omega) (by omega))
      repeat still_step
      still_call (mag_any c _ (by omega) (by omega))
      repeat still_step
      refine wpStill_nil ?_
      have rR3 : Row w2.drew (w.heap.size + 1 + 1) 23 #[.int .i64 0, .int .i64 0] := rR2
      have hB3 : Below w.heap.size w w2.drew := hB2.drew
      generalize w2.drew = wy at rR3 hB3 ⊢
      clear W1 W2 a0 a1 b0 b1 rA2 rB2 rR2 hB2
      have hs3 := hB3.size
      go_wp2_with fail
      refine (product_any _ a.natAbs k c.natAbs l _ (by omega) (by omega) (by omega) (by omega) (by omega) (by omega) C5.out D5.out hD).mono ?_
      rintro e w4 ⟨rfl, hb4⟩
      rw [← HE.out]
      have hB4 := below_after hB3 hb4 hs3
      obtain ⟨c0, c1, f0, f1⟩ := pair_cells (rR3.below hb4 rR3.lt)
      clear rR3 hB3 hb4
      go_wp2_with fail
      repeat still_step
      refine wpStill_nil ?_
      go_wp2_with fail
      repeat still_step
      refine wpStill_nil ?_
      go_wp2_with fail
      refine bodyPost_ret (v := .tuple #[.agg #[.int .i64 (mulF a k c l).n, .int .i64 (mulF a k c l).d], .int .i64 (mulF a k c l).e]) (by simp [results, Tryd.results25, go_sem, c0, c1]) rfl (RetF.of rfl ?_)
      exact Below.set2 hB4 (by omega) _ _

set_option maxRecDepth 100000 in
set_option maxHeartbeats 1600000 in
theorem Div_any (a b c d : Int) (w : World) :
    Calls Tryd.prog 28 #[.agg #[.int .i64 a, .int .i64 b], .agg #[.int .i64 c, .int .i64 d]] w (RetF (divF a b c d) w) := by
  cases hv1 : vldB a b
  · have HV1 := Lib.hid hv1
    have HE : Hid (divF a b c d = ⟨0, 0, 1⟩) := div_no (by rw [hv1]; rfl)
    clear hv1
    go_enter Tryd.func28, Tryd.ntmps28
    go_wp2_with fail
    obtain ⟨rA, rB, rR, hb0⟩ := rows3 w 23 #[.int .i64 a, .int .i64 b] #[.int .i64 c, .int .i64 d] #[.int .i64 0, .int .i64 0]
    generalize (((w.alloc (Obj.cells #[Value.int .i64 a, Value.int .i64 b] 23)).alloc (Obj.cells #[Value.int .i64 c, Value.int .i64 d] 23)).alloc (Obj.cells #[Value.int .i64 0, Value.int .i64 0] 23)) = w0 at rA rB rR hb0 ⊢
    have hs0 := hb0.size
    refine (Valid_any a b _).mono ?_
    rintro e w1 ⟨rfl, hb1⟩
    rw [HV1.out]
    have hB1 := below_after hb0 hb1 hs0
    have rA1 := rA.below hb1 rA.lt
    have rB1 := rB.below hb1 rB.lt
    have rR1 := rR.below hb1 rR.lt
    clear rA rB rR hb0 hb1 hs0
    obtain ⟨c0, c1, f0, f1⟩ := pair_cells rR1
    go_wp2_with fail
    refine bodyPost_ret (v := .tuple #[.agg #[.int .i64 0, .int .i64 0], .int .i64 1]) (by simp [results, Tryd.results28, go_sem, c0, c1]) rfl (RetF.of HE.out ?_)
    exact Below.set2 hB1 (by omega) _ _
  · cases hv2 : vldB c d
    · have HV1 := Lib.hid hv1
      have HV2 := Lib.hid hv2
      have HE : Hid (divF a b c d = ⟨0, 0, 1⟩) := div_no (by rw [hv1, hv2]; rfl)
      clear hv1 hv2
      go_enter Tryd.func28, Tryd.ntmps28
      go_wp2_with fail
      obtain ⟨rA, rB, rR, hb0⟩ := rows3 w 23 #[.int .i64 a, .int .i64 b] #[.int .i64 c, .int .i64 d] #[.int .i64 0, .int .i64 0]
      generalize (((w.alloc (Obj.cells #[Value.int .i64 a, Value.int .i64 b] 23)).alloc (Obj.cells #[Value.int .i64 c, Value.int .i64 d] 23)).alloc (Obj.cells #[Value.int .i64 0, Value.int .i64 0] 23)) = w0 at rA rB rR hb0 ⊢
      have hs0 := hb0.size
      refine (Valid_any a b _).mono ?_
      rintro e w1 ⟨rfl, hb1⟩
      rw [HV1.out]
      have hB1 := below_after hb0 hb1 hs0
      have rA1 := rA.below hb1 rA.lt
      have rB1 := rB.below hb1 rB.lt
      have rR1 := rR.below hb1 rR.lt
      clear rA rB rR hb0 hb1 hs0
      obtain ⟨b0, b1, _, _⟩ := pair_cells rB1
      have hs1 := hB1.size
      go_wp2_with fail
      refine (Valid_any c d _).mono ?_
      rintro e w2 ⟨rfl, hb2⟩
      rw [HV2.out]
      have hB2 := below_after hB1 hb2 hs1
      have rA2 := rA1.below hb2 rA1.lt
      have rB2 := rB1.below hb2 rB1.lt
      have rR2 := rR1.below hb2 rR1.lt
      clear rA1 rB1 rR1 hB1 hb2 hs1 b0 b1
      obtain ⟨c0, c1, f0, f1⟩ := pair_cells rR2
      go_wp2_with fail
      refine bodyPost_ret (v := .tuple #[.agg #[.int .i64 0, .int .i64 0], .int .i64 1]) (by simp [results, Tryd.results28, go_sem, c0, c1]) rfl (RetF.of HE.out ?_)
      exact Below.set2 hB2 (by omega) _ _
    · have HV1 := Lib.hid hv1
      have HV2 := Lib.hid hv2
      obtain ⟨i1, i2, i3, i4, i5⟩ := vld_iff.1 hv1
      obtain ⟨j1, j2, j3, j4, j5⟩ := vld_iff.1 hv2
      by_cases hz : c = 0
      · have HE : Hid (divF a b c d = ⟨0, 0, 5⟩) := by rw [Hid, divF, hv1, hv2, if_pos hz]; rfl
        have hz1 : (c == 0) = true := by simpa using hz
        clear hv1 hv2 hz i5 j5
        go_enter Tryd.func28, Tryd.ntmps28
        go_wp2_with fail
        obtain ⟨rA, rB, rR, hb0⟩ := rows3 w 23 #[.int .i64 a, .int .i64 b] #[.int .i64 c, .int .i64 d] #[.int .i64 0, .int .i64 0]
        generalize (((w.alloc (Obj.cells #[Value.int .i64 a, Value.int .i64 b] 23)).alloc (Obj.cells #[Value.int .i64 c, Value.int .i64 d] 23)).alloc (Obj.cells #[Value.int .i64 0, Value.int .i64 0] 23)) = w0 at rA rB rR hb0 ⊢
        have hs0 := hb0.size
        refine (Valid_any a b _).mono ?_
        rintro e w1 ⟨rfl, hb1⟩
        rw [HV1.out]
        have hB1 := below_after hb0 hb1 hs0
        have rA1 := rA.below hb1 rA.lt
        have rB1 := rB.below hb1 rB.lt
        have rR1 := rR.below hb1 rR.lt
        clear rA rB rR hb0 hb1 hs0
        obtain ⟨b0, b1, _, _⟩ := pair_cells rB1
        have hs1 := hB1.size
        go_wp2_with fail
        refine (Valid_any c d _).mono ?_
        rintro e w2 ⟨rfl, hb2⟩
        rw [HV2.out]
        have hB2 := below_after hB1 hb2 hs1
        have rA2 := rA1.below hb2 rA1.lt
        have rB2 := rB1.below hb2 rB1.lt
        have rR2 := rR1.below hb2 rR1.lt
        clear rA1 rB1 rR1 hB1 hb2 hs1 b0 b1
        obtain ⟨c0, c1, f0, f1⟩ := pair_cells rR2
        obtain ⟨b0, b1, _, _⟩ := pair_cells rB2
        go_wp2_with fail
        refine bodyPost_ret (v := .tuple #[.agg #[.int .i64 0, .int .i64 0], .int .i64 5]) (by simp [results, Tryd.results28, go_sem, c0, c1]) rfl (RetF.of HE.out ?_)
        exact Below.set2 hB2 (by omega) _ _
      have hz1 : (c == 0) = false := by simpa using hz
      obtain ⟨k, rfl⟩ : ∃ k : Nat, b = (k : Int) := ⟨b.toNat, by omega⟩
      obtain ⟨l, rfl⟩ : ∃ l : Nat, d = (l : Int) := ⟨d.toNat, by omega⟩
      have HE : Hid (divF a k c l = fitF (!decide (a < 0) == decide (c < 0)) (a.natAbs * l) (k * c.natAbs)) := (divF_eq hv1 hv2 hz).2
      rw [Int.natAbs_natCast] at i5 j5
      have W1 : IntKind.u64.wrap (k : Int) = (k : Int) := u64_in (by omega)
      have W2 : IntKind.u64.wrap (l : Int) = (l : Int) := u64_in (by omega)
      have C5 := Lib.hid i5
      have D5 := Lib.hid j5
      have hD : k * c.natAbs < 18446744073709551616 := by have : k * c.natAbs ≤ 1000000 * 1000000000000 := Nat.mul_le_mul (by omega) (by omega); omega
      clear hv1 hv2 i5 j5
      go_enter Tryd.func28, Tryd.ntmps28
      go_wp2_with fail
      obtain ⟨rA, rB, rR, hb0⟩ := rows3 w 23 #[.int .i64 a, .int .i64 (k : Int)] #[.int .i64 c, .int .i64 (l : Int)] #[.int .i64 0, .int .i64 0]
      generalize (((w.alloc (Obj.cells #[Value.int .i64 a, Value.int .i64 (k : Int)] 23)).alloc (Obj.cells #[Value.int .i64 c, Value.int .i64 (l : Int)] 23)).alloc (Obj.cells #[Value.int .i64 0, Value.int .i64 0] 23)) = w0 at rA rB rR hb0 ⊢
      have hs0 := hb0.size
      refine (Valid_any a k _).mono ?_
      rintro e w1 ⟨rfl, hb1⟩
      rw [HV1.out]
      have hB1 := below_after hb0 hb1 hs0
      have rA1 := rA.below hb1 rA.lt
      have rB1 := rB.below hb1 rB.lt
      have rR1 := rR.below hb1 rR.lt
      clear rA rB rR hb0 hb1 hs0
      obtain ⟨b0, b1, _, _⟩ := pair_cells rB1
      have hs1 := hB1.size
      go_wp2_with fail
      refine (Valid_any c l _).mono ?_
      rintro e w2 ⟨rfl, hb2⟩
      rw [HV2.out]
      have hB2 := below_after hB1 hb2 hs1
      have rA2 := rA1.below hb2 rA1.lt
      have rB2 := rB1.below hb2 rB1.lt
      have rR2 := rR1.below hb2 rR1.lt
      clear rA1 rB1 rR1 hB1 hb2 hs1 b0 b1
      obtain ⟨a0, a1, _, _⟩ := pair_cells rA2
      obtain ⟨b0, b1, _, _⟩ := pair_cells rB2
      have hs2 := hB2.size
      go_wp2_with fail
      refine region_mix [13, 2, 1] (by kernel_rfl) (by kernel_rfl) (by kernel_rfl) ?_
      simp only [wpMix, List.take_succ_cons, List.take_zero, List.drop_succ_cons, List.drop_zero]
      repeat still_step
      still_call (mag_any a _ (by omega) (by omega))
      repeat still_step
      still_call (mag_any c _ (by omega) (by omega))
      repeat still_step
      refine wpStill_nil ?_
      have rR3 : Row w2.drew (w.heap.size + 1 + 1) 23 #[.int .i64 0, .int .i64 0] := rR2
      have hB3 : Below w.heap.size w w2.drew := hB2.drew
      generalize w2.drew = wy at rR3 hB3 ⊢
      clear W1 W2 a0 a1 b0 b1 rA2 rB2 rR2 hB2
      have hs3 := hB3.size
      go_wp2_with fail
      refine (product_any _ a.natAbs k l c.natAbs _ (by omega) (by omega) (by omega) (by omega) (by omega) (by omega) C5.out (by rw [Nat.gcd_comm]; exact D5.out) hD).mono ?_
      rintro e w4 ⟨rfl, hb4⟩
      rw [← HE.out]
      have hB4 := below_after hB3 hb4 hs3
      obtain ⟨c0, c1, f0, f1⟩ := pair_cells (rR3.below hb4 rR3.lt)
      clear rR3 hB3 hb4
      go_wp2_with fail
      repeat still_step
      refine wpStill_nil ?_
      go_wp2_with fail
      repeat still_step
      refine wpStill_nil ?_
      go_wp2_with fail
      refine bodyPost_ret (v := .tuple #[.agg #[.int .i64 (divF a k c l).n, .int .i64 (divF a k c l).d], .int .i64 (divF a k c l).e]) (by simp [results, Tryd.results28, go_sem, c0, c1]) rfl (RetF.of rfl ?_)
      exact Below.set2 hB4 (by omega) _ _

end Go.Proofs.YtkdmbkhgcahpiaaDoor
