/- Contracts of Compare, Neg and Floor of packages ratio and payrollref1. -/
import Derived.Test.YtkdmbkhgcahpiaaDoorRat3
namespace Go.Proofs.YtkdmbkhgcahpiaaDoor
open Go.RowKit

theorem floor_unique {a b q : Int} (hb : 1 ≤ b) (h1 : q * b ≤ a) (h2 : a < (q + 1) * b) : q = a / b := by
  apply Int.le_antisymm
  · exact (Int.le_ediv_iff_mul_le (by omega)).2 h1
  · have := (Int.ediv_lt_iff_lt_mul (a := a) (b := q + 1) (c := b) (by omega)).2 h2
    omega
theorem tmod_bound {a b : Int} (hb : 1 ≤ b) : -b < a.tmod b ∧ a.tmod b < b := by
  have h2 := Int.tmod_lt_of_pos a (b := b) (by omega)
  have h3 := Int.lt_tmod_of_pos a (b := b) (by omega)
  omega
theorem flr_lo {a b : Int} (hb : 1 ≤ b) (h : a.tmod b < 0) : a.tdiv b - 1 = a / b := by
  have e := Int.tdiv_mul_add_tmod a b
  have ⟨l, _⟩ := tmod_bound (a := a) hb
  refine floor_unique hb ?_ ?_
  · rw [Int.sub_mul]; omega
  · rw [Int.sub_add_cancel]; omega
theorem flr_hi {a b : Int} (hb : 1 ≤ b) (h : 0 ≤ a.tmod b) : a.tdiv b = a / b := by
  have e := Int.tdiv_mul_add_tmod a b
  have ⟨_, l⟩ := tmod_bound (a := a) hb
  refine floor_unique hb ?_ ?_
  · omega
  · rw [Int.add_mul]; omega
theorem tdiv_in {a b : Int} (ha : -1000000000000 ≤ a ∧ a ≤ 1000000000000) : -1000000000000 ≤ a.tdiv b ∧ a.tdiv b ≤ 1000000000000 := by
  have := Int.natAbs_tdiv_le_natAbs a b
  omega
theorem tmul_in {a b : Int} (hb : 1 ≤ b ∧ b ≤ 1000000) (ha : -1000000000000 ≤ a ∧ a ≤ 1000000000000) : a.tdiv b * b = a - a.tmod b ∧ -2000000000000 ≤ a.tdiv b * b ∧ a.tdiv b * b ≤ 2000000000000 := by
  have e := Int.tdiv_mul_add_tmod a b
  have l := tmod_bound (a := a) hb.1
  omega
theorem cmpF_no {a b c d : Int} (h : (vldB a b && vldB c d) = false) : cmpF a b c d = 0 := by rw [cmpF, h]; rfl
theorem cmpF_mul {a b c d : Int} (h1 : vldB a b = true) (h2 : vldB c d = true) : cmpF a b c d = if a * d < c * b then -1 else if c * b < a * d then 1 else 0 := by
  rw [cmpF, h1, h2]
  simp only [Bool.and_self, if_true, rq_lt h1 h2, rq_lt h2 h1]
set_option maxRecDepth 100000 in
set_option maxHeartbeats 1600000 in
theorem Compare_any (a b c d : Int) (w : World) :
    Calls Tryd.prog 23 #[.agg #[.int .i64 a, .int .i64 b], .agg #[.int .i64 c, .int .i64 d]] w fun e w' => e = .returned (.int .i64 (cmpF a b c d)) ∧ Below w.heap.size w w' := by
  cases hv1 : vldB a b
  · have HV1 := Lib.hid hv1
    have HE : Hid (cmpF a b c d = 0) := cmpF_no (by rw [hv1]; rfl)
    clear hv1
    go_enter Tryd.func23, Tryd.ntmps23
    go_wp2_with fail
    obtain ⟨rA, rB, hb0⟩ := rows2 w 23 #[.int .i64 a, .int .i64 b] #[.int .i64 c, .int .i64 d]
    generalize ((w.alloc (Obj.cells #[Value.int .i64 a, Value.int .i64 b] 23)).alloc (Obj.cells #[Value.int .i64 c, Value.int .i64 d] 23)) = w0 at rA rB hb0 ⊢
    have hs0 := hb0.size
    refine (Valid_any a b _).mono ?_
    rintro e w1 ⟨rfl, hb1⟩
    rw [HV1.out]
    have hB1 := below_after hb0 hb1 hs0
    have rA1 := rA.below hb1 rA.lt
    have rB1 := rB.below hb1 rB.lt
    clear rA rB hb0 hb1 hs0
    go_wp2_with fail
    go_ret
    exact ⟨ret_int HE.out.symm, hB1⟩
  · cases hv2 : vldB c d
    · have HV1 := Lib.hid hv1
      have HV2 := Lib.hid hv2
      have HE : Hid (cmpF a b c d = 0) := cmpF_no (by rw [hv1, hv2]; rfl)
      clear hv1 hv2
      go_enter Tryd.func23, Tryd.ntmps23
      go_wp2_with fail
      obtain ⟨rA, rB, hb0⟩ := rows2 w 23 #[.int .i64 a, .int .i64 b] #[.int .i64 c, .int .i64 d]
      generalize ((w.alloc (Obj.cells #[Value.int .i64 a, Value.int .i64 b] 23)).alloc (Obj.cells #[Value.int .i64 c, Value.int .i64 d] 23)) = w0 at rA rB hb0 ⊢
      have hs0 := hb0.size
      refine (Valid_any a b _).mono ?_
      rintro e w1 ⟨rfl, hb1⟩
      rw [HV1.out]
      have hB1 := below_after hb0 hb1 hs0
      have rA1 := rA.below hb1 rA.lt
      have rB1 := rB.below hb1 rB.lt
      clear rA rB hb0 hb1 hs0
      obtain ⟨b0, b1, _, _⟩ := pair_cells rB1
      have hs1 := hB1.size
      go_wp2_with fail
      refine (Valid_any c d _).mono ?_
      rintro e w2 ⟨rfl, hb2⟩
      rw [HV2.out]
      have hB2 := below_after hB1 hb2 hs1
      have rA2 := rA1.below hb2 rA1.lt
      have rB2 := rB1.below hb2 rB1.lt
      clear rA1 rB1 hB1 hb2 hs1 b0 b1
      go_wp2_with fail
      go_ret
      exact ⟨ret_int HE.out.symm, hB2⟩
    · have HV1 := Lib.hid hv1
      have HV2 := Lib.hid hv2
      obtain ⟨i1, i2, i3, i4, _⟩ := vld_iff.1 hv1
      obtain ⟨j1, j2, j3, j4, _⟩ := vld_iff.1 hv2
      have m1 := prod_in (a := a) (b := d) ⟨i3, i4⟩ ⟨j1, j2⟩
      have m2 := prod_in (a := c) (b := b) ⟨j3, j4⟩ ⟨i1, i2⟩
      have HE := Lib.hid (cmpF_mul hv1 hv2)
      clear hv1 hv2
      obtain ⟨p, hp⟩ : ∃ p, p = a * d := ⟨_, rfl⟩
      obtain ⟨q, hq⟩ : ∃ q, q = c * b := ⟨_, rfl⟩
      rw [← hp, ← hq] at HE
      have W1 : IntKind.i64.wrap (a * d) = p := by rw [hp]; exact IntWalk.i64_in _ (by omega)
      have W2 : IntKind.i64.wrap (c * b) = q := by rw [hq]; exact IntWalk.i64_in _ (by omega)
      clear hp hq m1 m2
      go_enter Tryd.func23, Tryd.ntmps23
      go_wp2_with fail
      obtain ⟨rA, rB, hb0⟩ := rows2 w 23 #[.int .i64 a, .int .i64 b] #[.int .i64 c, .int .i64 d]
      generalize ((w.alloc (Obj.cells #[Value.int .i64 a, Value.int .i64 b] 23)).alloc (Obj.cells #[Value.int .i64 c, Value.int .i64 d] 23)) = w0 at rA rB hb0 ⊢
      have hs0 := hb0.size
      refine (Valid_any a b _).mono ?_
      rintro e w1 ⟨rfl, hb1⟩
      rw [HV1.out]
      have hB1 := below_after hb0 hb1 hs0
      have rA1 := rA.below hb1 rA.lt
      have rB1 := rB.below hb1 rB.lt
      clear rA rB hb0 hb1 hs0
      obtain ⟨b0, b1, _, _⟩ := pair_cells rB1
      have hs1 := hB1.size
      go_wp2_with fail
      refine (Valid_any c d _).mono ?_
      rintro e w2 ⟨rfl, hb2⟩
      rw [HV2.out]
      have hB2 := below_after hB1 hb2 hs1
      have rA2 := rA1.below hb2 rA1.lt
      have rB2 := rB1.below hb2 rB1.lt
      clear rA1 rB1 hB1 hb2 hs1 b0 b1
      obtain ⟨a0, a1, _, _⟩ := pair_cells rA2
      obtain ⟨b0, b1, _, _⟩ := pair_cells rB2
      clear rA2 rB2
      go_wp2_with fail
      go_quiet (fail)
      clear W1 W2 a0 a1 b0 b1
      by_cases hl : p < q
      · go_wp2_with fail
        go_ret
        exact ⟨ret_int (by rw [HE.out, if_pos (by omega)]), Below.draws hB2 _⟩
      · by_cases hl2 : q < p
        · go_wp2_with fail
          go_ret
          exact ⟨ret_int (by rw [HE.out, if_neg (by omega), if_pos (by omega)]), Below.draws hB2 _⟩
        · go_wp2_with fail
          go_ret
          exact ⟨ret_int (by rw [HE.out, if_neg (by omega), if_neg (by omega)]), Below.draws hB2 _⟩

set_option maxRecDepth 100000 in
set_option maxHeartbeats 1600000 in
theorem Neg_any (a b : Int) (w : World) :
    Calls Tryd.prog 46 #[.agg #[.int .i64 a, .int .i64 b]] w (RetF (negF a b) w) := by
  cases hv1 : vldB a b
  · have HV1 := Lib.hid hv1
    have HE : Hid (negF a b = ⟨0, 0, 1⟩) := by rw [Hid, negF, hv1]; rfl
    clear hv1
    go_enter Tryd.func46, Tryd.ntmps46
    go_wp2_with fail
    obtain ⟨rA, rR, hb0⟩ := rows2 w 23 #[.int .i64 a, .int .i64 b] #[.int .i64 0, .int .i64 0]
    generalize ((w.alloc (Obj.cells #[Value.int .i64 a, Value.int .i64 b] 23)).alloc (Obj.cells #[Value.int .i64 0, Value.int .i64 0] 23)) = w0 at rA rR hb0 ⊢
    have hs0 := hb0.size
    refine (Valid_any a b _).mono ?_
    rintro e w1 ⟨rfl, hb1⟩
    rw [HV1.out]
    have hB1 := below_after hb0 hb1 hs0
    obtain ⟨a0, a1, _, _⟩ := pair_cells (rA.below hb1 rA.lt)
    obtain ⟨c0, c1, f0, f1⟩ := pair_cells (rR.below hb1 rR.lt)
    clear rA rR hb0 hb1 hs0
    go_wp2_with fail
    refine bodyPost_ret (v := .tuple #[.agg #[.int .i64 0, .int .i64 0], .int .i64 1]) (by simp [results, Tryd.results46, go_sem, c0, c1]) rfl (RetF.of HE.out ?_)
    exact Below.set2 hB1 (by omega) _ _
  · have HV1 := Lib.hid hv1
    have HE : Hid (negF a b = ⟨-a, b, 0⟩) := by rw [Hid, negF, hv1]; rfl
    obtain ⟨i1, i2, i3, i4, _⟩ := vld_iff.1 hv1
    clear hv1
    go_enter Tryd.func46, Tryd.ntmps46
    go_wp2_with fail
    obtain ⟨rA, rR, hb0⟩ := rows2 w 23 #[.int .i64 a, .int .i64 b] #[.int .i64 0, .int .i64 0]
    generalize ((w.alloc (Obj.cells #[Value.int .i64 a, Value.int .i64 b] 23)).alloc (Obj.cells #[Value.int .i64 0, Value.int .i64 0] 23)) = w0 at rA rR hb0 ⊢
    have hs0 := hb0.size
    refine (Valid_any a b _).mono ?_
    rintro e w1 ⟨rfl, hb1⟩
    rw [HV1.out]
    have hB1 := below_after hb0 hb1 hs0
    obtain ⟨a0, a1, _, _⟩ := pair_cells (rA.below hb1 rA.lt)
    obtain ⟨c0, c1, f0, f1⟩ := pair_cells (rR.below hb1 rR.lt)
    clear rA rR hb0 hb1 hs0
    go_wp2_with fail
    refine bodyPost_ret (v := .tuple #[.agg #[.int .i64 (-a), .int .i64 b], .int .i64 0]) (by simp [results, Tryd.results46, go_sem, c0, c1]) rfl (RetF.of HE.out ?_)
    exact Below.set2 hB1 (by omega) _ _

set_option maxRecDepth 100000 in
set_option maxHeartbeats 1600000 in
theorem Floor_any (a b : Int) (w : World) :
    Calls Tryd.prog 26 #[.agg #[.int .i64 a, .int .i64 b]] w fun e w' => e = .returned (.int .i64 (flrF a b)) ∧ Below w.heap.size w w' := by
  cases hv1 : vldB a b
  · have HV1 := Lib.hid hv1
    have HE : Hid (flrF a b = 0) := by rw [Hid, flrF, hv1]; rfl
    clear hv1
    go_enter Tryd.func26, Tryd.ntmps26
    go_wp2_with fail
    refine (Valid_any a b _).mono ?_
    rintro e w1 ⟨rfl, hb1⟩
    rw [HV1.out]
    obtain ⟨a0, a1, _, _⟩ := pair_cells ((Row.new w 23 #[.int .i64 a, .int .i64 b]).below hb1 (by simp))
    have hB1 : Below w.heap.size w w1 := ((Below.refl _ _).alloc (Nat.le_refl _) _).trans (hb1.mono (by simp))
    clear hb1
    go_wp2_with fail
    go_ret
    exact ⟨ret_int HE.out.symm, hB1⟩
  · have HV1 := Lib.hid hv1
    have HE := Lib.hid (flr_bound hv1).1
    obtain ⟨i1, i2, i3, i4, _⟩ := vld_iff.1 hv1
    have hb0 : (b == 0) = false := by simp; omega
    have t1 := tdiv_in (a := a) (b := b) ⟨i3, i4⟩
    have t2 := tmul_in (a := a) (b := b) ⟨i1, i2⟩ ⟨i3, i4⟩
    have t3 := Lib.hid t2.1
    have t4 := t2.2
    clear hv1 t2
    by_cases hm : a.tmod b < 0
    · have HM := Lib.hid (flr_lo i1 hm)
      go_enter Tryd.func26, Tryd.ntmps26
      go_wp2_with fail
      refine (Valid_any a b _).mono ?_
      rintro e w1 ⟨rfl, hb1⟩
      rw [HV1.out]
      obtain ⟨a0, a1, _, _⟩ := pair_cells ((Row.new w 23 #[.int .i64 a, .int .i64 b]).below hb1 (by simp))
      have hB1 : Below w.heap.size w w1 := ((Below.refl _ _).alloc (Nat.le_refl _) _).trans (hb1.mono (by simp))
      clear hb1
      go_wp2_with fail
      go_ret
      exact ⟨ret_int (by rw [HE.out, ← HM.out]), hB1⟩
    · have HM := Lib.hid (flr_hi i1 (Int.not_lt.1 hm))
      go_enter Tryd.func26, Tryd.ntmps26
      go_wp2_with fail
      refine (Valid_any a b _).mono ?_
      rintro e w1 ⟨rfl, hb1⟩
      rw [HV1.out]
      obtain ⟨a0, a1, _, _⟩ := pair_cells ((Row.new w 23 #[.int .i64 a, .int .i64 b]).below hb1 (by simp))
      have hB1 : Below w.heap.size w w1 := ((Below.refl _ _).alloc (Nat.le_refl _) _).trans (hb1.mono (by simp))
      clear hb1
      go_wp2_with fail
      go_ret
      exact ⟨ret_int (by rw [HE.out, ← HM.out]), hB1⟩

set_option maxRecDepth 100000 in
set_option maxHeartbeats 1600000 in
theorem refCompare_any (a b c d : Int) (w : World) :
    Calls Tryd.prog 48 #[.agg #[.int .i64 a, .int .i64 b], .agg #[.int .i64 c, .int .i64 d]] w fun e w' => e = .returned (.int .i64 (cmpF a b c d)) ∧ Below w.heap.size w w' := by
  cases hv1 : vldB a b
  · have HV1 := Lib.hid hv1
    have HE : Hid (cmpF a b c d = 0) := cmpF_no (by rw [hv1]; rfl)
    clear hv1
    go_enter Tryd.func48, Tryd.ntmps48
    go_wp2_with fail
    obtain ⟨rA, rB, hb0⟩ := rows2 w 23 #[.int .i64 a, .int .i64 b] #[.int .i64 c, .int .i64 d]
    generalize ((w.alloc (Obj.cells #[Value.int .i64 a, Value.int .i64 b] 23)).alloc (Obj.cells #[Value.int .i64 c, Value.int .i64 d] 23)) = w0 at rA rB hb0 ⊢
    have hs0 := hb0.size
    refine (refValid_any a b _).mono ?_
    rintro e w1 ⟨rfl, hb1⟩
    rw [HV1.out]
    have hB1 := below_after hb0 hb1 hs0
    have rA1 := rA.below hb1 rA.lt
    have rB1 := rB.below hb1 rB.lt
    clear rA rB hb0 hb1 hs0
    go_wp2_with fail
    go_ret
    exact ⟨ret_int HE.out.symm, hB1⟩
  · cases hv2 : vldB c d
    · have HV1 := Lib.hid hv1
      have HV2 := Lib.hid hv2
      have HE : Hid (cmpF a b c d = 0) := cmpF_no (by rw [hv1, hv2]; rfl)
      clear hv1 hv2
      go_enter Tryd.func48, Tryd.ntmps48
      go_wp2_with fail
      obtain ⟨rA, rB, hb0⟩ := rows2 w 23 #[.int .i64 a, .int .i64 b] #[.int .i64 c, .int .i64 d]
      generalize ((w.alloc (Obj.cells #[Value.int .i64 a, Value.int .i64 b] 23)).alloc (Obj.cells #[Value.int .i64 c, Value.int .i64 d] 23)) = w0 at rA rB hb0 ⊢
      have hs0 := hb0.size
      refine (refValid_any a b _).mono ?_
      rintro e w1 ⟨rfl, hb1⟩
      rw [HV1.out]
      have hB1 := below_after hb0 hb1 hs0
      have rA1 := rA.below hb1 rA.lt
      have rB1 := rB.below hb1 rB.lt
      clear rA rB hb0 hb1 hs0
      obtain ⟨b0, b1, _, _⟩ := pair_cells rB1
      have hs1 := hB1.size
      go_wp2_with fail
      refine (refValid_any c d _).mono ?_
      rintro e w2 ⟨rfl, hb2⟩
      rw [HV2.out]
      have hB2 := below_after hB1 hb2 hs1
      have rA2 := rA1.below hb2 rA1.lt
      have rB2 := rB1.below hb2 rB1.lt
      clear rA1 rB1 hB1 hb2 hs1 b0 b1
      go_wp2_with fail
      go_ret
      exact ⟨ret_int HE.out.symm, hB2⟩
    · have HV1 := Lib.hid hv1
      have HV2 := Lib.hid hv2
      obtain ⟨i1, i2, i3, i4, _⟩ := vld_iff.1 hv1
      obtain ⟨j1, j2, j3, j4, _⟩ := vld_iff.1 hv2
      have m1 := prod_in (a := a) (b := d) ⟨i3, i4⟩ ⟨j1, j2⟩
      have m2 := prod_in (a := c) (b := b) ⟨j3, j4⟩ ⟨i1, i2⟩
      have HE := Lib.hid (cmpF_mul hv1 hv2)
      clear hv1 hv2
      obtain ⟨p, hp⟩ : ∃ p, p = a * d := ⟨_, rfl⟩
      obtain ⟨q, hq⟩ : ∃ q, q = c * b := ⟨_, rfl⟩
      rw [← hp, ← hq] at HE
      have W1 : IntKind.i64.wrap (a * d) = p := by rw [hp]; exact IntWalk.i64_in _ (by omega)
      have W2 : IntKind.i64.wrap (c * b) = q := by rw [hq]; exact IntWalk.i64_in _ (by omega)
      clear hp hq m1 m2
      go_enter Tryd.func48, Tryd.ntmps48
      go_wp2_with fail
      obtain ⟨rA, rB, hb0⟩ := rows2 w 23 #[.int .i64 a, .int .i64 b] #[.int .i64 c, .int .i64 d]
      generalize ((w.alloc (Obj.cells #[Value.int .i64 a, Value.int .i64 b] 23)).alloc (Obj.cells #[Value.int .i64 c, Value.int .i64 d] 23)) = w0 at rA rB hb0 ⊢
      have hs0 := hb0.size
      refine (refValid_any a b _).mono ?_
      rintro e w1 ⟨rfl, hb1⟩
      rw [HV1.out]
      have hB1 := below_after hb0 hb1 hs0
      have rA1 := rA.below hb1 rA.lt
      have rB1 := rB.below hb1 rB.lt
      clear rA rB hb0 hb1 hs0
      obtain ⟨b0, b1, _, _⟩ := pair_cells rB1
      have hs1 := hB1.size
      go_wp2_with fail
      refine (refValid_any c d _).mono ?_
      rintro e w2 ⟨rfl, hb2⟩
      rw [HV2.out]
      have hB2 := below_after hB1 hb2 hs1
      have rA2 := rA1.below hb2 rA1.lt
      have rB2 := rB1.below hb2 rB1.lt
      clear rA1 rB1 hB1 hb2 hs1 b0 b1
      obtain ⟨a0, a1, _, _⟩ := pair_cells rA2
      obtain ⟨b0, b1, _, _⟩ := pair_cells rB2
      clear rA2 rB2
      go_wp2_with fail
      go_quiet (fail)
      clear W1 W2 a0 a1 b0 b1
      by_cases hl : p < q
      · go_wp2_with fail
        go_ret
        exact ⟨ret_int (by rw [HE.out, if_pos (by omega)]), Below.draws hB2 _⟩
      · by_cases hl2 : q < p
        · go_wp2_with fail
          go_ret
          exact ⟨ret_int (by rw [HE.out, if_neg (by omega), if_pos (by omega)]), Below.draws hB2 _⟩
        · go_wp2_with fail
          go_ret
          exact ⟨ret_int (by rw [HE.out, if_neg (by omega), if_neg (by omega)]), Below.draws hB2 _⟩

set_option maxRecDepth 100000 in
set_option maxHeartbeats 1600000 in
theorem refNeg_any (a b : Int) (w : World) :
    Calls Tryd.prog 47 #[.agg #[.int .i64 a, .int .i64 b]] w (RetF (negF a b) w) := by
  cases hv1 : vldB a b
  · have HV1 := Lib.hid hv1
    have HE : Hid (negF a b = ⟨0, 0, 1⟩) := by rw [Hid, negF, hv1]; rfl
    clear hv1
    go_enter Tryd.func47, Tryd.ntmps47
    go_wp2_with fail
    obtain ⟨rA, rR, hb0⟩ := rows2 w 23 #[.int .i64 a, .int .i64 b] #[.int .i64 0, .int .i64 0]
    generalize ((w.alloc (Obj.cells #[Value.int .i64 a, Value.int .i64 b] 23)).alloc (Obj.cells #[Value.int .i64 0, Value.int .i64 0] 23)) = w0 at rA rR hb0 ⊢
    have hs0 := hb0.size
    refine (refValid_any a b _).mono ?_
    rintro e w1 ⟨rfl, hb1⟩
    rw [HV1.out]
    have hB1 := below_after hb0 hb1 hs0
    obtain ⟨a0, a1, _, _⟩ := pair_cells (rA.below hb1 rA.lt)
    obtain ⟨c0, c1, f0, f1⟩ := pair_cells (rR.below hb1 rR.lt)
    clear rA rR hb0 hb1 hs0
    go_wp2_with fail
    refine bodyPost_ret (v := .tuple #[.agg #[.int .i64 0, .int .i64 0], .int .i64 1]) (by simp [results, Tryd.results47, go_sem, c0, c1]) rfl (RetF.of HE.out ?_)
    exact Below.set2 hB1 (by omega) _ _
  · have HV1 := Lib.hid hv1
    have HE : Hid (negF a b = ⟨-a, b, 0⟩) := by rw [Hid, negF, hv1]; rfl
    obtain ⟨i1, i2, i3, i4, _⟩ := vld_iff.1 hv1
    clear hv1
    go_enter Tryd.func47, Tryd.ntmps47
    go_wp2_with fail
    obtain ⟨rA, rR, hb0⟩ := rows2 w 23 #[.int .i64 a, .int .i64 b] #[.int .i64 0, .int .i64 0]
    generalize ((w.alloc (Obj.cells #[Value.int .i64 a, Value.int .i64 b] 23)).alloc (Obj.cells #[Value.int .i64 0, Value.int .i64 0] 23)) = w0 at rA rR hb0 ⊢
    have hs0 := hb0.size
    refine (refValid_any a b _).mono ?_
    rintro e w1 ⟨rfl, hb1⟩
    rw [HV1.out]
    have hB1 := below_after hb0 hb1 hs0
    obtain ⟨a0, a1, _, _⟩ := pair_cells (rA.below hb1 rA.lt)
    obtain ⟨c0, c1, f0, f1⟩ := pair_cells (rR.below hb1 rR.lt)
    clear rA rR hb0 hb1 hs0
    go_wp2_with fail
    refine bodyPost_ret (v := .tuple #[.agg #[.int .i64 (-a), .int .i64 b], .int .i64 0]) (by simp [results, Tryd.results47, go_sem, c0, c1]) rfl (RetF.of HE.out ?_)
    exact Below.set2 hB1 (by omega) _ _

set_option maxRecDepth 100000 in
set_option maxHeartbeats 1600000 in
theorem refFloor_any (a b : Int) (w : World) :
    Calls Tryd.prog 49 #[.agg #[.int .i64 a, .int .i64 b]] w fun e w' => e = .returned (.int .i64 (flrF a b)) ∧ Below w.heap.size w w' := by
  cases hv1 : vldB a b
  · have HV1 := Lib.hid hv1
    have HE : Hid (flrF a b = 0) := by rw [Hid, flrF, hv1]; rfl
    clear hv1
    go_enter Tryd.func49, Tryd.ntmps49
    go_wp2_with fail
    refine (refValid_any a b _).mono ?_
    rintro e w1 ⟨rfl, hb1⟩
    rw [HV1.out]
    obtain ⟨a0, a1, _, _⟩ := pair_cells ((Row.new w 23 #[.int .i64 a, .int .i64 b]).below hb1 (by simp))
    have hB1 : Below w.heap.size w w1 := ((Below.refl _ _).alloc (Nat.le_refl _) _).trans (hb1.mono (by simp))
    clear hb1
    go_wp2_with fail
    go_ret
    exact ⟨ret_int HE.out.symm, hB1⟩
  · have HV1 := Lib.hid hv1
    have HE := Lib.hid (flr_bound hv1).1
    obtain ⟨i1, i2, i3, i4, _⟩ := vld_iff.1 hv1
    have hb0 : (b == 0) = false := by simp; omega
    have t1 := tdiv_in (a := a) (b := b) ⟨i3, i4⟩
    have t2 := tmul_in (a := a) (b := b) ⟨i1, i2⟩ ⟨i3, i4⟩
    have t3 := Lib.hid t2.1
    have t4 := t2.2
    clear hv1 t2
    by_cases hm : a.tmod b < 0
    · have HM := Lib.hid (flr_lo i1 hm)
      have hq : a < a.tdiv b * b := by rw [t3.out]; omega
      go_enter Tryd.func49, Tryd.ntmps49
      go_wp2_with fail
      refine (refValid_any a b _).mono ?_
      rintro e w1 ⟨rfl, hb1⟩
      rw [HV1.out]
      obtain ⟨a0, a1, _, _⟩ := pair_cells ((Row.new w 23 #[.int .i64 a, .int .i64 b]).below hb1 (by simp))
      have hB1 : Below w.heap.size w w1 := ((Below.refl _ _).alloc (Nat.le_refl _) _).trans (hb1.mono (by simp))
      clear hb1
      go_wp2_with fail
      go_ret
      exact ⟨ret_int (by rw [HE.out, ← HM.out]), hB1⟩
    · have HM := Lib.hid (flr_hi i1 (Int.not_lt.1 hm))
      have hq : a.tdiv b * b ≤ a := by rw [t3.out]; omega
      go_enter Tryd.func49, Tryd.ntmps49
      go_wp2_with fail
      refine (refValid_any a b _).mono ?_
      rintro e w1 ⟨rfl, hb1⟩
      rw [HV1.out]
      obtain ⟨a0, a1, _, _⟩ := pair_cells ((Row.new w 23 #[.int .i64 a, .int .i64 b]).below hb1 (by simp))
      have hB1 : Below w.heap.size w w1 := ((Below.refl _ _).alloc (Nat.le_refl _) _).trans (hb1.mono (by simp))
      clear hb1
      go_wp2_with fail
      go_ret
      exact ⟨ret_int (by rw [HE.out, ← HM.out]), hB1⟩

end Go.Proofs.YtkdmbkhgcahpiaaDoor
