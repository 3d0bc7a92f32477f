/- Contract of payrolllaw1.agrees: it returns true. -/
import Derived.Test.YtkdmbkhgcahpiaaDoorRatZ
import Derived.Test.YtkdmbkhgcahpiaaDoorTRat
import Derived.Deep.CutBlock
import Derived.Deep.DeepCutAuto
namespace Go.Proofs.YtkdmbkhgcahpiaaDoor
open Go.RowKit

set_option maxRecDepth 100000 in
set_option maxHeartbeats 6400000 in
theorem agrees_any (a b c d : Int) (w : World) :
    Calls Tryd.prog 29 #[.agg #[.int .i64 a, .int .i64 b], .agg #[.int .i64 c, .int .i64 d]] w fun e w' => e = .returned (.bool true) ∧ Below w.heap.size w w' := by
  go_enter Tryd.func29, Tryd.ntmps29
  go_wp2_with fail
  obtain ⟨A_1, Bx_1, hB_1⟩ := rows2 w 23 #[.int .i64 a, .int .i64 b] #[.int .i64 c, .int .i64 d]
  generalize ((w.alloc (Obj.cells #[Value.int .i64 a, Value.int .i64 b] 23)).alloc (Obj.cells #[Value.int .i64 c, Value.int .i64 d] 23)) = w1 at A_1 Bx_1 hB_1 ⊢
  have hs_1 := hB_1.size
  obtain ⟨S, hS⟩ : ∃ x, x = addF a b c d := ⟨_, rfl⟩
  have HS := Lib.hid hS
  clear hS
  obtain ⟨U, hU⟩ : ∃ x, x = subF a b c d := ⟨_, rfl⟩
  have HU := Lib.hid hU
  clear hU
  obtain ⟨M, hM⟩ : ∃ x, x = mulF a b c d := ⟨_, rfl⟩
  have HM := Lib.hid hM
  clear hM
  obtain ⟨Dv, hDv⟩ : ∃ x, x = divF a b c d := ⟨_, rfl⟩
  have HDv := Lib.hid hDv
  clear hDv
  obtain ⟨Ng, hNg⟩ : ∃ x, x = negF a b := ⟨_, rfl⟩
  have HNg := Lib.hid hNg
  clear hNg
  obtain ⟨V, hV⟩ : ∃ x, x = vldB a b := ⟨_, rfl⟩
  have HV := Lib.hid hV
  clear hV
  obtain ⟨K, hK⟩ : ∃ x, x = cmpF a b c d := ⟨_, rfl⟩
  have HK := Lib.hid hK
  clear hK
  obtain ⟨Fl, hFl⟩ : ∃ x, x = flrF a b := ⟨_, rfl⟩
  have HFl := Lib.hid hFl
  clear hFl
  refine (Add_any a b c d _).mono ?_
  rintro e w2 ⟨rfl, hb⟩
  rw [← HS.out]
  have A_2 := A_1.below hb A_1.lt
  have Bx_2 := Bx_1.below hb Bx_1.lt
  have hB_2 := below_after hB_1 hb hB_1.size
  clear A_1 Bx_1 hB_1 hb
  have hs_2 := hB_2.size
  obtain ⟨cA0, cA1, fA0, fA1⟩ := pair_cells A_2
  have lA := A_2.lt
  obtain ⟨cBx0, cBx1, fBx0, fBx1⟩ := pair_cells Bx_2
  have lBx := Bx_2.lt
  go_wp2_with fail
  clear cA0 cA1 fA0 fA1 lA cBx0 cBx1 fBx0 fBx1 lBx
  have hal : Below w2.heap.size w2 (w2.alloc (.cells #[.int .i64 S.n, .int .i64 S.d] 23)) := (Below.refl _ _).alloc (Nat.le_refl _) _
  have R5_3 := Row.new w2 23 #[.int .i64 S.n, .int .i64 S.d]
  have oAR5 : w.heap.size < w2.heap.size := A_2.lt
  have A_3 := A_2.below hal A_2.lt
  have oBxR5 : w.heap.size + 1 < w2.heap.size := Bx_2.lt
  have Bx_3 := Bx_2.below hal Bx_2.lt
  have hB_3 := below_after hB_2 hal hB_2.size
  clear hal A_2 Bx_2 hB_2
  generalize w2.alloc (Obj.cells #[Value.int .i64 S.n, Value.int .i64 S.d] 23) = w3 at A_3 Bx_3 R5_3 hB_3 ⊢
  have hbx_3 : w.heap.size ≤ w2.heap.size := hs_2
  generalize hgR5 : w2.heap.size = gR5 at R5_3 hbx_3 hs_2 oAR5 oBxR5  ⊢
  clear hgR5
  have hs_3 := hB_3.size
  refine (refAdd_any a b c d _).mono ?_
  rintro e w4 ⟨rfl, hb⟩
  rw [← HS.out]
  have A_4 := A_3.below hb A_3.lt
  have Bx_4 := Bx_3.below hb Bx_3.lt
  have R5_4 := R5_3.below hb R5_3.lt
  have hB_4 := below_after hB_3 hb hB_3.size
  clear A_3 Bx_3 R5_3 hB_3 hb
  have hs_4 := hB_4.size
  obtain ⟨cA0, cA1, fA0, fA1⟩ := pair_cells A_4
  have lA := A_4.lt
  obtain ⟨cBx0, cBx1, fBx0, fBx1⟩ := pair_cells Bx_4
  have lBx := Bx_4.lt
  obtain ⟨cR50, cR51, fR50, fR51⟩ := pair_cells R5_4
  have lR5 := R5_4.lt
  go_wp2_with fail
  clear cA0 cA1 fA0 fA1 lA cBx0 cBx1 fBx0 fBx1 lBx cR50 cR51 fR50 fR51 lR5
  have hal : Below w4.heap.size w4 (w4.alloc (.cells #[.int .i64 S.n, .int .i64 S.d] 23)) := (Below.refl _ _).alloc (Nat.le_refl _) _
  have R7_5 := Row.new w4 23 #[.int .i64 S.n, .int .i64 S.d]
  have oAR7 : w.heap.size < w4.heap.size := A_4.lt
  have A_5 := A_4.below hal A_4.lt
  have oBxR7 : w.heap.size + 1 < w4.heap.size := Bx_4.lt
  have Bx_5 := Bx_4.below hal Bx_4.lt
  have oR5R7 : gR5 < w4.heap.size := R5_4.lt
  have R5_5 := R5_4.below hal R5_4.lt
  have hB_5 := below_after hB_4 hal hB_4.size
  clear hal A_4 Bx_4 R5_4 hB_4
  generalize w4.alloc (Obj.cells #[Value.int .i64 S.n, Value.int .i64 S.d] 23) = w5 at A_5 Bx_5 R5_5 R7_5 hB_5 ⊢
  have hbx_5 : w.heap.size ≤ w4.heap.size := hs_4
  generalize hgR7 : w4.heap.size = gR7 at R7_5 hbx_5 hs_4 oAR7 oBxR7 oR5R7  ⊢
  clear hgR7
  have hs_5 := hB_5.size
  refine (Sub_any a b c d _).mono ?_
  rintro e w6 ⟨rfl, hb⟩
  rw [← HU.out]
  have A_6 := A_5.below hb A_5.lt
  have Bx_6 := Bx_5.below hb Bx_5.lt
  have R5_6 := R5_5.below hb R5_5.lt
  have R7_6 := R7_5.below hb R7_5.lt
  have hB_6 := below_after hB_5 hb hB_5.size
  clear A_5 Bx_5 R5_5 R7_5 hB_5 hb
  have hs_6 := hB_6.size
  obtain ⟨cA0, cA1, fA0, fA1⟩ := pair_cells A_6
  have lA := A_6.lt
  obtain ⟨cBx0, cBx1, fBx0, fBx1⟩ := pair_cells Bx_6
  have lBx := Bx_6.lt
  obtain ⟨cR50, cR51, fR50, fR51⟩ := pair_cells R5_6
  have lR5 := R5_6.lt
  obtain ⟨cR70, cR71, fR70, fR71⟩ := pair_cells R7_6
  have lR7 := R7_6.lt
  go_wp2_with fail
  clear cA0 cA1 fA0 fA1 lA cBx0 cBx1 fBx0 fBx1 lBx cR50 cR51 fR50 fR51 lR5 cR70 cR71 fR70 fR71 lR7
  have hal : Below w6.heap.size w6 (w6.alloc (.cells #[.int .i64 U.n, .int .i64 U.d] 23)) := (Below.refl _ _).alloc (Nat.le_refl _) _
  have R9_7 := Row.new w6 23 #[.int .i64 U.n, .int .i64 U.d]
  have oAR9 : w.heap.size < w6.heap.size := A_6.lt
  have A_7 := A_6.below hal A_6.lt
  have oBxR9 : w.heap.size + 1 < w6.heap.size := Bx_6.lt
  have Bx_7 := Bx_6.below hal Bx_6.lt
  have oR5R9 : gR5 < w6.heap.size := R5_6.lt
  have R5_7 := R5_6.below hal R5_6.lt
  have oR7R9 : gR7 < w6.heap.size := R7_6.lt
  have R7_7 := R7_6.below hal R7_6.lt
  have hB_7 := below_after hB_6 hal hB_6.size
  clear hal A_6 Bx_6 R5_6 R7_6 hB_6
  generalize w6.alloc (Obj.cells #[Value.int .i64 U.n, Value.int .i64 U.d] 23) = w7 at A_7 Bx_7 R5_7 R7_7 R9_7 hB_7 ⊢
  have hbx_7 : w.heap.size ≤ w6.heap.size := hs_6
  generalize hgR9 : w6.heap.size = gR9 at R9_7 hbx_7 hs_6 oAR9 oBxR9 oR5R9 oR7R9  ⊢
  clear hgR9
  have hs_7 := hB_7.size
  refine (refSub_any a b c d _).mono ?_
  rintro e w8 ⟨rfl, hb⟩
  rw [← HU.out]
  have A_8 := A_7.below hb A_7.lt
  have Bx_8 := Bx_7.below hb Bx_7.lt
  have R5_8 := R5_7.below hb R5_7.lt
  have R7_8 := R7_7.below hb R7_7.lt
  have R9_8 := R9_7.below hb R9_7.lt
  have hB_8 := below_after hB_7 hb hB_7.size
  clear A_7 Bx_7 R5_7 R7_7 R9_7 hB_7 hb
  have hs_8 := hB_8.size
  obtain ⟨cA0, cA1, fA0, fA1⟩ := pair_cells A_8
  have lA := A_8.lt
  obtain ⟨cBx0, cBx1, fBx0, fBx1⟩ := pair_cells Bx_8
  have lBx := Bx_8.lt
  obtain ⟨cR50, cR51, fR50, fR51⟩ := pair_cells R5_8
  have lR5 := R5_8.lt
  obtain ⟨cR70, cR71, fR70, fR71⟩ := pair_cells R7_8
  have lR7 := R7_8.lt
  obtain ⟨cR90, cR91, fR90, fR91⟩ := pair_cells R9_8
  have lR9 := R9_8.lt
  go_upto_region 5 with (fail)
  clear cA0 cA1 fA0 fA1 lA cBx0 cBx1 fBx0 fBx1 lBx cR50 cR51 fR50 fR51 lR5 cR70 cR71 fR70 fR71 lR7 cR90 cR91 fR90 fR91 lR9
  have hal : Below w8.heap.size w8 (w8.alloc (.cells #[.int .i64 U.n, .int .i64 U.d] 23)) := (Below.refl _ _).alloc (Nat.le_refl _) _
  have R11_9 := Row.new w8 23 #[.int .i64 U.n, .int .i64 U.d]
  have oAR11 : w.heap.size < w8.heap.size := A_8.lt
  have A_9 := A_8.below hal A_8.lt
  have oBxR11 : w.heap.size + 1 < w8.heap.size := Bx_8.lt
  have Bx_9 := Bx_8.below hal Bx_8.lt
  have oR5R11 : gR5 < w8.heap.size := R5_8.lt
  have R5_9 := R5_8.below hal R5_8.lt
  have oR7R11 : gR7 < w8.heap.size := R7_8.lt
  have R7_9 := R7_8.below hal R7_8.lt
  have oR9R11 : gR9 < w8.heap.size := R9_8.lt
  have R9_9 := R9_8.below hal R9_8.lt
  have hB_9 := below_after hB_8 hal hB_8.size
  clear hal A_8 Bx_8 R5_8 R7_8 R9_8 hB_8
  generalize w8.alloc (Obj.cells #[Value.int .i64 U.n, Value.int .i64 U.d] 23) = w9 at A_9 Bx_9 R5_9 R7_9 R9_9 R11_9 hB_9 ⊢
  have hbx_9 : w.heap.size ≤ w8.heap.size := hs_8
  generalize hgR11 : w8.heap.size = gR11 at R11_9 hbx_9 hs_8 oAR11 oBxR11 oR5R11 oR7R11 oR9R11  ⊢
  clear hgR11
  have hs_9 := hB_9.size
  obtain ⟨cA0, cA1, fA0, fA1⟩ := pair_cells A_9
  have lA := A_9.lt
  obtain ⟨cBx0, cBx1, fBx0, fBx1⟩ := pair_cells Bx_9
  have lBx := Bx_9.lt
  obtain ⟨cR50, cR51, fR50, fR51⟩ := pair_cells R5_9
  have lR5 := R5_9.lt
  obtain ⟨cR70, cR71, fR70, fR71⟩ := pair_cells R7_9
  have lR7 := R7_9.lt
  obtain ⟨cR90, cR91, fR90, fR91⟩ := pair_cells R9_9
  have lR9 := R9_9.lt
  obtain ⟨cR110, cR111, fR110, fR111⟩ := pair_cells R11_9
  have lR11 := R11_9.lt
  go_cut [58] (fun s wx => s = .bool false ∧ Below w9.heap.size w9 wx)
  case first =>
    have hM_9 : Below w9.heap.size w9 w9 := Below.refl _ _
    obtain ⟨cA0, cA1, fA0, fA1⟩ := pair_cells A_9
    have lA := A_9.lt
    obtain ⟨cBx0, cBx1, fBx0, fBx1⟩ := pair_cells Bx_9
    have lBx := Bx_9.lt
    obtain ⟨cR50, cR51, fR50, fR51⟩ := pair_cells R5_9
    have lR5 := R5_9.lt
    obtain ⟨cR70, cR71, fR70, fR71⟩ := pair_cells R7_9
    have lR7 := R7_9.lt
    obtain ⟨cR90, cR91, fR90, fR91⟩ := pair_cells R9_9
    have lR9 := R9_9.lt
    obtain ⟨cR110, cR111, fR110, fR111⟩ := pair_cells R11_9
    have lR11 := R11_9.lt
    go_wp2_with fail
    clear cA0 cA1 fA0 fA1 lA cBx0 cBx1 fBx0 fBx1 lBx cR50 cR51 fR50 fR51 lR5 cR70 cR71 fR70 fR71 lR7 cR90 cR91 fR90 fR91 lR9 cR110 cR111 fR110 fR111 lR11
    go_meet
    exact ⟨rfl, hM_9⟩
  case rest =>
    obtain ⟨rfl, hb⟩ := hcut
    obtain ⟨w10, hwc⟩ : ∃ x : World, x = wc := ⟨_, rfl⟩
    subst hwc
    clear cA0 cA1 fA0 fA1 lA cBx0 cBx1 fBx0 fBx1 lBx cR50 cR51 fR50 fR51 lR5 cR70 cR71 fR70 fR71 lR7 cR90 cR91 fR90 fR91 lR9 cR110 cR111 fR110 fR111 lR11
    have A_10 := A_9.below hb A_9.lt
    have Bx_10 := Bx_9.below hb Bx_9.lt
    have R5_10 := R5_9.below hb R5_9.lt
    have R7_10 := R7_9.below hb R7_9.lt
    have R9_10 := R9_9.below hb R9_9.lt
    have R11_10 := R11_9.below hb R11_9.lt
    have hB_10 := below_after hB_9 hb hB_9.size
    clear A_9 Bx_9 R5_9 R7_9 R9_9 R11_9 hB_9 hb
    have hs_10 := hB_10.size
    obtain ⟨cA0, cA1, fA0, fA1⟩ := pair_cells A_10
    have lA := A_10.lt
    obtain ⟨cBx0, cBx1, fBx0, fBx1⟩ := pair_cells Bx_10
    have lBx := Bx_10.lt
    obtain ⟨cR50, cR51, fR50, fR51⟩ := pair_cells R5_10
    have lR5 := R5_10.lt
    obtain ⟨cR70, cR71, fR70, fR71⟩ := pair_cells R7_10
    have lR7 := R7_10.lt
    obtain ⟨cR90, cR91, fR90, fR91⟩ := pair_cells R9_10
    have lR9 := R9_10.lt
    obtain ⟨cR110, cR111, fR110, fR111⟩ := pair_cells R11_10
    have lR11 := R11_10.lt
    go_wp2_with fail
    clear cA0 cA1 fA0 fA1 lA cBx0 cBx1 fBx0 fBx1 lBx cR50 cR51 fR50 fR51 lR5 cR70 cR71 fR70 fR71 lR7 cR90 cR91 fR90 fR91 lR9 cR110 cR111 fR110 fR111 lR11
    refine (Mul_any a b c d _).mono ?_
    rintro e w11 ⟨rfl, hb⟩
    rw [← HM.out]
    have A_11 := A_10.below hb A_10.lt
    have Bx_11 := Bx_10.below hb Bx_10.lt
    have R5_11 := R5_10.below hb R5_10.lt
    have R7_11 := R7_10.below hb R7_10.lt
    have R9_11 := R9_10.below hb R9_10.lt
    have R11_11 := R11_10.below hb R11_10.lt
    have hB_11 := below_after hB_10 hb hB_10.size
    clear A_10 Bx_10 R5_10 R7_10 R9_10 R11_10 hB_10 hb
    have hs_11 := hB_11.size
    obtain ⟨cA0, cA1, fA0, fA1⟩ := pair_cells A_11
    have lA := A_11.lt
    obtain ⟨cBx0, cBx1, fBx0, fBx1⟩ := pair_cells Bx_11
    have lBx := Bx_11.lt
    obtain ⟨cR50, cR51, fR50, fR51⟩ := pair_cells R5_11
    have lR5 := R5_11.lt
    obtain ⟨cR70, cR71, fR70, fR71⟩ := pair_cells R7_11
    have lR7 := R7_11.lt
    obtain ⟨cR90, cR91, fR90, fR91⟩ := pair_cells R9_11
    have lR9 := R9_11.lt
    obtain ⟨cR110, cR111, fR110, fR111⟩ := pair_cells R11_11
    have lR11 := R11_11.lt
    go_wp2_with fail
    clear cA0 cA1 fA0 fA1 lA cBx0 cBx1 fBx0 fBx1 lBx cR50 cR51 fR50 fR51 lR5 cR70 cR71 fR70 fR71 lR7 cR90 cR91 fR90 fR91 lR9 cR110 cR111 fR110 fR111 lR11
    have A_12 := (A_11.far (p := ⟨gR5, 0, none⟩) (show w.heap.size ≠ gR5 by omega) (.int .i64 M.n)).far (p := ⟨gR5, 1, none⟩) (show w.heap.size ≠ gR5 by omega) (.int .i64 M.d)
    have Bx_12 := (Bx_11.far (p := ⟨gR5, 0, none⟩) (show w.heap.size + 1 ≠ gR5 by omega) (.int .i64 M.n)).far (p := ⟨gR5, 1, none⟩) (show w.heap.size + 1 ≠ gR5 by omega) (.int .i64 M.d)
    have R5_12 : Row ((w11.setCell ⟨gR5, 0, none⟩ (.int .i64 M.n)).setCell ⟨gR5, 1, none⟩ (.int .i64 M.d)) (gR5) 23 #[.int .i64 M.n, .int .i64 M.d] := (R5_11.set 0 _).set 1 _
    have R7_12 := (R7_11.far (p := ⟨gR5, 0, none⟩) (show gR7 ≠ gR5 by omega) (.int .i64 M.n)).far (p := ⟨gR5, 1, none⟩) (show gR7 ≠ gR5 by omega) (.int .i64 M.d)
    have R9_12 := (R9_11.far (p := ⟨gR5, 0, none⟩) (show gR9 ≠ gR5 by omega) (.int .i64 M.n)).far (p := ⟨gR5, 1, none⟩) (show gR9 ≠ gR5 by omega) (.int .i64 M.d)
    have R11_12 := (R11_11.far (p := ⟨gR5, 0, none⟩) (show gR11 ≠ gR5 by omega) (.int .i64 M.n)).far (p := ⟨gR5, 1, none⟩) (show gR11 ≠ gR5 by omega) (.int .i64 M.d)
    have hB_12 : Below w.heap.size w ((w11.setCell ⟨gR5, 0, none⟩ (.int .i64 M.n)).setCell ⟨gR5, 1, none⟩ (.int .i64 M.d)) := Below.set2 hB_11 (by omega) _ _
    clear A_11 Bx_11 R5_11 R7_11 R9_11 R11_11 hB_11
    generalize ((w11.setCell ⟨gR5, 0, none⟩ (.int .i64 M.n)).setCell ⟨gR5, 1, none⟩ (.int .i64 M.d)) = w12 at A_12 Bx_12 R5_12 R7_12 R9_12 R11_12 hB_12 ⊢
    have hs_12 := hB_12.size
    refine (refMul_any a b c d _).mono ?_
    rintro e w13 ⟨rfl, hb⟩
    rw [← HM.out]
    have A_13 := A_12.below hb A_12.lt
    have Bx_13 := Bx_12.below hb Bx_12.lt
    have R5_13 := R5_12.below hb R5_12.lt
    have R7_13 := R7_12.below hb R7_12.lt
    have R9_13 := R9_12.below hb R9_12.lt
    have R11_13 := R11_12.below hb R11_12.lt
    have hB_13 := below_after hB_12 hb hB_12.size
    clear A_12 Bx_12 R5_12 R7_12 R9_12 R11_12 hB_12 hb
    have hs_13 := hB_13.size
    obtain ⟨cA0, cA1, fA0, fA1⟩ := pair_cells A_13
    have lA := A_13.lt
    obtain ⟨cBx0, cBx1, fBx0, fBx1⟩ := pair_cells Bx_13
    have lBx := Bx_13.lt
    obtain ⟨cR50, cR51, fR50, fR51⟩ := pair_cells R5_13
    have lR5 := R5_13.lt
    obtain ⟨cR70, cR71, fR70, fR71⟩ := pair_cells R7_13
    have lR7 := R7_13.lt
    obtain ⟨cR90, cR91, fR90, fR91⟩ := pair_cells R9_13
    have lR9 := R9_13.lt
    obtain ⟨cR110, cR111, fR110, fR111⟩ := pair_cells R11_13
    have lR11 := R11_13.lt
    go_wp2_with fail
    clear cA0 cA1 fA0 fA1 lA cBx0 cBx1 fBx0 fBx1 lBx cR50 cR51 fR50 fR51 lR5 cR70 cR71 fR70 fR71 lR7 cR90 cR91 fR90 fR91 lR9 cR110 cR111 fR110 fR111 lR11
    have A_14 := (A_13.far (p := ⟨gR7, 0, none⟩) (show w.heap.size ≠ gR7 by omega) (.int .i64 M.n)).far (p := ⟨gR7, 1, none⟩) (show w.heap.size ≠ gR7 by omega) (.int .i64 M.d)
    have Bx_14 := (Bx_13.far (p := ⟨gR7, 0, none⟩) (show w.heap.size + 1 ≠ gR7 by omega) (.int .i64 M.n)).far (p := ⟨gR7, 1, none⟩) (show w.heap.size + 1 ≠ gR7 by omega) (.int .i64 M.d)
    have R5_14 := (R5_13.far (p := ⟨gR7, 0, none⟩) (show gR5 ≠ gR7 by omega) (.int .i64 M.n)).far (p := ⟨gR7, 1, none⟩) (show gR5 ≠ gR7 by omega) (.int .i64 M.d)
    have R7_14 : Row ((w13.setCell ⟨gR7, 0, none⟩ (.int .i64 M.n)).setCell ⟨gR7, 1, none⟩ (.int .i64 M.d)) (gR7) 23 #[.int .i64 M.n, .int .i64 M.d] := (R7_13.set 0 _).set 1 _
    have R9_14 := (R9_13.far (p := ⟨gR7, 0, none⟩) (show gR9 ≠ gR7 by omega) (.int .i64 M.n)).far (p := ⟨gR7, 1, none⟩) (show gR9 ≠ gR7 by omega) (.int .i64 M.d)
    have R11_14 := (R11_13.far (p := ⟨gR7, 0, none⟩) (show gR11 ≠ gR7 by omega) (.int .i64 M.n)).far (p := ⟨gR7, 1, none⟩) (show gR11 ≠ gR7 by omega) (.int .i64 M.d)
    have hB_14 : Below w.heap.size w ((w13.setCell ⟨gR7, 0, none⟩ (.int .i64 M.n)).setCell ⟨gR7, 1, none⟩ (.int .i64 M.d)) := Below.set2 hB_13 (by omega) _ _
    clear A_13 Bx_13 R5_13 R7_13 R9_13 R11_13 hB_13
    generalize ((w13.setCell ⟨gR7, 0, none⟩ (.int .i64 M.n)).setCell ⟨gR7, 1, none⟩ (.int .i64 M.d)) = w14 at A_14 Bx_14 R5_14 R7_14 R9_14 R11_14 hB_14 ⊢
    have hs_14 := hB_14.size
    refine (Div_any a b c d _).mono ?_
    rintro e w15 ⟨rfl, hb⟩
    rw [← HDv.out]
    have A_15 := A_14.below hb A_14.lt
    have Bx_15 := Bx_14.below hb Bx_14.lt
    have R5_15 := R5_14.below hb R5_14.lt
    have R7_15 := R7_14.below hb R7_14.lt
    have R9_15 := R9_14.below hb R9_14.lt
    have R11_15 := R11_14.below hb R11_14.lt
    have hB_15 := below_after hB_14 hb hB_14.size
    clear A_14 Bx_14 R5_14 R7_14 R9_14 R11_14 hB_14 hb
    have hs_15 := hB_15.size
    obtain ⟨cA0, cA1, fA0, fA1⟩ := pair_cells A_15
    have lA := A_15.lt
    obtain ⟨cBx0, cBx1, fBx0, fBx1⟩ := pair_cells Bx_15
    have lBx := Bx_15.lt
    obtain ⟨cR50, cR51, fR50, fR51⟩ := pair_cells R5_15
    have lR5 := R5_15.lt
    obtain ⟨cR70, cR71, fR70, fR71⟩ := pair_cells R7_15
    have lR7 := R7_15.lt
    obtain ⟨cR90, cR91, fR90, fR91⟩ := pair_cells R9_15
    have lR9 := R9_15.lt
    obtain ⟨cR110, cR111, fR110, fR111⟩ := pair_cells R11_15
    have lR11 := R11_15.lt
    go_wp2_with fail
    clear cA0 cA1 fA0 fA1 lA cBx0 cBx1 fBx0 fBx1 lBx cR50 cR51 fR50 fR51 lR5 cR70 cR71 fR70 fR71 lR7 cR90 cR91 fR90 fR91 lR9 cR110 cR111 fR110 fR111 lR11
    have A_16 := (A_15.far (p := ⟨gR9, 0, none⟩) (show w.heap.size ≠ gR9 by omega) (.int .i64 Dv.n)).far (p := ⟨gR9, 1, none⟩) (show w.heap.size ≠ gR9 by omega) (.int .i64 Dv.d)
    have Bx_16 := (Bx_15.far (p := ⟨gR9, 0, none⟩) (show w.heap.size + 1 ≠ gR9 by omega) (.int .i64 Dv.n)).far (p := ⟨gR9, 1, none⟩) (show w.heap.size + 1 ≠ gR9 by omega) (.int .i64 Dv.d)
    have R5_16 := (R5_15.far (p := ⟨gR9, 0, none⟩) (show gR5 ≠ gR9 by omega) (.int .i64 Dv.n)).far (p := ⟨gR9, 1, none⟩) (show gR5 ≠ gR9 by omega) (.int .i64 Dv.d)
    have R7_16 := (R7_15.far (p := ⟨gR9, 0, none⟩) (show gR7 ≠ gR9 by omega) (.int .i64 Dv.n)).far (p := ⟨gR9, 1, none⟩) (show gR7 ≠ gR9 by omega) (.int .i64 Dv.d)
    have R9_16 : Row ((w15.setCell ⟨gR9, 0, none⟩ (.int .i64 Dv.n)).setCell ⟨gR9, 1, none⟩ (.int .i64 Dv.d)) (gR9) 23 #[.int .i64 Dv.n, .int .i64 Dv.d] := (R9_15.set 0 _).set 1 _
    have R11_16 := (R11_15.far (p := ⟨gR9, 0, none⟩) (show gR11 ≠ gR9 by omega) (.int .i64 Dv.n)).far (p := ⟨gR9, 1, none⟩) (show gR11 ≠ gR9 by omega) (.int .i64 Dv.d)
    have hB_16 : Below w.heap.size w ((w15.setCell ⟨gR9, 0, none⟩ (.int .i64 Dv.n)).setCell ⟨gR9, 1, none⟩ (.int .i64 Dv.d)) := Below.set2 hB_15 (by omega) _ _
    clear A_15 Bx_15 R5_15 R7_15 R9_15 R11_15 hB_15
    generalize ((w15.setCell ⟨gR9, 0, none⟩ (.int .i64 Dv.n)).setCell ⟨gR9, 1, none⟩ (.int .i64 Dv.d)) = w16 at A_16 Bx_16 R5_16 R7_16 R9_16 R11_16 hB_16 ⊢
    have hs_16 := hB_16.size
    refine (refDiv_any a b c d _).mono ?_
    rintro e w17 ⟨rfl, hb⟩
    rw [← HDv.out]
    have A_17 := A_16.below hb A_16.lt
    have Bx_17 := Bx_16.below hb Bx_16.lt
    have R5_17 := R5_16.below hb R5_16.lt
    have R7_17 := R7_16.below hb R7_16.lt
    have R9_17 := R9_16.below hb R9_16.lt
    have R11_17 := R11_16.below hb R11_16.lt
    have hB_17 := below_after hB_16 hb hB_16.size
    clear A_16 Bx_16 R5_16 R7_16 R9_16 R11_16 hB_16 hb
    have hs_17 := hB_17.size
    obtain ⟨cA0, cA1, fA0, fA1⟩ := pair_cells A_17
    have lA := A_17.lt
    obtain ⟨cBx0, cBx1, fBx0, fBx1⟩ := pair_cells Bx_17
    have lBx := Bx_17.lt
    obtain ⟨cR50, cR51, fR50, fR51⟩ := pair_cells R5_17
    have lR5 := R5_17.lt
    obtain ⟨cR70, cR71, fR70, fR71⟩ := pair_cells R7_17
    have lR7 := R7_17.lt
    obtain ⟨cR90, cR91, fR90, fR91⟩ := pair_cells R9_17
    have lR9 := R9_17.lt
    obtain ⟨cR110, cR111, fR110, fR111⟩ := pair_cells R11_17
    have lR11 := R11_17.lt
    go_wp2_with fail
    clear cA0 cA1 fA0 fA1 lA cBx0 cBx1 fBx0 fBx1 lBx cR50 cR51 fR50 fR51 lR5 cR70 cR71 fR70 fR71 lR7 cR90 cR91 fR90 fR91 lR9 cR110 cR111 fR110 fR111 lR11
    have A_18 := (A_17.far (p := ⟨gR11, 0, none⟩) (show w.heap.size ≠ gR11 by omega) (.int .i64 Dv.n)).far (p := ⟨gR11, 1, none⟩) (show w.heap.size ≠ gR11 by omega) (.int .i64 Dv.d)
    have Bx_18 := (Bx_17.far (p := ⟨gR11, 0, none⟩) (show w.heap.size + 1 ≠ gR11 by omega) (.int .i64 Dv.n)).far (p := ⟨gR11, 1, none⟩) (show w.heap.size + 1 ≠ gR11 by omega) (.int .i64 Dv.d)
    have R5_18 := (R5_17.far (p := ⟨gR11, 0, none⟩) (show gR5 ≠ gR11 by omega) (.int .i64 Dv.n)).far (p := ⟨gR11, 1, none⟩) (show gR5 ≠ gR11 by omega) (.int .i64 Dv.d)
    have R7_18 := (R7_17.far (p := ⟨gR11, 0, none⟩) (show gR7 ≠ gR11 by omega) (.int .i64 Dv.n)).far (p := ⟨gR11, 1, none⟩) (show gR7 ≠ gR11 by omega) (.int .i64 Dv.d)
    have R9_18 := (R9_17.far (p := ⟨gR11, 0, none⟩) (show gR9 ≠ gR11 by omega) (.int .i64 Dv.n)).far (p := ⟨gR11, 1, none⟩) (show gR9 ≠ gR11 by omega) (.int .i64 Dv.d)
    have R11_18 : Row ((w17.setCell ⟨gR11, 0, none⟩ (.int .i64 Dv.n)).setCell ⟨gR11, 1, none⟩ (.int .i64 Dv.d)) (gR11) 23 #[.int .i64 Dv.n, .int .i64 Dv.d] := (R11_17.set 0 _).set 1 _
    have hB_18 : Below w.heap.size w ((w17.setCell ⟨gR11, 0, none⟩ (.int .i64 Dv.n)).setCell ⟨gR11, 1, none⟩ (.int .i64 Dv.d)) := Below.set2 hB_17 (by omega) _ _
    clear A_17 Bx_17 R5_17 R7_17 R9_17 R11_17 hB_17
    generalize ((w17.setCell ⟨gR11, 0, none⟩ (.int .i64 Dv.n)).setCell ⟨gR11, 1, none⟩ (.int .i64 Dv.d)) = w18 at A_18 Bx_18 R5_18 R7_18 R9_18 R11_18 hB_18 ⊢
    have hs_18 := hB_18.size
    refine (Neg_any a b _).mono ?_
    rintro e w19 ⟨rfl, hb⟩
    rw [← HNg.out]
    have A_19 := A_18.below hb A_18.lt
    have Bx_19 := Bx_18.below hb Bx_18.lt
    have R5_19 := R5_18.below hb R5_18.lt
    have R7_19 := R7_18.below hb R7_18.lt
    have R9_19 := R9_18.below hb R9_18.lt
    have R11_19 := R11_18.below hb R11_18.lt
    have hB_19 := below_after hB_18 hb hB_18.size
    clear A_18 Bx_18 R5_18 R7_18 R9_18 R11_18 hB_18 hb
    have hs_19 := hB_19.size
    obtain ⟨cA0, cA1, fA0, fA1⟩ := pair_cells A_19
    have lA := A_19.lt
    obtain ⟨cBx0, cBx1, fBx0, fBx1⟩ := pair_cells Bx_19
    have lBx := Bx_19.lt
    obtain ⟨cR50, cR51, fR50, fR51⟩ := pair_cells R5_19
    have lR5 := R5_19.lt
    obtain ⟨cR70, cR71, fR70, fR71⟩ := pair_cells R7_19
    have lR7 := R7_19.lt
    obtain ⟨cR90, cR91, fR90, fR91⟩ := pair_cells R9_19
    have lR9 := R9_19.lt
    obtain ⟨cR110, cR111, fR110, fR111⟩ := pair_cells R11_19
    have lR11 := R11_19.lt
    go_wp2_with fail
    clear cA0 cA1 fA0 fA1 lA cBx0 cBx1 fBx0 fBx1 lBx cR50 cR51 fR50 fR51 lR5 cR70 cR71 fR70 fR71 lR7 cR90 cR91 fR90 fR91 lR9 cR110 cR111 fR110 fR111 lR11
    have hal : Below w19.heap.size w19 (w19.alloc (.cells #[.int .i64 Ng.n, .int .i64 Ng.d] 23)) := (Below.refl _ _).alloc (Nat.le_refl _) _
    have R13_20 := Row.new w19 23 #[.int .i64 Ng.n, .int .i64 Ng.d]
    have oAR13 : w.heap.size < w19.heap.size := A_19.lt
    have A_20 := A_19.below hal A_19.lt
    have oBxR13 : w.heap.size + 1 < w19.heap.size := Bx_19.lt
    have Bx_20 := Bx_19.below hal Bx_19.lt
    have oR5R13 : gR5 < w19.heap.size := R5_19.lt
    have R5_20 := R5_19.below hal R5_19.lt
    have oR7R13 : gR7 < w19.heap.size := R7_19.lt
    have R7_20 := R7_19.below hal R7_19.lt
    have oR9R13 : gR9 < w19.heap.size := R9_19.lt
    have R9_20 := R9_19.below hal R9_19.lt
    have oR11R13 : gR11 < w19.heap.size := R11_19.lt
    have R11_20 := R11_19.below hal R11_19.lt
    have hB_20 := below_after hB_19 hal hB_19.size
    clear hal A_19 Bx_19 R5_19 R7_19 R9_19 R11_19 hB_19
    generalize w19.alloc (Obj.cells #[Value.int .i64 Ng.n, Value.int .i64 Ng.d] 23) = w20 at A_20 Bx_20 R5_20 R7_20 R9_20 R11_20 R13_20 hB_20 ⊢
    have hbx_20 : w.heap.size ≤ w19.heap.size := hs_19
    generalize hgR13 : w19.heap.size = gR13 at R13_20 hbx_20 hs_19 oAR13 oBxR13 oR5R13 oR7R13 oR9R13 oR11R13  ⊢
    clear hgR13
    have hs_20 := hB_20.size
    refine (refNeg_any a b _).mono ?_
    rintro e w21 ⟨rfl, hb⟩
    rw [← HNg.out]
    have A_21 := A_20.below hb A_20.lt
    have Bx_21 := Bx_20.below hb Bx_20.lt
    have R5_21 := R5_20.below hb R5_20.lt
    have R7_21 := R7_20.below hb R7_20.lt
    have R9_21 := R9_20.below hb R9_20.lt
    have R11_21 := R11_20.below hb R11_20.lt
    have R13_21 := R13_20.below hb R13_20.lt
    have hB_21 := below_after hB_20 hb hB_20.size
    clear A_20 Bx_20 R5_20 R7_20 R9_20 R11_20 R13_20 hB_20 hb
    have hs_21 := hB_21.size
    obtain ⟨cA0, cA1, fA0, fA1⟩ := pair_cells A_21
    have lA := A_21.lt
    obtain ⟨cBx0, cBx1, fBx0, fBx1⟩ := pair_cells Bx_21
    have lBx := Bx_21.lt
    obtain ⟨cR50, cR51, fR50, fR51⟩ := pair_cells R5_21
    have lR5 := R5_21.lt
    obtain ⟨cR70, cR71, fR70, fR71⟩ := pair_cells R7_21
    have lR7 := R7_21.lt
    obtain ⟨cR90, cR91, fR90, fR91⟩ := pair_cells R9_21
    have lR9 := R9_21.lt
    obtain ⟨cR110, cR111, fR110, fR111⟩ := pair_cells R11_21
    have lR11 := R11_21.lt
    obtain ⟨cR130, cR131, fR130, fR131⟩ := pair_cells R13_21
    have lR13 := R13_21.lt
    go_upto_region 13 with (fail)
    clear cA0 cA1 fA0 fA1 lA cBx0 cBx1 fBx0 fBx1 lBx cR50 cR51 fR50 fR51 lR5 cR70 cR71 fR70 fR71 lR7 cR90 cR91 fR90 fR91 lR9 cR110 cR111 fR110 fR111 lR11 cR130 cR131 fR130 fR131 lR13
    have hal : Below w21.heap.size w21 (w21.alloc (.cells #[.int .i64 Ng.n, .int .i64 Ng.d] 23)) := (Below.refl _ _).alloc (Nat.le_refl _) _
    have R15_22 := Row.new w21 23 #[.int .i64 Ng.n, .int .i64 Ng.d]
    have oAR15 : w.heap.size < w21.heap.size := A_21.lt
    have A_22 := A_21.below hal A_21.lt
    have oBxR15 : w.heap.size + 1 < w21.heap.size := Bx_21.lt
    have Bx_22 := Bx_21.below hal Bx_21.lt
    have oR5R15 : gR5 < w21.heap.size := R5_21.lt
    have R5_22 := R5_21.below hal R5_21.lt
    have oR7R15 : gR7 < w21.heap.size := R7_21.lt
    have R7_22 := R7_21.below hal R7_21.lt
    have oR9R15 : gR9 < w21.heap.size := R9_21.lt
    have R9_22 := R9_21.below hal R9_21.lt
    have oR11R15 : gR11 < w21.heap.size := R11_21.lt
    have R11_22 := R11_21.below hal R11_21.lt
    have oR13R15 : gR13 < w21.heap.size := R13_21.lt
    have R13_22 := R13_21.below hal R13_21.lt
    have hB_22 := below_after hB_21 hal hB_21.size
    clear hal A_21 Bx_21 R5_21 R7_21 R9_21 R11_21 R13_21 hB_21
    generalize w21.alloc (Obj.cells #[Value.int .i64 Ng.n, Value.int .i64 Ng.d] 23) = w22 at A_22 Bx_22 R5_22 R7_22 R9_22 R11_22 R13_22 R15_22 hB_22 ⊢
    have hbx_22 : w.heap.size ≤ w21.heap.size := hs_21
    generalize hgR15 : w21.heap.size = gR15 at R15_22 hbx_22 hs_21 oAR15 oBxR15 oR5R15 oR7R15 oR9R15 oR11R15 oR13R15  ⊢
    clear hgR15
    have hs_22 := hB_22.size
    obtain ⟨cA0, cA1, fA0, fA1⟩ := pair_cells A_22
    have lA := A_22.lt
    obtain ⟨cBx0, cBx1, fBx0, fBx1⟩ := pair_cells Bx_22
    have lBx := Bx_22.lt
    obtain ⟨cR50, cR51, fR50, fR51⟩ := pair_cells R5_22
    have lR5 := R5_22.lt
    obtain ⟨cR70, cR71, fR70, fR71⟩ := pair_cells R7_22
    have lR7 := R7_22.lt
    obtain ⟨cR90, cR91, fR90, fR91⟩ := pair_cells R9_22
    have lR9 := R9_22.lt
    obtain ⟨cR110, cR111, fR110, fR111⟩ := pair_cells R11_22
    have lR11 := R11_22.lt
    obtain ⟨cR130, cR131, fR130, fR131⟩ := pair_cells R13_22
    have lR13 := R13_22.lt
    obtain ⟨cR150, cR151, fR150, fR151⟩ := pair_cells R15_22
    have lR15 := R15_22.lt
    have C1 : Hid (∀ w, Calls Tryd.prog 22 #[.agg #[.int .i64 a, .int .i64 b]] w fun e w' => e = .returned (.bool V) ∧ Below w.heap.size w w') := fun w => by rw [HV.out]; exact Valid_any a b w
    have C2 : Hid (∀ w, Calls Tryd.prog 21 #[.agg #[.int .i64 a, .int .i64 b]] w fun e w' => e = .returned (.bool V) ∧ Below w.heap.size w w') := fun w => by rw [HV.out]; exact refValid_any a b w
    have C3 : Hid (∀ w, Calls Tryd.prog 23 #[.agg #[.int .i64 a, .int .i64 b], .agg #[.int .i64 c, .int .i64 d]] w fun e w' => e = .returned (.int .i64 K) ∧ Below w.heap.size w w') := fun w => by rw [HK.out]; exact Compare_any a b c d w
    have C4 : Hid (∀ w, Calls Tryd.prog 48 #[.agg #[.int .i64 a, .int .i64 b], .agg #[.int .i64 c, .int .i64 d]] w fun e w' => e = .returned (.int .i64 K) ∧ Below w.heap.size w w') := fun w => by rw [HK.out]; exact refCompare_any a b c d w
    have C5 : Hid (∀ w, Calls Tryd.prog 26 #[.agg #[.int .i64 a, .int .i64 b]] w fun e w' => e = .returned (.int .i64 Fl) ∧ Below w.heap.size w w') := fun w => by rw [HFl.out]; exact Floor_any a b w
    have C6 : Hid (∀ w, Calls Tryd.prog 49 #[.agg #[.int .i64 a, .int .i64 b]] w fun e w' => e = .returned (.int .i64 Fl) ∧ Below w.heap.size w w') := fun w => by rw [HFl.out]; exact refFloor_any a b w
    have xA0 := ext_cell lA cA0
    have xA1 := ext_cell lA cA1
    have xBx0 := ext_cell lBx cBx0
    have xBx1 := ext_cell lBx cBx1
    have xR50 := ext_cell lR5 cR50
    have xR51 := ext_cell lR5 cR51
    have xR70 := ext_cell lR7 cR70
    have xR71 := ext_cell lR7 cR71
    have xR90 := ext_cell lR9 cR90
    have xR91 := ext_cell lR9 cR91
    have xR110 := ext_cell lR11 cR110
    have xR111 := ext_cell lR11 cR111
    have xR130 := ext_cell lR13 cR130
    have xR131 := ext_cell lR13 cR131
    have xR150 := ext_cell lR15 cR150
    have xR151 := ext_cell lR15 cR151
    have hbx : ∀ x : Ext w22, Hid (Below w.heap.size w x.val) := fun x => below_after hB_22 x.property hB_22.size
    clear cA0 cA1 fA0 fA1 cBx0 cBx1 fBx0 fBx1 cR50 cR51 fR50 fR51 cR70 cR71 fR70 fR71 cR90 cR91 fR90 fR91 cR110 cR111 fR110 fR111 cR130 cR131 fR130 fR131 cR150 cR151 fR150 fR151
    refine region_ext (by kernel_rfl) (by kernel_rfl) ?_
    repeat (go_big_quiet_step ((first | (go_at_call 22; exact ext_call (C1.out _)) | (go_at_call 21; exact ext_call (C2.out _)) | (go_at_call 23; exact ext_call (C3.out _)) | (go_at_call 48; exact ext_call (C4.out _)) | (go_at_call 26; exact ext_call (C5.out _)) | (go_at_call 49; exact ext_call (C6.out _)))))
    refine wpQuiet_nil ?_
    rintro _ ⟨x, rfl⟩
    go_wp2
    go_ret
    exact ⟨rfl, (hbx x).out⟩
end Go.Proofs.YtkdmbkhgcahpiaaDoor
