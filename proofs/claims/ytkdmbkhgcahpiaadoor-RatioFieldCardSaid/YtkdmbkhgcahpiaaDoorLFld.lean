/- The law RatioField: it returns true. -/
import Derived.Test.YtkdmbkhgcahpiaaDoorRatZ
import Derived.Test.YtkdmbkhgcahpiaaDoorTRat
import Derived.Deep.CutBlock
import Derived.Deep.DeepCutAuto
namespace Go.Proofs.YtkdmbkhgcahpiaaDoor
open Go.RowKit

set_option maxRecDepth 100000 in
set_option maxHeartbeats 6400000 in
theorem RatioField_any (v : Value) (zs : List Int) (w : World) (hT : Tabs w) (hE : Errs w) (hv : Sl w 1 v (ints zs)) :
    Calls Tryd.prog 7 #[v] w fun e w' => e = .returned (.bool true) ∧ Below w.heap.size w w' := by
  have HT := Lib.hid hT
  have HE := Lib.hid hE
  have HV := Lib.hid hv
  clear hT hE hv
  go_enter Tryd.func7, Tryd.ntmps7
  go_wp2_with fail
  refine (tapeNew_any v zs w HV.out).mono ?_
  rintro e w1 ⟨rfl, ht_1, hb⟩
  have hB_1 : Below w.heap.size w w1 := hb
  clear hb
  have hs_1 := hB_1.size
  have htl_1 := ht_1.lt
  clear HV
  go_wp2_with fail
  refine (TRat_any _ _ ht_1).mono ?_
  rintro e w2 ⟨a1, a2, va, rfl, ht_2, hh⟩
  have hB_2 := hB_1.grown hh hB_1.size (fun g hg => by cases hg; omega)
  clear ht_1 hB_1 hh
  have hs_2 := hB_2.size
  have htl_2 := ht_2.lt
  go_wp2_with fail
  refine (TRat_any _ _ ht_2).mono ?_
  rintro e w3 ⟨b1, b2, vb, rfl, ht_3, hh⟩
  have hB_3 := hB_2.grown hh hB_2.size (fun g hg => by cases hg; omega)
  clear ht_2 hB_2 hh
  have hs_3 := hB_3.size
  have htl_3 := ht_3.lt
  go_wp2_with fail
  refine (TRat_any _ _ ht_3).mono ?_
  rintro e w4 ⟨c1, c2, vc, rfl, ht_4, hh⟩
  have hB_4 := hB_3.grown hh hB_3.size (fun g hg => by cases hg; omega)
  clear ht_3 hB_3 hh
  have hs_4 := hB_4.size
  have htl_4 := ht_4.lt
  have VA := Lib.hid va
  have VB := Lib.hid vb
  have VC := Lib.hid vc
  clear va vb vc
  go_wp2_with fail
  obtain ⟨A_5, Bx_5, C_5, hal0⟩ := rows3 w4 23 #[.int .i64 a1, .int .i64 a2] #[.int .i64 b1, .int .i64 b2] #[.int .i64 c1, .int .i64 c2]
  have hal : Below w4.heap.size w4 (((w4.alloc (Obj.cells #[Value.int .i64 a1, Value.int .i64 a2] 23)).alloc (Obj.cells #[Value.int .i64 b1, Value.int .i64 b2] 23)).alloc (Obj.cells #[Value.int .i64 c1, Value.int .i64 c2] 23)) := hal0
  have ht_5 := ht_4.below hal
  have hB_5 := below_after hB_4 hal hB_4.size
  clear hal hal0 ht_4 hB_4
  generalize (((w4.alloc (Obj.cells #[Value.int .i64 a1, Value.int .i64 a2] 23)).alloc (Obj.cells #[Value.int .i64 b1, Value.int .i64 b2] 23)).alloc (Obj.cells #[Value.int .i64 c1, Value.int .i64 c2] 23)) = w5 at A_5 Bx_5 C_5 ht_5 hB_5 ⊢
  generalize hg3 : w4.heap.size = gA at A_5 Bx_5 C_5 hs_4 htl_4 ⊢
  clear hg3
  have hs_5 := hB_5.size
  have htl_5 := ht_5.lt
  clear ht_5
  obtain ⟨AB, hAB⟩ : ∃ x, x = addF a1 a2 b1 b2 := ⟨_, rfl⟩
  have HAB := Lib.hid hAB
  clear hAB
  obtain ⟨P, hP⟩ : ∃ x, x = mulF a1 a2 b1 b2 := ⟨_, rfl⟩
  have HP := Lib.hid hP
  clear hP
  obtain ⟨BC, hBC⟩ : ∃ x, x = addF b1 b2 c1 c2 := ⟨_, rfl⟩
  have HBC := Lib.hid hBC
  clear hBC
  obtain ⟨L, hL⟩ : ∃ x, x = mulF a1 a2 BC.n BC.d := ⟨_, rfl⟩
  have HL := Lib.hid hL
  clear hL
  obtain ⟨AC, hAC⟩ : ∃ x, x = mulF a1 a2 c1 c2 := ⟨_, rfl⟩
  have HAC := Lib.hid hAC
  clear hAC
  obtain ⟨R, hR⟩ : ∃ x, x = addF P.n P.d AC.n AC.d := ⟨_, rfl⟩
  have HR := Lib.hid hR
  clear hR
  refine (Add_any a1 a2 b1 b2 _).mono ?_
  rintro e w6 ⟨rfl, hb⟩
  rw [← HAB.out]
  have A_6 := A_5.below hb A_5.lt
  have Bx_6 := Bx_5.below hb Bx_5.lt
  have C_6 := C_5.below hb C_5.lt
  have hB_6 := below_after hB_5 hb hB_5.size
  clear A_5 Bx_5 C_5 hB_5 hb
  have hs_6 := hB_6.size
  obtain ⟨cA0, cA1, fA0, fA1⟩ := pair_cells A_6
  have lA := A_6.lt
  obtain ⟨cBx0, cBx1, fBx0, fBx1⟩ := pair_cells Bx_6
  have lBx := Bx_6.lt
  obtain ⟨cC0, cC1, fC0, fC1⟩ := pair_cells C_6
  have lC := C_6.lt
  go_wp2_with fail
  clear cA0 cA1 fA0 fA1 lA cBx0 cBx1 fBx0 fBx1 lBx cC0 cC1 fC0 fC1 lC
  have hal : Below w6.heap.size w6 (w6.alloc (.cells #[.int .i64 AB.n, .int .i64 AB.d] 23)) := (Below.refl _ _).alloc (Nat.le_refl _) _
  have AB_7 := Row.new w6 23 #[.int .i64 AB.n, .int .i64 AB.d]
  have oAAB : gA + 0 < w6.heap.size := A_6.lt
  have A_7 := A_6.below hal A_6.lt
  have oBxAB : gA + 1 < w6.heap.size := Bx_6.lt
  have Bx_7 := Bx_6.below hal Bx_6.lt
  have oCAB : gA + 2 < w6.heap.size := C_6.lt
  have C_7 := C_6.below hal C_6.lt
  have hB_7 := below_after hB_6 hal hB_6.size
  clear hal A_6 Bx_6 C_6 hB_6
  generalize w6.alloc (Obj.cells #[Value.int .i64 AB.n, Value.int .i64 AB.d] 23) = w7 at A_7 Bx_7 C_7 AB_7 hB_7 ⊢
  have hbx_7 : w.heap.size ≤ w6.heap.size := hs_6
  generalize hgAB : w6.heap.size = gAB at AB_7 hbx_7 hs_6 oAAB oBxAB oCAB  ⊢
  clear hgAB
  have hs_7 := hB_7.size
  refine (Add_any b1 b2 a1 a2 _).mono ?_
  rintro e w8 ⟨rfl, hb⟩
  rw [addF_comm, ← HAB.out]
  have A_8 := A_7.below hb A_7.lt
  have Bx_8 := Bx_7.below hb Bx_7.lt
  have C_8 := C_7.below hb C_7.lt
  have AB_8 := AB_7.below hb AB_7.lt
  have hB_8 := below_after hB_7 hb hB_7.size
  clear A_7 Bx_7 C_7 AB_7 hB_7 hb
  have hs_8 := hB_8.size
  obtain ⟨cA0, cA1, fA0, fA1⟩ := pair_cells A_8
  have lA := A_8.lt
  obtain ⟨cBx0, cBx1, fBx0, fBx1⟩ := pair_cells Bx_8
  have lBx := Bx_8.lt
  obtain ⟨cC0, cC1, fC0, fC1⟩ := pair_cells C_8
  have lC := C_8.lt
  obtain ⟨cAB0, cAB1, fAB0, fAB1⟩ := pair_cells AB_8
  have lAB := AB_8.lt
  go_wp2_with fail
  clear cA0 cA1 fA0 fA1 lA cBx0 cBx1 fBx0 fBx1 lBx cC0 cC1 fC0 fC1 lC cAB0 cAB1 fAB0 fAB1 lAB
  have hal : Below w8.heap.size w8 (w8.alloc (.cells #[.int .i64 AB.n, .int .i64 AB.d] 23)) := (Below.refl _ _).alloc (Nat.le_refl _) _
  have BA_9 := Row.new w8 23 #[.int .i64 AB.n, .int .i64 AB.d]
  have oABA : gA + 0 < w8.heap.size := A_8.lt
  have A_9 := A_8.below hal A_8.lt
  have oBxBA : gA + 1 < w8.heap.size := Bx_8.lt
  have Bx_9 := Bx_8.below hal Bx_8.lt
  have oCBA : gA + 2 < w8.heap.size := C_8.lt
  have C_9 := C_8.below hal C_8.lt
  have oABBA : gAB < w8.heap.size := AB_8.lt
  have AB_9 := AB_8.below hal AB_8.lt
  have hB_9 := below_after hB_8 hal hB_8.size
  clear hal A_8 Bx_8 C_8 AB_8 hB_8
  generalize w8.alloc (Obj.cells #[Value.int .i64 AB.n, Value.int .i64 AB.d] 23) = w9 at A_9 Bx_9 C_9 AB_9 BA_9 hB_9 ⊢
  have hbx_9 : w.heap.size ≤ w8.heap.size := hs_8
  generalize hgBA : w8.heap.size = gBA at BA_9 hbx_9 hs_8 oABA oBxBA oCBA oABBA  ⊢
  clear hgBA
  have hs_9 := hB_9.size
  refine (Mul_any a1 a2 b1 b2 _).mono ?_
  rintro e w10 ⟨rfl, hb⟩
  rw [← HP.out]
  have A_10 := A_9.below hb A_9.lt
  have Bx_10 := Bx_9.below hb Bx_9.lt
  have C_10 := C_9.below hb C_9.lt
  have AB_10 := AB_9.below hb AB_9.lt
  have BA_10 := BA_9.below hb BA_9.lt
  have hB_10 := below_after hB_9 hb hB_9.size
  clear A_9 Bx_9 C_9 AB_9 BA_9 hB_9 hb
  have hs_10 := hB_10.size
  obtain ⟨cA0, cA1, fA0, fA1⟩ := pair_cells A_10
  have lA := A_10.lt
  obtain ⟨cBx0, cBx1, fBx0, fBx1⟩ := pair_cells Bx_10
  have lBx := Bx_10.lt
  obtain ⟨cC0, cC1, fC0, fC1⟩ := pair_cells C_10
  have lC := C_10.lt
  obtain ⟨cAB0, cAB1, fAB0, fAB1⟩ := pair_cells AB_10
  have lAB := AB_10.lt
  obtain ⟨cBA0, cBA1, fBA0, fBA1⟩ := pair_cells BA_10
  have lBA := BA_10.lt
  go_wp2_with fail
  clear cA0 cA1 fA0 fA1 lA cBx0 cBx1 fBx0 fBx1 lBx cC0 cC1 fC0 fC1 lC cAB0 cAB1 fAB0 fAB1 lAB cBA0 cBA1 fBA0 fBA1 lBA
  have hal : Below w10.heap.size w10 (w10.alloc (.cells #[.int .i64 P.n, .int .i64 P.d] 23)) := (Below.refl _ _).alloc (Nat.le_refl _) _
  have P_11 := Row.new w10 23 #[.int .i64 P.n, .int .i64 P.d]
  have oAP : gA + 0 < w10.heap.size := A_10.lt
  have A_11 := A_10.below hal A_10.lt
  have oBxP : gA + 1 < w10.heap.size := Bx_10.lt
  have Bx_11 := Bx_10.below hal Bx_10.lt
  have oCP : gA + 2 < w10.heap.size := C_10.lt
  have C_11 := C_10.below hal C_10.lt
  have oABP : gAB < w10.heap.size := AB_10.lt
  have AB_11 := AB_10.below hal AB_10.lt
  have oBAP : gBA < w10.heap.size := BA_10.lt
  have BA_11 := BA_10.below hal BA_10.lt
  have hB_11 := below_after hB_10 hal hB_10.size
  clear hal A_10 Bx_10 C_10 AB_10 BA_10 hB_10
  generalize w10.alloc (Obj.cells #[Value.int .i64 P.n, Value.int .i64 P.d] 23) = w11 at A_11 Bx_11 C_11 AB_11 BA_11 P_11 hB_11 ⊢
  have hbx_11 : w.heap.size ≤ w10.heap.size := hs_10
  generalize hgP : w10.heap.size = gP at P_11 hbx_11 hs_10 oAP oBxP oCP oABP oBAP  ⊢
  clear hgP
  have hs_11 := hB_11.size
  refine (Mul_any b1 b2 a1 a2 _).mono ?_
  rintro e w12 ⟨rfl, hb⟩
  rw [mulF_comm, ← HP.out]
  have A_12 := A_11.below hb A_11.lt
  have Bx_12 := Bx_11.below hb Bx_11.lt
  have C_12 := C_11.below hb C_11.lt
  have AB_12 := AB_11.below hb AB_11.lt
  have BA_12 := BA_11.below hb BA_11.lt
  have P_12 := P_11.below hb P_11.lt
  have hB_12 := below_after hB_11 hb hB_11.size
  clear A_11 Bx_11 C_11 AB_11 BA_11 P_11 hB_11 hb
  have hs_12 := hB_12.size
  obtain ⟨cA0, cA1, fA0, fA1⟩ := pair_cells A_12
  have lA := A_12.lt
  obtain ⟨cBx0, cBx1, fBx0, fBx1⟩ := pair_cells Bx_12
  have lBx := Bx_12.lt
  obtain ⟨cC0, cC1, fC0, fC1⟩ := pair_cells C_12
  have lC := C_12.lt
  obtain ⟨cAB0, cAB1, fAB0, fAB1⟩ := pair_cells AB_12
  have lAB := AB_12.lt
  obtain ⟨cBA0, cBA1, fBA0, fBA1⟩ := pair_cells BA_12
  have lBA := BA_12.lt
  obtain ⟨cP0, cP1, fP0, fP1⟩ := pair_cells P_12
  have lP := P_12.lt
  go_upto_region 7 with (fail)
  clear cA0 cA1 fA0 fA1 lA cBx0 cBx1 fBx0 fBx1 lBx cC0 cC1 fC0 fC1 lC cAB0 cAB1 fAB0 fAB1 lAB cBA0 cBA1 fBA0 fBA1 lBA cP0 cP1 fP0 fP1 lP
  have hal : Below w12.heap.size w12 (w12.alloc (.cells #[.int .i64 P.n, .int .i64 P.d] 23)) := (Below.refl _ _).alloc (Nat.le_refl _) _
  have Q_13 := Row.new w12 23 #[.int .i64 P.n, .int .i64 P.d]
  have oAQ : gA + 0 < w12.heap.size := A_12.lt
  have A_13 := A_12.below hal A_12.lt
  have oBxQ : gA + 1 < w12.heap.size := Bx_12.lt
  have Bx_13 := Bx_12.below hal Bx_12.lt
  have oCQ : gA + 2 < w12.heap.size := C_12.lt
  have C_13 := C_12.below hal C_12.lt
  have oABQ : gAB < w12.heap.size := AB_12.lt
  have AB_13 := AB_12.below hal AB_12.lt
  have oBAQ : gBA < w12.heap.size := BA_12.lt
  have BA_13 := BA_12.below hal BA_12.lt
  have oPQ : gP < w12.heap.size := P_12.lt
  have P_13 := P_12.below hal P_12.lt
  have hB_13 := below_after hB_12 hal hB_12.size
  clear hal A_12 Bx_12 C_12 AB_12 BA_12 P_12 hB_12
  generalize w12.alloc (Obj.cells #[Value.int .i64 P.n, Value.int .i64 P.d] 23) = w13 at A_13 Bx_13 C_13 AB_13 BA_13 P_13 Q_13 hB_13 ⊢
  have hbx_13 : w.heap.size ≤ w12.heap.size := hs_12
  generalize hgQ : w12.heap.size = gQ at Q_13 hbx_13 hs_12 oAQ oBxQ oCQ oABQ oBAQ oPQ  ⊢
  clear hgQ
  have hs_13 := hB_13.size
  obtain ⟨cA0, cA1, fA0, fA1⟩ := pair_cells A_13
  have lA := A_13.lt
  obtain ⟨cBx0, cBx1, fBx0, fBx1⟩ := pair_cells Bx_13
  have lBx := Bx_13.lt
  obtain ⟨cC0, cC1, fC0, fC1⟩ := pair_cells C_13
  have lC := C_13.lt
  obtain ⟨cAB0, cAB1, fAB0, fAB1⟩ := pair_cells AB_13
  have lAB := AB_13.lt
  obtain ⟨cBA0, cBA1, fBA0, fBA1⟩ := pair_cells BA_13
  have lBA := BA_13.lt
  obtain ⟨cP0, cP1, fP0, fP1⟩ := pair_cells P_13
  have lP := P_13.lt
  obtain ⟨cQ0, cQ1, fQ0, fQ1⟩ := pair_cells Q_13
  have lQ := Q_13.lt
  go_cut [76] (fun s wx => s = .bool false ∧ Below w13.heap.size w13 wx)
  case first =>
    have hM_13 : Below w13.heap.size w13 w13 := Below.refl _ _
    have x1 : (AB.n == AB.n) = true := by simp
    have x2 : (AB.d == AB.d) = true := by simp
    obtain ⟨cA0, cA1, fA0, fA1⟩ := pair_cells A_13
    have lA := A_13.lt
    obtain ⟨cBx0, cBx1, fBx0, fBx1⟩ := pair_cells Bx_13
    have lBx := Bx_13.lt
    obtain ⟨cC0, cC1, fC0, fC1⟩ := pair_cells C_13
    have lC := C_13.lt
    obtain ⟨cAB0, cAB1, fAB0, fAB1⟩ := pair_cells AB_13
    have lAB := AB_13.lt
    obtain ⟨cBA0, cBA1, fBA0, fBA1⟩ := pair_cells BA_13
    have lBA := BA_13.lt
    obtain ⟨cP0, cP1, fP0, fP1⟩ := pair_cells P_13
    have lP := P_13.lt
    obtain ⟨cQ0, cQ1, fQ0, fQ1⟩ := pair_cells Q_13
    have lQ := Q_13.lt
    go_wp2_with fail
    clear cA0 cA1 fA0 fA1 lA cBx0 cBx1 fBx0 fBx1 lBx cC0 cC1 fC0 fC1 lC cAB0 cAB1 fAB0 fAB1 lAB cBA0 cBA1 fBA0 fBA1 lBA cP0 cP1 fP0 fP1 lP cQ0 cQ1 fQ0 fQ1 lQ
    go_meet
    exact ⟨rfl, hM_13⟩
  case rest =>
    obtain ⟨rfl, hb⟩ := hcut
    obtain ⟨w14, hwc⟩ : ∃ x : World, x = wc := ⟨_, rfl⟩
    subst hwc
    clear cA0 cA1 fA0 fA1 lA cBx0 cBx1 fBx0 fBx1 lBx cC0 cC1 fC0 fC1 lC cAB0 cAB1 fAB0 fAB1 lAB cBA0 cBA1 fBA0 fBA1 lBA cP0 cP1 fP0 fP1 lP cQ0 cQ1 fQ0 fQ1 lQ
    have A_14 := A_13.below hb A_13.lt
    have Bx_14 := Bx_13.below hb Bx_13.lt
    have C_14 := C_13.below hb C_13.lt
    have AB_14 := AB_13.below hb AB_13.lt
    have BA_14 := BA_13.below hb BA_13.lt
    have P_14 := P_13.below hb P_13.lt
    have Q_14 := Q_13.below hb Q_13.lt
    have hB_14 := below_after hB_13 hb hB_13.size
    clear A_13 Bx_13 C_13 AB_13 BA_13 P_13 Q_13 hB_13 hb
    have hs_14 := hB_14.size
    obtain ⟨cA0, cA1, fA0, fA1⟩ := pair_cells A_14
    have lA := A_14.lt
    obtain ⟨cBx0, cBx1, fBx0, fBx1⟩ := pair_cells Bx_14
    have lBx := Bx_14.lt
    obtain ⟨cC0, cC1, fC0, fC1⟩ := pair_cells C_14
    have lC := C_14.lt
    obtain ⟨cAB0, cAB1, fAB0, fAB1⟩ := pair_cells AB_14
    have lAB := AB_14.lt
    obtain ⟨cBA0, cBA1, fBA0, fBA1⟩ := pair_cells BA_14
    have lBA := BA_14.lt
    obtain ⟨cP0, cP1, fP0, fP1⟩ := pair_cells P_14
    have lP := P_14.lt
    obtain ⟨cQ0, cQ1, fQ0, fQ1⟩ := pair_cells Q_14
    have lQ := Q_14.lt
    go_wp2_with fail
    clear cA0 cA1 fA0 fA1 lA cBx0 cBx1 fBx0 fBx1 lBx cC0 cC1 fC0 fC1 lC cAB0 cAB1 fAB0 fAB1 lAB cBA0 cBA1 fBA0 fBA1 lBA cP0 cP1 fP0 fP1 lP cQ0 cQ1 fQ0 fQ1 lQ
    refine (Add_any b1 b2 c1 c2 _).mono ?_
    rintro e w15 ⟨rfl, hb⟩
    rw [← HBC.out]
    have A_15 := A_14.below hb A_14.lt
    have Bx_15 := Bx_14.below hb Bx_14.lt
    have C_15 := C_14.below hb C_14.lt
    have AB_15 := AB_14.below hb AB_14.lt
    have BA_15 := BA_14.below hb BA_14.lt
    have P_15 := P_14.below hb P_14.lt
    have Q_15 := Q_14.below hb Q_14.lt
    have hB_15 := below_after hB_14 hb hB_14.size
    clear A_14 Bx_14 C_14 AB_14 BA_14 P_14 Q_14 hB_14 hb
    have hs_15 := hB_15.size
    obtain ⟨cA0, cA1, fA0, fA1⟩ := pair_cells A_15
    have lA := A_15.lt
    obtain ⟨cBx0, cBx1, fBx0, fBx1⟩ := pair_cells Bx_15
    have lBx := Bx_15.lt
    obtain ⟨cC0, cC1, fC0, fC1⟩ := pair_cells C_15
    have lC := C_15.lt
    obtain ⟨cAB0, cAB1, fAB0, fAB1⟩ := pair_cells AB_15
    have lAB := AB_15.lt
    obtain ⟨cBA0, cBA1, fBA0, fBA1⟩ := pair_cells BA_15
    have lBA := BA_15.lt
    obtain ⟨cP0, cP1, fP0, fP1⟩ := pair_cells P_15
    have lP := P_15.lt
    obtain ⟨cQ0, cQ1, fQ0, fQ1⟩ := pair_cells Q_15
    have lQ := Q_15.lt
    go_wp2_with fail
    clear cA0 cA1 fA0 fA1 lA cBx0 cBx1 fBx0 fBx1 lBx cC0 cC1 fC0 fC1 lC cAB0 cAB1 fAB0 fAB1 lAB cBA0 cBA1 fBA0 fBA1 lBA cP0 cP1 fP0 fP1 lP cQ0 cQ1 fQ0 fQ1 lQ
    have hal : Below w15.heap.size w15 (w15.alloc (.cells #[.int .i64 BC.n, .int .i64 BC.d] 23)) := (Below.refl _ _).alloc (Nat.le_refl _) _
    have BC_16 := Row.new w15 23 #[.int .i64 BC.n, .int .i64 BC.d]
    have oABC : gA + 0 < w15.heap.size := A_15.lt
    have A_16 := A_15.below hal A_15.lt
    have oBxBC : gA + 1 < w15.heap.size := Bx_15.lt
    have Bx_16 := Bx_15.below hal Bx_15.lt
    have oCBC : gA + 2 < w15.heap.size := C_15.lt
    have C_16 := C_15.below hal C_15.lt
    have oABBC : gAB < w15.heap.size := AB_15.lt
    have AB_16 := AB_15.below hal AB_15.lt
    have oBABC : gBA < w15.heap.size := BA_15.lt
    have BA_16 := BA_15.below hal BA_15.lt
    have oPBC : gP < w15.heap.size := P_15.lt
    have P_16 := P_15.below hal P_15.lt
    have oQBC : gQ < w15.heap.size := Q_15.lt
    have Q_16 := Q_15.below hal Q_15.lt
    have hB_16 := below_after hB_15 hal hB_15.size
    clear hal A_15 Bx_15 C_15 AB_15 BA_15 P_15 Q_15 hB_15
    generalize w15.alloc (Obj.cells #[Value.int .i64 BC.n, Value.int .i64 BC.d] 23) = w16 at A_16 Bx_16 C_16 AB_16 BA_16 P_16 Q_16 BC_16 hB_16 ⊢
    have hbx_16 : w.heap.size ≤ w15.heap.size := hs_15
    generalize hgBC : w15.heap.size = gBC at BC_16 hbx_16 hs_15 oABC oBxBC oCBC oABBC oBABC oPBC oQBC  ⊢
    clear hgBC
    have hs_16 := hB_16.size
    refine (Mul_any a1 a2 BC.n BC.d _).mono ?_
    rintro e w17 ⟨rfl, hb⟩
    rw [← HL.out]
    have A_17 := A_16.below hb A_16.lt
    have Bx_17 := Bx_16.below hb Bx_16.lt
    have C_17 := C_16.below hb C_16.lt
    have AB_17 := AB_16.below hb AB_16.lt
    have BA_17 := BA_16.below hb BA_16.lt
    have P_17 := P_16.below hb P_16.lt
    have Q_17 := Q_16.below hb Q_16.lt
    have BC_17 := BC_16.below hb BC_16.lt
    have hB_17 := below_after hB_16 hb hB_16.size
    clear A_16 Bx_16 C_16 AB_16 BA_16 P_16 Q_16 BC_16 hB_16 hb
    have hs_17 := hB_17.size
    obtain ⟨cA0, cA1, fA0, fA1⟩ := pair_cells A_17
    have lA := A_17.lt
    obtain ⟨cBx0, cBx1, fBx0, fBx1⟩ := pair_cells Bx_17
    have lBx := Bx_17.lt
    obtain ⟨cC0, cC1, fC0, fC1⟩ := pair_cells C_17
    have lC := C_17.lt
    obtain ⟨cAB0, cAB1, fAB0, fAB1⟩ := pair_cells AB_17
    have lAB := AB_17.lt
    obtain ⟨cBA0, cBA1, fBA0, fBA1⟩ := pair_cells BA_17
    have lBA := BA_17.lt
    obtain ⟨cP0, cP1, fP0, fP1⟩ := pair_cells P_17
    have lP := P_17.lt
    obtain ⟨cQ0, cQ1, fQ0, fQ1⟩ := pair_cells Q_17
    have lQ := Q_17.lt
    obtain ⟨cBC0, cBC1, fBC0, fBC1⟩ := pair_cells BC_17
    have lBC := BC_17.lt
    go_wp2_with fail
    clear cA0 cA1 fA0 fA1 lA cBx0 cBx1 fBx0 fBx1 lBx cC0 cC1 fC0 fC1 lC cAB0 cAB1 fAB0 fAB1 lAB cBA0 cBA1 fBA0 fBA1 lBA cP0 cP1 fP0 fP1 lP cQ0 cQ1 fQ0 fQ1 lQ cBC0 cBC1 fBC0 fBC1 lBC
    have hal : Below w17.heap.size w17 (w17.alloc (.cells #[.int .i64 L.n, .int .i64 L.d] 23)) := (Below.refl _ _).alloc (Nat.le_refl _) _
    have L_18 := Row.new w17 23 #[.int .i64 L.n, .int .i64 L.d]
    have oAL : gA + 0 < w17.heap.size := A_17.lt
    have A_18 := A_17.below hal A_17.lt
    have oBxL : gA + 1 < w17.heap.size := Bx_17.lt
    have Bx_18 := Bx_17.below hal Bx_17.lt
    have oCL : gA + 2 < w17.heap.size := C_17.lt
    have C_18 := C_17.below hal C_17.lt
    have oABL : gAB < w17.heap.size := AB_17.lt
    have AB_18 := AB_17.below hal AB_17.lt
    have oBAL : gBA < w17.heap.size := BA_17.lt
    have BA_18 := BA_17.below hal BA_17.lt
    have oPL : gP < w17.heap.size := P_17.lt
    have P_18 := P_17.below hal P_17.lt
    have oQL : gQ < w17.heap.size := Q_17.lt
    have Q_18 := Q_17.below hal Q_17.lt
    have oBCL : gBC < w17.heap.size := BC_17.lt
    have BC_18 := BC_17.below hal BC_17.lt
    have hB_18 := below_after hB_17 hal hB_17.size
    clear hal A_17 Bx_17 C_17 AB_17 BA_17 P_17 Q_17 BC_17 hB_17
    generalize w17.alloc (Obj.cells #[Value.int .i64 L.n, Value.int .i64 L.d] 23) = w18 at A_18 Bx_18 C_18 AB_18 BA_18 P_18 Q_18 BC_18 L_18 hB_18 ⊢
    have hbx_18 : w.heap.size ≤ w17.heap.size := hs_17
    generalize hgL : w17.heap.size = gL at L_18 hbx_18 hs_17 oAL oBxL oCL oABL oBAL oPL oQL oBCL  ⊢
    clear hgL
    have hs_18 := hB_18.size
    refine (Mul_any a1 a2 c1 c2 _).mono ?_
    rintro e w19 ⟨rfl, hb⟩
    rw [← HAC.out]
    have A_19 := A_18.below hb A_18.lt
    have Bx_19 := Bx_18.below hb Bx_18.lt
    have C_19 := C_18.below hb C_18.lt
    have AB_19 := AB_18.below hb AB_18.lt
    have BA_19 := BA_18.below hb BA_18.lt
    have P_19 := P_18.below hb P_18.lt
    have Q_19 := Q_18.below hb Q_18.lt
    have BC_19 := BC_18.below hb BC_18.lt
    have L_19 := L_18.below hb L_18.lt
    have hB_19 := below_after hB_18 hb hB_18.size
    clear A_18 Bx_18 C_18 AB_18 BA_18 P_18 Q_18 BC_18 L_18 hB_18 hb
    have hs_19 := hB_19.size
    obtain ⟨cA0, cA1, fA0, fA1⟩ := pair_cells A_19
    have lA := A_19.lt
    obtain ⟨cBx0, cBx1, fBx0, fBx1⟩ := pair_cells Bx_19
    have lBx := Bx_19.lt
    obtain ⟨cC0, cC1, fC0, fC1⟩ := pair_cells C_19
    have lC := C_19.lt
    obtain ⟨cAB0, cAB1, fAB0, fAB1⟩ := pair_cells AB_19
    have lAB := AB_19.lt
    obtain ⟨cBA0, cBA1, fBA0, fBA1⟩ := pair_cells BA_19
    have lBA := BA_19.lt
    obtain ⟨cP0, cP1, fP0, fP1⟩ := pair_cells P_19
    have lP := P_19.lt
    obtain ⟨cQ0, cQ1, fQ0, fQ1⟩ := pair_cells Q_19
    have lQ := Q_19.lt
    obtain ⟨cBC0, cBC1, fBC0, fBC1⟩ := pair_cells BC_19
    have lBC := BC_19.lt
    obtain ⟨cL0, cL1, fL0, fL1⟩ := pair_cells L_19
    have lL := L_19.lt
    go_wp2_with fail
    clear cA0 cA1 fA0 fA1 lA cBx0 cBx1 fBx0 fBx1 lBx cC0 cC1 fC0 fC1 lC cAB0 cAB1 fAB0 fAB1 lAB cBA0 cBA1 fBA0 fBA1 lBA cP0 cP1 fP0 fP1 lP cQ0 cQ1 fQ0 fQ1 lQ cBC0 cBC1 fBC0 fBC1 lBC cL0 cL1 fL0 fL1 lL
    have hal : Below w19.heap.size w19 (w19.alloc (.cells #[.int .i64 AC.n, .int .i64 AC.d] 23)) := (Below.refl _ _).alloc (Nat.le_refl _) _
    have AC_20 := Row.new w19 23 #[.int .i64 AC.n, .int .i64 AC.d]
    have oAAC : gA + 0 < w19.heap.size := A_19.lt
    have A_20 := A_19.below hal A_19.lt
    have oBxAC : gA + 1 < w19.heap.size := Bx_19.lt
    have Bx_20 := Bx_19.below hal Bx_19.lt
    have oCAC : gA + 2 < w19.heap.size := C_19.lt
    have C_20 := C_19.below hal C_19.lt
    have oABAC : gAB < w19.heap.size := AB_19.lt
    have AB_20 := AB_19.below hal AB_19.lt
    have oBAAC : gBA < w19.heap.size := BA_19.lt
    have BA_20 := BA_19.below hal BA_19.lt
    have oPAC : gP < w19.heap.size := P_19.lt
    have P_20 := P_19.below hal P_19.lt
    have oQAC : gQ < w19.heap.size := Q_19.lt
    have Q_20 := Q_19.below hal Q_19.lt
    have oBCAC : gBC < w19.heap.size := BC_19.lt
    have BC_20 := BC_19.below hal BC_19.lt
    have oLAC : gL < w19.heap.size := L_19.lt
    have L_20 := L_19.below hal L_19.lt
    have hB_20 := below_after hB_19 hal hB_19.size
    clear hal A_19 Bx_19 C_19 AB_19 BA_19 P_19 Q_19 BC_19 L_19 hB_19
    generalize w19.alloc (Obj.cells #[Value.int .i64 AC.n, Value.int .i64 AC.d] 23) = w20 at A_20 Bx_20 C_20 AB_20 BA_20 P_20 Q_20 BC_20 L_20 AC_20 hB_20 ⊢
    have hbx_20 : w.heap.size ≤ w19.heap.size := hs_19
    generalize hgAC : w19.heap.size = gAC at AC_20 hbx_20 hs_19 oAAC oBxAC oCAC oABAC oBAAC oPAC oQAC oBCAC oLAC  ⊢
    clear hgAC
    have hs_20 := hB_20.size
    refine (Add_any P.n P.d AC.n AC.d _).mono ?_
    rintro e w21 ⟨rfl, hb⟩
    rw [← HR.out]
    have A_21 := A_20.below hb A_20.lt
    have Bx_21 := Bx_20.below hb Bx_20.lt
    have C_21 := C_20.below hb C_20.lt
    have AB_21 := AB_20.below hb AB_20.lt
    have BA_21 := BA_20.below hb BA_20.lt
    have P_21 := P_20.below hb P_20.lt
    have Q_21 := Q_20.below hb Q_20.lt
    have BC_21 := BC_20.below hb BC_20.lt
    have L_21 := L_20.below hb L_20.lt
    have AC_21 := AC_20.below hb AC_20.lt
    have hB_21 := below_after hB_20 hb hB_20.size
    clear A_20 Bx_20 C_20 AB_20 BA_20 P_20 Q_20 BC_20 L_20 AC_20 hB_20 hb
    have hs_21 := hB_21.size
    obtain ⟨cA0, cA1, fA0, fA1⟩ := pair_cells A_21
    have lA := A_21.lt
    obtain ⟨cBx0, cBx1, fBx0, fBx1⟩ := pair_cells Bx_21
    have lBx := Bx_21.lt
    obtain ⟨cC0, cC1, fC0, fC1⟩ := pair_cells C_21
    have lC := C_21.lt
    obtain ⟨cAB0, cAB1, fAB0, fAB1⟩ := pair_cells AB_21
    have lAB := AB_21.lt
    obtain ⟨cBA0, cBA1, fBA0, fBA1⟩ := pair_cells BA_21
    have lBA := BA_21.lt
    obtain ⟨cP0, cP1, fP0, fP1⟩ := pair_cells P_21
    have lP := P_21.lt
    obtain ⟨cQ0, cQ1, fQ0, fQ1⟩ := pair_cells Q_21
    have lQ := Q_21.lt
    obtain ⟨cBC0, cBC1, fBC0, fBC1⟩ := pair_cells BC_21
    have lBC := BC_21.lt
    obtain ⟨cL0, cL1, fL0, fL1⟩ := pair_cells L_21
    have lL := L_21.lt
    obtain ⟨cAC0, cAC1, fAC0, fAC1⟩ := pair_cells AC_21
    have lAC := AC_21.lt
    go_upto_region 13 with (fail)
    clear cA0 cA1 fA0 fA1 lA cBx0 cBx1 fBx0 fBx1 lBx cC0 cC1 fC0 fC1 lC cAB0 cAB1 fAB0 fAB1 lAB cBA0 cBA1 fBA0 fBA1 lBA cP0 cP1 fP0 fP1 lP cQ0 cQ1 fQ0 fQ1 lQ cBC0 cBC1 fBC0 fBC1 lBC cL0 cL1 fL0 fL1 lL cAC0 cAC1 fAC0 fAC1 lAC
    have hal : Below w21.heap.size w21 (w21.alloc (.cells #[.int .i64 R.n, .int .i64 R.d] 23)) := (Below.refl _ _).alloc (Nat.le_refl _) _
    have R_22 := Row.new w21 23 #[.int .i64 R.n, .int .i64 R.d]
    have oAR : gA + 0 < w21.heap.size := A_21.lt
    have A_22 := A_21.below hal A_21.lt
    have oBxR : gA + 1 < w21.heap.size := Bx_21.lt
    have Bx_22 := Bx_21.below hal Bx_21.lt
    have oCR : gA + 2 < w21.heap.size := C_21.lt
    have C_22 := C_21.below hal C_21.lt
    have oABR : gAB < w21.heap.size := AB_21.lt
    have AB_22 := AB_21.below hal AB_21.lt
    have oBAR : gBA < w21.heap.size := BA_21.lt
    have BA_22 := BA_21.below hal BA_21.lt
    have oPR : gP < w21.heap.size := P_21.lt
    have P_22 := P_21.below hal P_21.lt
    have oQR : gQ < w21.heap.size := Q_21.lt
    have Q_22 := Q_21.below hal Q_21.lt
    have oBCR : gBC < w21.heap.size := BC_21.lt
    have BC_22 := BC_21.below hal BC_21.lt
    have oLR : gL < w21.heap.size := L_21.lt
    have L_22 := L_21.below hal L_21.lt
    have oACR : gAC < w21.heap.size := AC_21.lt
    have AC_22 := AC_21.below hal AC_21.lt
    have hB_22 := below_after hB_21 hal hB_21.size
    clear hal A_21 Bx_21 C_21 AB_21 BA_21 P_21 Q_21 BC_21 L_21 AC_21 hB_21
    generalize w21.alloc (Obj.cells #[Value.int .i64 R.n, Value.int .i64 R.d] 23) = w22 at A_22 Bx_22 C_22 AB_22 BA_22 P_22 Q_22 BC_22 L_22 AC_22 R_22 hB_22 ⊢
    have hbx_22 : w.heap.size ≤ w21.heap.size := hs_21
    generalize hgR : w21.heap.size = gR at R_22 hbx_22 hs_21 oAR oBxR oCR oABR oBAR oPR oQR oBCR oLR oACR  ⊢
    clear hgR
    have hs_22 := hB_22.size
    obtain ⟨cA0, cA1, fA0, fA1⟩ := pair_cells A_22
    have lA := A_22.lt
    obtain ⟨cBx0, cBx1, fBx0, fBx1⟩ := pair_cells Bx_22
    have lBx := Bx_22.lt
    obtain ⟨cC0, cC1, fC0, fC1⟩ := pair_cells C_22
    have lC := C_22.lt
    obtain ⟨cAB0, cAB1, fAB0, fAB1⟩ := pair_cells AB_22
    have lAB := AB_22.lt
    obtain ⟨cBA0, cBA1, fBA0, fBA1⟩ := pair_cells BA_22
    have lBA := BA_22.lt
    obtain ⟨cP0, cP1, fP0, fP1⟩ := pair_cells P_22
    have lP := P_22.lt
    obtain ⟨cQ0, cQ1, fQ0, fQ1⟩ := pair_cells Q_22
    have lQ := Q_22.lt
    obtain ⟨cBC0, cBC1, fBC0, fBC1⟩ := pair_cells BC_22
    have lBC := BC_22.lt
    obtain ⟨cL0, cL1, fL0, fL1⟩ := pair_cells L_22
    have lL := L_22.lt
    obtain ⟨cAC0, cAC1, fAC0, fAC1⟩ := pair_cells AC_22
    have lAC := AC_22.lt
    obtain ⟨cR0, cR1, fR0, fR1⟩ := pair_cells R_22
    have lR := R_22.lt
    go_cut [123] (fun s wx => s = .bool false ∧ Below w22.heap.size w22 wx)
    case first =>
      have hM_22 : Below w22.heap.size w22 w22 := Below.refl _ _
      cases e0 : (P.e == 0)
      · skip
        obtain ⟨cA0, cA1, fA0, fA1⟩ := pair_cells A_22
        have lA := A_22.lt
        obtain ⟨cBx0, cBx1, fBx0, fBx1⟩ := pair_cells Bx_22
        have lBx := Bx_22.lt
        obtain ⟨cC0, cC1, fC0, fC1⟩ := pair_cells C_22
        have lC := C_22.lt
        obtain ⟨cAB0, cAB1, fAB0, fAB1⟩ := pair_cells AB_22
        have lAB := AB_22.lt
        obtain ⟨cBA0, cBA1, fBA0, fBA1⟩ := pair_cells BA_22
        have lBA := BA_22.lt
        obtain ⟨cP0, cP1, fP0, fP1⟩ := pair_cells P_22
        have lP := P_22.lt
        obtain ⟨cQ0, cQ1, fQ0, fQ1⟩ := pair_cells Q_22
        have lQ := Q_22.lt
        obtain ⟨cBC0, cBC1, fBC0, fBC1⟩ := pair_cells BC_22
        have lBC := BC_22.lt
        obtain ⟨cL0, cL1, fL0, fL1⟩ := pair_cells L_22
        have lL := L_22.lt
        obtain ⟨cAC0, cAC1, fAC0, fAC1⟩ := pair_cells AC_22
        have lAC := AC_22.lt
        obtain ⟨cR0, cR1, fR0, fR1⟩ := pair_cells R_22
        have lR := R_22.lt
        go_wp2_with fail
        clear cA0 cA1 fA0 fA1 lA cBx0 cBx1 fBx0 fBx1 lBx cC0 cC1 fC0 fC1 lC cAB0 cAB1 fAB0 fAB1 lAB cBA0 cBA1 fBA0 fBA1 lBA cP0 cP1 fP0 fP1 lP cQ0 cQ1 fQ0 fQ1 lQ cBC0 cBC1 fBC0 fBC1 lBC cL0 cL1 fL0 fL1 lL cAC0 cAC1 fAC0 fAC1 lAC cR0 cR1 fR0 fR1 lR
        go_meet
        exact ⟨rfl, hM_22⟩
      cases e1 : (BC.e == 0)
      · skip
        obtain ⟨cA0, cA1, fA0, fA1⟩ := pair_cells A_22
        have lA := A_22.lt
        obtain ⟨cBx0, cBx1, fBx0, fBx1⟩ := pair_cells Bx_22
        have lBx := Bx_22.lt
        obtain ⟨cC0, cC1, fC0, fC1⟩ := pair_cells C_22
        have lC := C_22.lt
        obtain ⟨cAB0, cAB1, fAB0, fAB1⟩ := pair_cells AB_22
        have lAB := AB_22.lt
        obtain ⟨cBA0, cBA1, fBA0, fBA1⟩ := pair_cells BA_22
        have lBA := BA_22.lt
        obtain ⟨cP0, cP1, fP0, fP1⟩ := pair_cells P_22
        have lP := P_22.lt
        obtain ⟨cQ0, cQ1, fQ0, fQ1⟩ := pair_cells Q_22
        have lQ := Q_22.lt
        obtain ⟨cBC0, cBC1, fBC0, fBC1⟩ := pair_cells BC_22
        have lBC := BC_22.lt
        obtain ⟨cL0, cL1, fL0, fL1⟩ := pair_cells L_22
        have lL := L_22.lt
        obtain ⟨cAC0, cAC1, fAC0, fAC1⟩ := pair_cells AC_22
        have lAC := AC_22.lt
        obtain ⟨cR0, cR1, fR0, fR1⟩ := pair_cells R_22
        have lR := R_22.lt
        go_wp2_with fail
        clear cA0 cA1 fA0 fA1 lA cBx0 cBx1 fBx0 fBx1 lBx cC0 cC1 fC0 fC1 lC cAB0 cAB1 fAB0 fAB1 lAB cBA0 cBA1 fBA0 fBA1 lBA cP0 cP1 fP0 fP1 lP cQ0 cQ1 fQ0 fQ1 lQ cBC0 cBC1 fBC0 fBC1 lBC cL0 cL1 fL0 fL1 lL cAC0 cAC1 fAC0 fAC1 lAC cR0 cR1 fR0 fR1 lR
        go_meet
        exact ⟨rfl, hM_22⟩
      cases e2 : (L.e == 0)
      · skip
        obtain ⟨cA0, cA1, fA0, fA1⟩ := pair_cells A_22
        have lA := A_22.lt
        obtain ⟨cBx0, cBx1, fBx0, fBx1⟩ := pair_cells Bx_22
        have lBx := Bx_22.lt
        obtain ⟨cC0, cC1, fC0, fC1⟩ := pair_cells C_22
        have lC := C_22.lt
        obtain ⟨cAB0, cAB1, fAB0, fAB1⟩ := pair_cells AB_22
        have lAB := AB_22.lt
        obtain ⟨cBA0, cBA1, fBA0, fBA1⟩ := pair_cells BA_22
        have lBA := BA_22.lt
        obtain ⟨cP0, cP1, fP0, fP1⟩ := pair_cells P_22
        have lP := P_22.lt
        obtain ⟨cQ0, cQ1, fQ0, fQ1⟩ := pair_cells Q_22
        have lQ := Q_22.lt
        obtain ⟨cBC0, cBC1, fBC0, fBC1⟩ := pair_cells BC_22
        have lBC := BC_22.lt
        obtain ⟨cL0, cL1, fL0, fL1⟩ := pair_cells L_22
        have lL := L_22.lt
        obtain ⟨cAC0, cAC1, fAC0, fAC1⟩ := pair_cells AC_22
        have lAC := AC_22.lt
        obtain ⟨cR0, cR1, fR0, fR1⟩ := pair_cells R_22
        have lR := R_22.lt
        go_wp2_with fail
        clear cA0 cA1 fA0 fA1 lA cBx0 cBx1 fBx0 fBx1 lBx cC0 cC1 fC0 fC1 lC cAB0 cAB1 fAB0 fAB1 lAB cBA0 cBA1 fBA0 fBA1 lBA cP0 cP1 fP0 fP1 lP cQ0 cQ1 fQ0 fQ1 lQ cBC0 cBC1 fBC0 fBC1 lBC cL0 cL1 fL0 fL1 lL cAC0 cAC1 fAC0 fAC1 lAC cR0 cR1 fR0 fR1 lR
        go_meet
        exact ⟨rfl, hM_22⟩
      cases e3 : (AC.e == 0)
      · skip
        obtain ⟨cA0, cA1, fA0, fA1⟩ := pair_cells A_22
        have lA := A_22.lt
        obtain ⟨cBx0, cBx1, fBx0, fBx1⟩ := pair_cells Bx_22
        have lBx := Bx_22.lt
        obtain ⟨cC0, cC1, fC0, fC1⟩ := pair_cells C_22
        have lC := C_22.lt
        obtain ⟨cAB0, cAB1, fAB0, fAB1⟩ := pair_cells AB_22
        have lAB := AB_22.lt
        obtain ⟨cBA0, cBA1, fBA0, fBA1⟩ := pair_cells BA_22
        have lBA := BA_22.lt
        obtain ⟨cP0, cP1, fP0, fP1⟩ := pair_cells P_22
        have lP := P_22.lt
        obtain ⟨cQ0, cQ1, fQ0, fQ1⟩ := pair_cells Q_22
        have lQ := Q_22.lt
        obtain ⟨cBC0, cBC1, fBC0, fBC1⟩ := pair_cells BC_22
        have lBC := BC_22.lt
        obtain ⟨cL0, cL1, fL0, fL1⟩ := pair_cells L_22
        have lL := L_22.lt
        obtain ⟨cAC0, cAC1, fAC0, fAC1⟩ := pair_cells AC_22
        have lAC := AC_22.lt
        obtain ⟨cR0, cR1, fR0, fR1⟩ := pair_cells R_22
        have lR := R_22.lt
        go_wp2_with fail
        clear cA0 cA1 fA0 fA1 lA cBx0 cBx1 fBx0 fBx1 lBx cC0 cC1 fC0 fC1 lC cAB0 cAB1 fAB0 fAB1 lAB cBA0 cBA1 fBA0 fBA1 lBA cP0 cP1 fP0 fP1 lP cQ0 cQ1 fQ0 fQ1 lQ cBC0 cBC1 fBC0 fBC1 lBC cL0 cL1 fL0 fL1 lL cAC0 cAC1 fAC0 fAC1 lAC cR0 cR1 fR0 fR1 lR
        go_meet
        exact ⟨rfl, hM_22⟩
      cases e4 : (R.e == 0)
      · skip
        obtain ⟨cA0, cA1, fA0, fA1⟩ := pair_cells A_22
        have lA := A_22.lt
        obtain ⟨cBx0, cBx1, fBx0, fBx1⟩ := pair_cells Bx_22
        have lBx := Bx_22.lt
        obtain ⟨cC0, cC1, fC0, fC1⟩ := pair_cells C_22
        have lC := C_22.lt
        obtain ⟨cAB0, cAB1, fAB0, fAB1⟩ := pair_cells AB_22
        have lAB := AB_22.lt
        obtain ⟨cBA0, cBA1, fBA0, fBA1⟩ := pair_cells BA_22
        have lBA := BA_22.lt
        obtain ⟨cP0, cP1, fP0, fP1⟩ := pair_cells P_22
        have lP := P_22.lt
        obtain ⟨cQ0, cQ1, fQ0, fQ1⟩ := pair_cells Q_22
        have lQ := Q_22.lt
        obtain ⟨cBC0, cBC1, fBC0, fBC1⟩ := pair_cells BC_22
        have lBC := BC_22.lt
        obtain ⟨cL0, cL1, fL0, fL1⟩ := pair_cells L_22
        have lL := L_22.lt
        obtain ⟨cAC0, cAC1, fAC0, fAC1⟩ := pair_cells AC_22
        have lAC := AC_22.lt
        obtain ⟨cR0, cR1, fR0, fR1⟩ := pair_cells R_22
        have lR := R_22.lt
        go_wp2_with fail
        clear cA0 cA1 fA0 fA1 lA cBx0 cBx1 fBx0 fBx1 lBx cC0 cC1 fC0 fC1 lC cAB0 cAB1 fAB0 fAB1 lAB cBA0 cBA1 fBA0 fBA1 lBA cP0 cP1 fP0 fP1 lP cQ0 cQ1 fQ0 fQ1 lQ cBC0 cBC1 fBC0 fBC1 lBC cL0 cL1 fL0 fL1 lL cAC0 cAC1 fAC0 fAC1 lAC cR0 cR1 fR0 fR1 lR
        go_meet
        exact ⟨rfl, hM_22⟩
      have hLR : L = R := by
        have k1 : (mulF a1 a2 b1 b2).e = 0 := by rw [← HP.out]; simpa using e0
        have k2 : (addF b1 b2 c1 c2).e = 0 := by rw [← HBC.out]; simpa using e1
        have k3 : (mulF a1 a2 c1 c2).e = 0 := by rw [← HAC.out]; simpa using e3
        rw [HL.out, HR.out, HBC.out, HP.out, HAC.out]; exact field_dist VA.out VB.out VC.out k1 k2 k3
      have x1 : (L.n == R.n) = true := by rw [hLR]; simp
      have x2 : (L.d == R.d) = true := by rw [hLR]; simp
      clear hLR
      obtain ⟨cA0, cA1, fA0, fA1⟩ := pair_cells A_22
      have lA := A_22.lt
      obtain ⟨cBx0, cBx1, fBx0, fBx1⟩ := pair_cells Bx_22
      have lBx := Bx_22.lt
      obtain ⟨cC0, cC1, fC0, fC1⟩ := pair_cells C_22
      have lC := C_22.lt
      obtain ⟨cAB0, cAB1, fAB0, fAB1⟩ := pair_cells AB_22
      have lAB := AB_22.lt
      obtain ⟨cBA0, cBA1, fBA0, fBA1⟩ := pair_cells BA_22
      have lBA := BA_22.lt
      obtain ⟨cP0, cP1, fP0, fP1⟩ := pair_cells P_22
      have lP := P_22.lt
      obtain ⟨cQ0, cQ1, fQ0, fQ1⟩ := pair_cells Q_22
      have lQ := Q_22.lt
      obtain ⟨cBC0, cBC1, fBC0, fBC1⟩ := pair_cells BC_22
      have lBC := BC_22.lt
      obtain ⟨cL0, cL1, fL0, fL1⟩ := pair_cells L_22
      have lL := L_22.lt
      obtain ⟨cAC0, cAC1, fAC0, fAC1⟩ := pair_cells AC_22
      have lAC := AC_22.lt
      obtain ⟨cR0, cR1, fR0, fR1⟩ := pair_cells R_22
      have lR := R_22.lt
      go_wp2_with fail
      clear cA0 cA1 fA0 fA1 lA cBx0 cBx1 fBx0 fBx1 lBx cC0 cC1 fC0 fC1 lC cAB0 cAB1 fAB0 fAB1 lAB cBA0 cBA1 fBA0 fBA1 lBA cP0 cP1 fP0 fP1 lP cQ0 cQ1 fQ0 fQ1 lQ cBC0 cBC1 fBC0 fBC1 lBC cL0 cL1 fL0 fL1 lL cAC0 cAC1 fAC0 fAC1 lAC cR0 cR1 fR0 fR1 lR
      go_meet
      exact ⟨rfl, hM_22⟩
    case rest =>
      obtain ⟨rfl, hb⟩ := hcut
      obtain ⟨w23, hwc⟩ : ∃ x : World, x = wc := ⟨_, rfl⟩
      subst hwc
      clear cA0 cA1 fA0 fA1 lA cBx0 cBx1 fBx0 fBx1 lBx cC0 cC1 fC0 fC1 lC cAB0 cAB1 fAB0 fAB1 lAB cBA0 cBA1 fBA0 fBA1 lBA cP0 cP1 fP0 fP1 lP cQ0 cQ1 fQ0 fQ1 lQ cBC0 cBC1 fBC0 fBC1 lBC cL0 cL1 fL0 fL1 lL cAC0 cAC1 fAC0 fAC1 lAC cR0 cR1 fR0 fR1 lR
      have A_23 := A_22.below hb A_22.lt
      have Bx_23 := Bx_22.below hb Bx_22.lt
      have C_23 := C_22.below hb C_22.lt
      have AB_23 := AB_22.below hb AB_22.lt
      have BA_23 := BA_22.below hb BA_22.lt
      have P_23 := P_22.below hb P_22.lt
      have Q_23 := Q_22.below hb Q_22.lt
      have BC_23 := BC_22.below hb BC_22.lt
      have L_23 := L_22.below hb L_22.lt
      have AC_23 := AC_22.below hb AC_22.lt
      have R_23 := R_22.below hb R_22.lt
      have hB_23 := below_after hB_22 hb hB_22.size
      clear A_22 Bx_22 C_22 AB_22 BA_22 P_22 Q_22 BC_22 L_22 AC_22 R_22 hB_22 hb
      have hs_23 := hB_23.size
      obtain ⟨D, hD⟩ : ∃ x, x = subF AB.n AB.d b1 b2 := ⟨_, rfl⟩
      have HD := Lib.hid hD
      clear hD
      obtain ⟨cA0, cA1, fA0, fA1⟩ := pair_cells A_23
      have lA := A_23.lt
      obtain ⟨cBx0, cBx1, fBx0, fBx1⟩ := pair_cells Bx_23
      have lBx := Bx_23.lt
      obtain ⟨cC0, cC1, fC0, fC1⟩ := pair_cells C_23
      have lC := C_23.lt
      obtain ⟨cAB0, cAB1, fAB0, fAB1⟩ := pair_cells AB_23
      have lAB := AB_23.lt
      obtain ⟨cBA0, cBA1, fBA0, fBA1⟩ := pair_cells BA_23
      have lBA := BA_23.lt
      obtain ⟨cP0, cP1, fP0, fP1⟩ := pair_cells P_23
      have lP := P_23.lt
      obtain ⟨cQ0, cQ1, fQ0, fQ1⟩ := pair_cells Q_23
      have lQ := Q_23.lt
      obtain ⟨cBC0, cBC1, fBC0, fBC1⟩ := pair_cells BC_23
      have lBC := BC_23.lt
      obtain ⟨cL0, cL1, fL0, fL1⟩ := pair_cells L_23
      have lL := L_23.lt
      obtain ⟨cAC0, cAC1, fAC0, fAC1⟩ := pair_cells AC_23
      have lAC := AC_23.lt
      obtain ⟨cR0, cR1, fR0, fR1⟩ := pair_cells R_23
      have lR := R_23.lt
      go_wp2_with fail
      clear cA0 cA1 fA0 fA1 lA cBx0 cBx1 fBx0 fBx1 lBx cC0 cC1 fC0 fC1 lC cAB0 cAB1 fAB0 fAB1 lAB cBA0 cBA1 fBA0 fBA1 lBA cP0 cP1 fP0 fP1 lP cQ0 cQ1 fQ0 fQ1 lQ cBC0 cBC1 fBC0 fBC1 lBC cL0 cL1 fL0 fL1 lL cAC0 cAC1 fAC0 fAC1 lAC cR0 cR1 fR0 fR1 lR
      refine (Sub_any AB.n AB.d b1 b2 _).mono ?_
      rintro e w24 ⟨rfl, hb⟩
      rw [← HD.out]
      have A_24 := A_23.below hb A_23.lt
      have Bx_24 := Bx_23.below hb Bx_23.lt
      have C_24 := C_23.below hb C_23.lt
      have AB_24 := AB_23.below hb AB_23.lt
      have BA_24 := BA_23.below hb BA_23.lt
      have P_24 := P_23.below hb P_23.lt
      have Q_24 := Q_23.below hb Q_23.lt
      have BC_24 := BC_23.below hb BC_23.lt
      have L_24 := L_23.below hb L_23.lt
      have AC_24 := AC_23.below hb AC_23.lt
      have R_24 := R_23.below hb R_23.lt
      have hB_24 := below_after hB_23 hb hB_23.size
      clear A_23 Bx_23 C_23 AB_23 BA_23 P_23 Q_23 BC_23 L_23 AC_23 R_23 hB_23 hb
      have hs_24 := hB_24.size
      obtain ⟨cA0, cA1, fA0, fA1⟩ := pair_cells A_24
      have lA := A_24.lt
      obtain ⟨cBx0, cBx1, fBx0, fBx1⟩ := pair_cells Bx_24
      have lBx := Bx_24.lt
      obtain ⟨cC0, cC1, fC0, fC1⟩ := pair_cells C_24
      have lC := C_24.lt
      obtain ⟨cAB0, cAB1, fAB0, fAB1⟩ := pair_cells AB_24
      have lAB := AB_24.lt
      obtain ⟨cBA0, cBA1, fBA0, fBA1⟩ := pair_cells BA_24
      have lBA := BA_24.lt
      obtain ⟨cP0, cP1, fP0, fP1⟩ := pair_cells P_24
      have lP := P_24.lt
      obtain ⟨cQ0, cQ1, fQ0, fQ1⟩ := pair_cells Q_24
      have lQ := Q_24.lt
      obtain ⟨cBC0, cBC1, fBC0, fBC1⟩ := pair_cells BC_24
      have lBC := BC_24.lt
      obtain ⟨cL0, cL1, fL0, fL1⟩ := pair_cells L_24
      have lL := L_24.lt
      obtain ⟨cAC0, cAC1, fAC0, fAC1⟩ := pair_cells AC_24
      have lAC := AC_24.lt
      obtain ⟨cR0, cR1, fR0, fR1⟩ := pair_cells R_24
      have lR := R_24.lt
      go_upto_region 16 with (fail)
      clear cA0 cA1 fA0 fA1 lA cBx0 cBx1 fBx0 fBx1 lBx cC0 cC1 fC0 fC1 lC cAB0 cAB1 fAB0 fAB1 lAB cBA0 cBA1 fBA0 fBA1 lBA cP0 cP1 fP0 fP1 lP cQ0 cQ1 fQ0 fQ1 lQ cBC0 cBC1 fBC0 fBC1 lBC cL0 cL1 fL0 fL1 lL cAC0 cAC1 fAC0 fAC1 lAC cR0 cR1 fR0 fR1 lR
      have hal : Below w24.heap.size w24 (w24.alloc (.cells #[.int .i64 D.n, .int .i64 D.d] 23)) := (Below.refl _ _).alloc (Nat.le_refl _) _
      have D_25 := Row.new w24 23 #[.int .i64 D.n, .int .i64 D.d]
      have oAD : gA + 0 < w24.heap.size := A_24.lt
      have A_25 := A_24.below hal A_24.lt
      have oBxD : gA + 1 < w24.heap.size := Bx_24.lt
      have Bx_25 := Bx_24.below hal Bx_24.lt
      have oCD : gA + 2 < w24.heap.size := C_24.lt
      have C_25 := C_24.below hal C_24.lt
      have oABD : gAB < w24.heap.size := AB_24.lt
      have AB_25 := AB_24.below hal AB_24.lt
      have oBAD : gBA < w24.heap.size := BA_24.lt
      have BA_25 := BA_24.below hal BA_24.lt
      have oPD : gP < w24.heap.size := P_24.lt
      have P_25 := P_24.below hal P_24.lt
      have oQD : gQ < w24.heap.size := Q_24.lt
      have Q_25 := Q_24.below hal Q_24.lt
      have oBCD : gBC < w24.heap.size := BC_24.lt
      have BC_25 := BC_24.below hal BC_24.lt
      have oLD : gL < w24.heap.size := L_24.lt
      have L_25 := L_24.below hal L_24.lt
      have oACD : gAC < w24.heap.size := AC_24.lt
      have AC_25 := AC_24.below hal AC_24.lt
      have oRD : gR < w24.heap.size := R_24.lt
      have R_25 := R_24.below hal R_24.lt
      have hB_25 := below_after hB_24 hal hB_24.size
      clear hal A_24 Bx_24 C_24 AB_24 BA_24 P_24 Q_24 BC_24 L_24 AC_24 R_24 hB_24
      generalize w24.alloc (Obj.cells #[Value.int .i64 D.n, Value.int .i64 D.d] 23) = w25 at A_25 Bx_25 C_25 AB_25 BA_25 P_25 Q_25 BC_25 L_25 AC_25 R_25 D_25 hB_25 ⊢
      have hbx_25 : w.heap.size ≤ w24.heap.size := hs_24
      generalize hgD : w24.heap.size = gD at D_25 hbx_25 hs_24 oAD oBxD oCD oABD oBAD oPD oQD oBCD oLD oACD oRD  ⊢
      clear hgD
      have hs_25 := hB_25.size
      obtain ⟨cA0, cA1, fA0, fA1⟩ := pair_cells A_25
      have lA := A_25.lt
      obtain ⟨cBx0, cBx1, fBx0, fBx1⟩ := pair_cells Bx_25
      have lBx := Bx_25.lt
      obtain ⟨cC0, cC1, fC0, fC1⟩ := pair_cells C_25
      have lC := C_25.lt
      obtain ⟨cAB0, cAB1, fAB0, fAB1⟩ := pair_cells AB_25
      have lAB := AB_25.lt
      obtain ⟨cBA0, cBA1, fBA0, fBA1⟩ := pair_cells BA_25
      have lBA := BA_25.lt
      obtain ⟨cP0, cP1, fP0, fP1⟩ := pair_cells P_25
      have lP := P_25.lt
      obtain ⟨cQ0, cQ1, fQ0, fQ1⟩ := pair_cells Q_25
      have lQ := Q_25.lt
      obtain ⟨cBC0, cBC1, fBC0, fBC1⟩ := pair_cells BC_25
      have lBC := BC_25.lt
      obtain ⟨cL0, cL1, fL0, fL1⟩ := pair_cells L_25
      have lL := L_25.lt
      obtain ⟨cAC0, cAC1, fAC0, fAC1⟩ := pair_cells AC_25
      have lAC := AC_25.lt
      obtain ⟨cR0, cR1, fR0, fR1⟩ := pair_cells R_25
      have lR := R_25.lt
      obtain ⟨cD0, cD1, fD0, fD1⟩ := pair_cells D_25
      have lD := D_25.lt
      go_cut [140] (fun s wx => s = .bool false ∧ Below w25.heap.size w25 wx)
      case first =>
        have hM_25 : Below w25.heap.size w25 w25 := Below.refl _ _
        cases e0 : (AB.e == 0)
        · skip
          obtain ⟨cA0, cA1, fA0, fA1⟩ := pair_cells A_25
          have lA := A_25.lt
          obtain ⟨cBx0, cBx1, fBx0, fBx1⟩ := pair_cells Bx_25
          have lBx := Bx_25.lt
          obtain ⟨cC0, cC1, fC0, fC1⟩ := pair_cells C_25
          have lC := C_25.lt
          obtain ⟨cAB0, cAB1, fAB0, fAB1⟩ := pair_cells AB_25
          have lAB := AB_25.lt
          obtain ⟨cBA0, cBA1, fBA0, fBA1⟩ := pair_cells BA_25
          have lBA := BA_25.lt
          obtain ⟨cP0, cP1, fP0, fP1⟩ := pair_cells P_25
          have lP := P_25.lt
          obtain ⟨cQ0, cQ1, fQ0, fQ1⟩ := pair_cells Q_25
          have lQ := Q_25.lt
          obtain ⟨cBC0, cBC1, fBC0, fBC1⟩ := pair_cells BC_25
          have lBC := BC_25.lt
          obtain ⟨cL0, cL1, fL0, fL1⟩ := pair_cells L_25
          have lL := L_25.lt
          obtain ⟨cAC0, cAC1, fAC0, fAC1⟩ := pair_cells AC_25
          have lAC := AC_25.lt
          obtain ⟨cR0, cR1, fR0, fR1⟩ := pair_cells R_25
          have lR := R_25.lt
          obtain ⟨cD0, cD1, fD0, fD1⟩ := pair_cells D_25
          have lD := D_25.lt
          go_wp2_with fail
          clear cA0 cA1 fA0 fA1 lA cBx0 cBx1 fBx0 fBx1 lBx cC0 cC1 fC0 fC1 lC cAB0 cAB1 fAB0 fAB1 lAB cBA0 cBA1 fBA0 fBA1 lBA cP0 cP1 fP0 fP1 lP cQ0 cQ1 fQ0 fQ1 lQ cBC0 cBC1 fBC0 fBC1 lBC cL0 cL1 fL0 fL1 lL cAC0 cAC1 fAC0 fAC1 lAC cR0 cR1 fR0 fR1 lR cD0 cD1 fD0 fD1 lD
          go_meet
          exact ⟨rfl, hM_25⟩
        have hD : D = ⟨a1, a2, 0⟩ := by
          have k1 : (addF a1 a2 b1 b2).e = 0 := by rw [← HAB.out]; simpa using e0
          rw [HD.out, HAB.out]; exact field_sub VA.out VB.out k1
        have x1 : (D.e == 0) = true := by rw [hD]; rfl
        have x2 : (D.e != 0) = false := by rw [hD]; rfl
        have x3 : (D.n == a1) = true := by rw [hD]; simp
        have x4 : (D.d == a2) = true := by rw [hD]; simp
        clear hD
        obtain ⟨cA0, cA1, fA0, fA1⟩ := pair_cells A_25
        have lA := A_25.lt
        obtain ⟨cBx0, cBx1, fBx0, fBx1⟩ := pair_cells Bx_25
        have lBx := Bx_25.lt
        obtain ⟨cC0, cC1, fC0, fC1⟩ := pair_cells C_25
        have lC := C_25.lt
        obtain ⟨cAB0, cAB1, fAB0, fAB1⟩ := pair_cells AB_25
        have lAB := AB_25.lt
        obtain ⟨cBA0, cBA1, fBA0, fBA1⟩ := pair_cells BA_25
        have lBA := BA_25.lt
        obtain ⟨cP0, cP1, fP0, fP1⟩ := pair_cells P_25
        have lP := P_25.lt
        obtain ⟨cQ0, cQ1, fQ0, fQ1⟩ := pair_cells Q_25
        have lQ := Q_25.lt
        obtain ⟨cBC0, cBC1, fBC0, fBC1⟩ := pair_cells BC_25
        have lBC := BC_25.lt
        obtain ⟨cL0, cL1, fL0, fL1⟩ := pair_cells L_25
        have lL := L_25.lt
        obtain ⟨cAC0, cAC1, fAC0, fAC1⟩ := pair_cells AC_25
        have lAC := AC_25.lt
        obtain ⟨cR0, cR1, fR0, fR1⟩ := pair_cells R_25
        have lR := R_25.lt
        obtain ⟨cD0, cD1, fD0, fD1⟩ := pair_cells D_25
        have lD := D_25.lt
        go_wp2_with fail
        clear cA0 cA1 fA0 fA1 lA cBx0 cBx1 fBx0 fBx1 lBx cC0 cC1 fC0 fC1 lC cAB0 cAB1 fAB0 fAB1 lAB cBA0 cBA1 fBA0 fBA1 lBA cP0 cP1 fP0 fP1 lP cQ0 cQ1 fQ0 fQ1 lQ cBC0 cBC1 fBC0 fBC1 lBC cL0 cL1 fL0 fL1 lL cAC0 cAC1 fAC0 fAC1 lAC cR0 cR1 fR0 fR1 lR cD0 cD1 fD0 fD1 lD
        go_meet
        exact ⟨rfl, hM_25⟩
      case rest =>
        obtain ⟨rfl, hb⟩ := hcut
        obtain ⟨w26, hwc⟩ : ∃ x : World, x = wc := ⟨_, rfl⟩
        subst hwc
        clear cA0 cA1 fA0 fA1 lA cBx0 cBx1 fBx0 fBx1 lBx cC0 cC1 fC0 fC1 lC cAB0 cAB1 fAB0 fAB1 lAB cBA0 cBA1 fBA0 fBA1 lBA cP0 cP1 fP0 fP1 lP cQ0 cQ1 fQ0 fQ1 lQ cBC0 cBC1 fBC0 fBC1 lBC cL0 cL1 fL0 fL1 lL cAC0 cAC1 fAC0 fAC1 lAC cR0 cR1 fR0 fR1 lR cD0 cD1 fD0 fD1 lD
        have A_26 := A_25.below hb A_25.lt
        have Bx_26 := Bx_25.below hb Bx_25.lt
        have C_26 := C_25.below hb C_25.lt
        have AB_26 := AB_25.below hb AB_25.lt
        have BA_26 := BA_25.below hb BA_25.lt
        have P_26 := P_25.below hb P_25.lt
        have Q_26 := Q_25.below hb Q_25.lt
        have BC_26 := BC_25.below hb BC_25.lt
        have L_26 := L_25.below hb L_25.lt
        have AC_26 := AC_25.below hb AC_25.lt
        have R_26 := R_25.below hb R_25.lt
        have D_26 := D_25.below hb D_25.lt
        have hB_26 := below_after hB_25 hb hB_25.size
        clear A_25 Bx_25 C_25 AB_25 BA_25 P_25 Q_25 BC_25 L_25 AC_25 R_25 D_25 hB_25 hb
        have hs_26 := hB_26.size
        by_cases hb0 : b1 = 0
        · skip
          have y0 : (b1 == 0) = true := by simpa using hb0
          have HZ : Hid (divF a1 a2 b1 b2 = ⟨0, 0, 5⟩) := by have := VB.out; subst hb0; exact field_zero VA.out this
          clear hb0
          obtain ⟨cA0, cA1, fA0, fA1⟩ := pair_cells A_26
          have lA := A_26.lt
          obtain ⟨cBx0, cBx1, fBx0, fBx1⟩ := pair_cells Bx_26
          have lBx := Bx_26.lt
          obtain ⟨cC0, cC1, fC0, fC1⟩ := pair_cells C_26
          have lC := C_26.lt
          obtain ⟨cAB0, cAB1, fAB0, fAB1⟩ := pair_cells AB_26
          have lAB := AB_26.lt
          obtain ⟨cBA0, cBA1, fBA0, fBA1⟩ := pair_cells BA_26
          have lBA := BA_26.lt
          obtain ⟨cP0, cP1, fP0, fP1⟩ := pair_cells P_26
          have lP := P_26.lt
          obtain ⟨cQ0, cQ1, fQ0, fQ1⟩ := pair_cells Q_26
          have lQ := Q_26.lt
          obtain ⟨cBC0, cBC1, fBC0, fBC1⟩ := pair_cells BC_26
          have lBC := BC_26.lt
          obtain ⟨cL0, cL1, fL0, fL1⟩ := pair_cells L_26
          have lL := L_26.lt
          obtain ⟨cAC0, cAC1, fAC0, fAC1⟩ := pair_cells AC_26
          have lAC := AC_26.lt
          obtain ⟨cR0, cR1, fR0, fR1⟩ := pair_cells R_26
          have lR := R_26.lt
          obtain ⟨cD0, cD1, fD0, fD1⟩ := pair_cells D_26
          have lD := D_26.lt
          go_wp2_with fail
          clear cA0 cA1 fA0 fA1 lA cBx0 cBx1 fBx0 fBx1 lBx cC0 cC1 fC0 fC1 lC cAB0 cAB1 fAB0 fAB1 lAB cBA0 cBA1 fBA0 fBA1 lBA cP0 cP1 fP0 fP1 lP cQ0 cQ1 fQ0 fQ1 lQ cBC0 cBC1 fBC0 fBC1 lBC cL0 cL1 fL0 fL1 lL cAC0 cAC1 fAC0 fAC1 lAC cR0 cR1 fR0 fR1 lR cD0 cD1 fD0 fD1 lD
          refine (Div_any a1 a2 b1 b2 _).mono ?_
          rintro e w27 ⟨rfl, hb⟩
          rw [HZ.out]
          have A_27 := A_26.below hb A_26.lt
          have Bx_27 := Bx_26.below hb Bx_26.lt
          have C_27 := C_26.below hb C_26.lt
          have AB_27 := AB_26.below hb AB_26.lt
          have BA_27 := BA_26.below hb BA_26.lt
          have P_27 := P_26.below hb P_26.lt
          have Q_27 := Q_26.below hb Q_26.lt
          have BC_27 := BC_26.below hb BC_26.lt
          have L_27 := L_26.below hb L_26.lt
          have AC_27 := AC_26.below hb AC_26.lt
          have R_27 := R_26.below hb R_26.lt
          have D_27 := D_26.below hb D_26.lt
          have hB_27 := below_after hB_26 hb hB_26.size
          clear A_26 Bx_26 C_26 AB_26 BA_26 P_26 Q_26 BC_26 L_26 AC_26 R_26 D_26 hB_26 hb
          have hs_27 := hB_27.size
          obtain ⟨cA0, cA1, fA0, fA1⟩ := pair_cells A_27
          have lA := A_27.lt
          obtain ⟨cBx0, cBx1, fBx0, fBx1⟩ := pair_cells Bx_27
          have lBx := Bx_27.lt
          obtain ⟨cC0, cC1, fC0, fC1⟩ := pair_cells C_27
          have lC := C_27.lt
          obtain ⟨cAB0, cAB1, fAB0, fAB1⟩ := pair_cells AB_27
          have lAB := AB_27.lt
          obtain ⟨cBA0, cBA1, fBA0, fBA1⟩ := pair_cells BA_27
          have lBA := BA_27.lt
          obtain ⟨cP0, cP1, fP0, fP1⟩ := pair_cells P_27
          have lP := P_27.lt
          obtain ⟨cQ0, cQ1, fQ0, fQ1⟩ := pair_cells Q_27
          have lQ := Q_27.lt
          obtain ⟨cBC0, cBC1, fBC0, fBC1⟩ := pair_cells BC_27
          have lBC := BC_27.lt
          obtain ⟨cL0, cL1, fL0, fL1⟩ := pair_cells L_27
          have lL := L_27.lt
          obtain ⟨cAC0, cAC1, fAC0, fAC1⟩ := pair_cells AC_27
          have lAC := AC_27.lt
          obtain ⟨cR0, cR1, fR0, fR1⟩ := pair_cells R_27
          have lR := R_27.lt
          obtain ⟨cD0, cD1, fD0, fD1⟩ := pair_cells D_27
          have lD := D_27.lt
          go_wp2_with fail
          clear cA0 cA1 fA0 fA1 lA cBx0 cBx1 fBx0 fBx1 lBx cC0 cC1 fC0 fC1 lC cAB0 cAB1 fAB0 fAB1 lAB cBA0 cBA1 fBA0 fBA1 lBA cP0 cP1 fP0 fP1 lP cQ0 cQ1 fQ0 fQ1 lQ cBC0 cBC1 fBC0 fBC1 lBC cL0 cL1 fL0 fL1 lL cAC0 cAC1 fAC0 fAC1 lAC cR0 cR1 fR0 fR1 lR cD0 cD1 fD0 fD1 lD
          have hal : Below w27.heap.size w27 (w27.alloc (.cells #[.int .i64 0, .int .i64 0] 23)) := (Below.refl _ _).alloc (Nat.le_refl _) _
          have Z_28 := Row.new w27 23 #[.int .i64 0, .int .i64 0]
          have oAZ : gA + 0 < w27.heap.size := A_27.lt
          have A_28 := A_27.below hal A_27.lt
          have oBxZ : gA + 1 < w27.heap.size := Bx_27.lt
          have Bx_28 := Bx_27.below hal Bx_27.lt
          have oCZ : gA + 2 < w27.heap.size := C_27.lt
          have C_28 := C_27.below hal C_27.lt
          have oABZ : gAB < w27.heap.size := AB_27.lt
          have AB_28 := AB_27.below hal AB_27.lt
          have oBAZ : gBA < w27.heap.size := BA_27.lt
          have BA_28 := BA_27.below hal BA_27.lt
          have oPZ : gP < w27.heap.size := P_27.lt
          have P_28 := P_27.below hal P_27.lt
          have oQZ : gQ < w27.heap.size := Q_27.lt
          have Q_28 := Q_27.below hal Q_27.lt
          have oBCZ : gBC < w27.heap.size := BC_27.lt
          have BC_28 := BC_27.below hal BC_27.lt
          have oLZ : gL < w27.heap.size := L_27.lt
          have L_28 := L_27.below hal L_27.lt
          have oACZ : gAC < w27.heap.size := AC_27.lt
          have AC_28 := AC_27.below hal AC_27.lt
          have oRZ : gR < w27.heap.size := R_27.lt
          have R_28 := R_27.below hal R_27.lt
          have oDZ : gD < w27.heap.size := D_27.lt
          have D_28 := D_27.below hal D_27.lt
          have hB_28 := below_after hB_27 hal hB_27.size
          clear hal A_27 Bx_27 C_27 AB_27 BA_27 P_27 Q_27 BC_27 L_27 AC_27 R_27 D_27 hB_27
          generalize w27.alloc (Obj.cells #[Value.int .i64 0, Value.int .i64 0] 23) = w28 at A_28 Bx_28 C_28 AB_28 BA_28 P_28 Q_28 BC_28 L_28 AC_28 R_28 D_28 Z_28 hB_28 ⊢
          have hbx_28 : w.heap.size ≤ w27.heap.size := hs_27
          generalize hgZ : w27.heap.size = gZ at Z_28 hbx_28 hs_27 oAZ oBxZ oCZ oABZ oBAZ oPZ oQZ oBCZ oLZ oACZ oRZ oDZ  ⊢
          clear hgZ
          have hs_28 := hB_28.size
          refine (sane_any _ (HT.out.below hB_28) (HE.out.below hB_28)).mono ?_
          rintro e wz ⟨rfl, hbz⟩
          go_wp2
          go_ret
          exact ⟨rfl, below_after hB_28 hbz hB_28.size⟩
        have y0 : (b1 == 0) = false := by simpa using hb0
        obtain ⟨E, hE⟩ : ∃ x, x = divF P.n P.d b1 b2 := ⟨_, rfl⟩
        have HEE := Lib.hid hE
        clear hE
        obtain ⟨cA0, cA1, fA0, fA1⟩ := pair_cells A_26
        have lA := A_26.lt
        obtain ⟨cBx0, cBx1, fBx0, fBx1⟩ := pair_cells Bx_26
        have lBx := Bx_26.lt
        obtain ⟨cC0, cC1, fC0, fC1⟩ := pair_cells C_26
        have lC := C_26.lt
        obtain ⟨cAB0, cAB1, fAB0, fAB1⟩ := pair_cells AB_26
        have lAB := AB_26.lt
        obtain ⟨cBA0, cBA1, fBA0, fBA1⟩ := pair_cells BA_26
        have lBA := BA_26.lt
        obtain ⟨cP0, cP1, fP0, fP1⟩ := pair_cells P_26
        have lP := P_26.lt
        obtain ⟨cQ0, cQ1, fQ0, fQ1⟩ := pair_cells Q_26
        have lQ := Q_26.lt
        obtain ⟨cBC0, cBC1, fBC0, fBC1⟩ := pair_cells BC_26
        have lBC := BC_26.lt
        obtain ⟨cL0, cL1, fL0, fL1⟩ := pair_cells L_26
        have lL := L_26.lt
        obtain ⟨cAC0, cAC1, fAC0, fAC1⟩ := pair_cells AC_26
        have lAC := AC_26.lt
        obtain ⟨cR0, cR1, fR0, fR1⟩ := pair_cells R_26
        have lR := R_26.lt
        obtain ⟨cD0, cD1, fD0, fD1⟩ := pair_cells D_26
        have lD := D_26.lt
        go_wp2_with fail
        clear cA0 cA1 fA0 fA1 lA cBx0 cBx1 fBx0 fBx1 lBx cC0 cC1 fC0 fC1 lC cAB0 cAB1 fAB0 fAB1 lAB cBA0 cBA1 fBA0 fBA1 lBA cP0 cP1 fP0 fP1 lP cQ0 cQ1 fQ0 fQ1 lQ cBC0 cBC1 fBC0 fBC1 lBC cL0 cL1 fL0 fL1 lL cAC0 cAC1 fAC0 fAC1 lAC cR0 cR1 fR0 fR1 lR cD0 cD1 fD0 fD1 lD
        refine (Div_any P.n P.d b1 b2 _).mono ?_
        rintro e w27 ⟨rfl, hb⟩
        rw [← HEE.out]
        have A_27 := A_26.below hb A_26.lt
        have Bx_27 := Bx_26.below hb Bx_26.lt
        have C_27 := C_26.below hb C_26.lt
        have AB_27 := AB_26.below hb AB_26.lt
        have BA_27 := BA_26.below hb BA_26.lt
        have P_27 := P_26.below hb P_26.lt
        have Q_27 := Q_26.below hb Q_26.lt
        have BC_27 := BC_26.below hb BC_26.lt
        have L_27 := L_26.below hb L_26.lt
        have AC_27 := AC_26.below hb AC_26.lt
        have R_27 := R_26.below hb R_26.lt
        have D_27 := D_26.below hb D_26.lt
        have hB_27 := below_after hB_26 hb hB_26.size
        clear A_26 Bx_26 C_26 AB_26 BA_26 P_26 Q_26 BC_26 L_26 AC_26 R_26 D_26 hB_26 hb
        have hs_27 := hB_27.size
        obtain ⟨cA0, cA1, fA0, fA1⟩ := pair_cells A_27
        have lA := A_27.lt
        obtain ⟨cBx0, cBx1, fBx0, fBx1⟩ := pair_cells Bx_27
        have lBx := Bx_27.lt
        obtain ⟨cC0, cC1, fC0, fC1⟩ := pair_cells C_27
        have lC := C_27.lt
        obtain ⟨cAB0, cAB1, fAB0, fAB1⟩ := pair_cells AB_27
        have lAB := AB_27.lt
        obtain ⟨cBA0, cBA1, fBA0, fBA1⟩ := pair_cells BA_27
        have lBA := BA_27.lt
        obtain ⟨cP0, cP1, fP0, fP1⟩ := pair_cells P_27
        have lP := P_27.lt
        obtain ⟨cQ0, cQ1, fQ0, fQ1⟩ := pair_cells Q_27
        have lQ := Q_27.lt
        obtain ⟨cBC0, cBC1, fBC0, fBC1⟩ := pair_cells BC_27
        have lBC := BC_27.lt
        obtain ⟨cL0, cL1, fL0, fL1⟩ := pair_cells L_27
        have lL := L_27.lt
        obtain ⟨cAC0, cAC1, fAC0, fAC1⟩ := pair_cells AC_27
        have lAC := AC_27.lt
        obtain ⟨cR0, cR1, fR0, fR1⟩ := pair_cells R_27
        have lR := R_27.lt
        obtain ⟨cD0, cD1, fD0, fD1⟩ := pair_cells D_27
        have lD := D_27.lt
        go_upto_region 22 with (fail)
        clear cA0 cA1 fA0 fA1 lA cBx0 cBx1 fBx0 fBx1 lBx cC0 cC1 fC0 fC1 lC cAB0 cAB1 fAB0 fAB1 lAB cBA0 cBA1 fBA0 fBA1 lBA cP0 cP1 fP0 fP1 lP cQ0 cQ1 fQ0 fQ1 lQ cBC0 cBC1 fBC0 fBC1 lBC cL0 cL1 fL0 fL1 lL cAC0 cAC1 fAC0 fAC1 lAC cR0 cR1 fR0 fR1 lR cD0 cD1 fD0 fD1 lD
        have A_28 := (A_27.far (p := ⟨gD, 0, none⟩) (show gA + 0 ≠ gD by omega) (.int .i64 E.n)).far (p := ⟨gD, 1, none⟩) (show gA + 0 ≠ gD by omega) (.int .i64 E.d)
        have Bx_28 := (Bx_27.far (p := ⟨gD, 0, none⟩) (show gA + 1 ≠ gD by omega) (.int .i64 E.n)).far (p := ⟨gD, 1, none⟩) (show gA + 1 ≠ gD by omega) (.int .i64 E.d)
        have C_28 := (C_27.far (p := ⟨gD, 0, none⟩) (show gA + 2 ≠ gD by omega) (.int .i64 E.n)).far (p := ⟨gD, 1, none⟩) (show gA + 2 ≠ gD by omega) (.int .i64 E.d)
        have AB_28 := (AB_27.far (p := ⟨gD, 0, none⟩) (show gAB ≠ gD by omega) (.int .i64 E.n)).far (p := ⟨gD, 1, none⟩) (show gAB ≠ gD by omega) (.int .i64 E.d)
        have BA_28 := (BA_27.far (p := ⟨gD, 0, none⟩) (show gBA ≠ gD by omega) (.int .i64 E.n)).far (p := ⟨gD, 1, none⟩) (show gBA ≠ gD by omega) (.int .i64 E.d)
        have P_28 := (P_27.far (p := ⟨gD, 0, none⟩) (show gP ≠ gD by omega) (.int .i64 E.n)).far (p := ⟨gD, 1, none⟩) (show gP ≠ gD by omega) (.int .i64 E.d)
        have Q_28 := (Q_27.far (p := ⟨gD, 0, none⟩) (show gQ ≠ gD by omega) (.int .i64 E.n)).far (p := ⟨gD, 1, none⟩) (show gQ ≠ gD by omega) (.int .i64 E.d)
        have BC_28 := (BC_27.far (p := ⟨gD, 0, none⟩) (show gBC ≠ gD by omega) (.int .i64 E.n)).far (p := ⟨gD, 1, none⟩) (show gBC ≠ gD by omega) (.int .i64 E.d)
        have L_28 := (L_27.far (p := ⟨gD, 0, none⟩) (show gL ≠ gD by omega) (.int .i64 E.n)).far (p := ⟨gD, 1, none⟩) (show gL ≠ gD by omega) (.int .i64 E.d)
        have AC_28 := (AC_27.far (p := ⟨gD, 0, none⟩) (show gAC ≠ gD by omega) (.int .i64 E.n)).far (p := ⟨gD, 1, none⟩) (show gAC ≠ gD by omega) (.int .i64 E.d)
        have R_28 := (R_27.far (p := ⟨gD, 0, none⟩) (show gR ≠ gD by omega) (.int .i64 E.n)).far (p := ⟨gD, 1, none⟩) (show gR ≠ gD by omega) (.int .i64 E.d)
        have D_28 : Row ((w27.setCell ⟨gD, 0, none⟩ (.int .i64 E.n)).setCell ⟨gD, 1, none⟩ (.int .i64 E.d)) (gD) 23 #[.int .i64 E.n, .int .i64 E.d] := (D_27.set 0 _).set 1 _
        have hB_28 : Below w.heap.size w ((w27.setCell ⟨gD, 0, none⟩ (.int .i64 E.n)).setCell ⟨gD, 1, none⟩ (.int .i64 E.d)) := Below.set2 hB_27 (by omega) _ _
        clear A_27 Bx_27 C_27 AB_27 BA_27 P_27 Q_27 BC_27 L_27 AC_27 R_27 D_27 hB_27
        generalize ((w27.setCell ⟨gD, 0, none⟩ (.int .i64 E.n)).setCell ⟨gD, 1, none⟩ (.int .i64 E.d)) = w28 at A_28 Bx_28 C_28 AB_28 BA_28 P_28 Q_28 BC_28 L_28 AC_28 R_28 D_28 hB_28 ⊢
        have hs_28 := hB_28.size
        cases e0 : (P.e == 0)
        · skip
          have e1 : (P.e != 0) = true := by rw [bne, e0]; rfl
          clear hb0
          obtain ⟨cA0, cA1, fA0, fA1⟩ := pair_cells A_28
          have lA := A_28.lt
          obtain ⟨cBx0, cBx1, fBx0, fBx1⟩ := pair_cells Bx_28
          have lBx := Bx_28.lt
          obtain ⟨cC0, cC1, fC0, fC1⟩ := pair_cells C_28
          have lC := C_28.lt
          obtain ⟨cAB0, cAB1, fAB0, fAB1⟩ := pair_cells AB_28
          have lAB := AB_28.lt
          obtain ⟨cBA0, cBA1, fBA0, fBA1⟩ := pair_cells BA_28
          have lBA := BA_28.lt
          obtain ⟨cP0, cP1, fP0, fP1⟩ := pair_cells P_28
          have lP := P_28.lt
          obtain ⟨cQ0, cQ1, fQ0, fQ1⟩ := pair_cells Q_28
          have lQ := Q_28.lt
          obtain ⟨cBC0, cBC1, fBC0, fBC1⟩ := pair_cells BC_28
          have lBC := BC_28.lt
          obtain ⟨cL0, cL1, fL0, fL1⟩ := pair_cells L_28
          have lL := L_28.lt
          obtain ⟨cAC0, cAC1, fAC0, fAC1⟩ := pair_cells AC_28
          have lAC := AC_28.lt
          obtain ⟨cR0, cR1, fR0, fR1⟩ := pair_cells R_28
          have lR := R_28.lt
          obtain ⟨cD0, cD1, fD0, fD1⟩ := pair_cells D_28
          have lD := D_28.lt
          go_wp2_with fail
          clear cA0 cA1 fA0 fA1 lA cBx0 cBx1 fBx0 fBx1 lBx cC0 cC1 fC0 fC1 lC cAB0 cAB1 fAB0 fAB1 lAB cBA0 cBA1 fBA0 fBA1 lBA cP0 cP1 fP0 fP1 lP cQ0 cQ1 fQ0 fQ1 lQ cBC0 cBC1 fBC0 fBC1 lBC cL0 cL1 fL0 fL1 lL cAC0 cAC1 fAC0 fAC1 lAC cR0 cR1 fR0 fR1 lR cD0 cD1 fD0 fD1 lD
          refine (sane_any _ (HT.out.below hB_28) (HE.out.below hB_28)).mono ?_
          rintro e wz ⟨rfl, hbz⟩
          go_wp2
          go_ret
          exact ⟨rfl, below_after hB_28 hbz hB_28.size⟩
        have e1 : (P.e != 0) = false := by rw [bne, e0]; rfl
        have hEE : E = ⟨a1, a2, 0⟩ := by
          have k1 : (mulF a1 a2 b1 b2).e = 0 := by rw [← HP.out]; simpa using e0
          rw [HEE.out, HP.out]; exact field_div VA.out VB.out hb0 k1
        have x1 : (E.e == 0) = true := by rw [hEE]; rfl
        have x3 : (E.n == a1) = true := by rw [hEE]; simp
        have x4 : (E.d == a2) = true := by rw [hEE]; simp
        clear hEE hb0
        obtain ⟨cA0, cA1, fA0, fA1⟩ := pair_cells A_28
        have lA := A_28.lt
        obtain ⟨cBx0, cBx1, fBx0, fBx1⟩ := pair_cells Bx_28
        have lBx := Bx_28.lt
        obtain ⟨cC0, cC1, fC0, fC1⟩ := pair_cells C_28
        have lC := C_28.lt
        obtain ⟨cAB0, cAB1, fAB0, fAB1⟩ := pair_cells AB_28
        have lAB := AB_28.lt
        obtain ⟨cBA0, cBA1, fBA0, fBA1⟩ := pair_cells BA_28
        have lBA := BA_28.lt
        obtain ⟨cP0, cP1, fP0, fP1⟩ := pair_cells P_28
        have lP := P_28.lt
        obtain ⟨cQ0, cQ1, fQ0, fQ1⟩ := pair_cells Q_28
        have lQ := Q_28.lt
        obtain ⟨cBC0, cBC1, fBC0, fBC1⟩ := pair_cells BC_28
        have lBC := BC_28.lt
        obtain ⟨cL0, cL1, fL0, fL1⟩ := pair_cells L_28
        have lL := L_28.lt
        obtain ⟨cAC0, cAC1, fAC0, fAC1⟩ := pair_cells AC_28
        have lAC := AC_28.lt
        obtain ⟨cR0, cR1, fR0, fR1⟩ := pair_cells R_28
        have lR := R_28.lt
        obtain ⟨cD0, cD1, fD0, fD1⟩ := pair_cells D_28
        have lD := D_28.lt
        go_wp2_with fail
        clear cA0 cA1 fA0 fA1 lA cBx0 cBx1 fBx0 fBx1 lBx cC0 cC1 fC0 fC1 lC cAB0 cAB1 fAB0 fAB1 lAB cBA0 cBA1 fBA0 fBA1 lBA cP0 cP1 fP0 fP1 lP cQ0 cQ1 fQ0 fQ1 lQ cBC0 cBC1 fBC0 fBC1 lBC cL0 cL1 fL0 fL1 lL cAC0 cAC1 fAC0 fAC1 lAC cR0 cR1 fR0 fR1 lR cD0 cD1 fD0 fD1 lD
        refine (sane_any _ (HT.out.below hB_28) (HE.out.below hB_28)).mono ?_
        rintro e wz ⟨rfl, hbz⟩
        go_wp2
        go_ret
        exact ⟨rfl, below_after hB_28 hbz hB_28.size⟩
end Go.Proofs.YtkdmbkhgcahpiaaDoor
