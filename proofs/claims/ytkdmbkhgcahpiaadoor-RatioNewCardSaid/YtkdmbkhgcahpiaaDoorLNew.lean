/- The law RatioNew: it returns true. -/
import Derived.Test.YtkdmbkhgcahpiaaDoorRatZ
import Derived.Test.YtkdmbkhgcahpiaaDoorTape
namespace Go.Proofs.YtkdmbkhgcahpiaaDoor
open Go.RowKit

set_option maxRecDepth 100000 in
set_option maxHeartbeats 1600000 in
theorem RatioNew_any (n d : Int) (w : World) (hT : Tabs w) (hE : Errs w) (hn : -9223372036854775808 ≤ n ∧ n ≤ 9223372036854775807) (hd : -9223372036854775808 ≤ d ∧ d ≤ 9223372036854775807) :
    Calls Tryd.prog 3 #[.int .i64 n, .int .i64 d] w fun e w' => e = .returned (.bool true) ∧ Below w.heap.size w w' := by
  have HT := Lib.hid hT
  have HE := Lib.hid hE
  have m1 : 0 ≤ d % 1000 := Int.emod_nonneg _ (by omega)
  have m2 : d % 1000 < 1000 := Int.emod_lt_of_pos _ (by omega)
  obtain ⟨m, hm⟩ : ∃ m, m = d % 1000 := ⟨_, rfl⟩
  rw [← hm] at m1 m2
  have HM := Lib.hid hm
  clear hT hE hm
  obtain ⟨F, hF⟩ : ∃ F, F = newF n d := ⟨_, rfl⟩
  obtain ⟨G, hG⟩ : ∃ G, G = newF n (m + 1) := ⟨_, rfl⟩
  have HF := Lib.hid hF
  have HG := Lib.hid hG
  clear hF hG
  go_enter Tryd.func3, Tryd.ntmps3
  go_wp2_with fail
  refine (New_any n d w hn hd).mono ?_
  rintro e w1 ⟨rfl, hb⟩
  rw [← HF.out]
  have hB_1 : Below w.heap.size w w1 := hb
  clear hb
  have hs_1 := hB_1.size
  go_wp2_with fail
  have hal : Below w1.heap.size w1 (w1.alloc (.cells #[.int .i64 F.n, .int .i64 F.d] 23)) := (Below.refl _ _).alloc (Nat.le_refl _) _
  have A_2 := Row.new w1 23 #[.int .i64 F.n, .int .i64 F.d]
  have hB_2 := below_after hB_1 hal hB_1.size
  clear hal hB_1
  generalize w1.alloc (Obj.cells #[Value.int .i64 F.n, Value.int .i64 F.d] 23) = w2 at A_2 hB_2 ⊢
  have hbx_2 : w.heap.size ≤ w1.heap.size := hs_1
  generalize hgA : w1.heap.size = gA at A_2 hbx_2 hs_1  ⊢
  clear hgA
  have hs_2 := hB_2.size
  refine (refNew_any n d _ hn hd).mono ?_
  rintro e w3 ⟨rfl, hb⟩
  rw [← HF.out]
  have A_3 := A_2.below hb A_2.lt
  have hB_3 := below_after hB_2 hb hB_2.size
  clear A_2 hB_2 hb
  have hs_3 := hB_3.size
  obtain ⟨cA0, cA1, fA0, fA1⟩ := pair_cells A_3
  have lA := A_3.lt
  go_wp2_with fail
  clear cA0 cA1 fA0 fA1 lA
  have hal : Below w3.heap.size w3 (w3.alloc (.cells #[.int .i64 F.n, .int .i64 F.d] 23)) := (Below.refl _ _).alloc (Nat.le_refl _) _
  have Bx_4 := Row.new w3 23 #[.int .i64 F.n, .int .i64 F.d]
  have A_4 := A_3.below hal A_3.lt
  have hB_4 := below_after hB_3 hal hB_3.size
  clear hal A_3 hB_3
  generalize w3.alloc (Obj.cells #[Value.int .i64 F.n, Value.int .i64 F.d] 23) = w4 at A_4 Bx_4 hB_4 ⊢
  have hbx_4 : w.heap.size ≤ w3.heap.size := hs_3
  generalize hgBx : w3.heap.size = gBx at Bx_4 hbx_4 hs_3  ⊢
  clear hgBx
  have hs_4 := hB_4.size
  refine (tapeMod_any d 1000 _ (by omega) (by omega)).mono ?_
  rintro e w' ⟨rfl, rfl⟩
  rw [← HM.out]
  obtain ⟨cA0, cA1, fA0, fA1⟩ := pair_cells A_4
  have lA := A_4.lt
  obtain ⟨cBx0, cBx1, fBx0, fBx1⟩ := pair_cells Bx_4
  have lBx := Bx_4.lt
  go_wp2_with fail
  clear cA0 cA1 fA0 fA1 lA cBx0 cBx1 fBx0 fBx1 lBx
  refine (New_any n (m + 1) _ hn (by omega)).mono ?_
  rintro e w5 ⟨rfl, hb⟩
  rw [← HG.out]
  have A_5 := A_4.below hb A_4.lt
  have Bx_5 := Bx_4.below hb Bx_4.lt
  have hB_5 := below_after hB_4 hb hB_4.size
  clear A_4 Bx_4 hB_4 hb
  have hs_5 := hB_5.size
  obtain ⟨cA0, cA1, fA0, fA1⟩ := pair_cells A_5
  have lA := A_5.lt
  obtain ⟨cBx0, cBx1, fBx0, fBx1⟩ := pair_cells Bx_5
  have lBx := Bx_5.lt
  go_wp2_with fail
  clear cA0 cA1 fA0 fA1 lA cBx0 cBx1 fBx0 fBx1 lBx
  have hal : Below w5.heap.size w5 (w5.alloc (.cells #[.int .i64 G.n, .int .i64 G.d] 23)) := (Below.refl _ _).alloc (Nat.le_refl _) _
  have C_6 := Row.new w5 23 #[.int .i64 G.n, .int .i64 G.d]
  have A_6 := A_5.below hal A_5.lt
  have Bx_6 := Bx_5.below hal Bx_5.lt
  have hB_6 := below_after hB_5 hal hB_5.size
  clear hal A_5 Bx_5 hB_5
  generalize w5.alloc (Obj.cells #[Value.int .i64 G.n, Value.int .i64 G.d] 23) = w6 at A_6 Bx_6 C_6 hB_6 ⊢
  have hbx_6 : w.heap.size ≤ w5.heap.size := hs_5
  generalize hgC : w5.heap.size = gC at C_6 hbx_6 hs_5  ⊢
  clear hgC
  have hs_6 := hB_6.size
  refine (tapeMod_any d 1000 _ (by omega) (by omega)).mono ?_
  rintro e w' ⟨rfl, rfl⟩
  rw [← HM.out]
  obtain ⟨cA0, cA1, fA0, fA1⟩ := pair_cells A_6
  have lA := A_6.lt
  obtain ⟨cBx0, cBx1, fBx0, fBx1⟩ := pair_cells Bx_6
  have lBx := Bx_6.lt
  obtain ⟨cC0, cC1, fC0, fC1⟩ := pair_cells C_6
  have lC := C_6.lt
  go_wp2_with fail
  clear cA0 cA1 fA0 fA1 lA cBx0 cBx1 fBx0 fBx1 lBx cC0 cC1 fC0 fC1 lC
  refine (refNew_any n (m + 1) _ hn (by omega)).mono ?_
  rintro e w7 ⟨rfl, hb⟩
  rw [← HG.out]
  have A_7 := A_6.below hb A_6.lt
  have Bx_7 := Bx_6.below hb Bx_6.lt
  have C_7 := C_6.below hb C_6.lt
  have hB_7 := below_after hB_6 hb hB_6.size
  clear A_6 Bx_6 C_6 hB_6 hb
  have hs_7 := hB_7.size
  obtain ⟨cA0, cA1, fA0, fA1⟩ := pair_cells A_7
  have lA := A_7.lt
  obtain ⟨cBx0, cBx1, fBx0, fBx1⟩ := pair_cells Bx_7
  have lBx := Bx_7.lt
  obtain ⟨cC0, cC1, fC0, fC1⟩ := pair_cells C_7
  have lC := C_7.lt
  go_wp2_with fail
  clear cA0 cA1 fA0 fA1 lA cBx0 cBx1 fBx0 fBx1 lBx cC0 cC1 fC0 fC1 lC
  have hal : Below w7.heap.size w7 (w7.alloc (.cells #[.int .i64 G.n, .int .i64 G.d] 23)) := (Below.refl _ _).alloc (Nat.le_refl _) _
  have Dx_8 := Row.new w7 23 #[.int .i64 G.n, .int .i64 G.d]
  have A_8 := A_7.below hal A_7.lt
  have Bx_8 := Bx_7.below hal Bx_7.lt
  have C_8 := C_7.below hal C_7.lt
  have hB_8 := below_after hB_7 hal hB_7.size
  clear hal A_7 Bx_7 C_7 hB_7
  generalize w7.alloc (Obj.cells #[Value.int .i64 G.n, Value.int .i64 G.d] 23) = w8 at A_8 Bx_8 C_8 Dx_8 hB_8 ⊢
  have hbx_8 : w.heap.size ≤ w7.heap.size := hs_7
  generalize hgDx : w7.heap.size = gDx at Dx_8 hbx_8 hs_7  ⊢
  clear hgDx
  have hs_8 := hB_8.size
  refine (sane_any _ (HT.out.below hB_8) (HE.out.below hB_8)).mono ?_
  rintro e wz ⟨rfl, hbz⟩
  go_wp2
  go_ret
  exact ⟨rfl, below_after hB_8 hbz hB_8.size⟩
end Go.Proofs.YtkdmbkhgcahpiaaDoor
