/- The law RatioRoundTrip: it returns true. -/
import Derived.Test.YtkdmbkhgcahpiaaDoorLComp2
namespace Go.Proofs.YtkdmbkhgcahpiaaDoor
open Go.RowKit

theorem fmt_len (n d : Int) : (fmtF n d).length ≤ 43 := by
  unfold fmtF
  split
  · rename_i h
    obtain ⟨h1, h2, h3, h4, _⟩ := vld_iff.1 h
    have a := itoa_len n (by omega) (by omega)
    have b := itoa_len d (by omega) (by omega)
    unfold txtF
    rw [List.length_append]
    split
    · simp; omega
    · simp only [List.length_cons]; omega
  · simp
theorem prs_nil : prsF [] = ⟨0, 0, false⟩ := prs_no fun _ _ h => fmt_ne h
set_option maxRecDepth 100000 in
set_option maxHeartbeats 6400000 in
theorem RatioRoundTrip_any (v : Value) (zs : List Int) (a b : Int) (s : ByteArray) (w : World) (hT : Tabs w) (hE : Errs w) (hv : Sl w 1 v (ints zs)) (_ha : -9223372036854775808 ≤ a ∧ a ≤ 9223372036854775807) (_hb : -9223372036854775808 ≤ b ∧ b ≤ 9223372036854775807) (hsz : s.size ≤ 140737488351232) :
    Calls Tryd.prog 5 #[v, .agg #[.int .i64 a, .int .i64 b], .string s] w fun e w' => e = .returned (.bool true) ∧ Below w.heap.size w w' := by
  have HT := Lib.hid hT
  have HE := Lib.hid hE
  have HV := Lib.hid hv
  clear hT hE hv _ha _hb
  obtain ⟨X, hX⟩ : ∃ X, X = prsF s.data.toList := ⟨_, rfl⟩
  have HX := Lib.hid hX
  clear hX
  go_enter Tryd.func5, Tryd.ntmps5
  go_wp2_with fail
  have A0 := Row.new w 23 #[.int .i64 a, .int .i64 b]
  have hB0 : Below w.heap.size w (w.alloc (.cells #[.int .i64 a, .int .i64 b] 23)) := (Below.refl _ _).alloc (Nat.le_refl _) _
  generalize w.alloc (Obj.cells #[Value.int .i64 a, Value.int .i64 b] 23) = w0 at A0 hB0 ⊢
  have lA := A0.lt
  have hs0 := hB0.size
  refine (tapeNew_any v zs w0 (HV.out.below hB0)).mono ?_
  rintro e w1 ⟨rfl, ht1, hb1⟩
  obtain ⟨D, hD⟩ : ∃ D, D = w0.heap.size := ⟨_, rfl⟩
  rw [← hD] at ht1 lA hs0 ⊢
  have A1 := A0.below hb1 A0.lt
  have hB1 := below_after hB0 hb1 hB0.size
  have hs1 := hB1.size
  clear hb1 A0 hB0 hD HV
  go_wp2_with fail
  refine (Draw_any D 3 _ ht1 (by omega) (by omega)).mono ?_
  rintro e w2 ⟨r, ⟨r1, r2⟩, rfl, ht2, hh⟩
  have A2 := A1.keepD hh (by omega)
  have hB2 := hB1.grown hh hs1 (fun g hg => by cases hg; omega)
  have hs2 := hB2.size
  clear hh ht1 A1 hB1
  by_cases hr : r = 0
  · subst hr
    clear ht2
    have A_2 := A2
    have hB_2 := hB2
    clear A2 hB2
    obtain ⟨cA0, cA1, fA0, fA1⟩ := pair_cells A_2
    have lA := A_2.lt
    go_wp2_with fail
    clear cA0 cA1 fA0 fA1 lA
    refine (Format_any a b _ (HT.out.below hB_2)).mono ?_
    rintro e w3 ⟨t, rfl, Ht, hb⟩
    have A_3 := A_2.below hb A_2.lt
    have hB_3 := below_after hB_2 hb hB_2.size
    clear A_2 hB_2 hb
    have hs_3 := hB_3.size
    have htz : t.size ≤ 140737488351232 := by
      have e1 : t.size = t.data.toList.length := by simp
      have := fmt_len a b
      rw [e1, Ht.out]; omega
    obtain ⟨cA0, cA1, fA0, fA1⟩ := pair_cells A_3
    have lA := A_3.lt
    go_wp2_with fail
    clear cA0 cA1 fA0 fA1 lA
    refine (Parse_any t _ htz (HT.out.below hB_3) (HE.out.below hB_3)).mono ?_
    rintro e w4 ⟨rfl, hb⟩
    have A_4 := A_3.below hb A_3.lt
    have hB_4 := below_after hB_3 hb hB_3.size
    clear A_3 hB_3 hb
    have hs_4 := hB_4.size
    rw [Ht.out]
    clear Ht htz
    cases hv : vldB a b
    · skip
      have HVV := Lib.hid hv
      rw [fmtF_no hv, prs_nil]
      clear hv
      obtain ⟨cA0, cA1, fA0, fA1⟩ := pair_cells A_4
      have lA := A_4.lt
      go_wp2_with fail
      clear cA0 cA1 fA0 fA1 lA
      have hal : Below w4.heap.size w4 (w4.alloc (.cells #[.int .i64 0, .int .i64 0] 23)) := (Below.refl _ _).alloc (Nat.le_refl _) _
      have Bx_5 := Row.new w4 23 #[.int .i64 0, .int .i64 0]
      have oABx : w.heap.size < w4.heap.size := A_4.lt
      have A_5 := A_4.below hal A_4.lt
      have hB_5 := below_after hB_4 hal hB_4.size
      clear hal A_4 hB_4
      generalize w4.alloc (Obj.cells #[Value.int .i64 0, Value.int .i64 0] 23) = w5 at A_5 Bx_5 hB_5 ⊢
      have hbx_5 : w.heap.size ≤ w4.heap.size := hs_4
      generalize hgBx : w4.heap.size = gBx at Bx_5 hbx_5 hs_4 oABx  ⊢
      clear hgBx
      have hs_5 := hB_5.size
      refine (refValid_any a b _).mono ?_
      rintro e w6 ⟨rfl, hb⟩
      rw [HVV.out]
      have A_6 := A_5.below hb A_5.lt
      have Bx_6 := Bx_5.below hb Bx_5.lt
      have hB_6 := below_after hB_5 hb hB_5.size
      clear A_5 Bx_5 hB_5 hb
      have hs_6 := hB_6.size
      obtain ⟨cA0, cA1, fA0, fA1⟩ := pair_cells A_6
      have lA := A_6.lt
      obtain ⟨cBx0, cBx1, fBx0, fBx1⟩ := pair_cells Bx_6
      have lBx := Bx_6.lt
      go_wp2_with fail
      clear cA0 cA1 fA0 fA1 lA cBx0 cBx1 fBx0 fBx1 lBx
      refine (Parse_any s _ hsz (HT.out.below hB_6) (HE.out.below hB_6)).mono ?_
      rintro e w7 ⟨rfl, hb⟩
      have A_7 := A_6.below hb A_6.lt
      have Bx_7 := Bx_6.below hb Bx_6.lt
      have hB_7 := below_after hB_6 hb hB_6.size
      clear A_6 Bx_6 hB_6 hb
      have hs_7 := hB_7.size
      rw [← HX.out]
      cases hok : X.ok
      · skip
        obtain ⟨cA0, cA1, fA0, fA1⟩ := pair_cells A_7
        have lA := A_7.lt
        obtain ⟨cBx0, cBx1, fBx0, fBx1⟩ := pair_cells Bx_7
        have lBx := Bx_7.lt
        go_wp2_with fail
        clear cA0 cA1 fA0 fA1 lA cBx0 cBx1 fBx0 fBx1 lBx
        have hal : Below w7.heap.size w7 (w7.alloc (.cells #[.int .i64 X.n, .int .i64 X.d] 23)) := (Below.refl _ _).alloc (Nat.le_refl _) _
        have C_8 := Row.new w7 23 #[.int .i64 X.n, .int .i64 X.d]
        have oAC : w.heap.size < w7.heap.size := A_7.lt
        have A_8 := A_7.below hal A_7.lt
        have oBxC : gBx < w7.heap.size := Bx_7.lt
        have Bx_8 := Bx_7.below hal Bx_7.lt
        have hB_8 := below_after hB_7 hal hB_7.size
        clear hal A_7 Bx_7 hB_7
        generalize w7.alloc (Obj.cells #[Value.int .i64 X.n, Value.int .i64 X.d] 23) = w8 at A_8 Bx_8 C_8 hB_8 ⊢
        have hbx_8 : w.heap.size ≤ w7.heap.size := hs_7
        generalize hgC : w7.heap.size = gC at C_8 hbx_8 hs_7 oAC oBxC  ⊢
        clear hgC
        have hs_8 := hB_8.size
        refine (sane_any _ (HT.out.below hB_8) (HE.out.below hB_8)).mono ?_
        rintro e wz ⟨rfl, hbz⟩
        go_wp2
        go_ret
        exact ⟨rfl, below_after hB_8 hbz hB_8.size⟩
      have hpo : vldB X.n X.d = true ∧ fmtF X.n X.d = s.data.toList := by rw [HX.out] at hok ⊢; exact prs_ok hok
      have HPV := Lib.hid hpo.1
      have HPF := Lib.hid hpo.2
      clear hpo
      obtain ⟨cA0, cA1, fA0, fA1⟩ := pair_cells A_7
      have lA := A_7.lt
      obtain ⟨cBx0, cBx1, fBx0, fBx1⟩ := pair_cells Bx_7
      have lBx := Bx_7.lt
      go_wp2_with fail
      clear cA0 cA1 fA0 fA1 lA cBx0 cBx1 fBx0 fBx1 lBx
      have hal : Below w7.heap.size w7 (w7.alloc (.cells #[.int .i64 X.n, .int .i64 X.d] 23)) := (Below.refl _ _).alloc (Nat.le_refl _) _
      have C_8 := Row.new w7 23 #[.int .i64 X.n, .int .i64 X.d]
      have oAC : w.heap.size < w7.heap.size := A_7.lt
      have A_8 := A_7.below hal A_7.lt
      have oBxC : gBx < w7.heap.size := Bx_7.lt
      have Bx_8 := Bx_7.below hal Bx_7.lt
      have hB_8 := below_after hB_7 hal hB_7.size
      clear hal A_7 Bx_7 hB_7
      generalize w7.alloc (Obj.cells #[Value.int .i64 X.n, Value.int .i64 X.d] 23) = w8 at A_8 Bx_8 C_8 hB_8 ⊢
      have hbx_8 : w.heap.size ≤ w7.heap.size := hs_7
      generalize hgC : w7.heap.size = gC at C_8 hbx_8 hs_7 oAC oBxC  ⊢
      clear hgC
      have hs_8 := hB_8.size
      refine (Format_any X.n X.d _ (HT.out.below hB_8)).mono ?_
      rintro e w9 ⟨t2, rfl, Ht2, hb⟩
      have A_9 := A_8.below hb A_8.lt
      have Bx_9 := Bx_8.below hb Bx_8.lt
      have C_9 := C_8.below hb C_8.lt
      have hB_9 := below_after hB_8 hb hB_8.size
      clear A_8 Bx_8 C_8 hB_8 hb
      have hs_9 := hB_9.size
      obtain rfl : t2 = s := bytes_ext (Ht2.out.trans HPF.out)
      clear Ht2 HPF
      obtain ⟨cA0, cA1, fA0, fA1⟩ := pair_cells A_9
      have lA := A_9.lt
      obtain ⟨cBx0, cBx1, fBx0, fBx1⟩ := pair_cells Bx_9
      have lBx := Bx_9.lt
      obtain ⟨cC0, cC1, fC0, fC1⟩ := pair_cells C_9
      have lC := C_9.lt
      go_wp2_with fail
      clear cA0 cA1 fA0 fA1 lA cBx0 cBx1 fBx0 fBx1 lBx cC0 cC1 fC0 fC1 lC
      refine (Valid_any X.n X.d _).mono ?_
      rintro e w10 ⟨rfl, hb⟩
      rw [HPV.out]
      have A_10 := A_9.below hb A_9.lt
      have Bx_10 := Bx_9.below hb Bx_9.lt
      have C_10 := C_9.below hb C_9.lt
      have hB_10 := below_after hB_9 hb hB_9.size
      clear A_9 Bx_9 C_9 hB_9 hb
      have hs_10 := hB_10.size
      obtain ⟨cA0, cA1, fA0, fA1⟩ := pair_cells A_10
      have lA := A_10.lt
      obtain ⟨cBx0, cBx1, fBx0, fBx1⟩ := pair_cells Bx_10
      have lBx := Bx_10.lt
      obtain ⟨cC0, cC1, fC0, fC1⟩ := pair_cells C_10
      have lC := C_10.lt
      go_wp2_with fail
      clear cA0 cA1 fA0 fA1 lA cBx0 cBx1 fBx0 fBx1 lBx cC0 cC1 fC0 fC1 lC
      refine (sane_any _ (HT.out.below hB_10) (HE.out.below hB_10)).mono ?_
      rintro e wz ⟨rfl, hbz⟩
      go_wp2
      go_ret
      exact ⟨rfl, below_after hB_10 hbz hB_10.size⟩
    have HVV := Lib.hid hv
    rw [prs_yes hv]
    clear hv
    obtain ⟨cA0, cA1, fA0, fA1⟩ := pair_cells A_4
    have lA := A_4.lt
    go_wp2_with fail
    clear cA0 cA1 fA0 fA1 lA
    have hal : Below w4.heap.size w4 (w4.alloc (.cells #[.int .i64 a, .int .i64 b] 23)) := (Below.refl _ _).alloc (Nat.le_refl _) _
    have Bx_5 := Row.new w4 23 #[.int .i64 a, .int .i64 b]
    have oABx : w.heap.size < w4.heap.size := A_4.lt
    have A_5 := A_4.below hal A_4.lt
    have hB_5 := below_after hB_4 hal hB_4.size
    clear hal A_4 hB_4
    generalize w4.alloc (Obj.cells #[Value.int .i64 a, Value.int .i64 b] 23) = w5 at A_5 Bx_5 hB_5 ⊢
    have hbx_5 : w.heap.size ≤ w4.heap.size := hs_4
    generalize hgBx : w4.heap.size = gBx at Bx_5 hbx_5 hs_4 oABx  ⊢
    clear hgBx
    have hs_5 := hB_5.size
    refine (refValid_any a b _).mono ?_
    rintro e w6 ⟨rfl, hb⟩
    rw [HVV.out]
    have A_6 := A_5.below hb A_5.lt
    have Bx_6 := Bx_5.below hb Bx_5.lt
    have hB_6 := below_after hB_5 hb hB_5.size
    clear A_5 Bx_5 hB_5 hb
    have hs_6 := hB_6.size
    obtain ⟨cA0, cA1, fA0, fA1⟩ := pair_cells A_6
    have lA := A_6.lt
    obtain ⟨cBx0, cBx1, fBx0, fBx1⟩ := pair_cells Bx_6
    have lBx := Bx_6.lt
    go_wp2_with fail
    clear cA0 cA1 fA0 fA1 lA cBx0 cBx1 fBx0 fBx1 lBx
    refine (Parse_any s _ hsz (HT.out.below hB_6) (HE.out.below hB_6)).mono ?_
    rintro e w7 ⟨rfl, hb⟩
    have A_7 := A_6.below hb A_6.lt
    have Bx_7 := Bx_6.below hb Bx_6.lt
    have hB_7 := below_after hB_6 hb hB_6.size
    clear A_6 Bx_6 hB_6 hb
    have hs_7 := hB_7.size
    rw [← HX.out]
    cases hok : X.ok
    · skip
      obtain ⟨cA0, cA1, fA0, fA1⟩ := pair_cells A_7
      have lA := A_7.lt
      obtain ⟨cBx0, cBx1, fBx0, fBx1⟩ := pair_cells Bx_7
      have lBx := Bx_7.lt
      go_wp2_with fail
      clear cA0 cA1 fA0 fA1 lA cBx0 cBx1 fBx0 fBx1 lBx
      have hal : Below w7.heap.size w7 (w7.alloc (.cells #[.int .i64 X.n, .int .i64 X.d] 23)) := (Below.refl _ _).alloc (Nat.le_refl _) _
      have C_8 := Row.new w7 23 #[.int .i64 X.n, .int .i64 X.d]
      have oAC : w.heap.size < w7.heap.size := A_7.lt
      have A_8 := A_7.below hal A_7.lt
      have oBxC : gBx < w7.heap.size := Bx_7.lt
      have Bx_8 := Bx_7.below hal Bx_7.lt
      have hB_8 := below_after hB_7 hal hB_7.size
      clear hal A_7 Bx_7 hB_7
      generalize w7.alloc (Obj.cells #[Value.int .i64 X.n, Value.int .i64 X.d] 23) = w8 at A_8 Bx_8 C_8 hB_8 ⊢
      have hbx_8 : w.heap.size ≤ w7.heap.size := hs_7
      generalize hgC : w7.heap.size = gC at C_8 hbx_8 hs_7 oAC oBxC  ⊢
      clear hgC
      have hs_8 := hB_8.size
      refine (sane_any _ (HT.out.below hB_8) (HE.out.below hB_8)).mono ?_
      rintro e wz ⟨rfl, hbz⟩
      go_wp2
      go_ret
      exact ⟨rfl, below_after hB_8 hbz hB_8.size⟩
    have hpo : vldB X.n X.d = true ∧ fmtF X.n X.d = s.data.toList := by rw [HX.out] at hok ⊢; exact prs_ok hok
    have HPV := Lib.hid hpo.1
    have HPF := Lib.hid hpo.2
    clear hpo
    obtain ⟨cA0, cA1, fA0, fA1⟩ := pair_cells A_7
    have lA := A_7.lt
    obtain ⟨cBx0, cBx1, fBx0, fBx1⟩ := pair_cells Bx_7
    have lBx := Bx_7.lt
    go_wp2_with fail
    clear cA0 cA1 fA0 fA1 lA cBx0 cBx1 fBx0 fBx1 lBx
    have hal : Below w7.heap.size w7 (w7.alloc (.cells #[.int .i64 X.n, .int .i64 X.d] 23)) := (Below.refl _ _).alloc (Nat.le_refl _) _
    have C_8 := Row.new w7 23 #[.int .i64 X.n, .int .i64 X.d]
    have oAC : w.heap.size < w7.heap.size := A_7.lt
    have A_8 := A_7.below hal A_7.lt
    have oBxC : gBx < w7.heap.size := Bx_7.lt
    have Bx_8 := Bx_7.below hal Bx_7.lt
    have hB_8 := below_after hB_7 hal hB_7.size
    clear hal A_7 Bx_7 hB_7
    generalize w7.alloc (Obj.cells #[Value.int .i64 X.n, Value.int .i64 X.d] 23) = w8 at A_8 Bx_8 C_8 hB_8 ⊢
    have hbx_8 : w.heap.size ≤ w7.heap.size := hs_7
    generalize hgC : w7.heap.size = gC at C_8 hbx_8 hs_7 oAC oBxC  ⊢
    clear hgC
    have hs_8 := hB_8.size
    refine (Format_any X.n X.d _ (HT.out.below hB_8)).mono ?_
    rintro e w9 ⟨t2, rfl, Ht2, hb⟩
    have A_9 := A_8.below hb A_8.lt
    have Bx_9 := Bx_8.below hb Bx_8.lt
    have C_9 := C_8.below hb C_8.lt
    have hB_9 := below_after hB_8 hb hB_8.size
    clear A_8 Bx_8 C_8 hB_8 hb
    have hs_9 := hB_9.size
    obtain rfl : t2 = s := bytes_ext (Ht2.out.trans HPF.out)
    clear Ht2 HPF
    obtain ⟨cA0, cA1, fA0, fA1⟩ := pair_cells A_9
    have lA := A_9.lt
    obtain ⟨cBx0, cBx1, fBx0, fBx1⟩ := pair_cells Bx_9
    have lBx := Bx_9.lt
    obtain ⟨cC0, cC1, fC0, fC1⟩ := pair_cells C_9
    have lC := C_9.lt
    go_wp2_with fail
    clear cA0 cA1 fA0 fA1 lA cBx0 cBx1 fBx0 fBx1 lBx cC0 cC1 fC0 fC1 lC
    refine (Valid_any X.n X.d _).mono ?_
    rintro e w10 ⟨rfl, hb⟩
    rw [HPV.out]
    have A_10 := A_9.below hb A_9.lt
    have Bx_10 := Bx_9.below hb Bx_9.lt
    have C_10 := C_9.below hb C_9.lt
    have hB_10 := below_after hB_9 hb hB_9.size
    clear A_9 Bx_9 C_9 hB_9 hb
    have hs_10 := hB_10.size
    obtain ⟨cA0, cA1, fA0, fA1⟩ := pair_cells A_10
    have lA := A_10.lt
    obtain ⟨cBx0, cBx1, fBx0, fBx1⟩ := pair_cells Bx_10
    have lBx := Bx_10.lt
    obtain ⟨cC0, cC1, fC0, fC1⟩ := pair_cells C_10
    have lC := C_10.lt
    go_wp2_with fail
    clear cA0 cA1 fA0 fA1 lA cBx0 cBx1 fBx0 fBx1 lBx cC0 cC1 fC0 fC1 lC
    refine (sane_any _ (HT.out.below hB_10) (HE.out.below hB_10)).mono ?_
    rintro e wz ⟨rfl, hbz⟩
    go_wp2
    go_ret
    exact ⟨rfl, below_after hB_10 hbz hB_10.size⟩
  have hr0 : 0 < r := by omega
  go_wp2_with fail
  refine (Frac_any D _ ht2).mono ?_
  rintro e w3 ⟨n, d, _, _, rfl, ht3, hh⟩
  have A3 := A2.keepD hh (by omega)
  have hB3 := hB2.grown hh hs2 (fun g hg => by cases hg; omega)
  clear hh ht2 A2 hB2 ht3
  obtain ⟨a0, a1, f0, f1⟩ := pair_cells A3
  go_wp2_with fail
  have A_4 : Row ((w3.setCell ⟨w.heap.size, 0, none⟩ (.int .i64 n)).setCell ⟨w.heap.size, 1, none⟩ (.int .i64 d)) w.heap.size 23 #[.int .i64 n, .int .i64 d] := (A3.set 0 _).set 1 _
  have hB_4 : Below w.heap.size w ((w3.setCell ⟨w.heap.size, 0, none⟩ (.int .i64 n)).setCell ⟨w.heap.size, 1, none⟩ (.int .i64 d)) := Below.set2 hB3 (Nat.le_refl _) _ _
  generalize ((w3.setCell ⟨w.heap.size, 0, none⟩ (.int .i64 n)).setCell ⟨w.heap.size, 1, none⟩ (.int .i64 d)) = w4 at A_4 hB_4 ⊢
  clear A3 hB3 a0 a1 f0 f1
  refine (Format_any n d _ (HT.out.below hB_4)).mono ?_
  rintro e w5 ⟨t, rfl, Ht, hb⟩
  have A_5 := A_4.below hb A_4.lt
  have hB_5 := below_after hB_4 hb hB_4.size
  clear A_4 hB_4 hb
  have hs_5 := hB_5.size
  have htz : t.size ≤ 140737488351232 := by
    have e1 : t.size = t.data.toList.length := by simp
    have := fmt_len n d
    rw [e1, Ht.out]; omega
  obtain ⟨cA0, cA1, fA0, fA1⟩ := pair_cells A_5
  have lA := A_5.lt
  go_wp2_with fail
  clear cA0 cA1 fA0 fA1 lA
  refine (Parse_any t _ htz (HT.out.below hB_5) (HE.out.below hB_5)).mono ?_
  rintro e w6 ⟨rfl, hb⟩
  have A_6 := A_5.below hb A_5.lt
  have hB_6 := below_after hB_5 hb hB_5.size
  clear A_5 hB_5 hb
  have hs_6 := hB_6.size
  rw [Ht.out]
  clear Ht htz
  cases hv : vldB n d
  · skip
    have HVV := Lib.hid hv
    rw [fmtF_no hv, prs_nil]
    clear hv
    obtain ⟨cA0, cA1, fA0, fA1⟩ := pair_cells A_6
    have lA := A_6.lt
    go_wp2_with fail
    clear cA0 cA1 fA0 fA1 lA
    have hal : Below w6.heap.size w6 (w6.alloc (.cells #[.int .i64 0, .int .i64 0] 23)) := (Below.refl _ _).alloc (Nat.le_refl _) _
    have Bx_7 := Row.new w6 23 #[.int .i64 0, .int .i64 0]
    have oABx : w.heap.size < w6.heap.size := A_6.lt
    have A_7 := A_6.below hal A_6.lt
    have hB_7 := below_after hB_6 hal hB_6.size
    clear hal A_6 hB_6
    generalize w6.alloc (Obj.cells #[Value.int .i64 0, Value.int .i64 0] 23) = w7 at A_7 Bx_7 hB_7 ⊢
    have hbx_7 : w.heap.size ≤ w6.heap.size := hs_6
    generalize hgBx : w6.heap.size = gBx at Bx_7 hbx_7 hs_6 oABx  ⊢
    clear hgBx
    have hs_7 := hB_7.size
    refine (refValid_any n d _).mono ?_
    rintro e w8 ⟨rfl, hb⟩
    rw [HVV.out]
    have A_8 := A_7.below hb A_7.lt
    have Bx_8 := Bx_7.below hb Bx_7.lt
    have hB_8 := below_after hB_7 hb hB_7.size
    clear A_7 Bx_7 hB_7 hb
    have hs_8 := hB_8.size
    obtain ⟨cA0, cA1, fA0, fA1⟩ := pair_cells A_8
    have lA := A_8.lt
    obtain ⟨cBx0, cBx1, fBx0, fBx1⟩ := pair_cells Bx_8
    have lBx := Bx_8.lt
    go_wp2_with fail
    clear cA0 cA1 fA0 fA1 lA cBx0 cBx1 fBx0 fBx1 lBx
    refine (Parse_any s _ hsz (HT.out.below hB_8) (HE.out.below hB_8)).mono ?_
    rintro e w9 ⟨rfl, hb⟩
    have A_9 := A_8.below hb A_8.lt
    have Bx_9 := Bx_8.below hb Bx_8.lt
    have hB_9 := below_after hB_8 hb hB_8.size
    clear A_8 Bx_8 hB_8 hb
    have hs_9 := hB_9.size
    rw [← HX.out]
    cases hok : X.ok
    · skip
      obtain ⟨cA0, cA1, fA0, fA1⟩ := pair_cells A_9
      have lA := A_9.lt
      obtain ⟨cBx0, cBx1, fBx0, fBx1⟩ := pair_cells Bx_9
      have lBx := Bx_9.lt
      go_wp2_with fail
      clear cA0 cA1 fA0 fA1 lA cBx0 cBx1 fBx0 fBx1 lBx
      have hal : Below w9.heap.size w9 (w9.alloc (.cells #[.int .i64 X.n, .int .i64 X.d] 23)) := (Below.refl _ _).alloc (Nat.le_refl _) _
      have C_10 := Row.new w9 23 #[.int .i64 X.n, .int .i64 X.d]
      have oAC : w.heap.size < w9.heap.size := A_9.lt
      have A_10 := A_9.below hal A_9.lt
      have oBxC : gBx < w9.heap.size := Bx_9.lt
      have Bx_10 := Bx_9.below hal Bx_9.lt
      have hB_10 := below_after hB_9 hal hB_9.size
      clear hal A_9 Bx_9 hB_9
      generalize w9.alloc (Obj.cells #[Value.int .i64 X.n, Value.int .i64 X.d] 23) = w10 at A_10 Bx_10 C_10 hB_10 ⊢
      have hbx_10 : w.heap.size ≤ w9.heap.size := hs_9
      generalize hgC : w9.heap.size = gC at C_10 hbx_10 hs_9 oAC oBxC  ⊢
      clear hgC
      have hs_10 := hB_10.size
      refine (sane_any _ (HT.out.below hB_10) (HE.out.below hB_10)).mono ?_
      rintro e wz ⟨rfl, hbz⟩
      go_wp2
      go_ret
      exact ⟨rfl, below_after hB_10 hbz hB_10.size⟩
    have hpo : vldB X.n X.d = true ∧ fmtF X.n X.d = s.data.toList := by rw [HX.out] at hok ⊢; exact prs_ok hok
    have HPV := Lib.hid hpo.1
    have HPF := Lib.hid hpo.2
    clear hpo
    obtain ⟨cA0, cA1, fA0, fA1⟩ := pair_cells A_9
    have lA := A_9.lt
    obtain ⟨cBx0, cBx1, fBx0, fBx1⟩ := pair_cells Bx_9
    have lBx := Bx_9.lt
    go_wp2_with fail
    clear cA0 cA1 fA0 fA1 lA cBx0 cBx1 fBx0 fBx1 lBx
    have hal : Below w9.heap.size w9 (w9.alloc (.cells #[.int .i64 X.n, .int .i64 X.d] 23)) := (Below.refl _ _).alloc (Nat.le_refl _) _
    have C_10 := Row.new w9 23 #[.int .i64 X.n, .int .i64 X.d]
    have oAC : w.heap.size < w9.heap.size := A_9.lt
    have A_10 := A_9.below hal A_9.lt
    have oBxC : gBx < w9.heap.size := Bx_9.lt
    have Bx_10 := Bx_9.below hal Bx_9.lt
    have hB_10 := below_after hB_9 hal hB_9.size
    clear hal A_9 Bx_9 hB_9
    generalize w9.alloc (Obj.cells #[Value.int .i64 X.n, Value.int .i64 X.d] 23) = w10 at A_10 Bx_10 C_10 hB_10 ⊢
    have hbx_10 : w.heap.size ≤ w9.heap.size := hs_9
    generalize hgC : w9.heap.size = gC at C_10 hbx_10 hs_9 oAC oBxC  ⊢
    clear hgC
    have hs_10 := hB_10.size
    refine (Format_any X.n X.d _ (HT.out.below hB_10)).mono ?_
    rintro e w11 ⟨t2, rfl, Ht2, hb⟩
    have A_11 := A_10.below hb A_10.lt
    have Bx_11 := Bx_10.below hb Bx_10.lt
    have C_11 := C_10.below hb C_10.lt
    have hB_11 := below_after hB_10 hb hB_10.size
    clear A_10 Bx_10 C_10 hB_10 hb
    have hs_11 := hB_11.size
    obtain rfl : t2 = s := bytes_ext (Ht2.out.trans HPF.out)
    clear Ht2 HPF
    obtain ⟨cA0, cA1, fA0, fA1⟩ := pair_cells A_11
    have lA := A_11.lt
    obtain ⟨cBx0, cBx1, fBx0, fBx1⟩ := pair_cells Bx_11
    have lBx := Bx_11.lt
    obtain ⟨cC0, cC1, fC0, fC1⟩ := pair_cells C_11
    have lC := C_11.lt
    go_wp2_with fail
    clear cA0 cA1 fA0 fA1 lA cBx0 cBx1 fBx0 fBx1 lBx cC0 cC1 fC0 fC1 lC
    refine (Valid_any X.n X.d _).mono ?_
    rintro e w12 ⟨rfl, hb⟩
    rw [HPV.out]
    have A_12 := A_11.below hb A_11.lt
    have Bx_12 := Bx_11.below hb Bx_11.lt
    have C_12 := C_11.below hb C_11.lt
    have hB_12 := below_after hB_11 hb hB_11.size
    clear A_11 Bx_11 C_11 hB_11 hb
    have hs_12 := hB_12.size
    obtain ⟨cA0, cA1, fA0, fA1⟩ := pair_cells A_12
    have lA := A_12.lt
    obtain ⟨cBx0, cBx1, fBx0, fBx1⟩ := pair_cells Bx_12
    have lBx := Bx_12.lt
    obtain ⟨cC0, cC1, fC0, fC1⟩ := pair_cells C_12
    have lC := C_12.lt
    go_wp2_with fail
    clear cA0 cA1 fA0 fA1 lA cBx0 cBx1 fBx0 fBx1 lBx cC0 cC1 fC0 fC1 lC
    refine (sane_any _ (HT.out.below hB_12) (HE.out.below hB_12)).mono ?_
    rintro e wz ⟨rfl, hbz⟩
    go_wp2
    go_ret
    exact ⟨rfl, below_after hB_12 hbz hB_12.size⟩
  have HVV := Lib.hid hv
  rw [prs_yes hv]
  clear hv
  obtain ⟨cA0, cA1, fA0, fA1⟩ := pair_cells A_6
  have lA := A_6.lt
  go_wp2_with fail
  clear cA0 cA1 fA0 fA1 lA
  have hal : Below w6.heap.size w6 (w6.alloc (.cells #[.int .i64 n, .int .i64 d] 23)) := (Below.refl _ _).alloc (Nat.le_refl _) _
  have Bx_7 := Row.new w6 23 #[.int .i64 n, .int .i64 d]
  have oABx : w.heap.size < w6.heap.size := A_6.lt
  have A_7 := A_6.below hal A_6.lt
  have hB_7 := below_after hB_6 hal hB_6.size
  clear hal A_6 hB_6
  generalize w6.alloc (Obj.cells #[Value.int .i64 n, Value.int .i64 d] 23) = w7 at A_7 Bx_7 hB_7 ⊢
  have hbx_7 : w.heap.size ≤ w6.heap.size := hs_6
  generalize hgBx : w6.heap.size = gBx at Bx_7 hbx_7 hs_6 oABx  ⊢
  clear hgBx
  have hs_7 := hB_7.size
  refine (refValid_any n d _).mono ?_
  rintro e w8 ⟨rfl, hb⟩
  rw [HVV.out]
  have A_8 := A_7.below hb A_7.lt
  have Bx_8 := Bx_7.below hb Bx_7.lt
  have hB_8 := below_after hB_7 hb hB_7.size
  clear A_7 Bx_7 hB_7 hb
  have hs_8 := hB_8.size
  obtain ⟨cA0, cA1, fA0, fA1⟩ := pair_cells A_8
  have lA := A_8.lt
  obtain ⟨cBx0, cBx1, fBx0, fBx1⟩ := pair_cells Bx_8
  have lBx := Bx_8.lt
  go_wp2_with fail
  clear cA0 cA1 fA0 fA1 lA cBx0 cBx1 fBx0 fBx1 lBx
  refine (Parse_any s _ hsz (HT.out.below hB_8) (HE.out.below hB_8)).mono ?_
  rintro e w9 ⟨rfl, hb⟩
  have A_9 := A_8.below hb A_8.lt
  have Bx_9 := Bx_8.below hb Bx_8.lt
  have hB_9 := below_after hB_8 hb hB_8.size
  clear A_8 Bx_8 hB_8 hb
  have hs_9 := hB_9.size
  rw [← HX.out]
  cases hok : X.ok
  · skip
    obtain ⟨cA0, cA1, fA0, fA1⟩ := pair_cells A_9
    have lA := A_9.lt
    obtain ⟨cBx0, cBx1, fBx0, fBx1⟩ := pair_cells Bx_9
    have lBx := Bx_9.lt
    go_wp2_with fail
    clear cA0 cA1 fA0 fA1 lA cBx0 cBx1 fBx0 fBx1 lBx
    have hal : Below w9.heap.size w9 (w9.alloc (.cells #[.int .i64 X.n, .int .i64 X.d] 23)) := (Below.refl _ _).alloc (Nat.le_refl _) _
    have C_10 := Row.new w9 23 #[.int .i64 X.n, .int .i64 X.d]
    have oAC : w.heap.size < w9.heap.size := A_9.lt
    have A_10 := A_9.below hal A_9.lt
    have oBxC : gBx < w9.heap.size := Bx_9.lt
    have Bx_10 := Bx_9.below hal Bx_9.lt
    have hB_10 := below_after hB_9 hal hB_9.size
    clear hal A_9 Bx_9 hB_9
    generalize w9.alloc (Obj.cells #[Value.int .i64 X.n, Value.int .i64 X.d] 23) = w10 at A_10 Bx_10 C_10 hB_10 ⊢
    have hbx_10 : w.heap.size ≤ w9.heap.size := hs_9
    generalize hgC : w9.heap.size = gC at C_10 hbx_10 hs_9 oAC oBxC  ⊢
    clear hgC
    have hs_10 := hB_10.size
    refine (sane_any _ (HT.out.below hB_10) (HE.out.below hB_10)).mono ?_
    rintro e wz ⟨rfl, hbz⟩
    go_wp2
    go_ret
    exact ⟨rfl, below_after hB_10 hbz hB_10.size⟩
  have hpo : vldB X.n X.d = true ∧ fmtF X.n X.d = s.data.toList := by rw [HX.out] at hok ⊢; exact prs_ok hok
  have HPV := Lib.hid hpo.1
  have HPF := Lib.hid hpo.2
  clear hpo
  obtain ⟨cA0, cA1, fA0, fA1⟩ := pair_cells A_9
  have lA := A_9.lt
  obtain ⟨cBx0, cBx1, fBx0, fBx1⟩ := pair_cells Bx_9
  have lBx := Bx_9.lt
  go_wp2_with fail
  clear cA0 cA1 fA0 fA1 lA cBx0 cBx1 fBx0 fBx1 lBx
  have hal : Below w9.heap.size w9 (w9.alloc (.cells #[.int .i64 X.n, .int .i64 X.d] 23)) := (Below.refl _ _).alloc (Nat.le_refl _) _
  have C_10 := Row.new w9 23 #[.int .i64 X.n, .int .i64 X.d]
  have oAC : w.heap.size < w9.heap.size := A_9.lt
  have A_10 := A_9.below hal A_9.lt
  have oBxC : gBx < w9.heap.size := Bx_9.lt
  have Bx_10 := Bx_9.below hal Bx_9.lt
  have hB_10 := below_after hB_9 hal hB_9.size
  clear hal A_9 Bx_9 hB_9
  generalize w9.alloc (Obj.cells #[Value.int .i64 X.n, Value.int .i64 X.d] 23) = w10 at A_10 Bx_10 C_10 hB_10 ⊢
  have hbx_10 : w.heap.size ≤ w9.heap.size := hs_9
  generalize hgC : w9.heap.size = gC at C_10 hbx_10 hs_9 oAC oBxC  ⊢
  clear hgC
  have hs_10 := hB_10.size
  refine (Format_any X.n X.d _ (HT.out.below hB_10)).mono ?_
  rintro e w11 ⟨t2, rfl, Ht2, hb⟩
  have A_11 := A_10.below hb A_10.lt
  have Bx_11 := Bx_10.below hb Bx_10.lt
  have C_11 := C_10.below hb C_10.lt
  have hB_11 := below_after hB_10 hb hB_10.size
  clear A_10 Bx_10 C_10 hB_10 hb
  have hs_11 := hB_11.size
  obtain rfl : t2 = s := bytes_ext (Ht2.out.trans HPF.out)
  clear Ht2 HPF
  obtain ⟨cA0, cA1, fA0, fA1⟩ := pair_cells A_11
  have lA := A_11.lt
  obtain ⟨cBx0, cBx1, fBx0, fBx1⟩ := pair_cells Bx_11
  have lBx := Bx_11.lt
  obtain ⟨cC0, cC1, fC0, fC1⟩ := pair_cells C_11
  have lC := C_11.lt
  go_wp2_with fail
  clear cA0 cA1 fA0 fA1 lA cBx0 cBx1 fBx0 fBx1 lBx cC0 cC1 fC0 fC1 lC
  refine (Valid_any X.n X.d _).mono ?_
  rintro e w12 ⟨rfl, hb⟩
  rw [HPV.out]
  have A_12 := A_11.below hb A_11.lt
  have Bx_12 := Bx_11.below hb Bx_11.lt
  have C_12 := C_11.below hb C_11.lt
  have hB_12 := below_after hB_11 hb hB_11.size
  clear A_11 Bx_11 C_11 hB_11 hb
  have hs_12 := hB_12.size
  obtain ⟨cA0, cA1, fA0, fA1⟩ := pair_cells A_12
  have lA := A_12.lt
  obtain ⟨cBx0, cBx1, fBx0, fBx1⟩ := pair_cells Bx_12
  have lBx := Bx_12.lt
  obtain ⟨cC0, cC1, fC0, fC1⟩ := pair_cells C_12
  have lC := C_12.lt
  go_wp2_with fail
  clear cA0 cA1 fA0 fA1 lA cBx0 cBx1 fBx0 fBx1 lBx cC0 cC1 fC0 fC1 lC
  refine (sane_any _ (HT.out.below hB_12) (HE.out.below hB_12)).mono ?_
  rintro e wz ⟨rfl, hbz⟩
  go_wp2
  go_ret
  exact ⟨rfl, below_after hB_12 hbz hB_12.size⟩
end Go.Proofs.YtkdmbkhgcahpiaaDoor
