/- The law FilingReturns: it returns true. -/
import Derived.Test.YtnkephafpebfkaaDoorDmg
import Derived.Test.YtnkephafpebfkaaDoorRSm
import Derived.Test.YtnkephafpebfkaaDoorFaw
import Derived.Test.YtnkephafpebfkaaDoorDrw
namespace Go.Proofs.YtnkephafpebfkaaDoor
open Go.RowKit Go.Shelf

theorem ret_text {f : Ret} (h : retB f = true) : (encT f).length ≤ 20000 ∧ decE (encT f) = 0 ∧ decR (encT f) = f ∧ encE f = 0 := by
  have := dec_of h
  rw [encT, h, if_pos rfl]
  exact ⟨((retB_iff f).1 h).len, this.1, this.2, by rw [encE, h]; rfl⟩
theorem dec_back {s : List UInt8} (h : decE s = 0) : encT (decR s) = s ∧ encE (decR s) = 0 := by
  obtain ⟨h1, h2⟩ := decE_ok h
  rw [encT, encE, h2, if_pos rfl, if_pos rfl, ← h1]
  exact ⟨rfl, rfl⟩

set_option maxRecDepth 100000 in
set_option maxHeartbeats 2000000 in
theorem FilingReturns_any (v : Value) (zs : List Int) (w : World) (hT : Tabs w) (hE : Errs w) (hv : Sl w 1 v (ints zs)) :
    Calls Tryd.prog 4 #[v] w fun e w' => e = .returned (.bool true) ∧ Below w.heap.size w w' := by
  have HT := Lib.hid hT
  have HER := Lib.hid hE
  have HN := Lib.hid (new_any v zs w hv)
  obtain ⟨A0, c0, rfl, -⟩ := hv
  clear hT hE
  go_enter Tryd.func4, Tryd.ntmps4
  go_wp2_with fail
  refine HN.out.mono ?_
  rintro e w1 ⟨rfl, hd1, hb1⟩
  clear HN
  go_wp2_with fail
  refine (drawn_any w.heap.size 0 w1 hd1 (by omega)).mono ?_
  rintro e w2 ⟨f, v2, dr2, rfl, hG, hfp, hfv, hfl, hown2, hd2, hdr2, hg2⟩
  have hB2 := below_map hb1 hg2 (Nat.le_refl _)
  obtain ⟨A2, c2, rfl⟩ := hown2.form
  rw [lns_len] at hown2 ⊢
  have hgv : f.vals (.slice A2 f.l.length c2) = #[.int .i64 f.p, .int .i64 f.v, .slice A2 f.l.length c2] := rfl
  rw [hgv]
  have hS2 := hown2.sl (by omega)
  obtain ⟨W2, hW2⟩ : ∃ W2, w2.alloc (.cells #[.int .i64 f.p, .int .i64 f.v, .slice A2 f.l.length c2] 25) = W2 := ⟨_, rfl⟩
  have hal := (Below.refl w2.heap.size w2).alloc (Nat.le_refl _) (.cells #[.int .i64 f.p, .int .i64 f.v, .slice A2 f.l.length c2] 25)
  have hX := Row.new w2 25 #[.int .i64 f.p, .int .i64 f.v, .slice A2 f.l.length c2]
  rw [hW2] at hal hX
  obtain ⟨m, hm⟩ : ∃ m, w2.heap.size = m := ⟨_, rfl⟩
  rw [hm] at hX
  have hB2' := below_after hB2 hal hB2.size
  have hS2' := hS2.below hal
  have hD2' := hd2.below hal
  have HTX := Lib.hid (ret_text hG)
  have HEN : Hid (Calls Tryd.prog 7 #[.agg #[.int .i64 f.p, .int .i64 f.v, .slice A2 f.l.length c2]] W2 fun e w' => e = .returned (.tuple #[.string ⟨(encT f).toArray⟩, .int .i64 (encE f)]) ∧ Below W2.heap.size W2 w') := EncodeR_any f _ W2 hS2' (HT.out.below hB2')
  rw [HTX.out.2.2.2] at HEN
  obtain ⟨tx, htx⟩ : ∃ tx : ByteArray, (⟨(encT f).toArray⟩ : ByteArray) = tx := ⟨_, rfl⟩
  have HX : Hid (tx.data.toList = encT f) := by rw [Hid, ← htx]
  rw [htx] at HEN
  have htz : tx.size ≤ 20000 := by
    have := HTX.out.1
    rw [← HX.out] at this; simpa using this
  clear hgv hal hS2 hb1 hd1 hg2 hown2 hd2 hB2 htx
  obtain ⟨⟨x0, x1, x2, xl⟩, -⟩ := row3 hX
  go_wp2_with fail
  clear hW2 hm
  refine HEN.out.mono ?_
  rintro e w3 ⟨rfl, hb3⟩
  have hB3 := below_after hB2' hb3 hB2'.size
  have hS3 := hS2'.below hb3
  have hD3 := hD2'.below hb3
  have hX3 := hX.below hb3 hX.lt
  clear hB2' hS2' hD2' hX hb3 HEN x0 x1 x2 xl
  go_wp2_with fail
  refine (DecodeR_any tx w3 (HT.out.below hB3) (HER.out.below hB3)).mono ?_
  rw [HX.out, HTX.out.2.1, HTX.out.2.2.1]
  rintro e w4 ⟨v4, rfl, hown4, hb4⟩
  have hB4 := below_after hB3 hb4 hB3.size
  have hS4 := hS3.below hb4
  have hD4 := hD3.below hb4
  have hX4 := hX3.below hb4 hX3.lt
  obtain ⟨A4, c4, rfl⟩ := hown4.form
  rw [lns_len] at hown4 ⊢
  have hgv : f.vals (.slice A4 f.l.length c4) = #[.int .i64 f.p, .int .i64 f.v, .slice A4 f.l.length c4] := rfl
  rw [hgv]
  have hP4 := hown4.sl (by omega)
  obtain ⟨W4, hW4⟩ : ∃ W4, w4.alloc (.cells #[.int .i64 f.p, .int .i64 f.v, .slice A4 f.l.length c4] 25) = W4 := ⟨_, rfl⟩
  have hal := (Below.refl w4.heap.size w4).alloc (Nat.le_refl _) (.cells #[.int .i64 f.p, .int .i64 f.v, .slice A4 f.l.length c4] 25)
  have hY := Row.new w4 25 #[.int .i64 f.p, .int .i64 f.v, .slice A4 f.l.length c4]
  rw [hW4] at hal hY
  obtain ⟨m4, hm4⟩ : ∃ m, w4.heap.size = m := ⟨_, rfl⟩
  have hB5 := below_after hB4 hal hB4.size
  have hS5 := hS4.below hal
  have hP5 := hP4.below hal
  have hD5 := hD4.below hal
  have hX5 := hX4.below hal hX4.lt
  rw [hm4] at hY
  have hsm : f.l.length ≤ 4096 := by omega
  have HSM : Hid (Calls Tryd.prog 13 #[.agg #[.int .i64 f.p, .int .i64 f.v, .slice A4 f.l.length c4], .agg #[.int .i64 f.p, .int .i64 f.v, .slice A2 f.l.length c2]] W4 (SameP W4 true)) := by
    have := SameR_any f f (.slice A4 f.l.length c4) (.slice A2 f.l.length c2) W4 hP5 hS5 hsm hsm
    rw [decide_eq_true rfl] at this
    exact this
  clear hgv hal hS3 hS4 hD3 hD4 hX3 hX4 hb4 hB3 hB4 hown4 hP4 hsm
  obtain ⟨⟨x0, x1, x2, xl⟩, -⟩ := row3 hX5
  obtain ⟨⟨y0, y1, y2, yl⟩, -⟩ := row3 hY
  go_wp2_with fail
  clear hW4 hm4
  refine HSM.out.mono ?_
  rintro e w5 ⟨rfl, hb5⟩
  have hB6 := below_after hB5 hb5 hB5.size
  have hD6 := hD5.below hb5
  clear x0 x1 x2 xl y0 y1 y2 yl hX5 hY hS5 hP5 hD5 hB5 hb5 HSM
  go_wp2_with fail
  refine (Damage_any w.heap.size dr2 tx w5 hD6 (by omega) (by omega)).mono ?_
  rintro e w6 ⟨t, rfl, htz2, dr3, hdr3, hd7, hg7⟩
  have hB7 := below_map hB6 hg7 (Nat.le_refl _)
  clear hd7 hg7 hB6 hD6
  go_wp2_with fail
  refine (DecodeR_any t w6 (HT.out.below hB7) (HER.out.below hB7)).mono ?_
  rintro e w7 ⟨v7, rfl, hown7, hb7⟩
  have hB8 := below_after hB7 hb7 hB7.size
  have HBK : Hid (decE t.data.toList = 0 → encT (decR t.data.toList) = t.data.toList ∧ encE (decR t.data.toList) = 0) := dec_back
  obtain ⟨X, hX⟩ : ∃ X, decR t.data.toList = X := ⟨_, rfl⟩
  obtain ⟨er, her⟩ : ∃ er, decE t.data.toList = er := ⟨_, rfl⟩
  rw [hX] at hown7 HBK ⊢
  rw [her] at HBK ⊢
  clear hX her hB7 hb7
  obtain ⟨A7, c7, rfl⟩ := hown7.form
  rw [lns_len] at hown7 ⊢
  have hgv : X.vals (.slice A7 X.l.length c7) = #[.int .i64 X.p, .int .i64 X.v, .slice A7 X.l.length c7] := rfl
  rw [hgv]
  have hP7 := hown7.sl (by omega)
  obtain ⟨W7, hW7⟩ : ∃ W7, w7.alloc (.cells #[.int .i64 X.p, .int .i64 X.v, .slice A7 X.l.length c7] 25) = W7 := ⟨_, rfl⟩
  have hal := (Below.refl w7.heap.size w7).alloc (Nat.le_refl _) (.cells #[.int .i64 X.p, .int .i64 X.v, .slice A7 X.l.length c7] 25)
  have hY := Row.new w7 25 #[.int .i64 X.p, .int .i64 X.v, .slice A7 X.l.length c7]
  rw [hW7] at hal hY
  have hB9 := below_after hB8 hal hB8.size
  have hP9 := hP7.below hal
  clear hgv hal hP7 hB8 hown7
  obtain ⟨m7, hm7⟩ : ∃ m, w7.heap.size = m := ⟨_, rfl⟩
  rw [hm7] at hY
  obtain ⟨⟨y0, y1, y2, yl⟩, -⟩ := row3 hY
  by_cases h0 : er = 0
  · subst h0
    obtain ⟨q1, q2⟩ := HBK.out rfl
    have HEN : Hid (Calls Tryd.prog 7 #[.agg #[.int .i64 X.p, .int .i64 X.v, .slice A7 X.l.length c7]] W7 fun e w' => e = .returned (.tuple #[.string t, .int .i64 0]) ∧ Below W7.heap.size W7 w') := by
      have := EncodeR_any X (.slice A7 X.l.length c7) W7 hP9 (HT.out.below hB9)
      rw [q1, q2] at this
      exact this
    clear q1 q2 HBK hP9
    go_wp2_with fail
    clear hW7 hm7 y0 y1 y2 yl
    refine HEN.out.mono ?_
    rintro e w8 ⟨rfl, hb8⟩
    have hB10 := below_after hB9 hb8 hB9.size
    clear hb8 hB9 hY HEN
    go_wp2_with fail
    refine (awake_any w8 (HT.out.below hB10) (HER.out.below hB10)).mono ?_
    rintro e w9 ⟨rfl, hb9⟩
    have hB11 := below_after hB10 hb9 hB10.size
    clear hb9 hB10
    go_wp2
    go_ret
    exact ⟨rfl, hB11⟩
  · have h1 : (er != 0) = true := by simpa using h0
    clear h0 HBK hP9 hY
    go_wp2_with fail
    clear hW7 hm7 y0 y1 y2 yl
    refine (awake_any W7 (HT.out.below hB9) (HER.out.below hB9)).mono ?_
    rintro e w9 ⟨rfl, hb9⟩
    have hB11 := below_after hB9 hb9 hB9.size
    clear hb9 hB9
    go_wp2
    go_ret
    exact ⟨rfl, hB11⟩
end Go.Proofs.YtnkephafpebfkaaDoor
