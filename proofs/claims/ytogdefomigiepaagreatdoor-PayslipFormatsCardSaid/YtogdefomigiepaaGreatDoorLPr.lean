/- The law PayslipReturns: it returns true. -/
import Derived.Test.YtogdefomigiepaaGreatDoorPkU
import Derived.Test.YtogdefomigiepaaGreatDoorPkY
import Derived.Test.YtogdefomigiepaaGreatDoorPkZ
set_option linter.unusedVariables false
set_option linter.unusedSimpArgs false
namespace Go.Proofs.YtogdefomigiepaaGreatDoor
open Go.RowKit Go.Shelf

theorem SlipOk.codes {s : Slp} (h : SlipOk s) : ∀ x ∈ s.lines, x.code.size ≤ 1000000 := fun x hx => by
  have hf := ordB_mem h.2.2.2 hx
  obtain ⟨_, _, _, h4⟩ := formB_kind hf
  cases hb : bareB x.kind with
  | true => have := h4 hb; omega
  | false =>
    have hn := formB_name hf hb
    unfold nameB at hn
    simp only [Bool.and_eq_true, decide_eq_true_eq] at hn
    have : x.code.data.toList.length = x.code.size := by simp
    omega
set_option maxRecDepth 100000 in
set_option maxHeartbeats 4000000 in
theorem PayslipReturns_any (v : Value) (zs : List Int) (w : World) (hT : Tabs w) (hE : Errs w) (hW : Words w) (hv : Sl w 1 v (ints zs)) :
    Calls Tryz.prog 4 #[v] w fun e w' => e = .returned (.bool true) ∧ Below w.heap.size w w' := by
  have HT := Lib.hid hT
  have HER := Lib.hid hE
  have HW := Lib.hid hW
  have HN := Lib.hid (new_any v zs w hv)
  obtain ⟨A0, c0, rfl, -⟩ := hv
  clear hT hE hW
  go_enter Tryz.func4, Tryz.ntmps4
  go_wp2_with fail
  refine HN.out.mono ?_
  rintro e w1 ⟨rfl, hd1, hb1⟩
  obtain ⟨D, hDe⟩ : ∃ D, w.heap.size = D := ⟨_, rfl⟩
  have hDle : w.heap.size ≤ D := by omega
  rw [hDe] at hd1 ⊢
  have hk1 : Dk w1 D 0 := ⟨0, by omega, hd1⟩
  have HB1 := Lib.hid hb1
  clear HN hd1 hb1 hDe
  go_wp2_with fail
  refine (SlipD hk1 (by omega)).mono ?_
  rintro e w2 ⟨s, sv, hok, rfl, hown2, hds2⟩
  have HOK := Lib.hid hok
  have HCD := Lib.hid hok.codes
  have hDl := hk1.lt
  have hown2' := hown2.more (base' := D + 1) (by omega)
  have HB2 := Lib.hid (below_rdr HB1.out hds2.grown hDle)
  have hk2 := hds2.dk
  obtain ⟨A2, c2, rfl⟩ := hown2'.form
  rw [lns_len] at hown2' ⊢
  clear hown2 hds2 hk1 hok hDl HB1
  obtain ⟨z0, z1, z2, z3, z4, x, l⟩ := s
  simp only [Slp.vals] at *
  have hrow := Row.new w2 27 #[.int .i64 z0, .int .i64 z1, .int .i64 z2, .int .i64 z3, .int .i64 z4, .int .i64 x, .slice A2 l.length c2]
  have hal := (Below.refl w2.heap.size w2).alloc (Nat.le_refl _) (.cells #[.int .i64 z0, .int .i64 z1, .int .i64 z2, .int .i64 z3, .int .i64 z4, .int .i64 x, .slice A2 l.length c2] 27)
  have hown3 := hown2'.kept hal
  have hk3 := (hk2.start.below hal).dk
  have HB3 := Lib.hid (below_after HB2.out hal HB2.out.size)
  have hgD : w2.heap.size ≠ D := by have := hk2.lt; omega
  obtain ⟨w3, hw3⟩ : ∃ w3, w2.alloc (.cells #[.int .i64 z0, .int .i64 z1, .int .i64 z2, .int .i64 z3, .int .i64 z4, .int .i64 x, .slice A2 l.length c2] 27) = w3 := ⟨_, rfl⟩
  obtain ⟨g, hg⟩ : ∃ g, w2.heap.size = g := ⟨_, rfl⟩
  rw [hw3] at hrow hown3 hk3 HB3
  rw [hg] at hrow hgD
  clear hal hown2' hk2 HB2
  go_wp2_with fail
  clear hw3 hg
  refine (NextD 1000 hk3 (by omega) (by omega) (by omega)).mono ?_
  rintro e w4 ⟨n1, ⟨n10, n11⟩, rfl, hds4⟩
  have hrow4 := hds4.row hrow hgD
  have hown4 := hds4.own hown3 (by omega)
  have HB4 := Lib.hid (below_rdr HB3.out hds4.grown hDle)
  have hk4 := hds4.dk
  have s1 : IntKind.i64.wrap (1 + n1) = 1 + n1 := IntWalk.i64_in _ (by omega)
  clear hrow hown3 hk3 HB3 hds4
  go_wp2_with fail
  refine (NextD 1000 hk4 (by omega) (by omega) (by omega)).mono ?_
  rintro e w5 ⟨n2, ⟨n20, n21⟩, rfl, hds5⟩
  have HR5 := Lib.hid (hds5.row hrow4 hgD)
  have HS5 := Lib.hid ((hds5.own hown4 (by omega)).sl (by omega))
  have HB5 := Lib.hid (below_rdr HB4.out hds5.grown hDle)
  clear hrow4 hown4 hk4 HB4 hds5 s1
  have HE0 := Lib.hid (HOK.out.e0 (e := 1 + n1) (p := n2) (by omega) (by omega) (by omega) (by omega))
  have HFM := Lib.hid (Format_any (1 + n1) n2 ⟨z0, z1, z2, z3, z4, x, l⟩ (.slice A2 l.length c2) w5 HS5.out (HT.out.below HB5.out) (HW.out.below HB5.out) HCD.out (by omega))
  obtain ⟨tx, htx⟩ : ∃ tx : ByteArray, (⟨(formatT (1 + n1) n2 ⟨z0, z1, z2, z3, z4, x, l⟩).toArray⟩ : ByteArray) = tx := ⟨_, rfl⟩
  have HTX : Hid (tx.data.toList = textT (1 + n1) n2 ⟨z0, z1, z2, z3, z4, x, l⟩) := by
    rw [Hid, ← htx]
    simp only
    rw [formatT, if_pos HE0.out]
  rw [htx, HE0.out] at HFM
  simp only [Slp.vals] at HFM
  clear htx
  go_wp2_with (refine wpList_loadRow rfl 27 (.tmp 4) rfl [.int .i64 z0, .int .i64 z1, .int .i64 z2, .int .i64 z3, .int .i64 z4, .int .i64 x, .slice A2 l.length c2] _ rfl HR5.out (by kernel_rfl) Tryz.underlying27 rfl (by kernel_rfl) ?_)
  refine HFM.out.mono ?_
  rintro e w6 ⟨rfl, hb6⟩
  have HR6 := Lib.hid (HR5.out.below hb6 HR5.out.lt)
  have HS6 := Lib.hid (HS5.out.below hb6)
  have HB6 := Lib.hid (below_after HB5.out hb6 HB5.out.size)
  clear hb6 HFM HR5 HS5 HB5
  go_wp2_with fail
  refine (Parse_any tx w6 (HT.out.below HB6.out) (HER.out.below HB6.out) (HW.out.below HB6.out)).mono ?_
  rintro e w7 ⟨a, b, t, tv, ln, f, rfl, hown7, hb7, h0, h1⟩
  have hf : f = 0 := Classical.byContradiction fun hf => h1 hf (by rw [HTX.out]; exact textq_len HE0.out) _ _ _ HE0.out HTX.out
  obtain ⟨hln, hE7, hT7⟩ := h0 hf
  obtain ⟨ha, hb, ht⟩ := textT_inj HE0.out hE7 (HTX.out.symm.trans hT7)
  subst hf hln ha hb ht
  have HR7 := Lib.hid (HR6.out.below hb7 HR6.out.lt)
  have HS7 := Lib.hid (HS6.out.below hb7)
  have HB7 := Lib.hid (below_after HB6.out hb7 HB6.out.size)
  obtain ⟨A7, c7, rfl⟩ := hown7.form
  have HU7 := Lib.hid (hown7.sl (by omega))
  simp only [Slp.vals, lns_len] at HU7 ⊢
  clear h0 h1 hE7 hT7 hown7 hb7 HR6 HS6 HB6
  have hal := (Below.refl w7.heap.size w7).alloc (Nat.le_refl _) (.cells #[.int .i64 z0, .int .i64 z1, .int .i64 z2, .int .i64 z3, .int .i64 z4, .int .i64 x, .slice A7 l.length c7] 27)
  have hrow8 := Row.new w7 27 #[.int .i64 z0, .int .i64 z1, .int .i64 z2, .int .i64 z3, .int .i64 z4, .int .i64 x, .slice A7 l.length c7]
  have hrow9 := HR7.out.below hal HR7.out.lt
  have HS8 := Lib.hid (HS7.out.below hal)
  have HU8 := Lib.hid (HU7.out.below hal)
  have HB8 := Lib.hid (below_after HB7.out hal HB7.out.size)
  obtain ⟨w8, hw8⟩ : ∃ w8, w7.alloc (.cells #[.int .i64 z0, .int .i64 z1, .int .i64 z2, .int .i64 z3, .int .i64 z4, .int .i64 x, .slice A7 l.length c7] 27) = w8 := ⟨_, rfl⟩
  obtain ⟨m, hm⟩ : ∃ m, w7.heap.size = m := ⟨_, rfl⟩
  rw [hw8] at hrow8 hrow9 HS8 HU8 HB8
  rw [hm] at hrow8
  obtain ⟨⟨a0, a1, a2, a3, a4, a5, a6, al⟩, -⟩ := row7 hrow9
  obtain ⟨⟨b0, b1, b2, b3, b4, b5, b6, bl⟩, -⟩ := row7 hrow8
  clear hrow8 hrow9 hal HR7 HS7 HU7 HB7
  go_wp2_with fail
  clear hw8 hm a0 a1 a2 a3 a4 a5 a6 al b0 b1 b2 b3 b4 b5 b6 bl
  refine (SameSlip_any ⟨z0, z1, z2, z3, z4, x, l⟩ (.slice A2 l.length c2) (.slice A7 l.length c7) w8 HS8.out HU8.out).mono ?_
  rintro e w9 ⟨rfl, hb9⟩
  have HB9 := Lib.hid (below_after HB8.out hb9 HB8.out.size)
  clear hb9 HB8
  go_wp2_with fail
  refine (awake34_any w9 (HT.out.below HB9.out) (HW.out.below HB9.out)).mono ?_
  rintro e w10 ⟨rfl, hb10⟩
  have HB10 := Lib.hid (below_after HB9.out hb10 HB9.out.size)
  clear hb10
  go_wp2_with fail
  go_ret
  exact ⟨rfl, HB10.out⟩
theorem PayslipReturns_all (v : Value) (zs : List Int) (w : World) (hT : Tabs w) (h : Errs w ∧ Words w) (hv : Sl w 1 v (ints zs)) :
    Calls Tryz.prog 4 #[v] w fun e w' => e = .returned (.bool true) ∧ Below w.heap.size w w' := PayslipReturns_any v zs w hT h.1 h.2 hv
end Go.Proofs.YtogdefomigiepaaGreatDoor
