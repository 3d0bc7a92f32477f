/- The law PayslipCanonical: it returns true. -/
import Derived.Test.YtogdefomigiepaaGreatDoorLPr
import Derived.Test.YtogdefomigiepaaGreatDoorPkW
import Derived.Test.YtogdefomigiepaaGreatDoorPkAB
set_option linter.unusedVariables false
set_option linter.unusedSimpArgs false
namespace Go.Proofs.YtogdefomigiepaaGreatDoor
open Go.RowKit Go.Shelf

theorem slipOk_of {e p : Int} {s : Slp} (h : slipE e p s = 0) : SlipOk s := by
  obtain ⟨_, h2, h3, h4⟩ := slipE_zero.1 h
  refine ⟨?_, h2 _ (by simp), h3, h4⟩
  rw [List.all_eq_true]
  intro n hn
  exact h2 n (by
    simp only [Slp.bs, List.mem_cons, List.not_mem_nil, or_false] at hn ⊢
    rcases hn with h | h | h | h | h
    · exact .inl h
    · exact .inr (.inl h)
    · exact .inr (.inr (.inl h))
    · exact .inr (.inr (.inr (.inl h)))
    · exact .inr (.inr (.inr (.inr (.inl h)))))
set_option maxRecDepth 100000 in
set_option maxHeartbeats 4000000 in
theorem PayslipCanonical_any (v : Value) (zs : List Int) (w : World) (hT : Tabs w) (hE : Errs w) (hW : Words w) (hv : Sl w 1 v (ints zs)) :
    Calls Tryz.prog 5 #[v] w fun e w' => e = .returned (.bool true) ∧ Below w.heap.size w w' := by
  have HT := Lib.hid hT
  have HER := Lib.hid hE
  have HW := Lib.hid hW
  have HN := Lib.hid (new_any v zs w hv)
  obtain ⟨A0, c0, rfl, -⟩ := hv
  clear hT hE hW
  go_enter Tryz.func5, Tryz.ntmps5
  go_wp2_with fail
  refine HN.out.mono ?_
  rintro e w1 ⟨rfl, hd1, hb1⟩
  obtain ⟨D, hDe⟩ : ∃ D, w.heap.size = D := ⟨_, rfl⟩
  have hDle : w.heap.size ≤ D := by omega
  rw [hDe] at hd1 ⊢
  have hk1 : Dk w1 D 0 := ⟨0, by omega, hd1⟩
  have HB1 := Lib.hid hb1
  clear HN hd1 hb1 hDe
  go_wp2_with fail
  refine (NextD 9 hk1 (by omega) (by omega) (by omega)).mono ?_
  rintro e w4 ⟨n1, ⟨n10, n11⟩, rfl, hds4⟩
  have HB4 := Lib.hid (below_rdr HB1.out hds4.grown hDle)
  have hk4 := hds4.dk
  have s1 : IntKind.i64.wrap (1 + n1) = 1 + n1 := IntWalk.i64_in _ (by omega)
  clear hk1 hds4 HB1
  go_wp2_with fail
  refine (NextD 9 hk4 (by omega) (by omega) (by omega)).mono ?_
  rintro e w5 ⟨n2, ⟨n20, n21⟩, rfl, hds5⟩
  have HB5 := Lib.hid (below_rdr HB4.out hds5.grown hDle)
  have hk5 := hds5.dk
  clear hk4 hds5 HB4 s1
  go_wp2_with fail
  refine (SlipD hk5 (by omega)).mono ?_
  rintro e w2 ⟨s, sv, hok, rfl, hown2, hds2⟩
  have HB2 := Lib.hid (below_rdr HB5.out hds2.grown hDle)
  have hk2 := hds2.dk
  have HE0 := Lib.hid (hok.e0 (e := 1 + n1) (p := n2) (by omega) (by omega) (by omega) (by omega))
  have HS2 := Lib.hid (hown2.sl (by omega))
  have HFM := Lib.hid (refFormat_any (1 + n1) n2 s sv w2 HS2.out (by omega) (by omega))
  obtain ⟨tx, htx⟩ : ∃ tx : ByteArray, (⟨(formatT (1 + n1) n2 s).toArray⟩ : ByteArray) = tx := ⟨_, rfl⟩
  have HTX : tx.size ≤ 65536 := by
    have := textq_len HE0.out
    rw [← htx, formatT, if_pos HE0.out]
    simpa [ByteArray.size] using this
  unfold FmtRet at HFM
  rw [htx] at HFM
  obtain ⟨E, hEE⟩ : ∃ E, slipE (1 + n1) n2 s = E := ⟨_, rfl⟩
  rw [hEE] at HFM
  clear htx hEE hok hown2 hds2 hk5 HB5
  go_wp2_with fail
  refine HFM.out.mono ?_
  rintro e w6 ⟨rfl, hb6⟩
  have HB6 := Lib.hid (below_after HB2.out hb6 HB2.out.size)
  have hk6 := (hk2.start.below hb6).dk
  clear hb6 HFM HS2 hk2 HB2
  obtain ⟨dr, hdr, hd6⟩ := hk6
  go_wp2_with fail
  refine (Damage_any D dr tx w6 hd6 (by omega) (by omega)).mono ?_
  rintro e w7 ⟨t, rfl, htz, dr3, hdr3, hd7, hg7⟩
  have HB7 := Lib.hid (below_rdr HB6.out hg7 hDle)
  clear hd7 hg7 hd6 HB6
  go_wp2_with fail
  refine (Parse_any t w7 (HT.out.below HB7.out) (HER.out.below HB7.out) (HW.out.below HB7.out)).mono ?_
  rintro e w8 ⟨a, b, s8, sv8, ln, f, rfl, hown8, hb8, h0, -⟩
  have HB8 := Lib.hid (below_after HB7.out hb8 HB7.out.size)
  have HS8 := Lib.hid (hown8.sl (by omega))
  obtain ⟨A8, c8, rfl⟩ := hown8.form
  have H0 := Lib.hid h0
  clear h0 hb8 hown8 HB7
  obtain ⟨z0, z1, z2, z3, z4, x, l⟩ := s8
  simp only [Slp.vals, lns_len] at *
  have hal := (Below.refl w8.heap.size w8).alloc (Nat.le_refl _) (.cells #[.int .i64 z0, .int .i64 z1, .int .i64 z2, .int .i64 z3, .int .i64 z4, .int .i64 x, .slice A8 l.length c8] 27)
  have HR9 := Lib.hid (Row.new w8 27 #[.int .i64 z0, .int .i64 z1, .int .i64 z2, .int .i64 z3, .int .i64 z4, .int .i64 x, .slice A8 l.length c8])
  have HS9 := Lib.hid (HS8.out.below hal)
  have HB9 := Lib.hid (below_after HB8.out hal HB8.out.size)
  obtain ⟨w9, hw9⟩ : ∃ w9, w8.alloc (.cells #[.int .i64 z0, .int .i64 z1, .int .i64 z2, .int .i64 z3, .int .i64 z4, .int .i64 x, .slice A8 l.length c8] 27) = w9 := ⟨_, rfl⟩
  obtain ⟨g, hg⟩ : ∃ g, w8.heap.size = g := ⟨_, rfl⟩
  rw [hw9] at HR9 HS9 HB9
  rw [hg] at HR9
  clear hal HB8 HS8
  by_cases hf : f = 0
  rotate_left
  · have hf2 : (f != 0) = true := by simpa using hf
    clear hf
    go_wp2_with fail
    clear hw9 hg
    refine (awake34_any w9 (HT.out.below HB9.out) (HW.out.below HB9.out)).mono ?_
    rintro e w10 ⟨rfl, hb10⟩
    have HB10 := Lib.hid (below_after HB9.out hb10 HB9.out.size)
    clear hb10
    go_wp2_with fail
    go_ret
    exact ⟨rfl, HB10.out⟩
  subst hf
  obtain ⟨-, he8, ht8⟩ := H0.out rfl
  have hok8 := slipOk_of he8
  have hr8 := (slipE_zero.1 he8).1
  have HFM := Lib.hid (Format_any a b ⟨z0, z1, z2, z3, z4, x, l⟩ (.slice A8 l.length c8) w9 HS9.out (HT.out.below HB9.out) (HW.out.below HB9.out) hok8.codes (by omega))
  have hft : (⟨(formatT a b ⟨z0, z1, z2, z3, z4, x, l⟩).toArray⟩ : ByteArray) = t := codeq_eq (by
    rw [ht8]
    simp only
    rw [formatT, if_pos he8])
  rw [hft, he8] at HFM
  simp only [Slp.vals] at HFM
  clear hok8 hr8 hft he8 ht8 H0
  go_wp2_with (refine wpList_loadRow rfl 27 (.tmp 8) rfl [.int .i64 z0, .int .i64 z1, .int .i64 z2, .int .i64 z3, .int .i64 z4, .int .i64 x, .slice A8 l.length c8] _ rfl HR9.out (by kernel_rfl) Tryz.underlying27 rfl (by kernel_rfl) ?_)
  clear hw9 hg
  refine HFM.out.mono ?_
  rintro e w10 ⟨rfl, hb10⟩
  have HB10 := Lib.hid (below_after HB9.out hb10 HB9.out.size)
  clear hb10 HFM HR9 HS9 HB9
  go_wp2_with fail
  refine (awake34_any w10 (HT.out.below HB10.out) (HW.out.below HB10.out)).mono ?_
  rintro e w11 ⟨rfl, hb11⟩
  have HB11 := Lib.hid (below_after HB10.out hb11 HB10.out.size)
  clear hb11
  go_wp2_with fail
  go_ret
  exact ⟨rfl, HB11.out⟩
theorem PayslipCanonical_all (v : Value) (zs : List Int) (w : World) (hT : Tabs w) (h : Errs w ∧ Words w) (hv : Sl w 1 v (ints zs)) :
    Calls Tryz.prog 5 #[v] w fun e w' => e = .returned (.bool true) ∧ Below w.heap.size w w' := PayslipCanonical_any v zs w hT h.1 h.2 hv
end Go.Proofs.YtogdefomigiepaaGreatDoor
