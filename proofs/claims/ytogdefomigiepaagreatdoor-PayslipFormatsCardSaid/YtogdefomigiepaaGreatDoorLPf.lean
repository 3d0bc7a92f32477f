/- The law PayslipFormats: it returns true. -/
import Derived.Test.YtogdefomigiepaaGreatDoorLPc
import Derived.Test.YtogdefomigiepaaGreatDoorPkAB
set_option linter.unusedVariables false
set_option linter.unusedSimpArgs false
namespace Go.Proofs.YtogdefomigiepaaGreatDoor
open Go.RowKit Go.Shelf

theorem shortLB_codes {l : List Ln} (h : shortLB l = true) : ∀ x ∈ l, x.code.size ≤ 1000000 := fun x hx => by
  unfold shortLB at h
  simp only [Bool.and_eq_true, List.all_eq_true, decide_eq_true_eq] at h
  have := h.2 x hx
  omega
set_option maxRecDepth 100000 in
set_option maxHeartbeats 8000000 in
theorem PayslipFormats_any (v : Value) (zs : List Int) (en pn : Int) (rs : Slp) (rv : Value) (w : World) (hT : Tabs w) (hW : Words w) (hv : Sl w 1 v (ints zs)) (hen : -9223372036854775808 ≤ en ∧ en ≤ 9223372036854775807) (hpn : -9223372036854775808 ≤ pn ∧ pn ≤ 9223372036854775807) (hr : Sl w 3 rv (lns rs.lines)) :
    Calls Tryz.prog 3 #[v, .int .i64 en, .int .i64 pn, .agg (rs.vals rv)] w fun e w' => e = .returned (.bool true) ∧ Below w.heap.size w w' := by
  have HT := Lib.hid hT
  have HW := Lib.hid hW
  have HV := Lib.hid hv
  have HS := Lib.hid hr
  obtain ⟨A0, c0, rfl, -⟩ := hv
  obtain ⟨Ar, cr, rfl, -⟩ := hr
  clear hT hW
  obtain ⟨y0, y1, y2, y3, y4, y5, k⟩ := rs
  simp only [Slp.vals, lns_len] at *
  have hal := (Below.refl w.heap.size w).alloc (Nat.le_refl _) (.cells #[.int .i64 y0, .int .i64 y1, .int .i64 y2, .int .i64 y3, .int .i64 y4, .int .i64 y5, .slice Ar k.length cr] 27)
  have HR0 := Lib.hid (Row.new w 27 #[.int .i64 y0, .int .i64 y1, .int .i64 y2, .int .i64 y3, .int .i64 y4, .int .i64 y5, .slice Ar k.length cr])
  have HB0 := Lib.hid hal
  go_enter Tryz.func3, Tryz.ntmps3
  go_wp2_with fail
  obtain ⟨w0, hw0⟩ : ∃ w0, w.alloc (.cells #[.int .i64 y0, .int .i64 y1, .int .i64 y2, .int .i64 y3, .int .i64 y4, .int .i64 y5, .slice Ar k.length cr] 27) = w0 := ⟨_, rfl⟩
  rw [hw0] at HR0 HB0 hal ⊢
  obtain ⟨g0, hg0⟩ : ∃ g, w.heap.size = g := ⟨_, rfl⟩
  rw [hg0] at HR0 ⊢
  clear hw0 hg0 hal
  refine (ShortLines_any (.slice Ar k.length cr) k w0 (HS.out.below HB0.out)).mono ?_
  rintro e w1 ⟨rfl, hb1⟩
  have HB1 := Lib.hid (below_after HB0.out hb1 HB0.out.size)
  have HR1 := Lib.hid (HR0.out.below hb1 HR0.out.lt)
  clear hb1 HR0 HB0
  cases hsh : shortLB k
  · go_wp2_with fail
    refine (awake34_any w1 (HT.out.below HB1.out) (HW.out.below HB1.out)).mono ?_
    rintro e w10 ⟨rfl, hb10⟩
    have HB10 := Lib.hid (below_after HB1.out hb10 HB1.out.size)
    clear hb10
    go_wp2_with fail
    go_ret
    exact ⟨rfl, HB10.out⟩
  have HKC := Lib.hid (shortLB_codes hsh)
  clear hsh
  go_wp2_with fail
  refine (new_any (.slice A0 (ints zs).length c0) zs w1 (HV.out.below HB1.out)).mono ?_
  rintro e w2 ⟨rfl, hd2, hb2⟩
  obtain ⟨D, hDe⟩ : ∃ D, w1.heap.size = D := ⟨_, rfl⟩
  have hDle : w.heap.size ≤ D := by have := HB1.out.size; omega
  have hg0D : g0 ≠ D := by have := HR1.out.lt; omega
  rw [hDe] at hd2 ⊢
  have hk2 : Dk w2 D 0 := ⟨0, by omega, hd2⟩
  have HB2 := Lib.hid (below_after HB1.out hb2 HB1.out.size)
  have HR2 := Lib.hid (HR1.out.below hb2 HR1.out.lt)
  clear hd2 hb2 hDe HB1 HR1 HV
  go_wp2_with fail
  refine (SlipD hk2 (by omega)).mono ?_
  rintro e w3 ⟨s, sv, hok, rfl, hown3, hds3⟩
  have hDl := hk2.lt
  have hown3' := hown3.more (base' := D + 1) (by omega)
  have HB3 := Lib.hid (below_rdr HB2.out hds3.grown hDle)
  have hr3 := hds3.row HR2.out hg0D
  have hk3 := hds3.dk
  have HCD := Lib.hid hok.codes
  obtain ⟨A3, c3, rfl⟩ := hown3'.form
  rw [lns_len] at hown3' ⊢
  clear hown3 hds3 hk2 hDl HB2 HR2 hok
  obtain ⟨z0, z1, z2, z3, z4, x, l⟩ := s
  simp only [Slp.vals] at *
  have hrow := Row.new w3 27 #[.int .i64 z0, .int .i64 z1, .int .i64 z2, .int .i64 z3, .int .i64 z4, .int .i64 x, .slice A3 l.length c3]
  have hal := (Below.refl w3.heap.size w3).alloc (Nat.le_refl _) (.cells #[.int .i64 z0, .int .i64 z1, .int .i64 z2, .int .i64 z3, .int .i64 z4, .int .i64 x, .slice A3 l.length c3] 27)
  have hown4 := hown3'.kept hal
  have hds4 : DS (w3.alloc (.cells #[.int .i64 z0, .int .i64 z1, .int .i64 z2, .int .i64 z3, .int .i64 z4, .int .i64 x, .slice A3 l.length c3] 27)) D 4000 (w3.alloc (.cells #[.int .i64 z0, .int .i64 z1, .int .i64 z2, .int .i64 z3, .int .i64 z4, .int .i64 x, .slice A3 l.length c3] 27)) := (hk3.start.below hal).dk.start
  have HB4 := Lib.hid (below_after HB3.out hal HB3.out.size)
  have hr4 := hr3.below hal hr3.lt
  have hg1D : w3.heap.size ≠ D := by have := hk3.lt; omega
  obtain ⟨w4, hw4⟩ : ∃ w4, w3.alloc (.cells #[.int .i64 z0, .int .i64 z1, .int .i64 z2, .int .i64 z3, .int .i64 z4, .int .i64 x, .slice A3 l.length c3] 27) = w4 := ⟨_, rfl⟩
  obtain ⟨g1, hg1⟩ : ∃ g, w3.heap.size = g := ⟨_, rfl⟩
  rw [hw4] at hrow hown4 hds4 HB4 hr4
  rw [hg1] at hrow hg1D
  clear hal hown3' hk3 HB3 hr3
  go_wp2_with fail
  clear hw4 hg1
  refine (PickD [1, 7, 2147483647, 0, 2147483648] 0 2147483648 hds4 (by omega) rfl rfl (by simp) (by simp) (by simp)).mono ?_
  rintro e w5 ⟨n1, ⟨n10, n11⟩, rfl, hds5⟩
  go_wp2_with fail
  refine (PickD [0, 12, 84005, -1, 84006] (-1) 84006 hds5 (by omega) rfl rfl (by simp) (by simp) (by simp)).mono ?_
  rintro e w6 ⟨n2, ⟨n20, n21⟩, rfl, hds6⟩
  have HR6 := Lib.hid (hds6.row hrow hg1D)
  have HQ6 := Lib.hid (hds6.row hr4 hg0D)
  have HS6 := Lib.hid ((hds6.own hown4 (by omega)).sl (by omega))
  have HB6 := Lib.hid (below_rdr HB4.out hds6.grown hDle)
  clear hrow hr4 hown4 hds4 hds5 hds6 HB4
  have HFM := Lib.hid (Format_any n1 n2 ⟨z0, z1, z2, z3, z4, x, l⟩ (.slice A3 l.length c3) w6 HS6.out (HT.out.below HB6.out) (HW.out.below HB6.out) HCD.out (by omega))
  have HGM : Hid (∀ W, Sl W 3 (.slice A3 l.length c3) (lns l) → Calls Tryz.prog 12 #[.int .i64 n1, .int .i64 n2, .agg ((⟨z0, z1, z2, z3, z4, x, l⟩ : Slp).vals (.slice A3 l.length c3))] W (FmtRet n1 n2 ⟨z0, z1, z2, z3, z4, x, l⟩ W)) := fun W h => refFormat_any n1 n2 ⟨z0, z1, z2, z3, z4, x, l⟩ (.slice A3 l.length c3) W h (by omega) (by omega)
  unfold FmtRet at HGM
  obtain ⟨tx, htx⟩ : ∃ tx : ByteArray, (⟨(formatT n1 n2 ⟨z0, z1, z2, z3, z4, x, l⟩).toArray⟩ : ByteArray) = tx := ⟨_, rfl⟩
  obtain ⟨E, hEE⟩ : ∃ E, slipE n1 n2 ⟨z0, z1, z2, z3, z4, x, l⟩ = E := ⟨_, rfl⟩
  rw [htx, hEE] at HFM HGM
  simp only [Slp.vals] at HFM HGM
  clear htx hEE
  go_wp2_with (refine wpList_loadRow rfl 27 (.tmp 10) rfl [.int .i64 z0, .int .i64 z1, .int .i64 z2, .int .i64 z3, .int .i64 z4, .int .i64 x, .slice A3 l.length c3] _ rfl HR6.out (by kernel_rfl) Tryz.underlying27 rfl (by kernel_rfl) ?_)
  refine HFM.out.mono ?_
  rintro e w7 ⟨rfl, hb7⟩
  have HR7 := Lib.hid (HR6.out.below hb7 HR6.out.lt)
  have HQ7 := Lib.hid (HQ6.out.below hb7 HQ6.out.lt)
  have HS7 := Lib.hid (HS6.out.below hb7)
  have HB7 := Lib.hid (below_after HB6.out hb7 HB6.out.size)
  clear hb7 HFM HR6 HQ6 HS6 HB6
  go_wp2_with (refine wpList_loadRow rfl 27 (.tmp 10) rfl [.int .i64 z0, .int .i64 z1, .int .i64 z2, .int .i64 z3, .int .i64 z4, .int .i64 x, .slice A3 l.length c3] _ rfl HR7.out (by kernel_rfl) Tryz.underlying27 rfl (by kernel_rfl) ?_)
  refine (HGM.out w7 HS7.out).mono ?_
  rintro e w8 ⟨rfl, hb8⟩
  have HQ8 := Lib.hid (HQ7.out.below hb8 HQ7.out.lt)
  have HB8 := Lib.hid (below_after HB7.out hb8 HB7.out.size)
  clear hb8 HGM HR7 HQ7 HS7 HB7
  have HS8 := Lib.hid (HS.out.below HB8.out)
  have HFM := Lib.hid (Format_any en pn ⟨y0, y1, y2, y3, y4, y5, k⟩ (.slice Ar k.length cr) w8 HS8.out (HT.out.below HB8.out) (HW.out.below HB8.out) HKC.out hen)
  have HGM : Hid (∀ W, Sl W 3 (.slice Ar k.length cr) (lns k) → Calls Tryz.prog 12 #[.int .i64 en, .int .i64 pn, .agg ((⟨y0, y1, y2, y3, y4, y5, k⟩ : Slp).vals (.slice Ar k.length cr))] W (FmtRet en pn ⟨y0, y1, y2, y3, y4, y5, k⟩ W)) := fun W h => refFormat_any en pn ⟨y0, y1, y2, y3, y4, y5, k⟩ (.slice Ar k.length cr) W h hen hpn
  unfold FmtRet at HGM
  obtain ⟨ty, hty⟩ : ∃ ty : ByteArray, (⟨(formatT en pn ⟨y0, y1, y2, y3, y4, y5, k⟩).toArray⟩ : ByteArray) = ty := ⟨_, rfl⟩
  obtain ⟨F, hFF⟩ : ∃ F, slipE en pn ⟨y0, y1, y2, y3, y4, y5, k⟩ = F := ⟨_, rfl⟩
  rw [hty, hFF] at HFM HGM
  simp only [Slp.vals] at HFM HGM
  clear hty hFF
  go_wp2_with (refine wpList_loadRow rfl 27 (.tmp 7) rfl [.int .i64 y0, .int .i64 y1, .int .i64 y2, .int .i64 y3, .int .i64 y4, .int .i64 y5, .slice Ar k.length cr] _ rfl HQ8.out (by kernel_rfl) Tryz.underlying27 rfl (by kernel_rfl) ?_)
  refine HFM.out.mono ?_
  rintro e w9 ⟨rfl, hb9⟩
  have HQ9 := Lib.hid (HQ8.out.below hb9 HQ8.out.lt)
  have HS9 := Lib.hid (HS8.out.below hb9)
  have HB9 := Lib.hid (below_after HB8.out hb9 HB8.out.size)
  clear hb9 HFM HQ8 HS8 HB8
  go_wp2_with (refine wpList_loadRow rfl 27 (.tmp 7) rfl [.int .i64 y0, .int .i64 y1, .int .i64 y2, .int .i64 y3, .int .i64 y4, .int .i64 y5, .slice Ar k.length cr] _ rfl HQ9.out (by kernel_rfl) Tryz.underlying27 rfl (by kernel_rfl) ?_)
  refine (HGM.out w9 HS9.out).mono ?_
  rintro e w10 ⟨rfl, hb10⟩
  have HB10 := Lib.hid (below_after HB9.out hb10 HB9.out.size)
  clear hb10 HGM HQ9 HS9 HB9
  go_wp2_with fail
  refine (awake34_any w10 (HT.out.below HB10.out) (HW.out.below HB10.out)).mono ?_
  rintro e w11 ⟨rfl, hb11⟩
  have HB11 := Lib.hid (below_after HB10.out hb11 HB10.out.size)
  clear hb11
  go_wp2_with fail
  go_ret
  exact ⟨rfl, HB11.out⟩
end Go.Proofs.YtogdefomigiepaaGreatDoor
