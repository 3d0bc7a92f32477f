/- The law TimelinePast: it returns true. -/
import Derived.Test.YtnmbaeahnfbfiaaChgN
import Derived.Test.YtnmbaeahnfbfiaaStp
import Derived.Deep.CutBlock
import Derived.Deep.DeepCutAuto
namespace Go.Proofs.Ytnmbaeahnfbfiaa
open Go.RowKit

theorem mild_err {c : Chg} (h : rngC c ∧ (c.d = true → c.v = 0)) : errC c = 0 := by
  unfold errC
  rw [if_pos h.1]
  by_cases hd : c.d = true
  · rw [if_neg (by simp [h.2 hd])]
  · rw [if_neg (by simp [hd])]
theorem valid_of {l : List Chg} (hl : l.length ≤ 1024) (h : ∀ c ∈ l, rngC c ∧ (c.d = true → c.v = 0)) : validE l = 0 :=
  validE_ok hl fun _j hj => mild_err (h _ (List.getElem_mem hj))
theorem mild_rng {c : Chg} (h : mildC c) : rngC c ∧ (c.d = true → c.v = 0) := by
  unfold mildC at h
  unfold rngC
  refine ⟨by omega, h.2.2.2.2.2.2⟩
theorem atE_ok {l : List Chg} {d : Int} (h : validE l = 0) (h1 : 0 ≤ d) (h2 : d ≤ 84005) : atE l d = 0 := by
  rw [atE, if_pos h, if_pos ⟨h1, h2⟩]
theorem atO_ok {l : List Chg} {d kn : Int} (h : validE l = 0) (h1 : 0 ≤ d) (h2 : d ≤ 84005) : atO l d kn = vAt l kn d := by
  rw [atO, if_pos (atE_ok h h1 h2)]; rfl

theorem row02 {w : World} {g : Nat} {T : TypeId} {a b c d : Value} (h : Row w g T #[a, b, c, d]) : w.cell? ⟨g, 0, none⟩ = some a ∧ w.cell? ⟨g, 2, none⟩ = some c ∧ g < w.heap.size := ⟨h.cell 0, h.cell 2, h.lt⟩
theorem chgs_append_one (l : List Chg) (c : Chg) : chgs (l ++ [c]) = chgs l ++ [c.vals] := by rw [chgs_append]; rfl
set_option maxRecDepth 100000 in
set_option maxHeartbeats 4000000 in
theorem Past_any (v : Value) (zs : List Int) (w : World) (hv : Sl w 1 v (ints zs)) :
    Calls Try.prog 5 #[v] w fun e w' => e = .returned (.bool true) ∧ Below w.heap.size w w' := by
  have HV := Lib.hid hv
  clear hv
  go_enter Try.func5, Try.ntmps5
  go_wp2_with fail
  refine (tapeNew_any v zs w HV.out).mono ?_
  rintro e w1 ⟨rfl, ht1, hb1⟩
  clear HV
  obtain ⟨D, hD⟩ : ∃ D, w.heap.size = D := ⟨_, rfl⟩
  rw [hD] at ht1
  have HD := Lib.hid hD
  clear hD
  rw [HD.out]
  go_wp2_with fail
  refine (TChg_any D 8 false w1 ht1 (by omega) (by omega)).mono ?_
  rintro e w2 ⟨l, x, rfl, hll, hm, s2⟩
  have HM := Lib.hid (hm rfl)
  clear hm ht1
  go_wp2_with fail
  refine (Draw_any D 30 _ s2.tape (by omega) (by omega)).mono ?_
  rintro e w3 ⟨r3, ⟨a3, b3⟩, rfl, t3, g3⟩
  have s3 := s2.draw t3 g3
  clear s2 t3 g3
  go_wp2_with fail
  refine (Draw_any D 5 _ s3.tape (by omega) (by omega)).mono ?_
  rintro e w4 ⟨r4, ⟨a4, b4⟩, rfl, t4, g4⟩
  have s4 := s3.draw t4 g4
  clear s3 t4 g4
  go_upto_region 4 with (fail)
  have x5 := s4.box 40 #[.int .i64 (20454 + r3), .int .i64 20, .int .i64 r4, .bool false]
  obtain ⟨w5, hw5⟩ : ∃ W, w4.alloc (.cells #[.int .i64 (20454 + r3), .int .i64 20, .int .i64 r4, .bool false] 40) = W := ⟨_, rfl⟩
  rw [hw5] at x5 ⊢
  obtain ⟨g, hg⟩ : ∃ g, w4.heap.size = g := ⟨_, rfl⟩
  rw [hg] at x5 ⊢
  clear hw5 hg s4
  have HX := Lib.hid x5
  obtain ⟨⟨c0, c1, c2, c3⟩, ⟨f0, f1, f2, f3⟩, hgl⟩ := x5.cells4
  clear x5 f0 f1 f2 f3
  go_cut [6] (fun s wx => Own wx w5.heap.size 40 4 s (chgs (l ++ [⟨20454 + r3, 20, r4, false⟩])) ∧ Below w5.heap.size w5 wx)
  case first =>
    have hl8 : l.length ≤ 8 := by omega
    have HS := Lib.hid (HX.out.st.own.sl (by omega))
    have HC : Hid (w5.cell? ⟨g, 0, none⟩ = some (.int .i64 (20454 + r3)) ∧ w5.cell? ⟨g, 1, none⟩ = some (.int .i64 20) ∧ w5.cell? ⟨g, 2, none⟩ = some (.int .i64 r4) ∧ w5.cell? ⟨g, 3, none⟩ = some (.bool false)) := ⟨c0, c1, c2, c3⟩
    go_region_law (first | ((refine step_append_sl rfl (.tmp 28) (.tmp 29) rfl rowChg w5.heap.size _ _ [] (chgs l) rfl (by first | exact (own_empty w5 40 4 w5.heap.size (Nat.le_refl _)).drew | exact ((own_empty w5 40 4 w5.heap.size (Nat.le_refl _)).alloc _).drew | exact (own_none (w5.alloc _) 40 4 w5.heap.size (w5.heap.size + 1) (by simp) (by omega)).drew) rfl (by first | exact HS.out.below (below_a1 _ _) | exact HS.out.below (below_a2 _ _ _)) (chgs_wide _) (by simp only [chgs_len, List.length_nil]; unfold maxLen; omega) (by simp only [chgs_len, List.length_nil]; omega) (by simp <;> omega) ?_; intro v7 w7 hown7 hg7 hv7; (have hb7 : Below w5.heap.size w5 w7 := (by first | exact apps (below_a1 _ _) (own_empty w5 40 4 w5.heap.size (Nat.le_refl _)).drew hg7 (by simp) | exact apps (below_a2 _ _ _) ((own_empty w5 40 4 w5.heap.size (Nat.le_refl _)).alloc _).drew hg7 (by simp; omega) | exact apps (below_a2 _ _ _) (own_none (w5.alloc _) 40 4 w5.heap.size (w5.heap.size + 1) (by simp) (by omega)).drew hg7 (by simp; omega))); have hq7 := hb7.size; have d0 := (hb7.cell (p := ⟨g, 0, none⟩) hgl).trans HC.out.1; have d1 := (hb7.cell (p := ⟨g, 1, none⟩) hgl).trans HC.out.2.1; have d2 := (hb7.cell (p := ⟨g, 2, none⟩) hgl).trans HC.out.2.2.1; have d3 := (hb7.cell (p := ⟨g, 3, none⟩) hgl).trans HC.out.2.2.2; have H7 := Lib.hid hown7; clear hown7; have HV7 := Lib.hid hv7; clear hv7)) | (refine step_append_sl rfl (.tmp 30) (.tmp 32) rfl rowChg w5.heap.size _ _ (chgs l) [Chg.vals ⟨20454 + r3, 20, r4, false⟩] rfl (by first | exact H7.out | exact H7.out.alloc _) rfl (by first | exact Sl.one (by simp) rfl | exact Sl.apart ((Sl.one (w := w5.alloc (.cells #[] 40)) (c := #[.int .i64 (20454 + r3), .int .i64 20, .int .i64 r4, .bool false]) (t := 40) (sz := 4) (n := w5.heap.size + 1) (by simp) rfl).below (below_a0 _)) hg7 (fun e => absurd (Option.some.inj (e : some (w5.heap.size + 1) = some w5.heap.size)) (Nat.succ_ne_self _)) | exact Sl.apart (((Sl.one (w := w5) (c := #[.int .i64 (20454 + r3), .int .i64 20, .int .i64 r4, .bool false]) (t := 40) (sz := 4) rfl rfl).below ((Below.refl _ _).alloc (Nat.le_refl _) (.cells #[] 40))).below (below_a0 _)) hg7 (fun e => absurd (Option.some.inj (e : some w5.heap.size = some (w5.heap.size + 1))) (Nat.succ_ne_self _).symm)) (chg_wide _) (by simp only [chgs_len, List.length_cons, List.length_nil]; unfold maxLen; omega) (by simp only [chgs_len, List.length_cons, List.length_nil]; omega) (by first | omega | (simp <;> omega)) ?_; intro v8 w8 hown8 hg8 _; (have hb8 : Below w5.heap.size w5 w8 := (by first | exact apps hb7 H7.out hg8 hq7 | exact apps (hb7.alloc hq7 _) (H7.out.alloc _) hg8 (by simp; omega))); rw [← chgs_append_one] at hown8))
    all_goals (go_wp2_with fail; go_meet; exact ⟨hown8, hb8⟩)
  case rest =>
    obtain ⟨hown6, hb6⟩ := hcut
    obtain ⟨w6, hw6⟩ : ∃ w6 : World, w6 = wc := ⟨_, rfl⟩
    subst hw6
    have s6 := HX.out.st.below hb6
    have r6 := HX.out.row.below hb6 hgl
    have hgD : D < g := Nat.lt_of_lt_of_le s6.low HX.out.high
    have hl8 : l.length ≤ 8 := by omega
    have hz6 := hb6.size
    have hzD := HX.out.st.low
    have hzw := HX.out.st.size
    clear HX c0 c1 c2 c3
    obtain ⟨c, hc⟩ : ∃ c : Chg, (⟨20454 + r3, 20, r4, false⟩ : Chg) = c := ⟨_, rfl⟩
    rw [hc] at hown6
    have hv1 : validE l = 0 := valid_of (by omega) fun x hx => mild_rng (HM.out x hx)
    have hv2 : validE (l ++ [c]) = 0 := valid_of (by simp; omega) fun x hx => by
      rcases List.mem_append.1 hx with hx | hx
      · exact mild_rng (HM.out x hx)
      · rw [List.mem_singleton.1 hx, ← hc]; exact ⟨by unfold rngC; simp only; omega, fun h => by cases h⟩
    have HV1 := Lib.hid hv1
    have HV2 := Lib.hid hv2
    have HK : Hid (c.k = 20 ∧ c.d = false ∧ c.f = 20454 + r3 ∧ c.v = r4) := by rw [← hc]; exact ⟨rfl, rfl, rfl, rfl⟩
    have HSELF : Hid (vAt (l ++ [c]) 20 (20454 + r3) = some r4) := by
      have := vAt_self (l := l) (c := c) (kn := 20) (by rw [← hc]; simp) (by rw [← hc]) (fun x hx hf hk hlt => by
        have := HM.out x hx
        unfold mildC at this
        unfold ltC at hlt
        rw [← hc] at hlt hf
        simp only at hlt hf
        omega)
      rw [HK.out.2.2.1, HK.out.2.2.2] at this
      exact this
    clear hv1 hv2 hc hb6
    go_wp2_with fail
    refine (Draw_any D 20 _ s6.tape (by omega) (by omega)).mono ?_
    rintro e w7 ⟨kn, ⟨a7, b7⟩, rfl, t7, g7⟩
    have s7 := s6.draw t7 g7
    have r7 := r6.keep g7 (by intro e; injection e; omega)
    have o7 := hown6.keepG g7 (hown6.ne_low (by omega))
    clear s6 r6 hown6 t7 g7
    go_wp2_with fail
    refine (day_any D _ s7.tape).mono ?_
    rintro e w8 ⟨d, ⟨a8, b8⟩, rfl, t8, g8⟩
    have s8 := s7.draw t8 g8
    have r8 := r7.keep g8 (by intro e; injection e; omega)
    have o8 := o7.keepG g8 (o7.ne_low (by omega))
    clear s7 r7 o7 t8 g8
    have S8 := Lib.hid (s8.own.sl (by omega))
    have O8 := Lib.hid (o8.sl (by omega))
    have B8 := Lib.hid (hb1.grown s8.grown hb1.size (fun g hg => by cases hg; rw [HD.out]; exact Nat.le_refl _))
    clear s8 o8
    obtain ⟨o, ho⟩ : ∃ o, vAt l kn d = o := ⟨_, rfl⟩
    have E1 : Hid (atO l d kn = o ∧ atE l d = 0) := ⟨by rw [atO_ok HV1.out a8 b8, ho], atE_ok HV1.out a8 b8⟩
    have E2 : Hid (atO (l ++ [c]) d kn = o ∧ atE (l ++ [c]) d = 0) := ⟨by rw [atO_ok HV2.out a8 b8, vAt_later (by rw [HK.out.1]; omega), ho], atE_ok HV2.out a8 b8⟩
    clear ho
    go_wp2_with fail
    refine (At_any _ l d kn _ S8.out).mono ?_
    rw [E1.out.1, E1.out.2]
    rintro e w9 ⟨rfl, hb9⟩
    have S9 := Lib.hid (S8.out.below hb9)
    have O9 := Lib.hid (O8.out.below hb9)
    have B9 := Lib.hid (B8.out.trans (hb9.mono B8.out.size))
    have r9 := r8.below hb9 r8.lt
    clear S8 O8 B8 r8 hb9
    go_wp2_with fail
    refine (At_any _ (l ++ [c]) d kn _ O9.out).mono ?_
    rw [E2.out.1, E2.out.2]
    rintro e w10 ⟨rfl, hb10⟩
    have S10 := Lib.hid (S9.out.below hb10)
    have O10 := Lib.hid (O9.out.below hb10)
    have B10 := Lib.hid (B9.out.trans (hb10.mono B9.out.size))
    have r10 := r9.below hb10 r9.lt
    clear S9 O9 B9 r9 hb10
    clear E1 E2
    obtain ⟨o3, ho3⟩ : ∃ o, vAt l 20 d = o := ⟨_, rfl⟩
    have E3 : Hid (atO l d 20 = o3 ∧ atE l d = 0) := ⟨by rw [atO_ok HV1.out a8 b8, ho3], atE_ok HV1.out a8 b8⟩
    go_wp2_with fail
    refine (At_any _ l d 20 _ S10.out).mono ?_
    rw [E3.out.1, E3.out.2]
    rintro e w11 ⟨rfl, hb11⟩
    have S11 := Lib.hid (S10.out.below hb11)
    have O11 := Lib.hid (O10.out.below hb11)
    have B11 := Lib.hid (B10.out.trans (hb11.mono B10.out.size))
    have r11 := r10.below hb11 r10.lt
    clear S10 O10 B10 r10 hb11
    obtain ⟨o4, ho4⟩ : ∃ o, vAt (l ++ [c]) 20 d = o := ⟨_, rfl⟩
    have E4 : Hid (atO (l ++ [c]) d 20 = o4 ∧ atE (l ++ [c]) d = 0) := ⟨by rw [atO_ok HV2.out a8 b8, ho4], atE_ok HV2.out a8 b8⟩
    have E5 : Hid (atO (l ++ [c]) (20454 + r3) 20 = some r4 ∧ atE (l ++ [c]) (20454 + r3) = 0) := ⟨by rw [atO_ok HV2.out (by omega) (by omega), HSELF.out], atE_ok HV2.out (by omega) (by omega)⟩
    by_cases hdf : d < 20454 + r3
    · obtain rfl : o4 = o3 := by rw [← ho4, ← ho3]; exact vAt_ahead (by rw [HK.out.2.2.1]; exact hdf)
      clear ho3 ho4
      go_wp2_with fail
      refine (At_any _ (l ++ [c]) d 20 _ O11.out).mono ?_
      rw [E4.out.1, E4.out.2]
      rintro e w12 ⟨rfl, hb12⟩
      have S12 := Lib.hid (S11.out.below hb12)
      have O12 := Lib.hid (O11.out.below hb12)
      have B12 := Lib.hid (B11.out.trans (hb12.mono B11.out.size))
      have r12 := r11.below hb12 r11.lt
      clear S11 O11 B11 r11 hb12
      obtain ⟨k0, k2, kl⟩ := row02 r12
      go_wp2_with fail
      refine (At_any _ (l ++ [c]) (20454 + r3) 20 _ O12.out).mono ?_
      rw [E5.out.1, E5.out.2]
      rintro e w13 ⟨rfl, hb13⟩
      have S13 := Lib.hid (S12.out.below hb13)
      have O13 := Lib.hid (O12.out.below hb13)
      have B13 := Lib.hid (B12.out.trans (hb13.mono B12.out.size))
      have r13 := r12.below hb13 r12.lt
      clear S12 O12 B12 r12 hb13
      clear k0 k2 kl
      obtain ⟨k0, k2, kl⟩ := row02 r13
      go_wp2_with fail
      refine (sane_any _).mono ?_
      rintro e w14 ⟨rfl, hb14⟩
      have B14 := B13.out.trans (hb14.mono B13.out.size)
      go_wp2
      go_ret
      exact ⟨rfl, B14⟩
    · clear ho3 ho4
      go_wp2_with fail
      refine (At_any _ (l ++ [c]) d 20 _ O11.out).mono ?_
      rw [E4.out.1, E4.out.2]
      rintro e w12 ⟨rfl, hb12⟩
      have S12 := Lib.hid (S11.out.below hb12)
      have O12 := Lib.hid (O11.out.below hb12)
      have B12 := Lib.hid (B11.out.trans (hb12.mono B11.out.size))
      have r12 := r11.below hb12 r11.lt
      clear S11 O11 B11 r11 hb12
      obtain ⟨k0, k2, kl⟩ := row02 r12
      go_wp2_with fail
      refine (At_any _ (l ++ [c]) (20454 + r3) 20 _ O12.out).mono ?_
      rw [E5.out.1, E5.out.2]
      rintro e w13 ⟨rfl, hb13⟩
      have S13 := Lib.hid (S12.out.below hb13)
      have O13 := Lib.hid (O12.out.below hb13)
      have B13 := Lib.hid (B12.out.trans (hb13.mono B12.out.size))
      have r13 := r12.below hb13 r12.lt
      clear S12 O12 B12 r12 hb13
      clear k0 k2 kl
      obtain ⟨k0, k2, kl⟩ := row02 r13
      go_wp2_with fail
      refine (sane_any _).mono ?_
      rintro e w14 ⟨rfl, hb14⟩
      have B14 := B13.out.trans (hb14.mono B13.out.size)
      go_wp2
      go_ret
      exact ⟨rfl, B14⟩
end Go.Proofs.Ytnmbaeahnfbfiaa
