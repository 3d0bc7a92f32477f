/- payrollref6.Merge. -/
import Derived.Test.YtnmbaeahnfbfiaaRfI
import Derived.Test.YtnmbaeahnfbfiaaChgM
import Derived.Test.YtnmbaeahnfbfiaaChgR
namespace Go.Proofs.Ytnmbaeahnfbfiaa
open Go.RowKit

def MgR (w : World) (c : List Chg) (v i : Value) (wr : World) : Prop :=
  ∃ k : Nat, ∃ o : List Chg, k ≤ c.length ∧ i = .int .i64 k ∧ o.length ≤ k ∧ Hid (o = ascC (c.take k)) ∧ Hid (Own wr w.heap.size 40 4 v (chgs o)) ∧ Below w.heap.size w wr
def MgQ (w : World) (o : List Chg) (c : Chg) (i : Value) (wr : World) : Prop :=
  ∃ j : Nat, j ≤ o.length ∧ i = .int .i64 j ∧ Below w.heap.size w wr ∧ Hid (∀ i (hi : i < o.length), i < j → ltC o[i] c)
theorem asc_take {c : List Chg} {k : Nat} (hk : k < c.length) : ascC (c.take (k + 1)) = insC c[k] (ascC (c.take k)) := by
  rw [List.take_succ_eq_append_getElem hk, ascC_snoc]
theorem box_apart {w : World} {g : Nat} {o : Obj} {r r' : Value} (hg : g < w.heap.size) (h : r.ownBlock ≠ some g) (hr : r'.ownBlock = r.ownBlock ∨ r'.ownBlock = some (w.alloc o).heap.size) : r'.ownBlock ≠ some g := by
  rcases hr with hr | hr
  · rw [hr]; exact h
  · rw [hr]; intro e; injection e; rw [World.size_alloc] at *; omega
theorem box4 {w : World} {g : Nat} {x : Chg} (h : Row w g 40 #[.int .i64 x.f, .int .i64 x.k, .int .i64 x.v, .bool x.d]) :
    (w.cell? ⟨g, 0, none⟩ = some (.int .i64 x.f) ∧ w.cell? ⟨g, 1, none⟩ = some (.int .i64 x.k) ∧ w.cell? ⟨g, 2, none⟩ = some (.int .i64 x.v) ∧ w.cell? ⟨g, 3, none⟩ = some (.bool x.d)) ∧ g < w.heap.size :=
  ⟨⟨h.cell 0, h.cell 1, h.cell 2, h.cell 3⟩, h.lt⟩
set_option maxRecDepth 100000 in
set_option maxHeartbeats 4000000 in
theorem refMerge_any (va vb : Value) (a b : List Chg) (w : World) (ha : Sl w 4 va (chgs a)) (hb : Sl w 4 vb (chgs b)) :
    Calls Try.prog 18 #[va, vb] w (RetOwn2 w 40 4 (chgs (mrgC a b)) (mrgE a b)) := by
  have fa : ∃ A c, va = .slice A a.length c := by obtain ⟨A, c, h, _⟩ := ha; rw [chgs_len] at h; exact ⟨A, c, h⟩
  have fb : ∃ A c, vb = .slice A b.length c := by obtain ⟨A, c, h, _⟩ := hb; rw [chgs_len] at h; exact ⟨A, c, h⟩
  obtain ⟨A1, c1, rfl⟩ := fa
  obtain ⟨A2, c2, rfl⟩ := fb
  have V := refValid_any _ a w ha
  have HA := Lib.hid ha
  have HB := Lib.hid hb
  clear ha hb
  by_cases h0 : validE a = 0
  · rw [h0] at V
    have H := Lib.hid V
    clear V
    by_cases h1 : validE b = 0
    · have H2 : Hid (∀ w1, Sl w1 4 (.slice A2 b.length c2) (chgs b) → Calls Try.prog 32 #[(.slice A2 b.length c2)] w1 fun e w' => e = .returned (.int .i64 0) ∧ Below w1.heap.size w1 w') := fun w1 h => by
        have := refValid_any (.slice A2 b.length c2) b w1 h
        rwa [h1] at this
      have HE : Hid (mrgE a b = if 1024 < (ascC (a ++ b)).length then 3 else 0) := by rw [Hid, mrgE, if_pos h0, if_pos h1]
      have hla := validE_len h0
      have hlb := validE_len h1
      clear h0 h1
      obtain ⟨c, hc⟩ : ∃ c, a ++ b = c := ⟨_, rfl⟩
      have H40 := Lib.hid hc
      have hcl : c.length = a.length + b.length := by rw [← hc, List.length_append]
      have hcl1 : c.length ≤ a.length + b.length := by omega
      have hcl2 : a.length + b.length ≤ c.length := by omega
      have HCA : Hid (∀ k (h : k < a.length) (h' : k < c.length), c[k] = a[k]) := fun k h h' => by
        simp only [← hc]; rw [List.getElem_append_left h]
      have HCB : Hid (∀ k (h : k - a.length < b.length) (h' : k < c.length), a.length ≤ k → c[k] = b[k - a.length]) := fun k h h' h'' => by
        simp only [← hc]; rw [List.getElem_append_right h'']
      clear hc hcl
      go_enter Try.func18, Try.ntmps18
      go_wp2_with (go_at_call 32; (with_reducible refine H.out.mono ?_); rintro e w1 ⟨rfl, hb1⟩)
      go_wp2_with (go_at_call 32; (with_reducible refine (H2.out _ (HB.out.below hb1)).mono ?_); rintro e w2 ⟨rfl, hb2⟩; have hB2 := hb1.trans (hb2.mono hb1.size); clear hb1 hb2)
      go_loopw [8, 9] (fun v i wr => MgR w c v i wr) (fun _ i _ => c.length - (intOf i).toNat)
      case atStart => exact ⟨0, [], by omega, rfl, by simp, by rw [List.take_zero]; rfl, Own.nil _ _ _ _, hB2⟩
      case round =>
        clear hB2
        obtain ⟨k, o, hk, rfl, hok, HI, HO, hb⟩ := hrel
        obtain ⟨wo, rfl⟩ : ∃ wo : World, wo = wr := ⟨_, rfl⟩
        have hbs := hb.size
        by_cases hlt : k < c.length
        · have HASC := Lib.hid (asc_take hlt)
          rw [← HI.out] at HASC
          have hkz : (k : Int) < (a.length : Int) + (b.length : Int) := by omega
          by_cases hka : k < a.length
          · have hx := HCA.out k hka hlt
            obtain ⟨bk, off, rfl, hc0⟩ := (HA.out.below hb).cells (by rw [chgs_len]; omega)
            obtain ⟨d0, d1, d2, d3⟩ := hc0.chg hka
            have dka : decide (k < a.length) = true := decide_eq_true hka
            have hbw := hc0.1
            rw [← hx] at d0 d1 d2 d3
            clear hc0 hx
            obtain ⟨x, hx⟩ : ∃ x, c[k] = x := ⟨_, rfl⟩
            rw [hx] at d0 d1 d2 d3 HASC
            clear hx
            go_wp2_with fail
            obtain ⟨W, hW⟩ : ∃ W : World, wo.alloc (.cells #[.int .i64 x.f, .int .i64 x.k, .int .i64 x.v, .bool x.d] 40) = W := ⟨_, rfl⟩
            have rx := Row.new wo 40 #[.int .i64 x.f, .int .i64 x.k, .int .i64 x.v, .bool x.d]
            have hbW := (Below.refl wo.heap.size wo).alloc (Nat.le_refl _) (.cells #[.int .i64 x.f, .int .i64 x.k, .int .i64 x.v, .bool x.d] 40)
            rw [hW] at rx hbW ⊢
            clear hW
            have ho5 := HO.out.kept hbW
            have hB5 := hb.trans (hbW.mono hbs)
            have hbs5 := hB5.size
            obtain ⟨⟨_, _, _, _⟩, bl⟩ := box4 rx
            have HX5 := Lib.hid rx
            have HNG : Hid (u8.ownBlock ≠ some wo.heap.size) := fun e => by have := (HO.out.lt e).2; omega
            obtain ⟨g9, hg9⟩ : ∃ g9, wo.heap.size = g9 := ⟨_, rfl⟩
            rw [hg9] at HX5 HNG bl ⊢
            clear HO rx d0 d1 d2 d3 hg9
            obtain ⟨A5, cap5, rfl⟩ := ho5.form
            rw [chgs_len] at ho5 HNG ⊢
            have HO5 := Lib.hid ho5
            clear ho5
            go_loopw [11] (fun i wr => MgQ W o x i wr) (fun i _ => o.length - (intOf i).toNat)
            case atStart => exact ⟨0, by omega, rfl, Below.refl _ _, fun i _ h => by omega⟩
            case round =>
              obtain ⟨j, hj, rfl, hbj, HJ⟩ := hrel
              obtain ⟨wi, rfl⟩ : ∃ wi : World, wi = wr := ⟨_, rfl⟩
              have hbsi := hbj.size
              obtain ⟨⟨t0, t1, t2, t3⟩, tl⟩ := box4 (HX5.out.below hbj bl)
              have g0 := ext_cell tl t0
              have g1 := ext_cell tl t1
              have g2 := ext_cell tl t2
              have g3 := ext_cell tl t3
              have hgl : ∀ y : Ext wi, Hid (g9 < y.val.heap.size) := fun y => Nat.lt_of_lt_of_le tl y.property.size
              clear t0 t1 t2 t3
              by_cases hjo : j < o.length
              · obtain ⟨g5, off5, rfl, hc5⟩ := ((HO5.out.kept hbj).sl (by omega)).cells (by rw [chgs_len]; omega)
                obtain ⟨q0, q1, q2, q3⟩ := hc5.chg hjo
                have hc5l := hc5.1
                have dl : decide (j < o.length) = true := decide_eq_true hjo
                have i2 : (j : Int) < (o.length : Int) := by omega
                obtain ⟨p, hp⟩ : ∃ p, o[j] = p := ⟨_, rfl⟩
                rw [hp] at q0 q1 q2 q3
                have HP := Lib.hid hp
                have r0 := ext_cell hc5l q0
                have r1 := ext_cell hc5l q1
                have r2 := ext_cell hc5l q2
                have r3 := ext_cell hc5l q3
                clear hp hc5 q0 q1 q2 q3
                have HCON := Lib.hid (fun y : Ext wi => refCompare_any p x y.val)
                obtain ⟨z, hz⟩ : ∃ z, cmpC p x = z := ⟨_, rfl⟩
                rw [hz] at HCON
                have HZ := Lib.hid hz
                clear hz
                cases hzz : decide (z < 0)
                · have HNL : Hid (¬ ltC p x) := fun h => by have := cmpC_neg.2 h; rw [HZ.out] at this; simp [this] at hzz
                  have hins := insC_at (c := x) hj HJ.out (fun _ => by rw [HP.out]; exact HNL.out)
                  rw [List.getElem?_eq_getElem hjo, HP.out] at hins
                  by_cases hpx : p = x
                  · have HR : Hid (o = ascC (c.take (k + 1))) := by rw [Hid, HASC.out, hins.1 (by rw [hpx])]
                    have E := fun W => eqC p x W
                    rw [decide_eq_true hpx] at E
                    clear hins hpx
                    go_wp2_with fail
                    refine region_ext (by kernel_rfl) (by kernel_rfl) ?_
                    repeat (go_big_quiet_step ((go_at_call 33; exact ext_call (HCON.out _))))
                    refine wpQuiet_nil ?_
                    rintro _ ⟨y, rfl⟩
                    have hBy5 := hbj.trans (y.property.mono hbsi)
                    have hBy := hB5.trans (hBy5.mono hbs5)
                    have hown := HO5.out.kept hBy5

                    have E2 := E
                    clear E g0 g1 g2 g3 r0 r1 r2 r3
                    obtain ⟨⟨t0, t1, t2, t3⟩, _⟩ := box4 (HX5.out.below hBy5 bl)
                    obtain ⟨g6, off6, hqq, hc6⟩ := (hown.sl (by omega)).cells (by rw [chgs_len]; omega)
                    simp only [Option.some.injEq, Addr.mk.injEq, and_true] at hqq
                    obtain ⟨rfl, rfl⟩ := hqq
                    obtain ⟨q0, q1, q2, q3⟩ := hc6.chg hjo
                    rw [HP.out] at q0 q1 q2 q3
                    clear hc6
                    go_wp2_with fail
                    go_quiet (fail)
                    go_wp2
                    go_roundw
                    case rel => exact ⟨k + 1, o, by omega, by go_num, by omega, HR, hown.kept (Below.draws (Below.refl _ _) _), Below.draws hBy _⟩
                    case measure => simp [intOf]; omega
                  · have HR : Hid (o.take j ++ x :: o.drop j = ascC (c.take (k + 1))) := by rw [Hid, HASC.out, hins.2 (by intro h; exact hpx (Option.some.inj h))]
                    have E := fun W => eqC p x W
                    rw [decide_eq_false hpx] at E
                    clear hins hpx
                    go_wp2_with fail
                    refine region_ext (by kernel_rfl) (by kernel_rfl) ?_
                    repeat (go_big_quiet_step ((go_at_call 33; exact ext_call (HCON.out _))))
                    refine wpQuiet_nil ?_
                    rintro _ ⟨y, rfl⟩
                    have hBy5 := hbj.trans (y.property.mono hbsi)
                    have hBy := hB5.trans (hBy5.mono hbs5)
                    have hown := HO5.out.kept hBy5

                    clear g0 g1 g2 g3 r0 r1 r2 r3
                    obtain ⟨⟨t0, t1, t2, t3⟩, _⟩ := box4 (HX5.out.below hBy5 bl)
                    obtain ⟨g6, off6, hqq, hc6⟩ := (hown.sl (by omega)).cells (by rw [chgs_len]; omega)
                    simp only [Option.some.injEq, Addr.mk.injEq, and_true] at hqq
                    obtain ⟨rfl, rfl⟩ := hqq
                    obtain ⟨q0, q1, q2, q3⟩ := hc6.chg hjo
                    rw [HP.out] at q0 q1 q2 q3
                    clear hc6
                    go_wp2_with fail
                    go_quiet (fail)
                    clear t0 t1 t2 t3 q0 q1 q2 q3 E
                    have hol : o.length ≤ 2048 := by omega
                    have HYX : Hid (∀ q, Row (y.val.drewN q) g9 40 #[.int .i64 x.f, .int .i64 x.k, .int .i64 x.v, .bool x.d]) := fun q => (HX5.out.below hBy5 bl).below (Below.draws (Below.refl _ _) q) (Nat.lt_of_lt_of_le bl hBy5.size)
                    have HOq : Hid (∀ q, Own (y.val.drewN q) w.heap.size 40 4 _ (chgs o)) := fun q => hown.kept (Below.draws (Below.refl _ _) q)
                    go_wp2_with (at_builtin; go_loud ((refine wpList_append_sl rfl (.tmp 74) (.tmp 76) rfl rowChg w.heap.size _ _ _ [Chg.vals ⟨0, 0, 0, false⟩] rfl ((HOq.out _).alloc _) rfl (Sl.one rfl rfl) (chg_wide _) (by simp only [chgs_len, List.length_cons, List.length_nil]; unfold maxLen; omega) (by simp only [chgs_len, List.length_cons, List.length_nil]; omega) (size_Dalloc hBy.size) ?_); intro v7 w7 hown7 hg7 hv7; have hb7 := Own.grown ((HOq.out _).alloc _) ((Below.draws hBy _).alloc hBy.size _) hg7 (size_Dalloc hBy.size); have rx7 := ((HYX.out _).alloc _).keep hg7 (fun e => HNG.out e.symm); have hn7 := box_apart (HYX.out _).lt HNG.out hv7; obtain ⟨g, cap7, rfl, hcap7⟩ := hown7.some_form (by simp); simp only [List.length_append, chgs_len, List.length_cons, List.length_nil, Nat.zero_add] at hown7 hcap7 ⊢; have HNG7 : Hid (some g9 ≠ some g) := (fun e => hn7 e.symm); have HO7 := Lib.hid hown7; have HX7 := Lib.hid rx7; clear hown7 hg7 rx7 hv7 hn7))

                    have hq9 : j < cap7 := by omega
                    have hqa : ¬ cap7 = j := by omega
                    have hqb : j ≤ o.length + 1 := by omega
                    have hqc : j + 1 ≤ o.length + 1 := by omega
                    have hqd : j + 1 ≤ cap7 := by omega
                    have hqe : j ≤ cap7 := by omega
                    have hqf : (j : Int) ≤ (o.length : Int) + 1 := by omega
                    have i3 : (j : Int) < (cap7 : Int) := by omega

                    have hjc : ¬ cap7 = j + 1 := by omega
                    have i4 : ((j : Int) + 1) < (cap7 : Int) := by omega

                    have e1 : IntKind.i64.wrap ((j : Int) + 1) = (j : Int) + 1 := IntWalk.i64_in _ (by omega)
                    have e2 : ((j : Int) + 1).toNat = j + 1 := by omega
                    have e3 : (0 : Int) ≤ (j : Int) + 1 := by omega
                    go_wp2_with fail
                    refine region_tail 7 (by kernel_rfl) (by kernel_rfl) ?_
                    simp only [List.take_succ_cons, List.take_zero, List.drop_succ_cons, List.drop_zero]
                    repeat still_step
                    refine wpStill_nil ?_
                    clear e1 e2 e3
                    have ho7 := HO7.out.drew
                    have hb7' := hb7.drew
                    have rx7 : Row w7.drew g9 40 #[.int .i64 x.f, .int .i64 x.k, .int .i64 x.v, .bool x.d] := HX7.out
                    generalize w7.drew = w8 at ho7 hb7' rx7 ⊢
                    have hbs8 : w.heap.size ≤ w8.heap.size := hb7'.size
                    have HO8 := Lib.hid ho7
                    have HX8 := Lib.hid rx7
                    clear ho7 hb7 HO7 HX7 rx7
                    refine wpList_copy_ins rfl (.tmp 81) (.tmp 84) rfl rowChg HO8.out j (by omega) _ _ _ _ _ (by omega) (.inr rfl) (by omega) rfl rfl ?_; (intro w9 hown9 hg9; have hb9 := HO8.out.grown hb7' hg9 hbs8; have HO9 := Lib.hid hown9; obtain ⟨y0, y1, y2, y3, ⟨z0, z1, z2, z3⟩, u0, u1, u2, u3⟩ := hown9.four (j := j) (by rw [ins_len o j hj]; omega); have hl9 := (hown9.lt rfl).2; have rx9 := HX8.out.keep hg9 HNG7.out; obtain ⟨⟨b0, b1, b2, b3⟩, bl⟩ := box4 rx9; clear hown9 hg9 rx9)
                    go_wp2
                    go_roundw
                    case rel =>
                      have hst := HO9.out.store (by omega) j (by rw [ins_len o j hj]; omega) x.vals rfl (by simp [Chg.vals, Value.oneCell'])
                      rw [ins_chgs o x j hj] at hst
                      refine ⟨k + 1, _, by omega, by go_num, ?_, HR, hst.1, HO9.out.grown hb9 hst.2 hb9.size⟩
                      simp; omega
                    case measure => simp [intOf]; omega

                · have HLT : Hid (ltC p x) := cmpC_neg.1 (by rw [HZ.out]; simpa using hzz)
                  have HN : Hid (∀ i (hi : i < o.length), i < j + 1 → ltC o[i] x) := fun i hi h => by
                    by_cases e : i = j
                    · subst e; rw [HP.out]; exact HLT.out
                    · exact HJ.out i hi (by omega)
                  go_wp2_with fail
                  refine region_ext (by kernel_rfl) (by kernel_rfl) ?_
                  repeat (go_big_quiet_step ((go_at_call 33; exact ext_call (HCON.out _))))
                  refine wpQuiet_nil ?_
                  rintro _ ⟨y, rfl⟩
                  have hBy5 := hbj.trans (y.property.mono hbsi)
                  have hBy := hB5.trans (hBy5.mono hbs5)
                  have hown := HO5.out.kept hBy5

                  go_wp2
                  go_roundw
                  case rel => exact ⟨j + 1, by omega, by go_num, hBy5, HN⟩
                  case measure => simp [intOf]; omega
              · have dl : decide (j < o.length) = false := decide_eq_false hjo
                have hins := insC_at (c := x) hj HJ.out (fun h => absurd h hjo)
                rw [List.getElem?_eq_none (by omega)] at hins
                have HR : Hid (o.take j ++ x :: o.drop j = ascC (c.take (k + 1))) := by rw [Hid, HASC.out, hins.2 (by intro h; cases h)]
                clear hins
                go_wp2_with fail
                refine region_ext (by kernel_rfl) (by kernel_rfl) ?_
                repeat (go_big_quiet_step (fail))
                refine wpQuiet_nil ?_
                rintro _ ⟨y, rfl⟩
                have hBy5 := hbj.trans (y.property.mono hbsi)
                have hBy := hB5.trans (hBy5.mono hbs5)
                have hown := HO5.out.kept hBy5

                clear g0 g1 g2 g3
                go_wp2_with fail
                go_quiet (fail)
                have hol : o.length ≤ 2048 := by omega
                have HYX : Hid (∀ q, Row (y.val.drewN q) g9 40 #[.int .i64 x.f, .int .i64 x.k, .int .i64 x.v, .bool x.d]) := fun q => (HX5.out.below hBy5 bl).below (Below.draws (Below.refl _ _) q) (Nat.lt_of_lt_of_le bl hBy5.size)
                have HOq : Hid (∀ q, Own (y.val.drewN q) w.heap.size 40 4 _ (chgs o)) := fun q => hown.kept (Below.draws (Below.refl _ _) q)
                go_wp2_with (at_builtin; go_loud ((refine wpList_append_sl rfl (.tmp 74) (.tmp 76) rfl rowChg w.heap.size _ _ _ [Chg.vals ⟨0, 0, 0, false⟩] rfl ((HOq.out _).alloc _) rfl (Sl.one rfl rfl) (chg_wide _) (by simp only [chgs_len, List.length_cons, List.length_nil]; unfold maxLen; omega) (by simp only [chgs_len, List.length_cons, List.length_nil]; omega) (size_Dalloc hBy.size) ?_); intro v7 w7 hown7 hg7 hv7; have hb7 := Own.grown ((HOq.out _).alloc _) ((Below.draws hBy _).alloc hBy.size _) hg7 (size_Dalloc hBy.size); have rx7 := ((HYX.out _).alloc _).keep hg7 (fun e => HNG.out e.symm); have hn7 := box_apart (HYX.out _).lt HNG.out hv7; obtain ⟨g, cap7, rfl, hcap7⟩ := hown7.some_form (by simp); simp only [List.length_append, chgs_len, List.length_cons, List.length_nil, Nat.zero_add] at hown7 hcap7 ⊢; have HNG7 : Hid (some g9 ≠ some g) := (fun e => hn7 e.symm); have HO7 := Lib.hid hown7; have HX7 := Lib.hid rx7; clear hown7 hg7 rx7 hv7 hn7))

                have hq9 : j < cap7 := by omega
                have hqa : ¬ cap7 = j := by omega
                have hqb : j ≤ o.length + 1 := by omega
                have hqc : j + 1 ≤ o.length + 1 := by omega
                have hqd : j + 1 ≤ cap7 := by omega
                have hqe : j ≤ cap7 := by omega
                have hqf : (j : Int) ≤ (o.length : Int) + 1 := by omega
                have i3 : (j : Int) < (cap7 : Int) := by omega

                by_cases hjc : cap7 = j + 1
                · subst hjc
                  have e1 : IntKind.i64.wrap ((j : Int) + 1) = (j : Int) + 1 := IntWalk.i64_in _ (by omega)
                  have e2 : ((j : Int) + 1).toNat = j + 1 := by omega
                  have e3 : (0 : Int) ≤ (j : Int) + 1 := by omega
                  go_wp2_with fail
                  refine region_tail 7 (by kernel_rfl) (by kernel_rfl) ?_
                  simp only [List.take_succ_cons, List.take_zero, List.drop_succ_cons, List.drop_zero]
                  repeat still_step
                  refine wpStill_nil ?_
                  clear e1 e2 e3
                  have ho7 := HO7.out.drew
                  have hb7' := hb7.drew
                  have rx7 : Row w7.drew g9 40 #[.int .i64 x.f, .int .i64 x.k, .int .i64 x.v, .bool x.d] := HX7.out
                  generalize w7.drew = w8 at ho7 hb7' rx7 ⊢
                  have hbs8 : w.heap.size ≤ w8.heap.size := hb7'.size
                  have HO8 := Lib.hid ho7
                  have HX8 := Lib.hid rx7
                  clear ho7 hb7 HO7 HX7 rx7
                  refine wpList_copy_ins rfl (.tmp 81) (.tmp 84) rfl rowChg HO8.out j (by omega) _ _ _ _ _ (by omega) (.inl (by omega)) (by omega) rfl rfl ?_; (intro w9 hown9 hg9; have hb9 := HO8.out.grown hb7' hg9 hbs8; have HO9 := Lib.hid hown9; obtain ⟨y0, y1, y2, y3, ⟨z0, z1, z2, z3⟩, u0, u1, u2, u3⟩ := hown9.four (j := j) (by rw [ins_len o j hj]; omega); have hl9 := (hown9.lt rfl).2; have rx9 := HX8.out.keep hg9 HNG7.out; obtain ⟨⟨b0, b1, b2, b3⟩, bl⟩ := box4 rx9; clear hown9 hg9 rx9)
                  go_wp2
                  go_roundw
                  case rel =>
                    have hst := HO9.out.store (by omega) j (by rw [ins_len o j hj]; omega) x.vals rfl (by simp [Chg.vals, Value.oneCell'])
                    rw [ins_chgs o x j hj] at hst
                    refine ⟨k + 1, _, by omega, by go_num, ?_, HR, hst.1, HO9.out.grown hb9 hst.2 hb9.size⟩
                    simp; omega
                  case measure => simp [intOf]; omega

                · have i4 : ((j : Int) + 1) < (cap7 : Int) := by omega
                  have e1 : IntKind.i64.wrap ((j : Int) + 1) = (j : Int) + 1 := IntWalk.i64_in _ (by omega)
                  have e2 : ((j : Int) + 1).toNat = j + 1 := by omega
                  have e3 : (0 : Int) ≤ (j : Int) + 1 := by omega
                  go_wp2_with fail
                  refine region_tail 7 (by kernel_rfl) (by kernel_rfl) ?_
                  simp only [List.take_succ_cons, List.take_zero, List.drop_succ_cons, List.drop_zero]
                  repeat still_step
                  refine wpStill_nil ?_
                  clear e1 e2 e3
                  have ho7 := HO7.out.drew
                  have hb7' := hb7.drew
                  have rx7 : Row w7.drew g9 40 #[.int .i64 x.f, .int .i64 x.k, .int .i64 x.v, .bool x.d] := HX7.out
                  generalize w7.drew = w8 at ho7 hb7' rx7 ⊢
                  have hbs8 : w.heap.size ≤ w8.heap.size := hb7'.size
                  have HO8 := Lib.hid ho7
                  have HX8 := Lib.hid rx7
                  clear ho7 hb7 HO7 HX7 rx7
                  refine wpList_copy_ins rfl (.tmp 81) (.tmp 84) rfl rowChg HO8.out j (by omega) _ _ _ _ _ (by omega) (.inr rfl) (by omega) rfl rfl ?_; (intro w9 hown9 hg9; have hb9 := HO8.out.grown hb7' hg9 hbs8; have HO9 := Lib.hid hown9; obtain ⟨y0, y1, y2, y3, ⟨z0, z1, z2, z3⟩, u0, u1, u2, u3⟩ := hown9.four (j := j) (by rw [ins_len o j hj]; omega); have hl9 := (hown9.lt rfl).2; have rx9 := HX8.out.keep hg9 HNG7.out; obtain ⟨⟨b0, b1, b2, b3⟩, bl⟩ := box4 rx9; clear hown9 hg9 rx9)
                  go_wp2
                  go_roundw
                  case rel =>
                    have hst := HO9.out.store (by omega) j (by rw [ins_len o j hj]; omega) x.vals rfl (by simp [Chg.vals, Value.oneCell'])
                    rw [ins_chgs o x j hj] at hst
                    refine ⟨k + 1, _, by omega, by go_num, ?_, HR, hst.1, HO9.out.grown hb9 hst.2 hb9.size⟩
                    simp; omega
                  case measure => simp [intOf]; omega
          · have hkb : k - a.length < b.length := by omega
            have hx := HCB.out k hkb hlt (by omega)
            obtain ⟨bk, off, rfl, hc0⟩ := (HB.out.below hb).cells (by rw [chgs_len]; omega)
            obtain ⟨d0, d1, d2, d3⟩ := hc0.chg hkb
            have dka : decide (k < a.length) = false := decide_eq_false hka
            have hbw := hc0.1
            have dk1 : (a.length : Int) ≤ (k : Int) := by omega
            have dk2 : ((k : Int) - (a.length : Int)) < (b.length : Int) := by omega
            have dk3 : ((k : Int) - (a.length : Int)).toNat = k - a.length := by omega
            rw [← hx] at d0 d1 d2 d3
            clear hc0 hx
            obtain ⟨x, hx⟩ : ∃ x, c[k] = x := ⟨_, rfl⟩
            rw [hx] at d0 d1 d2 d3 HASC
            clear hx
            go_wp2_with fail
            obtain ⟨W, hW⟩ : ∃ W : World, wo.alloc (.cells #[.int .i64 x.f, .int .i64 x.k, .int .i64 x.v, .bool x.d] 40) = W := ⟨_, rfl⟩
            have rx := Row.new wo 40 #[.int .i64 x.f, .int .i64 x.k, .int .i64 x.v, .bool x.d]
            have hbW := (Below.refl wo.heap.size wo).alloc (Nat.le_refl _) (.cells #[.int .i64 x.f, .int .i64 x.k, .int .i64 x.v, .bool x.d] 40)
            rw [hW] at rx hbW ⊢
            clear hW
            have ho5 := HO.out.kept hbW
            have hB5 := hb.trans (hbW.mono hbs)
            have hbs5 := hB5.size
            obtain ⟨⟨_, _, _, _⟩, bl⟩ := box4 rx
            have HX5 := Lib.hid rx
            have HNG : Hid (u8.ownBlock ≠ some wo.heap.size) := fun e => by have := (HO.out.lt e).2; omega
            obtain ⟨g9, hg9⟩ : ∃ g9, wo.heap.size = g9 := ⟨_, rfl⟩
            rw [hg9] at HX5 HNG bl ⊢
            clear HO rx d0 d1 d2 d3 hg9
            obtain ⟨A5, cap5, rfl⟩ := ho5.form
            rw [chgs_len] at ho5 HNG ⊢
            have HO5 := Lib.hid ho5
            clear ho5
            go_loopw [11] (fun i wr => MgQ W o x i wr) (fun i _ => o.length - (intOf i).toNat)
            case atStart => exact ⟨0, by omega, rfl, Below.refl _ _, fun i _ h => by omega⟩
            case round =>
              obtain ⟨j, hj, rfl, hbj, HJ⟩ := hrel
              obtain ⟨wi, rfl⟩ : ∃ wi : World, wi = wr := ⟨_, rfl⟩
              have hbsi := hbj.size
              obtain ⟨⟨t0, t1, t2, t3⟩, tl⟩ := box4 (HX5.out.below hbj bl)
              have g0 := ext_cell tl t0
              have g1 := ext_cell tl t1
              have g2 := ext_cell tl t2
              have g3 := ext_cell tl t3
              have hgl : ∀ y : Ext wi, Hid (g9 < y.val.heap.size) := fun y => Nat.lt_of_lt_of_le tl y.property.size
              clear t0 t1 t2 t3
              by_cases hjo : j < o.length
              · obtain ⟨g5, off5, rfl, hc5⟩ := ((HO5.out.kept hbj).sl (by omega)).cells (by rw [chgs_len]; omega)
                obtain ⟨q0, q1, q2, q3⟩ := hc5.chg hjo
                have hc5l := hc5.1
                have dl : decide (j < o.length) = true := decide_eq_true hjo
                have i2 : (j : Int) < (o.length : Int) := by omega
                obtain ⟨p, hp⟩ : ∃ p, o[j] = p := ⟨_, rfl⟩
                rw [hp] at q0 q1 q2 q3
                have HP := Lib.hid hp
                have r0 := ext_cell hc5l q0
                have r1 := ext_cell hc5l q1
                have r2 := ext_cell hc5l q2
                have r3 := ext_cell hc5l q3
                clear hp hc5 q0 q1 q2 q3
                have HCON := Lib.hid (fun y : Ext wi => refCompare_any p x y.val)
                obtain ⟨z, hz⟩ : ∃ z, cmpC p x = z := ⟨_, rfl⟩
                rw [hz] at HCON
                have HZ := Lib.hid hz
                clear hz
                cases hzz : decide (z < 0)
                · have HNL : Hid (¬ ltC p x) := fun h => by have := cmpC_neg.2 h; rw [HZ.out] at this; simp [this] at hzz
                  have hins := insC_at (c := x) hj HJ.out (fun _ => by rw [HP.out]; exact HNL.out)
                  rw [List.getElem?_eq_getElem hjo, HP.out] at hins
                  by_cases hpx : p = x
                  · have HR : Hid (o = ascC (c.take (k + 1))) := by rw [Hid, HASC.out, hins.1 (by rw [hpx])]
                    have E := fun W => eqC p x W
                    rw [decide_eq_true hpx] at E
                    clear hins hpx
                    go_wp2_with fail
                    refine region_ext (by kernel_rfl) (by kernel_rfl) ?_
                    repeat (go_big_quiet_step ((go_at_call 33; exact ext_call (HCON.out _))))
                    refine wpQuiet_nil ?_
                    rintro _ ⟨y, rfl⟩
                    have hBy5 := hbj.trans (y.property.mono hbsi)
                    have hBy := hB5.trans (hBy5.mono hbs5)
                    have hown := HO5.out.kept hBy5

                    have E2 := E
                    clear E g0 g1 g2 g3 r0 r1 r2 r3
                    obtain ⟨⟨t0, t1, t2, t3⟩, _⟩ := box4 (HX5.out.below hBy5 bl)
                    obtain ⟨g6, off6, hqq, hc6⟩ := (hown.sl (by omega)).cells (by rw [chgs_len]; omega)
                    simp only [Option.some.injEq, Addr.mk.injEq, and_true] at hqq
                    obtain ⟨rfl, rfl⟩ := hqq
                    obtain ⟨q0, q1, q2, q3⟩ := hc6.chg hjo
                    rw [HP.out] at q0 q1 q2 q3
                    clear hc6
                    go_wp2_with fail
                    go_quiet (fail)
                    go_wp2
                    go_roundw
                    case rel => exact ⟨k + 1, o, by omega, by go_num, by omega, HR, hown.kept (Below.draws (Below.refl _ _) _), Below.draws hBy _⟩
                    case measure => simp [intOf]; omega
                  · have HR : Hid (o.take j ++ x :: o.drop j = ascC (c.take (k + 1))) := by rw [Hid, HASC.out, hins.2 (by intro h; exact hpx (Option.some.inj h))]
                    have E := fun W => eqC p x W
                    rw [decide_eq_false hpx] at E
                    clear hins hpx
                    go_wp2_with fail
                    refine region_ext (by kernel_rfl) (by kernel_rfl) ?_
                    repeat (go_big_quiet_step ((go_at_call 33; exact ext_call (HCON.out _))))
                    refine wpQuiet_nil ?_
                    rintro _ ⟨y, rfl⟩
                    have hBy5 := hbj.trans (y.property.mono hbsi)
                    have hBy := hB5.trans (hBy5.mono hbs5)
                    have hown := HO5.out.kept hBy5

                    clear g0 g1 g2 g3 r0 r1 r2 r3
                    obtain ⟨⟨t0, t1, t2, t3⟩, _⟩ := box4 (HX5.out.below hBy5 bl)
                    obtain ⟨g6, off6, hqq, hc6⟩ := (hown.sl (by omega)).cells (by rw [chgs_len]; omega)
                    simp only [Option.some.injEq, Addr.mk.injEq, and_true] at hqq
                    obtain ⟨rfl, rfl⟩ := hqq
                    obtain ⟨q0, q1, q2, q3⟩ := hc6.chg hjo
                    rw [HP.out] at q0 q1 q2 q3
                    clear hc6
                    go_wp2_with fail
                    go_quiet (fail)
                    clear t0 t1 t2 t3 q0 q1 q2 q3 E
                    have hol : o.length ≤ 2048 := by omega
                    have HYX : Hid (∀ q, Row (y.val.drewN q) g9 40 #[.int .i64 x.f, .int .i64 x.k, .int .i64 x.v, .bool x.d]) := fun q => (HX5.out.below hBy5 bl).below (Below.draws (Below.refl _ _) q) (Nat.lt_of_lt_of_le bl hBy5.size)
                    have HOq : Hid (∀ q, Own (y.val.drewN q) w.heap.size 40 4 _ (chgs o)) := fun q => hown.kept (Below.draws (Below.refl _ _) q)
                    go_wp2_with (at_builtin; go_loud ((refine wpList_append_sl rfl (.tmp 74) (.tmp 76) rfl rowChg w.heap.size _ _ _ [Chg.vals ⟨0, 0, 0, false⟩] rfl ((HOq.out _).alloc _) rfl (Sl.one rfl rfl) (chg_wide _) (by simp only [chgs_len, List.length_cons, List.length_nil]; unfold maxLen; omega) (by simp only [chgs_len, List.length_cons, List.length_nil]; omega) (size_Dalloc hBy.size) ?_); intro v7 w7 hown7 hg7 hv7; have hb7 := Own.grown ((HOq.out _).alloc _) ((Below.draws hBy _).alloc hBy.size _) hg7 (size_Dalloc hBy.size); have rx7 := ((HYX.out _).alloc _).keep hg7 (fun e => HNG.out e.symm); have hn7 := box_apart (HYX.out _).lt HNG.out hv7; obtain ⟨g, cap7, rfl, hcap7⟩ := hown7.some_form (by simp); simp only [List.length_append, chgs_len, List.length_cons, List.length_nil, Nat.zero_add] at hown7 hcap7 ⊢; have HNG7 : Hid (some g9 ≠ some g) := (fun e => hn7 e.symm); have HO7 := Lib.hid hown7; have HX7 := Lib.hid rx7; clear hown7 hg7 rx7 hv7 hn7))

                    have hq9 : j < cap7 := by omega
                    have hqa : ¬ cap7 = j := by omega
                    have hqb : j ≤ o.length + 1 := by omega
                    have hqc : j + 1 ≤ o.length + 1 := by omega
                    have hqd : j + 1 ≤ cap7 := by omega
                    have hqe : j ≤ cap7 := by omega
                    have hqf : (j : Int) ≤ (o.length : Int) + 1 := by omega
                    have i3 : (j : Int) < (cap7 : Int) := by omega

                    have hjc : ¬ cap7 = j + 1 := by omega
                    have i4 : ((j : Int) + 1) < (cap7 : Int) := by omega

                    have e1 : IntKind.i64.wrap ((j : Int) + 1) = (j : Int) + 1 := IntWalk.i64_in _ (by omega)
                    have e2 : ((j : Int) + 1).toNat = j + 1 := by omega
                    have e3 : (0 : Int) ≤ (j : Int) + 1 := by omega
                    go_wp2_with fail
                    refine region_tail 7 (by kernel_rfl) (by kernel_rfl) ?_
                    simp only [List.take_succ_cons, List.take_zero, List.drop_succ_cons, List.drop_zero]
                    repeat still_step
                    refine wpStill_nil ?_
                    clear e1 e2 e3
                    have ho7 := HO7.out.drew
                    have hb7' := hb7.drew
                    have rx7 : Row w7.drew g9 40 #[.int .i64 x.f, .int .i64 x.k, .int .i64 x.v, .bool x.d] := HX7.out
                    generalize w7.drew = w8 at ho7 hb7' rx7 ⊢
                    have hbs8 : w.heap.size ≤ w8.heap.size := hb7'.size
                    have HO8 := Lib.hid ho7
                    have HX8 := Lib.hid rx7
                    clear ho7 hb7 HO7 HX7 rx7
                    refine wpList_copy_ins rfl (.tmp 81) (.tmp 84) rfl rowChg HO8.out j (by omega) _ _ _ _ _ (by omega) (.inr rfl) (by omega) rfl rfl ?_; (intro w9 hown9 hg9; have hb9 := HO8.out.grown hb7' hg9 hbs8; have HO9 := Lib.hid hown9; obtain ⟨y0, y1, y2, y3, ⟨z0, z1, z2, z3⟩, u0, u1, u2, u3⟩ := hown9.four (j := j) (by rw [ins_len o j hj]; omega); have hl9 := (hown9.lt rfl).2; have rx9 := HX8.out.keep hg9 HNG7.out; obtain ⟨⟨b0, b1, b2, b3⟩, bl⟩ := box4 rx9; clear hown9 hg9 rx9)
                    go_wp2
                    go_roundw
                    case rel =>
                      have hst := HO9.out.store (by omega) j (by rw [ins_len o j hj]; omega) x.vals rfl (by simp [Chg.vals, Value.oneCell'])
                      rw [ins_chgs o x j hj] at hst
                      refine ⟨k + 1, _, by omega, by go_num, ?_, HR, hst.1, HO9.out.grown hb9 hst.2 hb9.size⟩
                      simp; omega
                    case measure => simp [intOf]; omega

                · have HLT : Hid (ltC p x) := cmpC_neg.1 (by rw [HZ.out]; simpa using hzz)
                  have HN : Hid (∀ i (hi : i < o.length), i < j + 1 → ltC o[i] x) := fun i hi h => by
                    by_cases e : i = j
                    · subst e; rw [HP.out]; exact HLT.out
                    · exact HJ.out i hi (by omega)
                  go_wp2_with fail
                  refine region_ext (by kernel_rfl) (by kernel_rfl) ?_
                  repeat (go_big_quiet_step ((go_at_call 33; exact ext_call (HCON.out _))))
                  refine wpQuiet_nil ?_
                  rintro _ ⟨y, rfl⟩
                  have hBy5 := hbj.trans (y.property.mono hbsi)
                  have hBy := hB5.trans (hBy5.mono hbs5)
                  have hown := HO5.out.kept hBy5

                  go_wp2
                  go_roundw
                  case rel => exact ⟨j + 1, by omega, by go_num, hBy5, HN⟩
                  case measure => simp [intOf]; omega
              · have dl : decide (j < o.length) = false := decide_eq_false hjo
                have hins := insC_at (c := x) hj HJ.out (fun h => absurd h hjo)
                rw [List.getElem?_eq_none (by omega)] at hins
                have HR : Hid (o.take j ++ x :: o.drop j = ascC (c.take (k + 1))) := by rw [Hid, HASC.out, hins.2 (by intro h; cases h)]
                clear hins
                go_wp2_with fail
                refine region_ext (by kernel_rfl) (by kernel_rfl) ?_
                repeat (go_big_quiet_step (fail))
                refine wpQuiet_nil ?_
                rintro _ ⟨y, rfl⟩
                have hBy5 := hbj.trans (y.property.mono hbsi)
                have hBy := hB5.trans (hBy5.mono hbs5)
                have hown := HO5.out.kept hBy5

                clear g0 g1 g2 g3
                go_wp2_with fail
                go_quiet (fail)
                have hol : o.length ≤ 2048 := by omega
                have HYX : Hid (∀ q, Row (y.val.drewN q) g9 40 #[.int .i64 x.f, .int .i64 x.k, .int .i64 x.v, .bool x.d]) := fun q => (HX5.out.below hBy5 bl).below (Below.draws (Below.refl _ _) q) (Nat.lt_of_lt_of_le bl hBy5.size)
                have HOq : Hid (∀ q, Own (y.val.drewN q) w.heap.size 40 4 _ (chgs o)) := fun q => hown.kept (Below.draws (Below.refl _ _) q)
                go_wp2_with (at_builtin; go_loud ((refine wpList_append_sl rfl (.tmp 74) (.tmp 76) rfl rowChg w.heap.size _ _ _ [Chg.vals ⟨0, 0, 0, false⟩] rfl ((HOq.out _).alloc _) rfl (Sl.one rfl rfl) (chg_wide _) (by simp only [chgs_len, List.length_cons, List.length_nil]; unfold maxLen; omega) (by simp only [chgs_len, List.length_cons, List.length_nil]; omega) (size_Dalloc hBy.size) ?_); intro v7 w7 hown7 hg7 hv7; have hb7 := Own.grown ((HOq.out _).alloc _) ((Below.draws hBy _).alloc hBy.size _) hg7 (size_Dalloc hBy.size); have rx7 := ((HYX.out _).alloc _).keep hg7 (fun e => HNG.out e.symm); have hn7 := box_apart (HYX.out _).lt HNG.out hv7; obtain ⟨g, cap7, rfl, hcap7⟩ := hown7.some_form (by simp); simp only [List.length_append, chgs_len, List.length_cons, List.length_nil, Nat.zero_add] at hown7 hcap7 ⊢; have HNG7 : Hid (some g9 ≠ some g) := (fun e => hn7 e.symm); have HO7 := Lib.hid hown7; have HX7 := Lib.hid rx7; clear hown7 hg7 rx7 hv7 hn7))

                have hq9 : j < cap7 := by omega
                have hqa : ¬ cap7 = j := by omega
                have hqb : j ≤ o.length + 1 := by omega
                have hqc : j + 1 ≤ o.length + 1 := by omega
                have hqd : j + 1 ≤ cap7 := by omega
                have hqe : j ≤ cap7 := by omega
                have hqf : (j : Int) ≤ (o.length : Int) + 1 := by omega
                have i3 : (j : Int) < (cap7 : Int) := by omega

                by_cases hjc : cap7 = j + 1
                · subst hjc
                  have e1 : IntKind.i64.wrap ((j : Int) + 1) = (j : Int) + 1 := IntWalk.i64_in _ (by omega)
                  have e2 : ((j : Int) + 1).toNat = j + 1 := by omega
                  have e3 : (0 : Int) ≤ (j : Int) + 1 := by omega
                  go_wp2_with fail
                  refine region_tail 7 (by kernel_rfl) (by kernel_rfl) ?_
                  simp only [List.take_succ_cons, List.take_zero, List.drop_succ_cons, List.drop_zero]
                  repeat still_step
                  refine wpStill_nil ?_
                  clear e1 e2 e3
                  have ho7 := HO7.out.drew
                  have hb7' := hb7.drew
                  have rx7 : Row w7.drew g9 40 #[.int .i64 x.f, .int .i64 x.k, .int .i64 x.v, .bool x.d] := HX7.out
                  generalize w7.drew = w8 at ho7 hb7' rx7 ⊢
                  have hbs8 : w.heap.size ≤ w8.heap.size := hb7'.size
                  have HO8 := Lib.hid ho7
                  have HX8 := Lib.hid rx7
                  clear ho7 hb7 HO7 HX7 rx7
                  refine wpList_copy_ins rfl (.tmp 81) (.tmp 84) rfl rowChg HO8.out j (by omega) _ _ _ _ _ (by omega) (.inl (by omega)) (by omega) rfl rfl ?_; (intro w9 hown9 hg9; have hb9 := HO8.out.grown hb7' hg9 hbs8; have HO9 := Lib.hid hown9; obtain ⟨y0, y1, y2, y3, ⟨z0, z1, z2, z3⟩, u0, u1, u2, u3⟩ := hown9.four (j := j) (by rw [ins_len o j hj]; omega); have hl9 := (hown9.lt rfl).2; have rx9 := HX8.out.keep hg9 HNG7.out; obtain ⟨⟨b0, b1, b2, b3⟩, bl⟩ := box4 rx9; clear hown9 hg9 rx9)
                  go_wp2
                  go_roundw
                  case rel =>
                    have hst := HO9.out.store (by omega) j (by rw [ins_len o j hj]; omega) x.vals rfl (by simp [Chg.vals, Value.oneCell'])
                    rw [ins_chgs o x j hj] at hst
                    refine ⟨k + 1, _, by omega, by go_num, ?_, HR, hst.1, HO9.out.grown hb9 hst.2 hb9.size⟩
                    simp; omega
                  case measure => simp [intOf]; omega

                · have i4 : ((j : Int) + 1) < (cap7 : Int) := by omega
                  have e1 : IntKind.i64.wrap ((j : Int) + 1) = (j : Int) + 1 := IntWalk.i64_in _ (by omega)
                  have e2 : ((j : Int) + 1).toNat = j + 1 := by omega
                  have e3 : (0 : Int) ≤ (j : Int) + 1 := by omega
                  go_wp2_with fail
                  refine region_tail 7 (by kernel_rfl) (by kernel_rfl) ?_
                  simp only [List.take_succ_cons, List.take_zero, List.drop_succ_cons, List.drop_zero]
                  repeat still_step
                  refine wpStill_nil ?_
                  clear e1 e2 e3
                  have ho7 := HO7.out.drew
                  have hb7' := hb7.drew
                  have rx7 : Row w7.drew g9 40 #[.int .i64 x.f, .int .i64 x.k, .int .i64 x.v, .bool x.d] := HX7.out
                  generalize w7.drew = w8 at ho7 hb7' rx7 ⊢
                  have hbs8 : w.heap.size ≤ w8.heap.size := hb7'.size
                  have HO8 := Lib.hid ho7
                  have HX8 := Lib.hid rx7
                  clear ho7 hb7 HO7 HX7 rx7
                  refine wpList_copy_ins rfl (.tmp 81) (.tmp 84) rfl rowChg HO8.out j (by omega) _ _ _ _ _ (by omega) (.inr rfl) (by omega) rfl rfl ?_; (intro w9 hown9 hg9; have hb9 := HO8.out.grown hb7' hg9 hbs8; have HO9 := Lib.hid hown9; obtain ⟨y0, y1, y2, y3, ⟨z0, z1, z2, z3⟩, u0, u1, u2, u3⟩ := hown9.four (j := j) (by rw [ins_len o j hj]; omega); have hl9 := (hown9.lt rfl).2; have rx9 := HX8.out.keep hg9 HNG7.out; obtain ⟨⟨b0, b1, b2, b3⟩, bl⟩ := box4 rx9; clear hown9 hg9 rx9)
                  go_wp2
                  go_roundw
                  case rel =>
                    have hst := HO9.out.store (by omega) j (by rw [ins_len o j hj]; omega) x.vals rfl (by simp [Chg.vals, Value.oneCell'])
                    rw [ins_chgs o x j hj] at hst
                    refine ⟨k + 1, _, by omega, by go_num, ?_, HR, hst.1, HO9.out.grown hb9 hst.2 hb9.size⟩
                    simp; omega
                  case measure => simp [intOf]; omega
        · have hkc : c.take k = c := List.take_of_length_le (by omega)
          have HIE := HI.out
          rw [hkc] at HIE
          have HR : Hid (ascC (a ++ b) = o) := by rw [Hid, H40.out, ← HIE]
          clear hkc HIE HI
          rw [HR.out] at HE
          obtain ⟨A6, cap6, rfl⟩ := HO.out.form
          rw [chgs_len] at HO ⊢
          by_cases hbig : 1024 < o.length
          · have hb2 : (1024 : Int) < (o.length : Int) := by omega
            go_wp2
            go_ret2
            have e1 : mrgE a b = 3 := by rw [HE.out, if_pos hbig]
            rw [RetOwn2, e1, mrgC, if_neg (by rw [e1]; decide)]
            exact ⟨_, rfl, Own.nil _ _ _ _, hb⟩
          · have hb2 : ¬ (1024 : Int) < (o.length : Int) := by omega
            go_wp2
            go_ret2
            have e1 : mrgE a b = 0 := by rw [HE.out, if_neg hbig]
            rw [RetOwn2, e1, mrgC, if_pos e1, HR.out]
            exact ⟨_, rfl, HO.out, hb⟩
    · have HE : Hid (mrgE a b = validE b) := by rw [Hid, mrgE, if_pos h0, if_neg h1]
      obtain ⟨er, her⟩ : ∃ er, validE b = er := ⟨_, rfl⟩
      rw [her] at HE h1
      have H2 : Hid (∀ w1, Sl w1 4 (.slice A2 b.length c2) (chgs b) → Calls Try.prog 32 #[(.slice A2 b.length c2)] w1 fun e w' => e = .returned (.int .i64 er) ∧ Below w1.heap.size w1 w') := fun w1 h => by
        have := refValid_any (.slice A2 b.length c2) b w1 h
        rwa [her] at this
      have hne : (er != 0) = true := by simpa using h1
      have HN : Hid (er ≠ 0) := h1
      clear h0 h1 her
      go_enter Try.func18, Try.ntmps18
      go_wp2_with (go_at_call 32; (with_reducible refine H.out.mono ?_); rintro e w1 ⟨rfl, hb1⟩)
      go_wp2_with (go_at_call 32; (with_reducible refine (H2.out _ (HB.out.below hb1)).mono ?_); rintro e w2 ⟨rfl, hb2⟩; have hB2 := hb1.trans (hb2.mono hb1.size))
      go_ret2
      rw [RetOwn2, HE.out, mrgC, if_neg (by rw [HE.out]; exact HN.out)]
      exact ⟨_, rfl, Own.nil _ _ _ _, hB2⟩
  · have HE : Hid (mrgE a b = validE a) := by rw [Hid, mrgE, if_neg h0]
    obtain ⟨er, her⟩ : ∃ er, validE a = er := ⟨_, rfl⟩
    rw [her] at V HE h0
    have hne : (er != 0) = true := by simpa using h0
    have HN : Hid (er ≠ 0) := h0
    have H := Lib.hid V
    clear V her h0
    go_enter Try.func18, Try.ntmps18
    go_wp2_with (go_at_call 32; (with_reducible refine H.out.mono ?_); rintro e w1 ⟨rfl, hb1⟩)
    go_ret2
    rw [RetOwn2, HE.out, mrgC, if_neg (by rw [HE.out]; exact HN.out)]
    exact ⟨_, rfl, Own.nil _ _ _ _, hb1⟩
end Go.Proofs.Ytnmbaeahnfbfiaa
