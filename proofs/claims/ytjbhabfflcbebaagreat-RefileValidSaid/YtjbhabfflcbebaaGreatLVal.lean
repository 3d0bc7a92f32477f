/- The law RefileValid: it returns true. Written by gen_lval.py. -/
import Derived.Test.YtjbhabfflcbebaaGreatBaB
import Derived.Test.YtjbhabfflcbebaaGreatBaA
import Derived.Deep.CutBlock
import Derived.Deep.DeepCutAuto
namespace Go.Proofs.YtjbhabfflcbebaaGreat
open Go.RowKit Go.Shelf

def at4 (a b c d : Int) (k : Nat) : Int := match k with | 0 => a | 1 => b | 2 => c | _ => d
theorem row4_new (W : World) (t : TypeId) (a b c d : Int) {k : Nat} (hk : k < 4) : (W.alloc (.cells #[.int .i64 a, .int .i64 b, .int .i64 c, .int .i64 d] t)).cell? ⟨W.heap.size, k, none⟩ = some (.int .i64 (at4 a b c d k)) := by
  rw [World.cell?_alloc_new]
  match k, hk with
  | 0, _ => rfl
  | 1, _ => rfl
  | 2, _ => rfl
  | 3, _ => rfl
/-- the drawn returns and the deck -/
structure VaS (w : World) (D base d : Nat) (vx : Value) (ps : List (Ret × Value)) (W : World) : Prop where
  below : Below w.heap.size w W
  own : RetsOwn W base vx ps
  deck : Deck W D d
  few : ∀ q ∈ ps, q.1.l.length ≤ 20
  lo : w.heap.size ≤ D
  hi : D < base
  sz : base ≤ W.heap.size
theorem VaS.to {w W W' : World} {D base d : Nat} {vx : Value} {ps : List (Ret × Value)} (h : VaS w D base d vx ps W) (hb : Below W.heap.size W W') : VaS w D base d vx ps W' :=
  ⟨below_after h.below hb h.below.size, h.own.kept hb, h.deck.below hb, h.few, h.lo, h.hi, Nat.le_trans h.sz hb.size⟩
theorem VaS.draw {w W W' : World} {D base d d' : Nat} {vx : Value} {ps : List (Ret × Value)} (h : VaS w D base d vx ps W) (hd : Deck W' D d') (hg : W.grownBy W' (some D)) : VaS w D base d' vx ps W' :=
  ⟨h.below.grown hg h.below.size (fun g hg => by cases hg; exact h.lo), h.own.keepD hg h.hi, hd, h.few, h.lo, h.hi, Nat.le_trans h.sz hg.size⟩
/-- one field of a return is stored -/
theorem VaS.put {w W : World} {D base d g n cap : Nat} {ps : List (Ret × Value)} (h : VaS w D base d (.slice (some ⟨g, 0, none⟩) n cap) ps W) {j : Nat} (hj : j < ps.length) (k : Nat) (hk : k < 3) (u : Value) (hu : u.oneCell' = true) (r : Ret) (v : Value)
    (he : (((ps[j]).1.vals (ps[j]).2).toList).set k u = (r.vals v).toList) (hl : Own W base 51 3 v (lns r.l)) (hr : r.l.length ≤ 20) :
    VaS w D base d (.slice (some ⟨g, 0, none⟩) n cap) (ps.set j (r, v)) (W.setCell ⟨g, j * 3 + k, none⟩ u) := by
  obtain ⟨h1, h2⟩ := h.own.own.set1 (by omega) j (rets_at hj) k hk u hu
  have hgb : base ≤ g := (h.own.own.1.lt g rfl).1
  have hw := h.lo
  have hd := h.hi
  refine ⟨h.below.grown h2 h.below.size (fun x hx => by injection hx with hx; omega), ⟨?_, fun p hp => ?_⟩, h.deck.keep h2 (fun x hx => by injection hx with hx; omega), fun q hq => ?_, h.lo, h.hi, Nat.le_trans h.sz h2.size⟩
  · have e : rets (ps.set j (r, v)) = (rets ps).set j ((((ps[j]).1.vals (ps[j]).2).toList).set k u) := by rw [he, rets, rets, List.map_set]
    rw [e]; exact h1
  · rcases List.mem_or_eq_of_mem_set hp with hp | rfl
    · exact (h.own.ln p hp).keepG h2 (own_types (h.own.ln p hp) h.own.own (by decide))
    · exact hl.keepG h2 (own_types hl h.own.own (by decide))
  · rcases List.mem_or_eq_of_mem_set hq with hq | rfl
    · exact h.few q hq
    · exact hr
/-- what a store into a return wants -/
theorem VaS.cells {w W : World} {D base d g n cap : Nat} {ps : List (Ret × Value)} (h : VaS w D base d (.slice (some ⟨g, 0, none⟩) n cap) ps W) {j : Nat} (hj : j < ps.length) :
    (W.cell? ⟨g, j * 3, none⟩ = some (.int .i64 (ps[j]).1.p) ∧ W.cell? ⟨g, j * 3 + 1, none⟩ = some (.int .i64 (ps[j]).1.v) ∧ W.cell? ⟨g, j * 3 + 2, none⟩ = some (ps[j]).2 ∧ g < W.heap.size) ∧ (∀ i, W.frozen? ⟨g, i, none⟩ = false) := by
  obtain ⟨b, off, hA, hc⟩ := (h.own.own.sl (by omega)).cells (by rw [rets_len]; omega)
  injection hA with hA
  injection hA with h1 h2
  subst h1 h2
  obtain ⟨c0, c1, c2⟩ := hc.ret hj
  rw [Nat.zero_add] at c0 c1 c2
  exact ⟨⟨c0, c1, c2, hc.1⟩, fun i => h.own.own.frozenE i⟩
/-- a box with a return whose lines are the call's own -/
structure BxR (D base : Nat) (W : World) (m : Nat) (f : Ret) (v : Value) : Prop where
  row : Row W m 32 #[.int .i64 f.p, .int .i64 f.v, v]
  own : Own W base 51 3 v (lns f.l)
  d : D < base
  m : D < m
theorem BxR.to {D base m : Nat} {W W' : World} {f : Ret} {v : Value} (h : BxR D base W m f v) (hb : Below W.heap.size W W') : BxR D base W' m f v := ⟨h.row.below hb h.row.lt, h.own.kept hb, h.d, h.m⟩
theorem BxR.draw {D base m : Nat} {W W' : World} {f : Ret} {v : Value} (h : BxR D base W m f v) (hg : W.grownBy W' (some D)) : BxR D base W' m f v :=
  ⟨h.row.keep hg (fun e => by injection e with e; have := h.m; omega), h.own.keepD2 hg h.d, h.d, h.m⟩
theorem BxR.new {D base : Nat} {W w4 : World} {f : Ret} {v : Value} (hown : Own w4 W.heap.size 51 3 v (lns f.l)) (hb : base ≤ W.heap.size) (hs : W.heap.size ≤ w4.heap.size) (hD : D < base) : BxR D base (w4.alloc (.cells #[.int .i64 f.p, .int .i64 f.v, v] 32)) w4.heap.size f v :=
  ⟨Row.new _ _ _, (hown.more hb).alloc _, hD, by omega⟩
/-- all that the last region reads -/
structure FinS (w : World) (D base d : Nat) (vx : Value) (qs : List (Ret × Value)) (m1 m2 m3 m4 : Nat) (f p q : Ret) (u1 u2 u3 u4 : Value) (W : World) : Prop where
  vs : VaS w D base d vx qs W
  b1 : BxR D base W m1 f u1
  b2 : BxR D base W m2 f u2
  b3 : BxR D base W m3 p u3
  b4 : BxR D base W m4 q u4
theorem FinS.to {w : World} {D base d : Nat} {vx : Value} {qs : List (Ret × Value)} {m1 m2 m3 m4 : Nat} {f p q : Ret} {u1 u2 u3 u4 : Value} {W W' : World} (h : FinS w D base d vx qs m1 m2 m3 m4 f p q u1 u2 u3 u4 W) (hb : Below W.heap.size W W') :
    FinS w D base d vx qs m1 m2 m3 m4 f p q u1 u2 u3 u4 W' := ⟨h.vs.to hb, h.b1.to hb, h.b2.to hb, h.b3.to hb, h.b4.to hb⟩
theorem lat_few {ps : List (Ret × Value)} (h : ∀ q ∈ ps, q.1.l.length ≤ 20) (p : Int) : (latP (ps.map (·.1)) p).l.length ≤ 20 := by
  cases hh : hasP (ps.map (·.1)) p
  · rw [latP_no hh]; simp
  · obtain ⟨y, hy, e⟩ := List.mem_map.1 (latP_mem hh).1
    rw [← e]
    exact h y hy
theorem RetsOwn.form {w : World} {base : Nat} {v : Value} {ps : List (Ret × Value)} (h : RetsOwn w base v ps) (h0 : 0 < ps.length) : ∃ g cap, v = .slice (some ⟨g, 0, none⟩) ps.length cap := by
  obtain ⟨g, cap, e, _⟩ := h.own.1.form (by rw [rets_len]; exact h0)
  rw [rets_len] at e
  exact ⟨g, cap, e⟩

set_option maxRecDepth 100000 in
set_option maxHeartbeats 16000000 in
theorem RefileValid_any (vr : Value) (rs : List (Ret × Value)) (v : Value) (zs : List Int) (at' field bY period : Int) (w : World) (hr : RetsAt w vr rs) (hv : Sl w 1 v (ints zs)) :
    Calls Tryz.prog 3 #[vr, v, .int .i64 at', .int .i64 field, .int .i64 bY, .int .i64 period] w fun e w' => e = .returned (.bool true) ∧ Below w.heap.size w w' := by
  have HR := Lib.hid hr
  have HV := Lib.hid hv
  have HSH := Lib.hid (short_any rs vr w hr)
  obtain ⟨Ar, cr, rfl, hr1, hr2, _, _⟩ := hr.sl
  rw [rets_len] at hr1 HR HSH ⊢
  unfold maxLen at hr2
  obtain ⟨A0, c0, rfl, -⟩ := hv
  clear hr
  cases hs : shortRs (rs.map (·.1))
  · rw [hs] at HSH
    go_enter Tryz.func3, Tryz.ntmps3
    go_wp2_with fail
    refine HSH.out.mono ?_
    rintro e w1 ⟨rfl, hb1⟩
    go_wp2_with fail
    refine (awake_any _).mono ?_
    rintro e w2 ⟨rfl, hb2⟩
    go_wp2
    go_ret
    exact ⟨rfl, below_after hb1 hb2 hb1.size⟩
  rw [hs] at HSH
  have HRF : Hid (rs.length ≤ 20 ∧ ∀ q ∈ rs, q.1.l.length ≤ 20) := by
    have := shortRs_len hs
    rw [List.length_map] at this
    exact ⟨this.1, fun q hq => this.2 _ (List.mem_map.2 ⟨q, hq, rfl⟩)⟩
  clear hs
  go_enter Tryz.func3, Tryz.ntmps3
  go_wp2_with fail
  refine HSH.out.mono ?_
  rintro e w1 ⟨rfl, hb1⟩
  have hlo1 := hb1.size
  go_wp2_with fail
  refine (new_any _ zs w1 (HV.out.below hb1)).mono ?_
  rintro e w2 ⟨rfl, hd2, hb2⟩
  obtain ⟨D, hD⟩ : ∃ D, w1.heap.size = D := ⟨_, rfl⟩
  have hB2 := below_after hb1 hb2 hb1.size
  rw [hD] at hd2 hlo1 ⊢
  clear hD hb1 hb2
  go_wp2_with fail
  refine (Returns_any D 0 5 w2 hd2 (by omega) (by omega)).mono ?_
  rintro e w3 ⟨vx, ps, d3, rfl, hG, hpl, hro3, hd3, hdd3, hg3⟩
  have HS3 : Hid (VaS w D w2.heap.size d3 vx ps w3) := ⟨hB2.grown hg3 hB2.size (fun g hg => by cases hg; exact hlo1), hro3, hd3, fun q hq => by have := (hG.mem (List.mem_map.2 ⟨q, hq, rfl⟩)).2.2; omega, hlo1, hd2.lt, hg3.size⟩
  obtain ⟨Ax, cx, rfl⟩ := hro3.own.form
  rw [rets_len] at HS3 ⊢
  have hs23 := hg3.size
  have hDB := hd2.lt
  clear hG hro3 hd3 hg3 hB2 HSH
  go_upto_if 34 with (fail)
  go_cut [14] (fun s wx => s = .slice Ax ps.length cx ∧ ∃ qs d, Hid (VaS w D w2.heap.size d (.slice Ax ps.length cx) qs wx) ∧ qs.length = ps.length ∧ d ≤ 100)
  case first =>
    by_cases h0 : 0 < ps.length
    · have i0 : (0 : Int) < (ps.length : Int) := by omega
      obtain ⟨g, cap, hgx⟩ := HS3.out.own.form h0
      injection hgx with e1 e2 e3
      subst e1
      clear e2 e3
      have HM := Lib.hid (Mod_any at' (ps.length : Int) w3 i0 (by omega))
      obtain ⟨j, hj⟩ : ∃ j : Nat, (j : Int) = at' % (ps.length : Int) := ⟨(at' % (ps.length : Int)).toNat, by have := Int.emod_nonneg at' (show (ps.length : Int) ≠ 0 by omega); omega⟩
      have hjl : j < ps.length := by have := Int.emod_lt_of_pos at' i0; omega
      have j1 : (j : Int) < (ps.length : Int) := by omega
      rw [← hj] at HM
      clear hj
      go_wp2_with fail
      refine HM.out.mono ?_
      rintro e w4 ⟨rfl, rfl⟩
      clear HM
      go_wp2_with fail
      refine (Mod_any _ _ _ (by omega) (by omega)).mono ?_
      rintro e w4 ⟨rfl, rfl⟩
      obtain ⟨q, hq⟩ : ∃ q : Int, field % 4 = q := ⟨_, rfl⟩
      have hq1 : 0 ≤ q := by omega
      have hq2 : q < 4 := by omega
      rw [hq]
      clear hq
      obtain ⟨⟨c0', c1', c2', cl⟩, hfz⟩ := HS3.out.cells hjl
      have f0 := hfz (j * 3)
      have f1 := hfz (j * 3 + 1)
      have f2 := hfz (j * 3 + 2)
      have HPJ : Hid (((ps[j]).1.vals (ps[j]).2).toList = [.int .i64 (ps[j]).1.p, .int .i64 (ps[j]).1.v, (ps[j]).2]) := rfl
      have HLJ := Lib.hid (HS3.out.own.ln _ (List.getElem_mem hjl))
      have HFJ := Lib.hid (HS3.out.few _ (List.getElem_mem hjl))
      have HPUT := Lib.hid (fun (W : World) (hW : Below w3.heap.size w3 W) k hk u hu r v => (HS3.out.to hW).put hjl k hk u hu r v)
      obtain ⟨⟨⟨p0, v0, l0⟩, u0⟩, hx⟩ : ∃ x, ps[j]'hjl = x := ⟨_, rfl⟩
      rw [hx] at c0' c1' c2' HPJ HLJ HFJ HPUT
      simp only at c0' c1' c2'
      obtain ⟨Au, nu, cu, rfl⟩ := HLJ.out.slc
      clear hx hfz
      by_cases q0 : q = 0
      · subst q0
        have m0 := Int.emod_nonneg bY (show (3 : Int) ≠ 0 by omega)
        have m1 := Int.emod_lt_of_pos bY (show (0 : Int) < 3 by omega)
        obtain ⟨m, hm⟩ : ∃ m, bY % 3 = m := ⟨_, rfl⟩
        have HM : Hid (∀ W, Calls Tryz.prog 9 #[.int .i64 bY, .int .i64 3] W fun e w' => e = .returned (.int .i64 m) ∧ W = w') := fun W => by
          rw [← hm]; exact Mod_any bY 3 W (by omega) (by omega)
        rw [hm] at m0 m1
        have ew : IntKind.i64.wrap (m - 1) = m - 1 := IntWalk.i64_in _ (by omega)
        clear hm
        go_wp2_with fail
        go_region_law (go_simp; refine (HM.out _).mono ?_; rintro e w8 ⟨rfl, rfl⟩)
        all_goals
          go_wp2_with fail
          go_meet
          exact ⟨rfl, _, d3, (HPUT.out w3 (Below.refl _ _) 1 (by omega) (.int .i64 (IntKind.i64.wrap (v0 + (m - 1)))) rfl ⟨p0, IntKind.i64.wrap (v0 + (m - 1)), l0⟩ (.slice Au nu cu) rfl HLJ.out HFJ.out).to (Below.refl _ _).drew, by rw [List.length_set], by omega⟩
      have d0 : (q == 0) = false := by simpa using q0
      by_cases q1 : q = 1
      · subst q1
        obtain ⟨k, hk⟩ : ∃ k : Nat, (k : Int) = bY % 4 := ⟨(bY % 4).toNat, by have := Int.emod_nonneg bY (show (4 : Int) ≠ 0 by omega); omega⟩
        have hk4 : k < 4 := by have := Int.emod_lt_of_pos bY (show (0 : Int) < 4 by omega); omega
        have hki : (k : Int) < 4 := by omega
        have HM : Hid (∀ W, Calls Tryz.prog 9 #[.int .i64 bY, .int .i64 4] W fun e w' => e = .returned (.int .i64 k) ∧ W = w') := fun W => by
          rw [hk]; exact Mod_any bY 4 W (by omega) (by omega)
        clear hk
        have c4 := row4_new w3 3 (-1) 0 84005 84006 hk4
        obtain ⟨z, hz⟩ : ∃ z, at4 (-1) 0 84005 84006 k = z := ⟨_, rfl⟩
        rw [hz] at c4
        clear hz
        go_wp2_with fail
        refine (HM.out _).mono ?_
        rintro e w8 ⟨rfl, rfl⟩
        go_wp2_with fail
        go_meet
        have H8 := HPUT.out w3 (Below.refl _ _) 0 (by omega) (.int .i64 z) rfl ⟨z, v0, l0⟩ (.slice Au nu cu) rfl HLJ.out HFJ.out
        rw [Nat.add_zero] at H8
        exact ⟨rfl, _, d3, H8.to ((Below.refl _ _).alloc (Nat.le_refl _) _), by rw [List.length_set], by omega⟩
      have d1 : (q == 1) = false := by simpa using q1
      by_cases q2 : q = 2
      · subst q2
        clear c0' c1' c2' cl f0 f1 f2
        go_wp2_with fail
        refine (Lines_any D d3 3 w3 HS3.out.deck (by omega) (by omega)).mono ?_
        rintro e w8 ⟨y, l8, d8, rfl, -, hl8, hown8, hd8, hdd8, hg8⟩
        have HS8 := Lib.hid (HS3.out.draw hd8 hg8)
        obtain ⟨A8, c8, rfl⟩ := hown8.form
        rw [lns_len] at hown8 ⊢
        obtain ⟨⟨c0', c1', c2', cl⟩, hfz⟩ := HS8.out.cells hjl
        have f2 := hfz (j * 3 + 2)
        have H8 := Lib.hid (HS8.out.put hjl 2 (by omega) (.slice A8 l8.length c8) rfl ⟨(ps[j]'hjl).1.p, (ps[j]'hjl).1.v, l8⟩ (.slice A8 l8.length c8) rfl (hown8.more hs23) (by simp only; omega))
        clear hown8 hd8 hg8 hfz c0' c1'
        go_wp2_with fail
        go_meet
        exact ⟨rfl, _, d8, H8.out, by rw [List.length_set], by omega⟩
      have d2 : (q == 2) = false := by simpa using q2
      go_wp2_with fail
      go_meet
      exact ⟨rfl, ps, d3, HS3.out, rfl, by omega⟩
    · have i0 : ¬ (0 : Int) < (ps.length : Int) := by omega
      go_wp2_with fail
      go_meet
      exact ⟨rfl, ps, d3, HS3.out, rfl, by omega⟩
  case rest =>
    obtain ⟨rfl, qs, d, HS, hql, hd⟩ := hcut
    obtain ⟨wc0, rfl⟩ : ∃ wo : World, wo = wc := ⟨_, rfl⟩
    clear HS3 hdd3
    have hql5 : qs.length ≤ 5 := by omega
    rw [← hql] at HS ⊢
    clear hql hpl
    obtain ⟨f, hf⟩ : ∃ f, latP (rs.map (·.1)) period = f := ⟨_, rfl⟩
    obtain ⟨hh, hhh⟩ : ∃ h, hasP (rs.map (·.1)) period = h := ⟨_, rfl⟩
    have hfl := lat_few HRF.out.2 period
    rw [hf] at hfl
    have HC4 := Lib.hid (RLatest_any rs _ period wc0 (HR.out.below HS.out.below) (fun q hq => by have := HRF.out.2 q hq; omega) (by have := HRF.out.1; omega))
    go_wp2_with fail
    refine HC4.out.mono ?_
    rintro e w4 ⟨u4, rfl, hown4, hb4⟩
    clear HC4
    rw [hf, hhh]
    rw [hf] at hown4
    obtain ⟨A4, c4, rfl⟩ := hown4.form
    rw [lns_len] at hown4 ⊢
    have hgv : f.vals (.slice A4 f.l.length c4) = #[.int .i64 f.p, .int .i64 f.v, .slice A4 f.l.length c4] := rfl
    rw [hgv]
    have hal := (Below.refl w4.heap.size w4).alloc (Nat.le_refl _) (.cells #[.int .i64 f.p, .int .i64 f.v, .slice A4 f.l.length c4] 32)
    have hN := Lib.hid (BxR.new (D := D) (base := w2.heap.size) hown4 HS.out.sz hb4.size HS.out.hi)
    have HS' := Lib.hid ((HS.out.to hb4).to hal)
    obtain ⟨W4, hW4⟩ : ∃ W, w4.alloc (.cells #[.int .i64 f.p, .int .i64 f.v, .slice A4 f.l.length c4] 32) = W := ⟨_, rfl⟩
    obtain ⟨m4, hm4⟩ : ∃ m, w4.heap.size = m := ⟨_, rfl⟩
    rw [hW4, hm4] at hN
    rw [hW4] at HS'
    clear hgv hal hown4 hb4 HS
    have HS := Lib.hid HS'.out
    clear HS'
    have HX4 := Lib.hid hN.out
    clear hN
    go_upto_region 15 with (fail)
    clear hW4 hm4
    have HC5 := Lib.hid (Latest_any rs _ period W4 (HR.out.below HS.out.below) (fun q hq => by have := HRF.out.2 q hq; omega))
    go_wp2_with fail
    refine HC5.out.mono ?_
    rintro e w5 ⟨u5, rfl, hown5, hb5⟩
    clear HC5
    rw [hf, hhh]
    rw [hf] at hown5
    obtain ⟨A5, c5, rfl⟩ := hown5.form
    rw [lns_len] at hown5 ⊢
    have hgv : f.vals (.slice A5 f.l.length c5) = #[.int .i64 f.p, .int .i64 f.v, .slice A5 f.l.length c5] := rfl
    rw [hgv]
    have hal := (Below.refl w5.heap.size w5).alloc (Nat.le_refl _) (.cells #[.int .i64 f.p, .int .i64 f.v, .slice A5 f.l.length c5] 32)
    have hN := Lib.hid (BxR.new (D := D) (base := w2.heap.size) hown5 HS.out.sz hb5.size HS.out.hi)
    have HS' := Lib.hid ((HS.out.to hb5).to hal)
    have HX4' := Lib.hid ((HX4.out.to hb5).to hal)
    obtain ⟨W5, hW5⟩ : ∃ W, w5.alloc (.cells #[.int .i64 f.p, .int .i64 f.v, .slice A5 f.l.length c5] 32) = W := ⟨_, rfl⟩
    obtain ⟨m5, hm5⟩ : ∃ m, w5.heap.size = m := ⟨_, rfl⟩
    rw [hW5, hm5] at hN
    rw [hW5] at HS'
    rw [hW5] at HX4'
    clear hgv hal hown5 hb5 HS HX4
    have HS := Lib.hid HS'.out
    clear HS'
    have HX4 := Lib.hid HX4'.out
    clear HX4'
    have HX5 := Lib.hid hN.out
    clear hN
    go_upto_region 16 with (fail)
    clear hW5 hm5 hf hhh
    have HC := Lib.hid (Next_any D d 3 W5 HS.out.deck (by omega) (by omega) (by omega))
    go_wp2_with fail
    refine HC.out.mono ?_
    rintro e W6 ⟨n, ⟨hn0, hn1⟩, rfl, hd6, hg6⟩
    have HS' := Lib.hid (HS.out.draw hd6 hg6)
    have HX4' := Lib.hid (HX4.out.draw hg6)
    have HX5' := Lib.hid (HX5.out.draw hg6)
    clear HC HS HX4 HX5 hd6 hg6
    have HS := Lib.hid HS'.out
    have HX4 := Lib.hid HX4'.out
    have HX5 := Lib.hid HX5'.out
    clear HS' HX4' HX5'
    obtain ⟨p, hp⟩ : ∃ p, latP (qs.map (·.1)) n = p := ⟨_, rfl⟩
    obtain ⟨yes, hyes⟩ : ∃ h, hasP (qs.map (·.1)) n = h := ⟨_, rfl⟩
    have hpl := lat_few HS.out.few n
    rw [hp] at hpl
    have HC7 := Lib.hid (RLatest_any qs _ n W6 HS.out.own.at (fun q hq => by have := HS.out.few q hq; omega) (by omega))
    go_wp2_with fail
    refine HC7.out.mono ?_
    rintro e w7 ⟨u7, rfl, hown7, hb7⟩
    clear HC7
    rw [hp, hyes]
    rw [hp] at hown7
    obtain ⟨A7, c7, rfl⟩ := hown7.form
    rw [lns_len] at hown7 ⊢
    have hgv : p.vals (.slice A7 p.l.length c7) = #[.int .i64 p.p, .int .i64 p.v, .slice A7 p.l.length c7] := rfl
    rw [hgv]
    have hal := (Below.refl w7.heap.size w7).alloc (Nat.le_refl _) (.cells #[.int .i64 p.p, .int .i64 p.v, .slice A7 p.l.length c7] 32)
    have hN := Lib.hid (BxR.new (D := D) (base := w2.heap.size) hown7 HS.out.sz hb7.size HS.out.hi)
    have HS' := Lib.hid ((HS.out.to hb7).to hal)
    have HX4' := Lib.hid ((HX4.out.to hb7).to hal)
    have HX5' := Lib.hid ((HX5.out.to hb7).to hal)
    obtain ⟨W7, hW7⟩ : ∃ W, w7.alloc (.cells #[.int .i64 p.p, .int .i64 p.v, .slice A7 p.l.length c7] 32) = W := ⟨_, rfl⟩
    obtain ⟨m7, hm7⟩ : ∃ m, w7.heap.size = m := ⟨_, rfl⟩
    rw [hW7, hm7] at hN
    rw [hW7] at HS'
    rw [hW7] at HX4'
    rw [hW7] at HX5'
    clear hgv hal hown7 hb7 HS HX4 HX5
    have HS := Lib.hid HS'.out
    clear HS'
    have HX4 := Lib.hid HX4'.out
    clear HX4'
    have HX5 := Lib.hid HX5'.out
    clear HX5'
    have HX7 := Lib.hid hN.out
    clear hN
    have HYN : Hid (yes = true → latP (qs.map (·.1)) p.p = p ∧ hasP (qs.map (·.1)) p.p = true) := fun h => by
      have e : p.p = n := by rw [← hp]; exact (latP_mem (hyes.trans h)).2
      rw [e]
      exact ⟨hp, hyes.trans h⟩
    go_upto_region 17 with (fail)
    clear hW7 hm7 hp hyes
    obtain ⟨q, hq⟩ : ∃ p', latP (qs.map (·.1)) p.p = p' := ⟨_, rfl⟩
    obtain ⟨so, hso⟩ : ∃ h, hasP (qs.map (·.1)) p.p = h := ⟨_, rfl⟩
    have hqll := lat_few HS.out.few p.p
    rw [hq] at hqll
    rw [hq, hso] at HYN
    obtain ⟨⟨x0, x1, x2, xl⟩, -⟩ := row3 HX7.out.row
    have HC8 := Lib.hid (Latest_any qs _ p.p W7 HS.out.own.at (fun q hq => by have := HS.out.few q hq; omega))
    go_wp2_with fail
    refine HC8.out.mono ?_
    rintro e w8 ⟨u8, rfl, hown8, hb8⟩
    clear HC8
    rw [hq, hso]
    rw [hq] at hown8
    obtain ⟨A8, c8, rfl⟩ := hown8.form
    rw [lns_len] at hown8 ⊢
    clear x0 x1 x2 xl
    have hgv : q.vals (.slice A8 q.l.length c8) = #[.int .i64 q.p, .int .i64 q.v, .slice A8 q.l.length c8] := rfl
    rw [hgv]
    have hal := (Below.refl w8.heap.size w8).alloc (Nat.le_refl _) (.cells #[.int .i64 q.p, .int .i64 q.v, .slice A8 q.l.length c8] 32)
    have hN := Lib.hid (BxR.new (D := D) (base := w2.heap.size) hown8 HS.out.sz hb8.size HS.out.hi)
    have HS' := Lib.hid ((HS.out.to hb8).to hal)
    have HX4' := Lib.hid ((HX4.out.to hb8).to hal)
    have HX5' := Lib.hid ((HX5.out.to hb8).to hal)
    have HX7' := Lib.hid ((HX7.out.to hb8).to hal)
    obtain ⟨W8, hW8⟩ : ∃ W, w8.alloc (.cells #[.int .i64 q.p, .int .i64 q.v, .slice A8 q.l.length c8] 32) = W := ⟨_, rfl⟩
    obtain ⟨m8, hm8⟩ : ∃ m, w8.heap.size = m := ⟨_, rfl⟩
    rw [hW8, hm8] at hN
    rw [hW8] at HS'
    rw [hW8] at HX4'
    rw [hW8] at HX5'
    rw [hW8] at HX7'
    clear hgv hal hown8 hb8 HS HX4 HX5 HX7
    have HS := Lib.hid HS'.out
    clear HS'
    have HX4 := Lib.hid HX4'.out
    clear HX4'
    have HX5 := Lib.hid HX5'.out
    clear HX5'
    have HX7 := Lib.hid HX7'.out
    clear HX7'
    have HX8 := Lib.hid hN.out
    clear hN
    go_upto_region 18 with (fail)
    clear hW8 hm8 hq hso
    have HF : Hid (FinS w D w2.heap.size (d + 1) (.slice Ax qs.length cx) qs m4 m5 m7 m8 f p q (.slice A4 f.l.length c4) (.slice A5 f.l.length c5) (.slice A7 p.l.length c7) (.slice A8 q.l.length c8) W8) := ⟨HS.out, HX4.out, HX5.out, HX7.out, HX8.out⟩
    clear HS HX4 HX5 HX7 HX8
    have HVR : Hid (∀ W, Below w.heap.size w W → (Calls Tryz.prog 14 #[.slice Ar rs.length cr] W fun e w' => e = .returned (.bool (validRs (rs.map (·.1)))) ∧ Below W.heap.size W w') ∧ (Calls Tryz.prog 15 #[.slice Ar rs.length cr] W fun e w' => e = .returned (.bool (validRs (rs.map (·.1)))) ∧ Below W.heap.size W w')) := fun W hW =>
      ⟨RValid_any rs _ W (HR.out.below hW) (fun q hq => by have := HRF.out.2 q hq; omega), refValid38_any rs _ W (HR.out.below hW) (fun q hq => by have := HRF.out.2 q hq; omega) (by have := HRF.out.1; omega)⟩
    have HVX : Hid (∀ W, FinS w D w2.heap.size (d + 1) (.slice Ax qs.length cx) qs m4 m5 m7 m8 f p q (.slice A4 f.l.length c4) (.slice A5 f.l.length c5) (.slice A7 p.l.length c7) (.slice A8 q.l.length c8) W → (Calls Tryz.prog 14 #[.slice Ax qs.length cx] W fun e w' => e = .returned (.bool (validRs (qs.map (·.1)))) ∧ Below W.heap.size W w') ∧ (Calls Tryz.prog 15 #[.slice Ax qs.length cx] W fun e w' => e = .returned (.bool (validRs (qs.map (·.1)))) ∧ Below W.heap.size W w')) := fun W hW =>
      ⟨RValid_any qs _ W hW.vs.own.at (fun q hq => by have := hW.vs.few q hq; omega), refValid38_any qs _ W hW.vs.own.at (fun q hq => by have := hW.vs.few q hq; omega) (by omega)⟩
    have HSF : Hid (∀ W, FinS w D w2.heap.size (d + 1) (.slice Ax qs.length cx) qs m4 m5 m7 m8 f p q (.slice A4 f.l.length c4) (.slice A5 f.l.length c5) (.slice A7 p.l.length c7) (.slice A8 q.l.length c8) W → (Calls Tryz.prog 16 #[.agg #[.int .i64 f.p, .int .i64 f.v, .slice A4 f.l.length c4], .agg #[.int .i64 f.p, .int .i64 f.v, .slice A5 f.l.length c5]] W (SameP W true))) := fun W hW => by
      have := SameR_any f f (.slice A4 f.l.length c4) (.slice A5 f.l.length c5) W (hW.b1.own.sl (by omega)) (hW.b2.own.sl (by omega)) (by omega) (by omega)
      rw [decide_eq_true rfl] at this
      exact this
    have HSP : Hid (yes = true → ∀ W, FinS w D w2.heap.size (d + 1) (.slice Ax qs.length cx) qs m4 m5 m7 m8 f p q (.slice A4 f.l.length c4) (.slice A5 f.l.length c5) (.slice A7 p.l.length c7) (.slice A8 q.l.length c8) W → (Calls Tryz.prog 16 #[.agg #[.int .i64 p.p, .int .i64 p.v, .slice A7 p.l.length c7], .agg #[.int .i64 q.p, .int .i64 q.v, .slice A8 q.l.length c8]] W (SameP W true))) := fun hy W hW => by
      have := SameR_any p q (.slice A7 p.l.length c7) (.slice A8 q.l.length c8) W (hW.b3.own.sl (by omega)) (hW.b4.own.sl (by omega)) (by omega) (by omega)
      rw [decide_eq_true (HYN.out hy).1.symm] at this
      exact this
    obtain ⟨bv1, hbv1⟩ : ∃ b, validRs (rs.map (·.1)) = b := ⟨_, rfl⟩
    obtain ⟨bv2, hbv2⟩ : ∃ b, validRs (qs.map (·.1)) = b := ⟨_, rfl⟩
    rw [hbv1] at HVR
    rw [hbv2] at HVX
    clear hbv1 hbv2
    go_wp2_with fail
    refine (HVR.out _ HF.out.vs.below).1.mono ?_
    rintro e w9 ⟨rfl, hb9⟩
    have HF9 := Lib.hid (HF.out.to hb9)
    clear HF hb9
    go_wp2_with fail
    refine (HVR.out _ HF9.out.vs.below).2.mono ?_
    rintro e wa ⟨rfl, hba⟩
    have HFa := Lib.hid (HF9.out.to hba)
    clear HF9 hba
    go_wp2_with fail
    refine (HVX.out _ HFa.out).1.mono ?_
    rintro e wb ⟨rfl, hbb⟩
    have HFb := Lib.hid (HFa.out.to hbb)
    clear HFa hbb
    go_wp2_with fail
    refine (HVX.out _ HFb.out).2.mono ?_
    rintro e wd ⟨rfl, hbd⟩
    have HFd := Lib.hid (HFb.out.to hbd)
    clear HFb hbd HVX HVR
    obtain ⟨⟨x0, x1, x2, xl⟩, -⟩ := row3 HFd.out.b1.row
    obtain ⟨⟨y0, y1, y2, yl⟩, -⟩ := row3 HFd.out.b2.row
    go_wp2_with fail
    refine (HSF.out _ HFd.out).mono ?_
    rintro e we ⟨rfl, hbe⟩
    have HFe := Lib.hid (HFd.out.to hbe)
    clear HFd hbe x0 x1 x2 xl y0 y1 y2 yl HSF
    cases hy : yes
    · go_wp2_with fail
      refine (awake_any _).mono ?_
      rintro e wz ⟨rfl, hbz⟩
      have HE := Lib.hid (below_after HFe.out.vs.below hbz HFe.out.vs.below.size)
      clear hbz
      go_wp2
      go_ret
      exact ⟨rfl, HE.out⟩
    · have hso' : so = true := (HYN.out hy).2
      subst hso'
      obtain ⟨⟨x0, x1, x2, xl⟩, -⟩ := row3 HFe.out.b3.row
      obtain ⟨⟨y0, y1, y2, yl⟩, -⟩ := row3 HFe.out.b4.row
      go_wp2_with fail
      refine (HSP.out hy _ HFe.out).mono ?_
      rintro e wf ⟨rfl, hbf⟩
      have HFf := Lib.hid (HFe.out.to hbf)
      clear HFe hbf x0 x1 x2 xl y0 y1 y2 yl HSP
      go_wp2_with fail
      refine (awake_any _).mono ?_
      rintro e wz ⟨rfl, hbz⟩
      have HE := Lib.hid (below_after HFf.out.vs.below hbz HFf.out.vs.below.size)
      clear hbz
      go_wp2
      go_ret
      exact ⟨rfl, HE.out⟩
end Go.Proofs.YtjbhabfflcbebaaGreat
