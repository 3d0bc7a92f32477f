/- slices.Clone at lines; filing.copyReturn; filing.Authority.Latest. -/
import Derived.Test.YtnkephafpebfkaaDoorAu
import Derived.Test.YtnkephafpebfkaaDoorRLt
namespace Go.Proofs.YtnkephafpebfkaaDoor
open Go.RowKit Go.Shelf

theorem lnNil_none (w : World) : (binOp .eql 23 (.slice none 0 0) (.slice none 0 0)).run Tryd.prog w = .ok (.bool true) w := by
  kernel_rfl
theorem lnNil_some (a : Addr) (n c : Nat) (w : World) : (binOp .eql 23 (.slice (some a) n c) (.slice none 0 0)).run Tryd.prog w = .ok (.bool false) w := by
  kernel_rfl
set_option maxRecDepth 10000 in
theorem cloneLn_any (l : List Ln) (v : Value) (w : World) (hsl : Sl w 3 v (lns l)) (hl : l.length ≤ 4096) :
    Calls Tryd.prog 42 #[v] w (RetOwn w 28 3 (lns l)) := by
  have H := Lib.hid hsl
  obtain ⟨A, cap, rfl, h1, h2, h0, h3⟩ := hsl
  rw [lns_len] at h1
  cases A with
  | none =>
    have hl0 : l = [] := List.eq_nil_of_length_eq_zero (by have := h0 rfl; omega)
    subst hl0
    obtain rfl := h0 rfl
    clear h3 h0 h1 h2 hl
    show Calls _ _ #[.slice none 0 0] _ _
    have E := lnNil_none w
    go_enter Tryd.func42, Tryd.ntmps42
    go_wp2
    go_ret
    exact ⟨_, rfl, Own.nil _ _ _ _, Below.refl _ _⟩
  | some a =>
    clear h0 h3
    obtain ⟨b, o, k⟩ := a
    rw [lns_len] at H ⊢
    have E := lnNil_some ⟨b, o, k⟩ l.length cap w
    have hb1 : Below w.heap.size w (w.alloc (.cells #[] 28)) := (Below.refl _ _).alloc (Nat.le_refl _) _
    go_enter Tryd.func42, Tryd.ntmps42
    go_wp2_with (at_builtin; (refine wpList_append_sl rfl (.tmp 5) (.tmp 6) rfl rowLn w.heap.size _ _ [] (lns l) rfl (own_lit0 w _ 3 _ (Nat.le_refl _)) rfl (H.out.below hb1) (lns_wide l) (by rw [lns_len]; unfold maxLen; simp; omega) (by rw [lns_len]; simp; omega) hb1.size ?_); intro v4 w4 hown4 hg4 _; have hb4 := Own.grown (own_lit0 w _ 3 _ (Nat.le_refl _)) hb1 hg4 hb1.size)
    go_ret
    exact ⟨_, rfl, hown4, hb4⟩
/-- the call returns a return like this one, with lines of its own -/
def RetCopy (f : Ret) (w : World) (e : Ending) (w' : World) : Prop := ∃ v, e = .returned (.agg (f.vals v)) ∧ Own w' w.heap.size 28 3 v (lns f.l) ∧ Below w.heap.size w w'
set_option maxRecDepth 100000 in
set_option maxHeartbeats 1000000 in
theorem copyReturn_any (f : Ret) (v : Value) (w : World) (hsl : Sl w 3 v (lns f.l)) (hl : f.l.length ≤ 4096) :
    Calls Tryd.prog 31 #[.agg (f.vals v)] w (RetCopy f w) := by
  have H := Lib.hid hsl
  obtain ⟨A, cap, rfl, -⟩ := hsl
  rw [lns_len] at H ⊢
  have HVL : Hid (f.vals (.slice A f.l.length cap) = #[.int .i64 f.p, .int .i64 f.v, .slice A f.l.length cap]) := rfl
  rw [HVL.out]
  obtain ⟨hx1, hx2, hx3⟩ := row_new2 w 25 25 #[.int .i64 f.p, .int .i64 f.v, .slice A f.l.length cap] #[.int .i64 0, .int .i64 0, .slice none 0 0]
  go_enter Tryd.func31, Tryd.ntmps31
  go_wp2_with fail
  obtain ⟨w1, hw1⟩ : ∃ w1, (w.alloc (.cells #[.int .i64 f.p, .int .i64 f.v, .slice A f.l.length cap] 25)).alloc (.cells #[.int .i64 0, .int .i64 0, .slice none 0 0] 25) = w1 := ⟨_, rfl⟩
  rw [hw1] at hx1 hx2 hx3 ⊢
  obtain ⟨b, hb⟩ : ∃ b, w.heap.size = b := ⟨_, rfl⟩
  obtain ⟨q, hq⟩ : ∃ q, w.heap.size + 1 = q := ⟨_, rfl⟩
  have hbq : b ≠ q := by omega
  have hbw : w.heap.size ≤ b := by omega
  have hqw : w.heap.size ≤ q := by omega
  rw [hq] at hx2 ⊢
  rw [hb] at hx1 ⊢
  clear hw1 hb hq
  refine (cloneLn_any f.l _ w1 (H.out.below hx3) hl).mono ?_
  rintro e w2 ⟨u, rfl, hown, hb2⟩
  have hB2 := below_after hx3 hb2 hx3.size
  have hy1 := hx1.below hb2 hx1.lt
  have hy2 := hx2.below hb2 hx2.lt
  have hb1l := hx1.lt
  have hq1l := hx2.lt
  obtain ⟨Au, cu, rfl⟩ := hown.form
  rw [lns_len] at hown ⊢
  have r1 := hy1.set 2 (.slice Au f.l.length cu)
  have r2 := hy2.far (p := ⟨b, 2, none⟩) (show q ≠ b from hbq.symm) (.slice Au f.l.length cu)
  have r3 := Lib.hid (row3 (r2.set3 (.int .i64 f.p) (.int .i64 f.v) (.slice Au f.l.length cu))).1
  have HBF := Lib.hid (Below.set3 (hB2.setCell (p := ⟨b, 2, none⟩) hbw (.slice Au f.l.length cu)) hqw (.int .i64 f.p) (.int .i64 f.v) (.slice Au f.l.length cu))
  have hz := hx3.size
  have HOF := Lib.hid ((own3 (own_set hown hb1l 2 (.slice Au f.l.length cu)) hq1l (.int .i64 f.p) (.int .i64 f.v) (.slice Au f.l.length cu)).more hz)
  obtain ⟨⟨a0, a1, a2, al⟩, ⟨f0, f1, f2⟩⟩ := row3 hy1
  obtain ⟨⟨c0, c1, c2, cl⟩, ⟨g0, g1, g2⟩⟩ := row3 hy2
  clear hx1 hx2 hx3 hb2 hB2 hy1 hy2 r1 r2 hown hz
  go_wp2
  obtain ⟨z0, z1, z2, -⟩ := r3.out
  refine bodyPost_ret (v := .agg #[.int .i64 f.p, .int .i64 f.v, .slice Au f.l.length cu]) (by simp only [results, Tryd.results31, go_sem]; simp [z0, z1, z2, go_sem]) rfl ?_
  exact ⟨_, rfl, HOF.out, HBF.out⟩
/-- what the map knows of a period -/
theorem get_lat {w : World} {B M : Nat} {es : List (Ret × Value)} (h : AuthS w B M es) (p : Int) : ∃ v, ((getI (es.map entA) p).getD (.agg #[.int .i64 0, .int .i64 0, .slice none 0 0])) = .agg ((latP (es.map (·.1)) p).vals v) ∧ (getI (es.map entA) p).isSome = hasP (es.map (·.1)) p ∧ Sl w 3 v (lns (latP (es.map (·.1)) p).l) ∧ (latP (es.map (·.1)) p).l.length ≤ 256 := by
  obtain ⟨h1, h2⟩ := get_ret h.dist p
  cases hh : hasP (es.map (·.1)) p
  · rw [h2 hh, latP_no hh]
    exact ⟨.slice none 0 0, rfl, rfl, Sl.nil _ _, by simp⟩
  · obtain ⟨v, hv, he⟩ := h1 hh
    rw [he]
    exact ⟨v, rfl, rfl, h.ln _ hv, ((retB_iff _).1 (h.val _ hv)).n⟩
set_option maxRecDepth 100000 in
set_option maxHeartbeats 2000000 in
theorem LatestA_any (B M : Nat) (es : List (Ret × Value)) (p : Int) (w : World) (hb : AuthS w B M es) :
    Calls Tryd.prog 18 #[.pointer (some ⟨B, 0, none⟩), .int .i64 p] w (RetLat (latP (es.map (·.1)) p) (hasP (es.map (·.1)) p) w) := by
  have hq := eq_nil_auth B
  have hr0 := Row.new w 25 #[.int .i64 0, .int .i64 0, .slice none 0 0]
  have hB0 := (Below.refl w.heap.size w).alloc (Nat.le_refl _) (.cells #[.int .i64 0, .int .i64 0, .slice none 0 0] 25)
  obtain ⟨w0, hw0⟩ : ∃ w0, w.alloc (.cells #[.int .i64 0, .int .i64 0, .slice none 0 0] 25) = w0 := ⟨_, rfl⟩
  rw [hw0] at hr0 hB0
  have hb0 := hb.below hB0
  obtain ⟨v, e1, e2, hsl, hln⟩ := get_lat hb0 p
  obtain ⟨lt, hlt⟩ : ∃ lt, latP (es.map (·.1)) p = lt := ⟨_, rfl⟩
  obtain ⟨hs, hhs⟩ : ∃ hs, hasP (es.map (·.1)) p = hs := ⟨_, rfl⟩
  rw [hlt] at e1 hsl hln ⊢
  rw [hhs] at e2 ⊢
  have E1 := (run_lookup_i auth_ty (zero_ret w0) hb0.map p).1
  rw [e1, e2] at E1
  obtain ⟨Av, cv, rfl⟩ : ∃ Av cv, v = .slice Av lt.l.length cv := by
    obtain ⟨Av, cv, h, _⟩ := hsl
    rw [lns_len] at h
    exact ⟨Av, cv, h⟩
  have HGV : Hid (lt.vals (.slice Av lt.l.length cv) = #[.int .i64 lt.p, .int .i64 lt.v, .slice Av lt.l.length cv]) := rfl
  rw [HGV.out] at E1
  have HSL := Lib.hid hsl
  have c0 := hb0.box.cell 0
  have cl := hb0.box.lt
  simp only [List.getElem?_toArray, List.getElem?_cons_zero] at c0
  clear hsl e1 e2 hlt hhs hb0 hb
  go_enter Tryd.func18, Tryd.ntmps18
  have hal := (Below.refl w0.heap.size w0).alloc (Nat.le_refl _) (.cells #[.int .i64 lt.p, .int .i64 lt.v, .slice Av lt.l.length cv] 25)
  have hx1 := Row.new w0 25 #[.int .i64 lt.p, .int .i64 lt.v, .slice Av lt.l.length cv]
  have hr1 := hr0.below hal hr0.lt
  have hB1 := below_after hB0 hal hB0.size
  obtain ⟨w1, hw1⟩ : ∃ w1, w0.alloc (.cells #[.int .i64 lt.p, .int .i64 lt.v, .slice Av lt.l.length cv] 25) = w1 := ⟨_, rfl⟩
  rw [hw1] at hx1 hr1 hB1 hal
  have HCP : Hid (Calls Tryd.prog 31 #[.agg #[.int .i64 lt.p, .int .i64 lt.v, .slice Av lt.l.length cv]] w1 (RetCopy lt w1)) := copyReturn_any lt _ w1 (HSL.out.below hal) (by omega)
  obtain ⟨r, hr⟩ : ∃ r, w.heap.size = r := ⟨_, rfl⟩
  have hwr : w.heap.size ≤ r := by omega
  rw [hr] at hr1
  obtain ⟨⟨y0, y1, y2, yl⟩, -⟩ := row3 hx1
  clear hr0 hB0 hal
  go_wp2_with fail
  refine HCP.out.mono ?_
  rintro e w2 ⟨v2, rfl, hown2, hb2⟩
  obtain ⟨A2, c2, rfl⟩ := hown2.form
  rw [lns_len] at hown2 ⊢
  have HGV2 : Hid (lt.vals (.slice A2 lt.l.length c2) = #[.int .i64 lt.p, .int .i64 lt.v, .slice A2 lt.l.length c2]) := rfl
  rw [HGV2.out]
  have hB2 := below_after hB1 hb2 hB1.size
  have hr2 := hr1.below hb2 hr1.lt
  have hr1l := hr1.lt
  have hs1 := hB1.size
  obtain ⟨⟨a0, a1, a2, al⟩, ⟨f0, f1, f2⟩⟩ := row3 hr2
  have HZ := Lib.hid (row3 (Row.set3 hr2 (.int .i64 lt.p) (.int .i64 lt.v) (.slice A2 lt.l.length c2))).1
  have HQ := Lib.hid (Below.set3 hB2 hwr (.int .i64 lt.p) (.int .i64 lt.v) (.slice A2 lt.l.length c2))
  have HO := Lib.hid ((own3 hown2 hr1l (.int .i64 lt.p) (.int .i64 lt.v) (.slice A2 lt.l.length c2)).more hs1)
  clear E1 c0 cl hq hw0 hw1 hr hx1 hr1 hB1 hb2 hB2 hr2 hown2 y0 y1 y2 yl HCP
  go_wp2
  obtain ⟨z0, z1, z2, -⟩ := HZ.out
  refine bodyPost_ret (v := .tuple #[.agg #[.int .i64 lt.p, .int .i64 lt.v, .slice A2 lt.l.length c2], .bool hs]) (by simp only [results, Tryd.results18, go_sem]; simp [z0, z1, z2, go_sem]) rfl ?_
  exact ⟨_, rfl, HO.out, HQ.out⟩
end Go.Proofs.YtnkephafpebfkaaDoor
