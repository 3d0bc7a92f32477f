/- Contracts of payrollref39: Valid, Of. -/
import Derived.Test.YtlchcfkngjbdjaaGreatDoorTPay
import Derived.Deep.QuietTactic
import Derived.RegionTactic
namespace Go.Proofs.YtlchcfkngjbdjaaGreatDoor
open Go.RowKit

set_option maxHeartbeats 1000000 in
theorem refValidP_any (p : Pay) (w : World) : Calls Tryz.prog 37 #[.agg #[.int .i64 p.e, .int .i64 p.a]] w fun e w' => e = .returned (.bool (decide (payV p))) ∧ Below w.heap.size w w' := by
  obtain ⟨pe, pa⟩ := p
  simp only
  have hB := (Below.refl w.heap.size w).alloc (Nat.le_refl _) (.cells #[.int .i64 pe, .int .i64 pa] 46)
  have HB := Lib.hid hB
  clear hB
  have no : Hid (¬ payV ⟨pe, pa⟩ → decide (payV ⟨pe, pa⟩) = false) := fun h => decide_eq_false h
  by_cases r1 : pe < 1
  · have HF := Lib.hid (no.out (by unfold payV; simp only; omega))
    go_enter Tryz.func37, Tryz.ntmps37
    go_wp2; go_ret; exact ⟨ret_bool HF.out.symm, HB.out⟩
  by_cases r2 : 2147483647 < pe
  · have HF := Lib.hid (no.out (by unfold payV; simp only; omega))
    go_enter Tryz.func37, Tryz.ntmps37
    go_wp2; go_ret; exact ⟨ret_bool HF.out.symm, HB.out⟩
  by_cases r3 : pa < 1
  · have HF := Lib.hid (no.out (by unfold payV; simp only; omega))
    go_enter Tryz.func37, Tryz.ntmps37
    go_wp2; go_ret; exact ⟨ret_bool HF.out.symm, HB.out⟩
  by_cases r4 : 1000000000000 < pa
  · have HF := Lib.hid (no.out (by unfold payV; simp only; omega))
    go_enter Tryz.func37, Tryz.ntmps37
    go_wp2; go_ret; exact ⟨ret_bool (by rw [HF.out]; exact decide_eq_false (by omega)), HB.out⟩
  have HF : Hid (decide (payV ⟨pe, pa⟩) = true) := decide_eq_true (by unfold payV; simp only; omega)
  go_enter Tryz.func37, Tryz.ntmps37
  go_wp2; go_ret; exact ⟨ret_bool HF.out.symm, HB.out⟩
theorem below_drew (w : World) : Below w.heap.size w w.drew := (Below.refl _ _).drew
theorem OfS.same {w wr w' : World} {l : List Pay} {r g k : Nat} {s h : Int} (ho : OfS w l r g k s h wr) (hb : Below wr.heap.size wr w') : OfS w l r g k s h w' :=
  ⟨ho.tot.below hb ho.tot.lt, ho.res.below hb ho.res.lt, ho.below.trans (hb.mono ho.below.size), ho.bnd, ho.val⟩
set_option maxRecDepth 100000 in
set_option maxHeartbeats 1000000 in
theorem refOf_any (v : Value) (l : List Pay) (w : World) (hv : Sl w 2 v (pays l)) :
    Calls Tryz.prog 26 #[v] w (RetCtl (ofC l) (ofE l) w) := by
  have HV := Lib.hid hv
  obtain ⟨A, cap, rfl, h1, h2, _, _⟩ := hv
  rw [pays_len] at h1 HV ⊢
  unfold maxLen at h2
  by_cases hl : 4096 < l.length
  · have HF : Hid (ofE l = 3 ∧ ofC l = ⟨0, 0, 0⟩) := by
      have : ofE l = 3 := by rw [ofE, if_pos hl]
      exact ⟨this, by rw [ofC, this, if_neg (by decide)]⟩
    go_enter Tryz.func26, Tryz.ntmps26
    go_wp2
    refine bodyPost_ret (v := .tuple #[.agg #[.int .i64 0, .int .i64 0, .int .i64 0], .int .i64 3]) (by simp [results, Tryz.results26, go_sem]) rfl ?_
    rw [RetCtl, HF.out.1, HF.out.2]
    exact ⟨rfl, (Below.refl _ _).alloc (Nat.le_refl _) _⟩
  go_enter Tryz.func26, Tryz.ntmps26
  go_wp2
  obtain ⟨hR, hG, hB⟩ := row_new2 w 61 61 #[.int .i64 0, .int .i64 0, .int .i64 0] #[.int .i64 l.length, .int .i64 0, .int .i64 0]
  obtain ⟨w0, hw0⟩ : ∃ w0, (w.alloc (.cells #[.int .i64 0, .int .i64 0, .int .i64 0] 61)).alloc (.cells #[.int .i64 l.length, .int .i64 0, .int .i64 0] 61) = w0 := ⟨_, rfl⟩
  rw [hw0] at hR hG hB ⊢
  clear hw0
  obtain ⟨g, hg⟩ : ∃ g, w.heap.size + 1 = g := ⟨_, rfl⟩
  rw [hg] at hG ⊢
  obtain ⟨r, hr⟩ : ∃ r, w.heap.size = r := ⟨_, rfl⟩
  rw [hr] at hR ⊢
  have hgr : g ≠ r := by omega
  have hgw : w.heap.size ≤ g ∧ w.heap.size ≤ r := by omega
  have hO : OfS w l r g 0 0 0 w0 := ⟨hG, hR, hB, by omega, by simp [sumA, sumE]⟩
  clear hG hR hB hg
  go_loopw [5] (fun i wr => ∃ k : Nat, ∃ s h : Int, k ≤ l.length ∧ i = .int .i64 k ∧ OfS w l r g k s h wr) (fun i _ => l.length - (intOf i).toNat)
  case atStart => exact ⟨0, 0, 0, by omega, rfl, hO⟩
  case round =>
    clear hO
    obtain ⟨k, s, h, hk, rfl, ho0⟩ := hrel
    obtain ⟨wo, rfl⟩ : ∃ wo : World, wo = wr := ⟨_, rfl⟩
    by_cases hlt : k < l.length
    · obtain ⟨bk, off, rfl, hcw⟩ := HV.out.cells (by rw [pays_len]; omega)
      have hbw := hcw.1
      have hc0 := hcw.below ho0.below hcw.1
      obtain ⟨c0, c1⟩ := hc0.pay hlt
      have hcl := hc0.1
      clear hc0 hcw
      have HO0 := Lib.hid ho0
      have HSN := Lib.hid (sum_snoc hlt)
      have HTK := Lib.hid (fun p => (show p ∈ l.take (k + 1) ↔ p ∈ l.take k ∨ p = l[k] by rw [List.take_succ_eq_append_getElem hlt, List.mem_append, List.mem_singleton]))
      have HBAD : Hid (¬ payV l[k] → ofE l = 2 ∧ ofC l = ⟨0, 0, 0⟩) := fun hn => by
        have : ofE l = 2 := by rw [ofE, if_neg (by omega), if_neg (fun ha : l.all (fun p => decide (payV p)) = true => hn (of_decide_eq_true (List.all_eq_true.1 ha l[k] (List.getElem_mem hlt))))]
        exact ⟨this, by rw [ofC, this, if_neg (by decide)]⟩
      obtain ⟨x, hx⟩ : ∃ x, l[k] = x := ⟨_, rfl⟩
      rw [hx] at c0 c1 HSN HTK HBAD
      clear hx ho0
      go_wp2_with fail
      refine (refValidP_any x wo).mono ?_
      rintro e w5 ⟨rfl, hb5⟩
      have d0 := (hb5.cell (p := ⟨bk, off + k * 2, none⟩) hcl).trans c0
      have d1 := (hb5.cell (p := ⟨bk, off + k * 2 + 1, none⟩) hcl).trans c1
      have HO := Lib.hid (HO0.out.same hb5)
      have hbl : bk < w5.heap.size := Nat.lt_of_lt_of_le hcl hb5.size
      have hlow : Hid (w.heap.size ≤ w5.heap.size) := HO.out.below.size
      clear c0 c1 hcl HO0 hb5
      obtain ⟨b1, b2, b3, b4⟩ := HO.out.bnd
      obtain ⟨⟨t0, t1, t2, tl⟩, f0, f1, f2⟩ := row3 HO.out.tot
      obtain ⟨⟨s0, s1, s2, sl⟩, e0, e1, e2⟩ := row3 HO.out.res
      by_cases hp : payV x
      rotate_left
      · have HF := Lib.hid (HBAD.out hp)
        have hq := Below.set3 HO.out.below hgw.2 (.int .i64 0) (.int .i64 0) (.int .i64 0)
        obtain ⟨⟨z0, z1, z2, _⟩, _⟩ := row3 (Row.set3 HO.out.res (.int .i64 0) (.int .i64 0) (.int .i64 0))
        have HQ := Lib.hid hq
        clear hq
        have HZ := Lib.hid (And.intro z0 (And.intro z1 z2))
        clear z0 z1 z2
        rw [decide_eq_false hp]
        clear hp
        go_wp2
        obtain ⟨z0, z1, z2⟩ := HZ.out
        refine bodyPost_ret (v := .tuple #[.agg #[.int .i64 0, .int .i64 0, .int .i64 0], .int .i64 2]) (by simp only [results, Tryz.results26, go_sem]; simp [z0, z1, z2, go_sem]) rfl ?_
        rw [RetCtl, HF.out.1, HF.out.2]
        exact ⟨rfl, HQ.out⟩
      have HP := Lib.hid hp
      rw [decide_eq_true hp]
      obtain ⟨p1, p2, p3, p4⟩ := hp
      have n1 : g ≠ bk := by omega
      have n2 : bk ≠ g := by omega
      have ew1 : IntKind.i64.wrap (s + x.a) = s + x.a := IntWalk.i64_in _ (by omega)
      have ew2 : IntKind.i64.wrap (h + x.e) = h + x.e := IntWalk.i64_in _ (by omega)
      have i1 : (k : Int) < (l.length : Int) := by omega
      clear s0 s1 s2 e0 e1 e2
      go_wp2_with fail
      go_region
      go_wp2_with fail
      go_region
      clear d0 d1 t0 t1 t2 f0 f1 f2 n1 n2 ew1 ew2
      go_wp2
      go_roundw
      case rel =>
        have ho1 := HO.out.same (below_drew w5)
        have hT := (ho1.tot.set 1 (.int .i64 (s + x.a)))
        have hR := (ho1.res.far (p := ⟨g, 1, none⟩) hgr.symm (.int .i64 (s + x.a)))
        have hB := (ho1.below.setCell (p := ⟨g, 1, none⟩) hgw.1 (.int .i64 (s + x.a)))
        refine ⟨k + 1, s + x.a, h + x.e, by omega, by go_num, ?_, ?_, ?_, by omega, ?_⟩
        · exact (hT.below (below_drew _) hT.lt).set 2 _
        · exact (hR.below (below_drew _) hR.lt).far (p := ⟨g, 2, none⟩) hgr.symm _
        · exact (hB.trans ((below_drew _).mono hB.size)).setCell (p := ⟨g, 2, none⟩) hgw.1 _
        · refine ⟨by rw [HSN.out.1, HO.out.val.1], by rw [HSN.out.2, HO.out.val.2.1], fun p hp => ?_⟩
          rcases (HTK.out p).1 hp with hp | rfl
          · exact HO.out.val.2.2 p hp
          · exact HP.out
      case measure => simp [intOf]; omega
    · obtain rfl : k = l.length := by omega
      obtain ⟨v1, v2, v3⟩ := ho0.val
      rw [List.take_length] at v1 v2 v3
      have HF : Hid (ofE l = 0 ∧ ofC l = ⟨l.length, s, h⟩) := by
        have : ofE l = 0 := by rw [ofE, if_neg (by omega), if_pos (List.all_eq_true.2 fun p hp => decide_eq_true (v3 p hp))]
        exact ⟨this, by rw [ofC, if_pos this, v1, v2]⟩
      clear v1 v2 v3
      obtain ⟨⟨t0, t1, t2, tl⟩, f0, f1, f2⟩ := row3 ho0.tot
      obtain ⟨⟨s0, s1, s2, sl⟩, e0, e1, e2⟩ := row3 ho0.res
      have HO := Lib.hid ho0
      clear ho0
      go_wp2
      refine bodyPost_ret (v := .tuple #[.agg #[.int .i64 l.length, .int .i64 s, .int .i64 h], .int .i64 0]) (by simp [results, Tryz.results26, go_sem, s0, s1, s2]) rfl ?_
      rw [RetCtl, HF.out.1, HF.out.2]
      exact ⟨rfl, Below.set3 HO.out.below hgw.2 _ _ _⟩
end Go.Proofs.YtlchcfkngjbdjaaGreatDoor
