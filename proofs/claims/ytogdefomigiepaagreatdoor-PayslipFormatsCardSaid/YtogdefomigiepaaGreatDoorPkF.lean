/- Contracts and plain facts that the laws of this seat share, part 6. -/
import Derived.Test.YtogdefomigiepaaGreatDoorPkE
import Derived.Deep.RegionHeld3
import Derived.Deep.CutBlock
import Derived.Deep.DeepCutAuto
set_option linter.unusedVariables false
set_option linter.unusedSimpArgs false
/- Contract of payrollref28.divide. -/
namespace Go.Proofs.YtogdefomigiepaaGreatDoor
open Go.RowKit

theorem rowLv : RowTy Tryz.prog 127 133 3 24 := by
 obtain ⟨i, hi, hz, hs, hb⟩ := info_parts (show (Tryz.prog.info? 133).map (fun i => (i.zero, i.size, i.bytes)) = some (some (.agg #[.int .i64 0, .int .i64 0, .int .i64 0]), 3, 24) by kernel_rfl)
 exact ⟨Tryz.underlying127, ⟨i, _, hi, hz, hs, hb, rfl⟩, by omega⟩
def lvs (l : List Lv) : List (List Value) := l.map Lv.vals
theorem lvs_len (l : List Lv) : (lvs l).length = l.length := by simp [lvs]
theorem lvs_at {l : List Lv} {k : Nat} (h : k < l.length) : (lvs l)[k]? = some (l[k]).vals := by simp [lvs, h]
theorem lvs_set (l : List Lv) (k : Nat) (x : Lv) : (lvs l).set k x.vals = lvs (l.set k x) := by simp [lvs, List.map_set]
theorem mk_lvs (w : World) (n : Nat) (hn : n ≤ 1000000) : (Instr.makeSlice 127 (.int .i64 n) (.int .i64 n)).run Tryz.prog w = .ok (.slice (some ⟨w.heap.size, 0, none⟩) n n) (w.alloc (.cells (madeCells #[.int .i64 0, .int .i64 0, .int .i64 0] (n * 3)) 133)) := by
 obtain ⟨i, z, hi, hz, hs, hb, hzs⟩ := rowLv.hi
 have hzz : z = .agg #[.int .i64 0, .int .i64 0, .int .i64 0] := by
  have h : (Tryz.prog.info? 133).map (fun i => i.zero) = some (some (.agg #[.int .i64 0, .int .i64 0, .int .i64 0])) := by kernel_rfl
  rw [hi] at h; simp only [Option.map_some, Option.some.injEq] at h
  rw [hz] at h; exact Option.some.inj h
 have := run_makeSlice (P := Tryz.prog) w 127 133 i z rowLv.ht hi hz .i64 .i64 (n : Int) (n : Int) (by omega) (Int.le_refl _) (by rw [hs]; simp; omega) (by rw [hb]; omega) (by omega)
 rw [Int.toNat_natCast, hs, hzz] at this
 exact this
theorem own_lvs (w : World) (base n : Nat) (hb : base ≤ w.heap.size) (hn : n ≤ 1000000) : Own (w.alloc (.cells (madeCells #[.int .i64 0, .int .i64 0, .int .i64 0] (n * 3)) 133)) base 133 3 (.slice (some ⟨w.heap.size, 0, none⟩) n n) (lvs (List.replicate n ⟨0, 0, 0⟩)) := by
 have e : lvs (List.replicate n ⟨0, 0, 0⟩) = List.replicate n [Value.int .i64 0, .int .i64 0, .int .i64 0] := by simp [lvs, Lv.vals]
 have hf := made_flat #[Value.int .i64 0, .int .i64 0, .int .i64 0] (by simp) (by simp [Value.oneCell']) n
 simp only [List.size_toArray, List.length_cons, List.length_nil, Nat.zero_add, Nat.reduceAdd] at hf
 refine ⟨?_, by rw [e]; intro x hx; rw [(List.mem_replicate.1 hx).2]; exact ⟨rfl, by simp [Value.oneCell']⟩⟩
 have := World.ownsRow_lit w (e := 133) (size := 3) (madeCells #[.int .i64 0, .int .i64 0, .int .i64 0] (n * 3)) n hb (by unfold maxLen; omega) (by simp [size_madeCells])
 rw [e, List.length_replicate]
 rw [← hf]; exact this
def LvsOk (l : List Lv) : Prop := ∀ x ∈ l, LvOk x 1000000000
set_option maxRecDepth 100000 in
set_option maxHeartbeats 4000000 in
theorem divide_ok (lv : Lv) (hlv : LvOk lv 1000000000) (ws : List Int) (v : Value) (w : World) (hv : Sl w 1 v (ints ws)) (hl : 0 < ws.length ∧ ws.length ≤ 16) (hw : ∀ x ∈ ws, 0 ≤ x ∧ x ≤ 1000000000) :
  Calls Tryz.prog 93 #[.agg lv.vals.toArray, v] w fun e w' => ∃ (u : Value) (l : List Lv), e = .returned u ∧ l.length = ws.length ∧ LvsOk l ∧ Own w' w.heap.size 133 3 u (lvs l) ∧ Below w.heap.size w w' := by
 have HV := Lib.hid hv
 have HW := Lib.hid hw
 have hsb := sum_bound (l := ws) (M := 1000000000) fun x hx => (hw x hx).2
 have hs0 := sum_nonneg (l := ws) fun x hx => (hw x hx).1
 have hsb2 : ws.sum ≤ 16000000000 := by
  have : (1000000000 : Int) * ws.length ≤ 1000000000 * 16 := Int.mul_le_mul_of_nonneg_left (by omega) (by omega)
  omega
 obtain ⟨A, cap, rfl, h1, h2, _, _⟩ := hv
 rw [ints_len] at h1 HV ⊢
 unfold maxLen at h2
 obtain ⟨lb, le, lr⟩ := lv
 have HLV := Lib.hid hlv
 obtain ⟨b1, b2, b3⟩ := hlv
 dsimp only at b1 b2 b3
 have HA := Lib.hid fun (t : Int) (ht : 0 ≤ t ∧ t ≤ 1000000000) (hs : 0 < ws.sum) (y : World) (hy : Below w.heap.size w y) => Allocate_any t ws (.slice A ws.length cap) y (HV.out.below hy) ht hl.2 hw hs
 clear hw hsb
 show Calls Tryz.prog 93 #[.agg #[.int .i64 lb, .int .i64 le, .int .i64 lr], .slice A ws.length cap] w _
 go_enter Tryz.func93, Tryz.ntmps93
 go_upto_region 1 with (fail)
 have kk : Below w.heap.size w (w.alloc (.cells #[.int .i64 lb, .int .i64 le, .int .i64 lr] 133)) := (Below.refl _ _).alloc (Nat.le_refl _) _
 have R := Row.new w 133 #[.int .i64 lb, .int .i64 le, .int .i64 lr]
 obtain ⟨w1, hw⟩ : ∃ w1, w.alloc (.cells #[.int .i64 lb, .int .i64 le, .int .i64 lr] 133) = w1 := ⟨_, rfl⟩
 rw [hw] at kk R ⊢
 obtain ⟨g, hg⟩ : ∃ g, w.heap.size = g := ⟨_, rfl⟩
 rw [hg] at R ⊢
 have HG := Lib.hid hg
 have HK := Lib.hid kk
 have hks := kk.size
 clear hw hg kk
 have lR := R.lt
 go_wp2_with fail
 go_loop [5, 6] (fun s i => ∃ k : Nat, k ≤ ws.length ∧ i = .int .i64 k ∧ s = .int .i64 (ws.take k).sum) (fun _ i => ws.length - (intOf i).toNat)
 case atStart => exact ⟨0, by omega, rfl, by simp⟩
 case round =>
  obtain ⟨k, hk, rfl, rfl⟩ := hrel
  by_cases hlt : k < ws.length
  ·obtain ⟨bk, off, rfl, hc, c0⟩ := (HV.out.below HK.out).intAt hlt
   have hbl := hc.1
   have i1 : (k : Int) < (ws.length : Int) := by omega
   have hn := Lib.hid (sum_take_succ hlt)
   have hle := sum_take_le (l := ws) (fun x hx => (HW.out x hx).1) k
   have hle2 := sum_take_le (l := ws) (fun x hx => (HW.out x hx).1) (k + 1)
   have hge := sum_nonneg (l := ws.take k) fun x hx => (HW.out x (List.mem_of_mem_take hx)).1
   have hb0 := HW.out _ (List.getElem_mem hlt)
   have hwr : IntKind.i64.wrap ((ws.take k).sum + ws[k]) = (ws.take k).sum + ws[k] := IntWalk.i64_in _ (by omega)
   clear hc hb0
   go_wp2_with fail
   go_round
   case rel => exact ⟨k + 1, by omega, by go_num, by rw [hn.out]⟩
   case measure => simp [intOf]; omega
  ·obtain rfl : k = ws.length := by omega
   rw [List.take_length]
   have hmk := fun w => mk_lvs w ws.length (by omega)
   have HO1 := Lib.hid (own_lvs w1 w.heap.size ws.length hks (by omega))
   have HB1 := Lib.hid (HK.out.alloc hks (.cells (madeCells #[.int .i64 0, .int .i64 0, .int .i64 0] (ws.length * 3)) 133))
   have R1 := R.alloc (.cells (madeCells #[.int .i64 0, .int .i64 0, .int .i64 0] (ws.length * 3)) 133)
   go_upto_region 7 with (fail)
   clear hmk R
   have hs2 : (w1.alloc (.cells (madeCells #[.int .i64 0, .int .i64 0, .int .i64 0] (ws.length * 3)) 133)).heap.size = w1.heap.size + 1 := by simp
   obtain ⟨w2, hw⟩ : ∃ w2, w1.alloc (.cells (madeCells #[.int .i64 0, .int .i64 0, .int .i64 0] (ws.length * 3)) 133) = w2 := ⟨_, rfl⟩
   rw [hw] at HO1 HB1 R1 hs2 ⊢
   obtain ⟨p, hp⟩ : ∃ p, w1.heap.size = p := ⟨_, rfl⟩
   have hpg : p ≠ g := by omega
   rw [hp] at HO1 hs2 ⊢
   have HS2 : Hid (p < w2.heap.size) := by rw [Hid, hs2]; omega
   clear hw hp hks lR hs2
   have lR1 := R1.lt
   have v0 : w2.cell? ⟨g, 0, none⟩ = some (.int .i64 lb) := Row.cell R1 0
   have v1 : w2.cell? ⟨g, 1, none⟩ = some (.int .i64 le) := Row.cell R1 1
   have v2 : w2.cell? ⟨g, 2, none⟩ = some (.int .i64 lr) := Row.cell R1 2
   by_cases hz : ws.sum = 0
   ·have hz0 : (ws.sum == 0) = true := by simp [hz]
    have i0 : (0 : Int) < (ws.length : Int) := by omega
    have x0 := HO1.out.cellE (by omega) (i := 0) (lvs_at (l := List.replicate ws.length ⟨0, 0, 0⟩) (by simp; omega)) (j := 0) rfl
    have x1 := HO1.out.cellE (by omega) (i := 0) (lvs_at (l := List.replicate ws.length ⟨0, 0, 0⟩) (by simp; omega)) (j := 1) rfl
    have x2 := HO1.out.cellE (by omega) (i := 0) (lvs_at (l := List.replicate ws.length ⟨0, 0, 0⟩) (by simp; omega)) (j := 2) rfl
    have f0 := HO1.out.frozenE 0
    have f1 := HO1.out.frozenE 1
    have f2 := HO1.out.frozenE 2
    simp only [Nat.zero_mul, Nat.zero_add] at x0 x1 x2
    have hst := HO1.out.store (by omega) 0 (by rw [lvs_len]; simp; omega) (Lv.vals ⟨lb, le, lr⟩) rfl (by simp [Lv.vals, Value.oneCell'])
    have HE : Hid (∃ l : List Lv, l.length = ws.length ∧ LvsOk l ∧ Own (((w2.setCell ⟨p, 0, none⟩ (.int .i64 lb)).setCell ⟨p, 1, none⟩ (.int .i64 le)).setCell ⟨p, 2, none⟩ (.int .i64 lr)) w.heap.size 133 3 (.slice (some ⟨p, 0, none⟩) ws.length ws.length) (lvs l) ∧ Below w.heap.size w (((w2.setCell ⟨p, 0, none⟩ (.int .i64 lb)).setCell ⟨p, 1, none⟩ (.int .i64 le)).setCell ⟨p, 2, none⟩ (.int .i64 lr))) := by
     obtain ⟨s1, s2⟩ := hst
     rw [lvs_set] at s1
     refine ⟨_, by simp, fun x hx => ?_, s1, HO1.out.grown HB1.out s2 HB1.out.size⟩
     rcases List.mem_or_eq_of_mem_set hx with hx | rfl
     ·rw [(List.mem_replicate.1 hx).2]; exact ⟨by dsimp only; omega, by dsimp only; omega, by dsimp only; omega⟩
     ·exact HLV.out
    clear hst hz
    go_wp2_with fail
    go_ret
    obtain ⟨l, hl1, hl2, hl3, hl4⟩ := HE.out
    first | exact ⟨_, rfl, l, hl1, hl2, hl3, hl4⟩ | exact ⟨_, l, rfl, hl1, hl2, hl3, hl4⟩
   ·have hz0 : (ws.sum == 0) = false := by simpa using hz
    have hpos : 0 < ws.sum := by omega
    have HA1 := Lib.hid (HA.out lb b1 hpos _ HB1.out)
    clear hz
    go_wp2_with fail
    refine HA1.out.mono ?_
    rintro e w3 ⟨u1, p1, rfl, al1, ow1, k3⟩
    have HB3 := Lib.hid (below_after HB1.out k3 HB1.out.size)
    have hs23 := k3.size
    have HO3 := Lib.hid (HO1.out.kept k3)
    have R3 := R1.below k3 lR1
    have lR3 := R3.lt
    have y1 : w3.cell? ⟨g, 1, none⟩ = some (.int .i64 le) := Row.cell R3 1
    have HA2 := Lib.hid (HA.out le b2 hpos _ HB3.out)
    clear v0 v1 v2 HA1 R1 lR1 HO1 HB1 k3
    go_wp2_with fail
    refine HA2.out.mono ?_
    rintro e w4 ⟨u2, p2, rfl, al2, ow2, k4⟩
    have HB4 := Lib.hid (below_after HB3.out k4 HB3.out.size)
    have hs34 := k4.size
    have HO4 := Lib.hid (HO3.out.kept k4)
    have ow1 := ow1.kept k4
    have R4 := R3.below k4 lR3
    have lR4 := R4.lt
    have y2 : w4.cell? ⟨g, 2, none⟩ = some (.int .i64 lr) := Row.cell R4 2
    have HA3 := Lib.hid (HA.out lr b3 hpos _ HB4.out)
    clear y1 HA2 R3 lR3 HO3 HB3 k4
    go_wp2_with fail
    refine HA3.out.mono ?_
    rintro e w5 ⟨u3, p3, rfl, al3, ow3, k5⟩
    have HB5 := Lib.hid (below_after HB4.out k5 HB4.out.size)
    have HO5 := Lib.hid (HO4.out.kept k5)
    have ow1 := ow1.kept k5
    have ow2 := ow2.kept k5
    clear y2 HA3 R4 lR4 HO4 HB4 k5
    have m1 := al1.len
    have m2 := al2.len
    have m3 := al3.len
    have HP1 := Lib.hid fun x (hx : x ∈ p1) => (show 0 ≤ x ∧ x ≤ 1000000000 by have h1 := al1.pos x hx; have h2 := sum_mem al1.pos hx; have := al1.sum; omega)
    have HP2 := Lib.hid fun x (hx : x ∈ p2) => (show 0 ≤ x ∧ x ≤ 1000000000 by have h1 := al2.pos x hx; have h2 := sum_mem al2.pos hx; have := al2.sum; omega)
    have HP3 := Lib.hid fun x (hx : x ∈ p3) => (show 0 ≤ x ∧ x ≤ 1000000000 by have h1 := al3.pos x hx; have h2 := sum_mem al3.pos hx; have := al3.sum; omega)
    obtain ⟨g1, c1, rfl, hc1⟩ := ow1.formP (by rw [ints_len]; omega)
    obtain ⟨g2, c2, rfl, hc2⟩ := ow2.formP (by rw [ints_len]; omega)
    obtain ⟨g3, c3, rfl, hc3⟩ := ow3.formP (by rw [ints_len]; omega)
    rw [ints_len p1, m1] at ow1 ⊢
    rw [ints_len p2, m2] at ow2 ⊢
    rw [ints_len p3, m3] at ow3 ⊢
    have q1 : g1 ≠ p := by have := (ow1.1.lt g1 rfl).1; have := HS2.out; omega
    have q2 : g2 ≠ p := by have := (ow2.1.lt g2 rfl).1; have := HS2.out; omega
    have q3 : g3 ≠ p := by have := (ow3.1.lt g3 rfl).1; have := HS2.out; omega
    have HX0 : Hid (LvsOk (List.replicate ws.length ⟨0, 0, 0⟩) ∧ Own w5 w.heap.size 133 3 (.slice (some ⟨p, 0, none⟩) ws.length ws.length) (lvs (List.replicate ws.length ⟨0, 0, 0⟩)) ∧ Below w.heap.size w w5 ∧ Own w5 w2.heap.size 3 1 (.slice (some ⟨g1, 0, none⟩) ws.length c1) (ints p1) ∧ Own w5 w2.heap.size 3 1 (.slice (some ⟨g2, 0, none⟩) ws.length c2) (ints p2) ∧ Own w5 w2.heap.size 3 1 (.slice (some ⟨g3, 0, none⟩) ws.length c3) (ints p3)) :=
     ⟨fun x hx => by rw [(List.mem_replicate.1 hx).2]; exact ⟨by dsimp only; omega, by dsimp only; omega, by dsimp only; omega⟩, HO5.out, HB5.out, ow1, ow2.more hs23, ow3.more (Nat.le_trans hs23 hs34)⟩
    have hrl : (List.replicate ws.length (⟨0, 0, 0⟩ : Lv)).length = ws.length := by simp
    obtain ⟨l0, hl0⟩ : ∃ l0 : List Lv, List.replicate ws.length ⟨0, 0, 0⟩ = l0 := ⟨_, rfl⟩
    rw [hl0] at HX0 hrl
    clear hl0 ow1 ow2 ow3 HO5 HB5 al1 al2 al3 HW HA HV HLV b1 b2 b3 HG HK hs0 hsb2 hz0 hpos hc1 hc2 hc3
    go_wp2_with fail
    go_loopw [14] (fun i wr => ∃ (k : Nat) (l : List Lv), k ≤ ws.length ∧ i = .int .i64 k ∧ l.length = ws.length ∧ Hid (LvsOk l ∧ Own wr w.heap.size 133 3 (.slice (some ⟨p, 0, none⟩) ws.length ws.length) (lvs l) ∧ Below w.heap.size w wr ∧ Own wr w2.heap.size 3 1 (.slice (some ⟨g1, 0, none⟩) ws.length c1) (ints p1) ∧ Own wr w2.heap.size 3 1 (.slice (some ⟨g2, 0, none⟩) ws.length c2) (ints p2) ∧ Own wr w2.heap.size 3 1 (.slice (some ⟨g3, 0, none⟩) ws.length c3) (ints p3))) (fun i _ => ws.length - (intOf i).toNat)
    case atStart => exact ⟨0, l0, by omega, rfl, hrl, HX0.out⟩
    case round =>
     clear HX0
     obtain ⟨k, l, hk, rfl, hll, HX⟩ := hrel
     obtain ⟨wo, rfl⟩ : ∃ wo : World, wo = wr := ⟨_, rfl⟩
     by_cases hlt : k < ws.length
     ·have i1 : (k : Int) < (ws.length : Int) := by omega
      obtain ⟨z1, hz1⟩ : ∃ z1, p1[k]? = some z1 := ⟨_, List.getElem?_eq_getElem (by omega)⟩
      obtain ⟨z2, hz2⟩ : ∃ z2, p2[k]? = some z2 := ⟨_, List.getElem?_eq_getElem (by omega)⟩
      obtain ⟨z3, hz3⟩ : ∃ z3, p3[k]? = some z3 := ⟨_, List.getElem?_eq_getElem (by omega)⟩
      have n1 := HP1.out z1 (List.mem_of_getElem? hz1)
      have n2 := HP2.out z2 (List.mem_of_getElem? hz2)
      have n3 := HP3.out z3 (List.mem_of_getElem? hz3)
      have r1 : wo.cell? ⟨g1, k, none⟩ = some (.int .i64 z1) := by
       have := HX.out.2.2.2.1.cellE (by omega) (i := k) (x := [.int .i64 z1]) (by simp [ints, hz1]) (j := 0) rfl
       rwa [Nat.mul_one, Nat.add_zero] at this
      have r2 : wo.cell? ⟨g2, k, none⟩ = some (.int .i64 z2) := by
       have := HX.out.2.2.2.2.1.cellE (by omega) (i := k) (x := [.int .i64 z2]) (by simp [ints, hz2]) (j := 0) rfl
       rwa [Nat.mul_one, Nat.add_zero] at this
      have r3 : wo.cell? ⟨g3, k, none⟩ = some (.int .i64 z3) := by
       have := HX.out.2.2.2.2.2.cellE (by omega) (i := k) (x := [.int .i64 z3]) (by simp [ints, hz3]) (j := 0) rfl
       rwa [Nat.mul_one, Nat.add_zero] at this
      have x0 := HX.out.2.1.cellE (by omega) (i := k) (lvs_at (l := l) (by omega)) (j := 0) rfl
      have x1 := HX.out.2.1.cellE (by omega) (i := k) (lvs_at (l := l) (by omega)) (j := 1) rfl
      have x2 := HX.out.2.1.cellE (by omega) (i := k) (lvs_at (l := l) (by omega)) (j := 2) rfl
      simp only [Nat.add_zero] at x0
      have f0 := HX.out.2.1.frozenE (k * 3)
      have f1 := HX.out.2.1.frozenE (k * 3 + 1)
      have f2 := HX.out.2.1.frozenE (k * 3 + 2)
      have HF : Hid (∃ l2 : List Lv, l2.length = ws.length ∧ (LvsOk l2 ∧ Own ((((wo.setCell ⟨p, k * 3, none⟩ (.int .i64 z1)).setCell ⟨p, k * 3 + 1, none⟩ (.int .i64 z2)).setCell ⟨p, k * 3 + 2, none⟩ (.int .i64 z3)).drew) w.heap.size 133 3 (.slice (some ⟨p, 0, none⟩) ws.length ws.length) (lvs l2) ∧ Below w.heap.size w ((((wo.setCell ⟨p, k * 3, none⟩ (.int .i64 z1)).setCell ⟨p, k * 3 + 1, none⟩ (.int .i64 z2)).setCell ⟨p, k * 3 + 2, none⟩ (.int .i64 z3)).drew) ∧ Own ((((wo.setCell ⟨p, k * 3, none⟩ (.int .i64 z1)).setCell ⟨p, k * 3 + 1, none⟩ (.int .i64 z2)).setCell ⟨p, k * 3 + 2, none⟩ (.int .i64 z3)).drew) w2.heap.size 3 1 (.slice (some ⟨g1, 0, none⟩) ws.length c1) (ints p1) ∧ Own ((((wo.setCell ⟨p, k * 3, none⟩ (.int .i64 z1)).setCell ⟨p, k * 3 + 1, none⟩ (.int .i64 z2)).setCell ⟨p, k * 3 + 2, none⟩ (.int .i64 z3)).drew) w2.heap.size 3 1 (.slice (some ⟨g2, 0, none⟩) ws.length c2) (ints p2) ∧ Own ((((wo.setCell ⟨p, k * 3, none⟩ (.int .i64 z1)).setCell ⟨p, k * 3 + 1, none⟩ (.int .i64 z2)).setCell ⟨p, k * 3 + 2, none⟩ (.int .i64 z3)).drew) w2.heap.size 3 1 (.slice (some ⟨g3, 0, none⟩) ws.length c3) (ints p3))) := by
       obtain ⟨s1, s2⟩ := HX.out.2.1.store (by omega) k (by rw [lvs_len]; omega) (Lv.vals ⟨z1, z2, z3⟩) rfl (by simp [Lv.vals, Value.oneCell'])
       rw [lvs_set] at s1
       have hb := HX.out.2.1.grown HX.out.2.2.1 s2 HX.out.2.2.1.size
       have t1 := HX.out.2.2.2.1.keepG s2 (sl_own_ne q1)
       have t2 := HX.out.2.2.2.2.1.keepG s2 (sl_own_ne q2)
       have t3 := HX.out.2.2.2.2.2.keepG s2 (sl_own_ne q3)
       refine ⟨l.set k ⟨z1, z2, z3⟩, by simp [hll], fun x hx => ?_, s1.drew, hb.drew, t1.drew, t2.drew, t3.drew⟩
       rcases List.mem_or_eq_of_mem_set hx with hx | rfl
       ·exact HX.out.1 x hx
       ·exact ⟨n1, n2, n3⟩
      clear HX hz1 hz2 hz3 n1 n2 n3
      go_upto_region 16 with (fail)
      go_region
      all_goals
       go_wp2_with fail
       go_roundw
       case rel =>
        obtain ⟨l2, hl2, hx2⟩ := HF.out
        exact ⟨k + 1, l2, by omega, by go_num, hl2, hx2⟩
       case measure => simp [intOf]; omega
     ·obtain rfl : k = ws.length := by omega
      have HE := Lib.hid HX.out
      clear HX
      go_wp2_with fail
      go_ret
      first | exact ⟨_, rfl, l, hll, HE.out.1, HE.out.2.1, HE.out.2.2.1⟩ | exact ⟨_, l, rfl, hll, HE.out.1, HE.out.2.1, HE.out.2.2.1⟩
end Go.Proofs.YtogdefomigiepaaGreatDoor
/- Contract of payrollref28.next. Written by gen_r28n.py. -/
namespace Go.Proofs.YtogdefomigiepaaGreatDoor
open Go.RowKit

def RowS (w : World) (g : Nat) : Prop := Row w g 133 #[.int .i64 0, .int .i64 0, .int .i64 0]
def RowP (w : World) (g g' : Nat) : Prop := RowS w g ∧ RowS w g'
def LvAt (w : World) (g : Nat) (a b c : Int) : Prop := w.cell? ⟨g, 0, none⟩ = some (.int .i64 a) ∧ w.cell? ⟨g, 1, none⟩ = some (.int .i64 b) ∧ w.cell? ⟨g, 2, none⟩ = some (.int .i64 c)

theorem rowA1 {Z wy : World} (h : Below (Z.alloc (.cells #[.int .i64 0, .int .i64 0, .int .i64 0] 133)).heap.size (Z.alloc (.cells #[.int .i64 0, .int .i64 0, .int .i64 0] 133)) wy) : RowS wy Z.heap.size := (Row.new Z _ _).below h (by simp)
theorem rowKS {Z wy : World} {g : Nat} (hr : RowS Z g) (h : Below Z.heap.size Z wy) : RowS wy g := Row.below hr h (Row.lt hr)
theorem rowKA {Z wy : World} {g : Nat} {o : Obj} (hr : RowS Z g) (h : Below (Z.alloc o).heap.size (Z.alloc o) wy) : RowS wy g := Row.below (Row.alloc hr o) h (Row.lt (Row.alloc hr o))
theorem rowKA2 {Z wy : World} {g : Nat} (hr : RowS Z g) (h : Below (Z.alloc (.cells #[.int .i64 0, .int .i64 0, .int .i64 0] 133)).heap.size (Z.alloc (.cells #[.int .i64 0, .int .i64 0, .int .i64 0] 133)) wy) : RowP wy g Z.heap.size := ⟨rowKA hr h, rowA1 h⟩
theorem rowA2 {Z wy : World} (h : Below ((Z.alloc (.cells #[.int .i64 0, .int .i64 0, .int .i64 0] 133)).alloc (.cells #[.int .i64 0, .int .i64 0, .int .i64 0] 133)).heap.size ((Z.alloc (.cells #[.int .i64 0, .int .i64 0, .int .i64 0] 133)).alloc (.cells #[.int .i64 0, .int .i64 0, .int .i64 0] 133)) wy) : RowP wy Z.heap.size (Z.heap.size + 1) := by
 have h1 := rowKA (o := .cells #[.int .i64 0, .int .i64 0, .int .i64 0] 133) (Row.new Z 133 #[.int .i64 0, .int .i64 0, .int .i64 0]) h
 have h2 := rowA1 h
 rw [World.size_alloc] at h2
 exact ⟨h1, h2⟩
theorem rowKP {Z wy : World} {g g' : Nat} (hr : RowP Z g g') (h : Below Z.heap.size Z wy) : RowP wy g g' := ⟨rowKS hr.1 h, rowKS hr.2 h⟩
theorem rowA1d {Z wy : World} (h : Below (Z.alloc (.cells #[.int .i64 0, .int .i64 0, .int .i64 0] 133)).drew.heap.size (Z.alloc (.cells #[.int .i64 0, .int .i64 0, .int .i64 0] 133)).drew wy) : RowS wy Z.heap.size := rowA1 (below_after (Below.drew (Below.refl _ _)) h (Nat.le_refl _))
theorem rowA2d {Z wy : World} (h : Below ((Z.alloc (.cells #[.int .i64 0, .int .i64 0, .int .i64 0] 133)).alloc (.cells #[.int .i64 0, .int .i64 0, .int .i64 0] 133)).drew.heap.size ((Z.alloc (.cells #[.int .i64 0, .int .i64 0, .int .i64 0] 133)).alloc (.cells #[.int .i64 0, .int .i64 0, .int .i64 0] 133)).drew wy) : RowP wy Z.heap.size (Z.heap.size + 1) := rowA2 (below_after (Below.drew (Below.refl _ _)) h (Nat.le_refl _))
theorem rowA1e {Z wy : World} (h : Below (Z.drew.alloc (.cells #[.int .i64 0, .int .i64 0, .int .i64 0] 133)).heap.size (Z.drew.alloc (.cells #[.int .i64 0, .int .i64 0, .int .i64 0] 133)) wy) : RowS wy Z.heap.size := rowA1 (Z := Z.drew) h
theorem rowA2e {Z wy : World} (h : Below ((Z.drew.alloc (.cells #[.int .i64 0, .int .i64 0, .int .i64 0] 133)).alloc (.cells #[.int .i64 0, .int .i64 0, .int .i64 0] 133)).heap.size ((Z.drew.alloc (.cells #[.int .i64 0, .int .i64 0, .int .i64 0] 133)).alloc (.cells #[.int .i64 0, .int .i64 0, .int .i64 0] 133)) wy) : RowP wy Z.heap.size (Z.heap.size + 1) := rowA2 (Z := Z.drew) h
theorem RowS.c {w : World} {g : Nat} (h : RowS w g) : w.cell? ⟨g, 0, none⟩ = some (.int .i64 0) ∧ w.cell? ⟨g, 1, none⟩ = some (.int .i64 0) ∧ w.cell? ⟨g, 2, none⟩ = some (.int .i64 0) ∧ w.frozen? ⟨g, 0, none⟩ = false ∧ w.frozen? ⟨g, 1, none⟩ = false ∧ w.frozen? ⟨g, 2, none⟩ = false ∧ g < w.heap.size := ⟨Row.cell h 0, Row.cell h 1, Row.cell h 2, Row.frozen h 0, Row.frozen h 1, Row.frozen h 2, Row.lt h⟩
theorem Sl.takeA {w : World} {sz n cap : Nat} {A : Option Addr} {es : List (List Value)} (h : Sl w sz (.slice A n cap) es) (hp : 0 < es.length) (k : Nat) (hk : k ≤ n) : Sl w sz (.slice A k cap) (es.take k) := by
 obtain ⟨b, off, rfl, _⟩ := h.cells hp
 have hc : n ≤ cap ∧ cap ≤ maxLen := by
  obtain ⟨_, _, hv, h1, h2, _⟩ := h
  injection hv with e1 e2 e3
  omega
 exact h.take k hk cap (by omega) hc.2
theorem LvAt.of {w : World} {g : Nat} {a b c : Int} (h : Row w g 133 #[.int .i64 a, .int .i64 b, .int .i64 c]) : LvAt w g a b c := ⟨Row.cell h 0, Row.cell h 1, Row.cell h 2⟩
theorem RowS.st {w : World} {g : Nat} (h : RowS w g) (a b c : Int) : Row (((w.setCell ⟨g, 0, none⟩ (.int .i64 a)).setCell ⟨g, 1, none⟩ (.int .i64 b)).setCell ⟨g, 2, none⟩ (.int .i64 c)) g 133 #[.int .i64 a, .int .i64 b, .int .i64 c] := ((Row.set h 0 _).set 1 _).set 2 _
theorem Below.st {T : Nat} {W w : World} {g : Nat} (h : Below T W w) (hg : T ≤ g) (a b c : Value) : Below T W (((w.setCell ⟨g, 0, none⟩ a).setCell ⟨g, 1, none⟩ b).setCell ⟨g, 2, none⟩ c) := ((h.setCell hg a).setCell hg b).setCell hg c
theorem lvA {W Z : World} {xx xa xb yy ya yb : Int} (h : Below W.heap.size W Z) : Hid (LvAt ((Z.alloc (.cells #[.int .i64 xx, .int .i64 xa, .int .i64 xb] 133)).alloc (.cells #[.int .i64 yy, .int .i64 ya, .int .i64 yb] 133)) Z.heap.size xx xa xb ∧ LvAt ((Z.alloc (.cells #[.int .i64 xx, .int .i64 xa, .int .i64 xb] 133)).alloc (.cells #[.int .i64 yy, .int .i64 ya, .int .i64 yb] 133)) (Z.heap.size + 1) yy ya yb ∧ Below W.heap.size W ((Z.alloc (.cells #[.int .i64 xx, .int .i64 xa, .int .i64 xb] 133)).alloc (.cells #[.int .i64 yy, .int .i64 ya, .int .i64 yb] 133))) := by
 have r1 := (Row.new Z 133 #[.int .i64 xx, .int .i64 xa, .int .i64 xb])
 have r2 := (Row.new (Z.alloc (.cells #[.int .i64 xx, .int .i64 xa, .int .i64 xb] 133)) 133 #[.int .i64 yy, .int .i64 ya, .int .i64 yb])
 rw [World.size_alloc] at r2
 exact Lib.hid ⟨.of (r1.alloc _), .of r2, (h.alloc h.size _).alloc (h.alloc h.size _).size _⟩
theorem Hid.sw {p q r : Prop} (h : Hid (p ∧ q ∧ r)) : Hid (q ∧ p ∧ r) := Lib.hid ⟨h.out.2.1, h.out.1, h.out.2.2⟩
theorem lvC {g : Nat} {W Z : World} {xx xa xb yy ya yb : Int} (h : Below W.heap.size W Z) (hr : RowS Z g) (hg : W.heap.size ≤ g) : Hid (LvAt ((((Z.setCell ⟨g, 0, none⟩ (.int .i64 xx)).setCell ⟨g, 1, none⟩ (.int .i64 xa)).setCell ⟨g, 2, none⟩ (.int .i64 xb)).alloc (.cells #[.int .i64 yy, .int .i64 ya, .int .i64 yb] 133)) g xx xa xb ∧ LvAt ((((Z.setCell ⟨g, 0, none⟩ (.int .i64 xx)).setCell ⟨g, 1, none⟩ (.int .i64 xa)).setCell ⟨g, 2, none⟩ (.int .i64 xb)).alloc (.cells #[.int .i64 yy, .int .i64 ya, .int .i64 yb] 133)) Z.heap.size yy ya yb ∧ Below W.heap.size W ((((Z.setCell ⟨g, 0, none⟩ (.int .i64 xx)).setCell ⟨g, 1, none⟩ (.int .i64 xa)).setCell ⟨g, 2, none⟩ (.int .i64 xb)).alloc (.cells #[.int .i64 yy, .int .i64 ya, .int .i64 yb] 133))) := by
 have r1 := (RowS.st hr xx xa xb).alloc (.cells #[.int .i64 yy, .int .i64 ya, .int .i64 yb] 133)
 have r2 := Row.new (((Z.setCell ⟨g, 0, none⟩ (.int .i64 xx)).setCell ⟨g, 1, none⟩ (.int .i64 xa)).setCell ⟨g, 2, none⟩ (.int .i64 xb)) 133 #[.int .i64 yy, .int .i64 ya, .int .i64 yb]
 simp only [World.size_setCell] at r2
 have h2 := Below.st h hg (.int .i64 xx) (.int .i64 xa) (.int .i64 xb)
 exact Lib.hid ⟨.of r1, .of r2, h2.alloc h2.size _⟩
theorem lvE {T g g' : Nat} {W Z : World} {xx xa xb yy ya yb : Int} (h : Below T W Z) (hr : RowP Z g g') (hg : T ≤ g ∧ T ≤ g' ∧ g ≠ g') : Hid (LvAt ((((((Z.setCell ⟨g, 0, none⟩ (.int .i64 xx)).setCell ⟨g, 1, none⟩ (.int .i64 xa)).setCell ⟨g, 2, none⟩ (.int .i64 xb)).setCell ⟨g', 0, none⟩ (.int .i64 yy)).setCell ⟨g', 1, none⟩ (.int .i64 ya)).setCell ⟨g', 2, none⟩ (.int .i64 yb)) g xx xa xb ∧ LvAt ((((((Z.setCell ⟨g, 0, none⟩ (.int .i64 xx)).setCell ⟨g, 1, none⟩ (.int .i64 xa)).setCell ⟨g, 2, none⟩ (.int .i64 xb)).setCell ⟨g', 0, none⟩ (.int .i64 yy)).setCell ⟨g', 1, none⟩ (.int .i64 ya)).setCell ⟨g', 2, none⟩ (.int .i64 yb)) g' yy ya yb ∧ Below T W ((((((Z.setCell ⟨g, 0, none⟩ (.int .i64 xx)).setCell ⟨g, 1, none⟩ (.int .i64 xa)).setCell ⟨g, 2, none⟩ (.int .i64 xb)).setCell ⟨g', 0, none⟩ (.int .i64 yy)).setCell ⟨g', 1, none⟩ (.int .i64 ya)).setCell ⟨g', 2, none⟩ (.int .i64 yb))) := by
 have r1 := RowS.st hr.1 xx xa xb
 have r2 : RowS (((Z.setCell ⟨g, 0, none⟩ (.int .i64 xx)).setCell ⟨g, 1, none⟩ (.int .i64 xa)).setCell ⟨g, 2, none⟩ (.int .i64 xb)) g' := ((Row.far hr.2 (fun e => hg.2.2 e.symm) _).far (fun e => hg.2.2 e.symm) _).far (fun e => hg.2.2 e.symm) _
 have h2 := Below.st h hg.1 (.int .i64 xx) (.int .i64 xa) (.int .i64 xb)
 have h3 := Below.st h2 hg.2.1 (.int .i64 yy) (.int .i64 ya) (.int .i64 yb)
 exact Lib.hid ⟨.of (((r1.far hg.2.2 _).far hg.2.2 _).far hg.2.2 _), .of (RowS.st r2 yy ya yb), h3⟩
theorem RowP.sw {w : World} {g g' : Nat} (h : RowP w g g') : RowP w g' g := ⟨h.2, h.1⟩
set_option maxRecDepth 100000 in
set_option maxHeartbeats 4000000 in
theorem next_ok (s : Sc) (hs : ScOk s) (l : List Int) (v : Value) (w : World) (hv : Sl w 1 v (ints l)) (hl : 0 < l.length ∧ l.length ≤ 4) (ha : ∀ x ∈ l, 0 ≤ x ∧ x ≤ 225000000) :
  Calls Tryz.prog 92 #[.agg s.vals.toArray, v] w fun e w' => e = .returned (.agg (nextI s l).vals.toArray) ∧ Below w.heap.size w w' := by
 have ha9 : ∀ x ∈ l, 0 ≤ x ∧ x ≤ 1000000000 := fun x hx => by have := ha x hx; omega
 have hat : ∀ x ∈ l.take (l.length - 1), 0 ≤ x ∧ x ≤ 225000000 := fun x hx => ha x (List.mem_of_mem_take hx)
 have hat9 : ∀ x ∈ l.take (l.length - 1), 0 ≤ x ∧ x ≤ 1000000000 := fun x hx => ha9 x (List.mem_of_mem_take hx)
 have hc0 : 0 ≤ s.ceil ∧ s.ceil ≤ 1000000000 := by have := hs.ceil; omega
 have b1 := cumI_le (f := s.floor) (c := s.ceil) ha
 have b2 := cumI_nonneg (f := s.floor) (l := l) (fun x hx => (ha x hx).1) hc0.1
 have b3 := cumI_nonneg (f := s.floor) (l := l.take (l.length - 1)) (fun x hx => (hat x hx).1) hc0.1
 have b4 := cumI_take (f := s.floor) (l := l) (fun x hx => (ha x hx).1) hc0.1 (l.length - 1)
 have b5 : (225000000 : Int) * l.length ≤ 225000000 * 4 := Int.mul_le_mul_of_nonneg_left (by omega) (by omega)
 have e1 := partI_bounds s.mode b2 hs.ee.1 hs.ee.2 hs.unit.1
 have e2 := partI_bounds s.mode b3 hs.ee.1 hs.ee.2 hs.unit.1
 have e3 := partI_bounds s.mode b2 hs.er.1 hs.er.2 hs.unit.1
 have e4 := partI_bounds s.mode b3 hs.er.1 hs.er.2 hs.unit.1
 have hun := hs.unit
 have hsl : Sl w 1 v (ints l) := hv
 have hvt : ∀ A cap, v = .slice A l.length cap → Sl w 1 (.slice A (l.length - 1) cap) (ints (l.take (l.length - 1))) := fun A cap e => by
  subst e
  have := hv.takeA (by rw [ints_len]; omega) (l.length - 1) (by omega)
  rwa [show (ints l).take (l.length - 1) = ints (l.take (l.length - 1)) by simp [ints, List.map_take]] at this
 have HC1 := Lib.hid fun (y : World) (hy : Below w.heap.size w y) => cumulated_ok s hc0 l v y (hsl.below hy) (by omega) ha9
 have HC2 := Lib.hid fun (y : World) (hy : Below w.heap.size w y) A cap (e : v = .slice A l.length cap) => cumulated_ok s hc0 (l.take (l.length - 1)) (.slice A (l.length - 1) cap) y ((hvt A cap e).below hy) (by rw [List.length_take]; omega) hat9
 have HL1 := Lib.hid fun y => levy_ok s hs (cumI s.floor s.ceil l) (by omega) y
 have HL2 := Lib.hid fun y => levy_ok s hs (cumI s.floor s.ceil (l.take (l.length - 1))) (by omega) y
 have HN : Hid (nextI s l = ⟨cumI s.floor s.ceil l - cumI s.floor s.ceil (l.take (l.length - 1)), partI (cumI s.floor s.ceil l) s.ee s.unit s.mode - partI (cumI s.floor s.ceil (l.take (l.length - 1))) s.ee s.unit s.mode, partI (cumI s.floor s.ceil l) s.er s.unit s.mode - partI (cumI s.floor s.ceil (l.take (l.length - 1))) s.er s.unit s.mode⟩) := rfl
 simp only [levyI, Lv.vals] at HL1 HL2
 rw [HN.out]
 obtain ⟨A, cap, rfl, h1, h2, _, _⟩ := hv
 rw [ints_len] at h1 HC1 HC2 ⊢
 unfold maxLen at h2
 have HC2' := Lib.hid fun (y : World) (hy : Below w.heap.size w y) => HC2.out y hy A cap rfl
 obtain ⟨code, ee, er, fl, ce, un, mo, de⟩ := s
 dsimp only at *
 simp only [Sc.vals] at HC1 HC2' HL1 HL2
 clear HC2 hsl hvt ha ha9 hat hat9 hs hc0
 obtain ⟨X, hX⟩ : ∃ X, cumI fl ce l = X := ⟨_, rfl⟩
 obtain ⟨Y, hY⟩ : ∃ Y, cumI fl ce (l.take (l.length - 1)) = Y := ⟨_, rfl⟩
 rw [hX] at HC1 HL1 b1 b2 b4 e1 e3 ⊢
 rw [hY] at HC2' HL2 b3 b4 e2 e4 ⊢
 obtain ⟨xa, hxa⟩ : ∃ xa, partI X ee un mo = xa := ⟨_, rfl⟩
 obtain ⟨xb, hxb⟩ : ∃ xb, partI X er un mo = xb := ⟨_, rfl⟩
 obtain ⟨ya, hya⟩ : ∃ ya, partI Y ee un mo = ya := ⟨_, rfl⟩
 obtain ⟨yb, hyb⟩ : ∃ yb, partI Y er un mo = yb := ⟨_, rfl⟩
 rw [hxa] at HL1 e1 ⊢
 rw [hxb] at HL1 e3 ⊢
 rw [hya] at HL2 e2 ⊢
 rw [hyb] at HL2 e4 ⊢
 have s1 : IntKind.i64.wrap (X - Y) = X - Y := IntWalk.i64_in _ (by omega)
 have s2 : IntKind.i64.wrap (xa - ya) = xa - ya := IntWalk.i64_in _ (by omega)
 have s3 : IntKind.i64.wrap (xb - yb) = xb - yb := IntWalk.i64_in _ (by omega)
 have s4 : IntKind.i64.wrap ((l.length : Int) - 1) = ((l.length - 1 : Nat) : Int) := by rw [show (l.length : Int) - 1 = ((l.length - 1 : Nat) : Int) by omega]; exact IntWalk.i64_in _ (by omega)
 have i1 : ((l.length - 1 : Nat) : Int) ≤ (cap : Int) := by omega
 have i2 : l.length - 1 ≤ cap := by omega
 clear hX hY hxa hxb hya hyb HN b1 b2 b3 b4 b5 e1 e2 e3 e4 hun
 generalize hN1 : l.length - 1 = N1 at *
 generalize hN : l.length = N at *
 show Calls Tryz.prog 92 #[.agg #[.string code, .int .i64 ee, .int .i64 er, .int .i64 fl, .int .i64 ce, .int .i64 un, .int .i64 mo, .bool de], .slice A N cap] w fun e w' => e = .returned (.agg #[.int .i64 (X - Y), .int .i64 (xa - ya), .int .i64 (xb - yb)]) ∧ Below w.heap.size w w'
 go_enter Tryz.func92, Tryz.ntmps92
 go_upto_region 1 with (fail)
 have kk : Below w.heap.size w (w.alloc (.cells #[.string code, .int .i64 ee, .int .i64 er, .int .i64 fl, .int .i64 ce, .int .i64 un, .int .i64 mo, .bool de] 131)) := (Below.refl _ _).alloc (Nat.le_refl _) _
 have S_1 := Row.new w 131 #[.string code, .int .i64 ee, .int .i64 er, .int .i64 fl, .int .i64 ce, .int .i64 un, .int .i64 mo, .bool de]
 have hsS : (w.alloc (.cells #[.string code, .int .i64 ee, .int .i64 er, .int .i64 fl, .int .i64 ce, .int .i64 un, .int .i64 mo, .bool de] 131)).heap.size = w.heap.size + 1 := by simp
 obtain ⟨w1, hw⟩ : ∃ w1, w.alloc (.cells #[.string code, .int .i64 ee, .int .i64 er, .int .i64 fl, .int .i64 ce, .int .i64 un, .int .i64 mo, .bool de] 131) = w1 := ⟨_, rfl⟩
 rw [hw] at kk S_1 hsS ⊢
 clear hw
 obtain ⟨gS, hg⟩ : ∃ gS, w.heap.size = gS := ⟨_, rfl⟩
 rw [hg] at S_1 hsS ⊢
 have zS : w.heap.size ≤ gS := by omega
 clear hg
 have b1 := Lib.hid kk
 clear kk
 have kk : Below w1.heap.size w1 (w1.alloc (.cells #[.int .i64 0, .int .i64 0, .int .i64 0] 133)) := (Below.refl _ _).alloc (Nat.le_refl _) _
 have R_2 := Row.new w1 133 #[.int .i64 0, .int .i64 0, .int .i64 0]
 have hsR : (w1.alloc (.cells #[.int .i64 0, .int .i64 0, .int .i64 0] 133)).heap.size = w1.heap.size + 1 := by simp
 obtain ⟨w2, hw⟩ : ∃ w2, w1.alloc (.cells #[.int .i64 0, .int .i64 0, .int .i64 0] 133) = w2 := ⟨_, rfl⟩
 rw [hw] at kk R_2 hsR ⊢
 clear hw
 obtain ⟨gR, hg⟩ : ∃ gR, gS + 1 = gR := ⟨_, rfl⟩
 rw [hsS, hg] at R_2 hsR
 rw [hg]
 have hg : w1.heap.size = gR := by rw [hsS, hg]
 have zR : w.heap.size ≤ gR := by have := b1.out.size; omega
 clear hg hsS
 have S_2 := Row.below S_1 kk S_1.lt
 have b2 := Lib.hid (below_after b1.out kk b1.out.size)
 clear S_1 b1 kk
 clear hsR
 have KS : ∀ w', Below w2.heap.size w2 w' → w'.cell? ⟨gS, 0, none⟩ = some (.string code) ∧ w'.cell? ⟨gS, 1, none⟩ = some (.int .i64 ee) ∧ w'.cell? ⟨gS, 2, none⟩ = some (.int .i64 er) ∧ w'.cell? ⟨gS, 3, none⟩ = some (.int .i64 fl) ∧ w'.cell? ⟨gS, 4, none⟩ = some (.int .i64 ce) ∧ w'.cell? ⟨gS, 5, none⟩ = some (.int .i64 un) ∧ w'.cell? ⟨gS, 6, none⟩ = some (.int .i64 mo) ∧ w'.cell? ⟨gS, 7, none⟩ = some (.bool de) ∧ Below w2.heap.size w2 w' := fun w' hb => ⟨Row.cell (Row.below S_2 hb (Row.lt S_2)) 0, Row.cell (Row.below S_2 hb (Row.lt S_2)) 1, Row.cell (Row.below S_2 hb (Row.lt S_2)) 2, Row.cell (Row.below S_2 hb (Row.lt S_2)) 3, Row.cell (Row.below S_2 hb (Row.lt S_2)) 4, Row.cell (Row.below S_2 hb (Row.lt S_2)) 5, Row.cell (Row.below S_2 hb (Row.lt S_2)) 6, Row.cell (Row.below S_2 hb (Row.lt S_2)) 7, hb⟩
 have HKS := Lib.hid KS
 clear KS
 have HAL : Hid (∀ y o, Below w2.heap.size w2 y → Below w2.heap.size w2 (y.alloc o)) := fun y o h => h.alloc h.size o
 have HDR : Hid (∀ y, Below w2.heap.size w2 y → Below w2.heap.size w2 y.drew) := fun y h => Below.drew h
 have HSET : Hid (∀ y g i u, w2.heap.size ≤ g → Below w2.heap.size w2 y → Below w2.heap.size w2 (World.setCell y ⟨g, i, none⟩ u)) := fun y g i u hg h => h.setCell hg u
 have HBA : Hid (∀ y z, Below y.heap.size y z → Below w2.heap.size w2 y → Below w2.heap.size w2 z) := fun y z h k => below_after k h k.size
 have HD1 := Lib.hid fun y (hy : Below w2.heap.size w2 y) => HC1.out y (below_after b2.out hy b2.out.size)
 have HD2 := Lib.hid fun y (hy : Below w2.heap.size w2 y) => HC2'.out y (below_after b2.out hy b2.out.size)
 go_cut [5, 6] (fun p5 p6 wx => ∃ g5 g6 : Nat, p5 = .pointer (some ⟨g5, 0, none⟩) ∧ p6 = .pointer (some ⟨g6, 0, none⟩) ∧ Hid (LvAt wx g5 X xa xb ∧ LvAt wx g6 Y ya yb ∧ Below w2.heap.size w2 wx))
 case first =>
  go_region_held3 (fun w' => w'.cell? ⟨gS, 0, none⟩ = some (.string code) ∧ w'.cell? ⟨gS, 1, none⟩ = some (.int .i64 ee) ∧ w'.cell? ⟨gS, 2, none⟩ = some (.int .i64 er) ∧ w'.cell? ⟨gS, 3, none⟩ = some (.int .i64 fl) ∧ w'.cell? ⟨gS, 4, none⟩ = some (.int .i64 ce) ∧ w'.cell? ⟨gS, 5, none⟩ = some (.int .i64 un) ∧ w'.cell? ⟨gS, 6, none⟩ = some (.int .i64 mo) ∧ w'.cell? ⟨gS, 7, none⟩ = some (.bool de) ∧ Below w2.heap.size w2 w') (with_reducible refine HKS.out _ ?_; (repeat (first | with_reducible assumption | with_reducible exact Below.refl _ _ | with_reducible refine HAL.out _ _ ?_ | with_reducible refine HDR.out _ ?_ | with_reducible refine HSET.out _ _ _ _ (by first | omega | (simp; omega)) ?_))) (first
   | (go_at_call_of 127 (N); refine (HD1.out _ (by (repeat (first | with_reducible assumption | with_reducible exact Below.refl _ _ | with_reducible refine HAL.out _ _ ?_ | with_reducible refine HDR.out _ ?_ | with_reducible refine HSET.out _ _ _ _ (by first | omega | (simp; omega)) ?_)))).mono ?_; rintro e wy ⟨rfl, hby⟩; have hbz := HBA.out _ _ hby (by (repeat (first | with_reducible assumption | with_reducible exact Below.refl _ _ | with_reducible refine HAL.out _ _ ?_ | with_reducible refine HDR.out _ ?_ | with_reducible refine HSET.out _ _ _ _ (by first | omega | (simp; omega)) ?_))); have hsz := Below.size hbz; first | (have qp := rowKP (by with_reducible assumption) hby; obtain ⟨ca0, ca1, ca2, ca3, ca4, ca5, ca6⟩ := RowS.c qp.1; have ca7 := Nat.ne_of_lt ca6; obtain ⟨cb0, cb1, cb2, cb3, cb4, cb5, cb6⟩ := RowS.c qp.2; have cb7 := Nat.ne_of_lt cb6; clear hby) | (have qp := rowA2e hby; obtain ⟨ca0, ca1, ca2, ca3, ca4, ca5, ca6⟩ := RowS.c qp.1; have ca7 := Nat.ne_of_lt ca6; obtain ⟨cb0, cb1, cb2, cb3, cb4, cb5, cb6⟩ := RowS.c qp.2; have cb7 := Nat.ne_of_lt cb6; clear hby) | (have qp := rowA2d hby; obtain ⟨ca0, ca1, ca2, ca3, ca4, ca5, ca6⟩ := RowS.c qp.1; have ca7 := Nat.ne_of_lt ca6; obtain ⟨cb0, cb1, cb2, cb3, cb4, cb5, cb6⟩ := RowS.c qp.2; have cb7 := Nat.ne_of_lt cb6; clear hby) | (have qp := rowA2 hby; obtain ⟨ca0, ca1, ca2, ca3, ca4, ca5, ca6⟩ := RowS.c qp.1; have ca7 := Nat.ne_of_lt ca6; obtain ⟨cb0, cb1, cb2, cb3, cb4, cb5, cb6⟩ := RowS.c qp.2; have cb7 := Nat.ne_of_lt cb6; clear hby) | (have qp := rowKA2 (by with_reducible assumption) hby; obtain ⟨ca0, ca1, ca2, ca3, ca4, ca5, ca6⟩ := RowS.c qp.1; have ca7 := Nat.ne_of_lt ca6; obtain ⟨cb0, cb1, cb2, cb3, cb4, cb5, cb6⟩ := RowS.c qp.2; have cb7 := Nat.ne_of_lt cb6; clear hby) | (have qs := rowKS (by with_reducible assumption) hby; obtain ⟨ca0, ca1, ca2, ca3, ca4, ca5, ca6⟩ := RowS.c qs; have ca7 := Nat.ne_of_lt ca6; clear hby) | (have qs := rowA1e hby; obtain ⟨ca0, ca1, ca2, ca3, ca4, ca5, ca6⟩ := RowS.c qs; have ca7 := Nat.ne_of_lt ca6; clear hby) | (have qs := rowA1d hby; obtain ⟨ca0, ca1, ca2, ca3, ca4, ca5, ca6⟩ := RowS.c qs; have ca7 := Nat.ne_of_lt ca6; clear hby) | (have qs := rowA1 hby; obtain ⟨ca0, ca1, ca2, ca3, ca4, ca5, ca6⟩ := RowS.c qs; have ca7 := Nat.ne_of_lt ca6; clear hby) | clear hby)
   | (go_at_call_of 127 (N1); refine (HD2.out _ (by (repeat (first | with_reducible assumption | with_reducible exact Below.refl _ _ | with_reducible refine HAL.out _ _ ?_ | with_reducible refine HDR.out _ ?_ | with_reducible refine HSET.out _ _ _ _ (by first | omega | (simp; omega)) ?_)))).mono ?_; rintro e wy ⟨rfl, hby⟩; have hbz := HBA.out _ _ hby (by (repeat (first | with_reducible assumption | with_reducible exact Below.refl _ _ | with_reducible refine HAL.out _ _ ?_ | with_reducible refine HDR.out _ ?_ | with_reducible refine HSET.out _ _ _ _ (by first | omega | (simp; omega)) ?_))); have hsz := Below.size hbz; first | (have qp := rowKP (by with_reducible assumption) hby; obtain ⟨ca0, ca1, ca2, ca3, ca4, ca5, ca6⟩ := RowS.c qp.1; have ca7 := Nat.ne_of_lt ca6; obtain ⟨cb0, cb1, cb2, cb3, cb4, cb5, cb6⟩ := RowS.c qp.2; have cb7 := Nat.ne_of_lt cb6; clear hby) | (have qp := rowA2e hby; obtain ⟨ca0, ca1, ca2, ca3, ca4, ca5, ca6⟩ := RowS.c qp.1; have ca7 := Nat.ne_of_lt ca6; obtain ⟨cb0, cb1, cb2, cb3, cb4, cb5, cb6⟩ := RowS.c qp.2; have cb7 := Nat.ne_of_lt cb6; clear hby) | (have qp := rowA2d hby; obtain ⟨ca0, ca1, ca2, ca3, ca4, ca5, ca6⟩ := RowS.c qp.1; have ca7 := Nat.ne_of_lt ca6; obtain ⟨cb0, cb1, cb2, cb3, cb4, cb5, cb6⟩ := RowS.c qp.2; have cb7 := Nat.ne_of_lt cb6; clear hby) | (have qp := rowA2 hby; obtain ⟨ca0, ca1, ca2, ca3, ca4, ca5, ca6⟩ := RowS.c qp.1; have ca7 := Nat.ne_of_lt ca6; obtain ⟨cb0, cb1, cb2, cb3, cb4, cb5, cb6⟩ := RowS.c qp.2; have cb7 := Nat.ne_of_lt cb6; clear hby) | (have qp := rowKA2 (by with_reducible assumption) hby; obtain ⟨ca0, ca1, ca2, ca3, ca4, ca5, ca6⟩ := RowS.c qp.1; have ca7 := Nat.ne_of_lt ca6; obtain ⟨cb0, cb1, cb2, cb3, cb4, cb5, cb6⟩ := RowS.c qp.2; have cb7 := Nat.ne_of_lt cb6; clear hby) | (have qs := rowKS (by with_reducible assumption) hby; obtain ⟨ca0, ca1, ca2, ca3, ca4, ca5, ca6⟩ := RowS.c qs; have ca7 := Nat.ne_of_lt ca6; clear hby) | (have qs := rowA1e hby; obtain ⟨ca0, ca1, ca2, ca3, ca4, ca5, ca6⟩ := RowS.c qs; have ca7 := Nat.ne_of_lt ca6; clear hby) | (have qs := rowA1d hby; obtain ⟨ca0, ca1, ca2, ca3, ca4, ca5, ca6⟩ := RowS.c qs; have ca7 := Nat.ne_of_lt ca6; clear hby) | (have qs := rowA1 hby; obtain ⟨ca0, ca1, ca2, ca3, ca4, ca5, ca6⟩ := RowS.c qs; have ca7 := Nat.ne_of_lt ca6; clear hby) | clear hby)
   | (go_at_call_of 126 (X); refine (HL1.out _).mono ?_; rintro e wy ⟨rfl, hby⟩; have hbz := HBA.out _ _ hby (by (repeat (first | with_reducible assumption | with_reducible exact Below.refl _ _ | with_reducible refine HAL.out _ _ ?_ | with_reducible refine HDR.out _ ?_ | with_reducible refine HSET.out _ _ _ _ (by first | omega | (simp; omega)) ?_))); have hsz := Below.size hbz; first | (have qp := rowKP (by with_reducible assumption) hby; obtain ⟨ca0, ca1, ca2, ca3, ca4, ca5, ca6⟩ := RowS.c qp.1; have ca7 := Nat.ne_of_lt ca6; obtain ⟨cb0, cb1, cb2, cb3, cb4, cb5, cb6⟩ := RowS.c qp.2; have cb7 := Nat.ne_of_lt cb6; clear hby) | (have qp := rowA2e hby; obtain ⟨ca0, ca1, ca2, ca3, ca4, ca5, ca6⟩ := RowS.c qp.1; have ca7 := Nat.ne_of_lt ca6; obtain ⟨cb0, cb1, cb2, cb3, cb4, cb5, cb6⟩ := RowS.c qp.2; have cb7 := Nat.ne_of_lt cb6; clear hby) | (have qp := rowA2d hby; obtain ⟨ca0, ca1, ca2, ca3, ca4, ca5, ca6⟩ := RowS.c qp.1; have ca7 := Nat.ne_of_lt ca6; obtain ⟨cb0, cb1, cb2, cb3, cb4, cb5, cb6⟩ := RowS.c qp.2; have cb7 := Nat.ne_of_lt cb6; clear hby) | (have qp := rowA2 hby; obtain ⟨ca0, ca1, ca2, ca3, ca4, ca5, ca6⟩ := RowS.c qp.1; have ca7 := Nat.ne_of_lt ca6; obtain ⟨cb0, cb1, cb2, cb3, cb4, cb5, cb6⟩ := RowS.c qp.2; have cb7 := Nat.ne_of_lt cb6; clear hby) | (have qp := rowKA2 (by with_reducible assumption) hby; obtain ⟨ca0, ca1, ca2, ca3, ca4, ca5, ca6⟩ := RowS.c qp.1; have ca7 := Nat.ne_of_lt ca6; obtain ⟨cb0, cb1, cb2, cb3, cb4, cb5, cb6⟩ := RowS.c qp.2; have cb7 := Nat.ne_of_lt cb6; clear hby) | (have qs := rowKS (by with_reducible assumption) hby; obtain ⟨ca0, ca1, ca2, ca3, ca4, ca5, ca6⟩ := RowS.c qs; have ca7 := Nat.ne_of_lt ca6; clear hby) | (have qs := rowA1e hby; obtain ⟨ca0, ca1, ca2, ca3, ca4, ca5, ca6⟩ := RowS.c qs; have ca7 := Nat.ne_of_lt ca6; clear hby) | (have qs := rowA1d hby; obtain ⟨ca0, ca1, ca2, ca3, ca4, ca5, ca6⟩ := RowS.c qs; have ca7 := Nat.ne_of_lt ca6; clear hby) | (have qs := rowA1 hby; obtain ⟨ca0, ca1, ca2, ca3, ca4, ca5, ca6⟩ := RowS.c qs; have ca7 := Nat.ne_of_lt ca6; clear hby) | clear hby)
   | (go_at_call_of 126 (Y); refine (HL2.out _).mono ?_; rintro e wy ⟨rfl, hby⟩; have hbz := HBA.out _ _ hby (by (repeat (first | with_reducible assumption | with_reducible exact Below.refl _ _ | with_reducible refine HAL.out _ _ ?_ | with_reducible refine HDR.out _ ?_ | with_reducible refine HSET.out _ _ _ _ (by first | omega | (simp; omega)) ?_))); have hsz := Below.size hbz; first | (have qp := rowKP (by with_reducible assumption) hby; obtain ⟨ca0, ca1, ca2, ca3, ca4, ca5, ca6⟩ := RowS.c qp.1; have ca7 := Nat.ne_of_lt ca6; obtain ⟨cb0, cb1, cb2, cb3, cb4, cb5, cb6⟩ := RowS.c qp.2; have cb7 := Nat.ne_of_lt cb6; clear hby) | (have qp := rowA2e hby; obtain ⟨ca0, ca1, ca2, ca3, ca4, ca5, ca6⟩ := RowS.c qp.1; have ca7 := Nat.ne_of_lt ca6; obtain ⟨cb0, cb1, cb2, cb3, cb4, cb5, cb6⟩ := RowS.c qp.2; have cb7 := Nat.ne_of_lt cb6; clear hby) | (have qp := rowA2d hby; obtain ⟨ca0, ca1, ca2, ca3, ca4, ca5, ca6⟩ := RowS.c qp.1; have ca7 := Nat.ne_of_lt ca6; obtain ⟨cb0, cb1, cb2, cb3, cb4, cb5, cb6⟩ := RowS.c qp.2; have cb7 := Nat.ne_of_lt cb6; clear hby) | (have qp := rowA2 hby; obtain ⟨ca0, ca1, ca2, ca3, ca4, ca5, ca6⟩ := RowS.c qp.1; have ca7 := Nat.ne_of_lt ca6; obtain ⟨cb0, cb1, cb2, cb3, cb4, cb5, cb6⟩ := RowS.c qp.2; have cb7 := Nat.ne_of_lt cb6; clear hby) | (have qp := rowKA2 (by with_reducible assumption) hby; obtain ⟨ca0, ca1, ca2, ca3, ca4, ca5, ca6⟩ := RowS.c qp.1; have ca7 := Nat.ne_of_lt ca6; obtain ⟨cb0, cb1, cb2, cb3, cb4, cb5, cb6⟩ := RowS.c qp.2; have cb7 := Nat.ne_of_lt cb6; clear hby) | (have qs := rowKS (by with_reducible assumption) hby; obtain ⟨ca0, ca1, ca2, ca3, ca4, ca5, ca6⟩ := RowS.c qs; have ca7 := Nat.ne_of_lt ca6; clear hby) | (have qs := rowA1e hby; obtain ⟨ca0, ca1, ca2, ca3, ca4, ca5, ca6⟩ := RowS.c qs; have ca7 := Nat.ne_of_lt ca6; clear hby) | (have qs := rowA1d hby; obtain ⟨ca0, ca1, ca2, ca3, ca4, ca5, ca6⟩ := RowS.c qs; have ca7 := Nat.ne_of_lt ca6; clear hby) | (have qs := rowA1 hby; obtain ⟨ca0, ca1, ca2, ca3, ca4, ca5, ca6⟩ := RowS.c qs; have ca7 := Nat.ne_of_lt ca6; clear hby) | clear hby))
  all_goals
   go_wp2_with fail
   go_meet
   refine ⟨_, _, rfl, rfl, ?_⟩
   first | with_reducible exact lvA (by with_reducible assumption) | with_reducible exact Hid.sw (lvA (by with_reducible assumption)) | with_reducible exact lvC (by with_reducible assumption) (by with_reducible assumption) (by omega) | with_reducible exact Hid.sw (lvC (by with_reducible assumption) (by with_reducible assumption) (by omega)) | with_reducible exact lvE (by with_reducible assumption) (by with_reducible assumption) (by omega) | with_reducible exact lvE (by with_reducible assumption) (RowP.sw (by with_reducible assumption)) (by omega) | (trace_state; sorry)
 case rest =>
  obtain ⟨g5, g6, rfl, rfl, HC⟩ := hcut
  obtain ⟨wz, hwz⟩ : ∃ wz : World, wz = wc := ⟨_, rfl⟩
  subst hwz
  have B2 := Lib.hid HC.out.2.2
  have HB := Lib.hid (below_after b2.out B2.out b2.out.size)
  have RW := Row.below R_2 B2.out (Row.lt R_2)
  obtain ⟨⟨x0, x1, x2⟩, ⟨y0, y1, y2⟩, -⟩ := HC.out
  clear HC HD1 HD2 HKS HAL HDR HSET HBA B2 HL1 HL2 HC1 HC2' S_2 R_2
  go_wp2_with (refine wpList_storeRow rfl 133 (.tmp 4) (.tmp 36) rfl #[.int .i64 (X - Y), .int .i64 (xa - ya), .int .i64 (xb - yb)] rfl rfl RW (by simp) (by kernel_rfl) (by simp [Value.oneCell']) (by rfl) ?_; intro wZ RZ gZ _)
  have bZ : Below w.heap.size w wZ := HB.out.grown gZ HB.out.size (fun g hg => by injection hg; omega)
  refine bodyPost_ret (v := .agg #[.int .i64 (X - Y), .int .i64 (xa - ya), .int .i64 (xb - yb)]) (results_row rfl _ rfl RZ Tryz.underlying133 rfl (by kernel_rfl)) rfl ⟨rfl, bZ⟩
end Go.Proofs.YtogdefomigiepaaGreatDoor
/- Contracts of payrollref29: check, Split, Exact, round, Tax (what is returned, no more). -/
namespace Go.Proofs.YtogdefomigiepaaGreatDoor
open Go.RowKit

set_option maxRecDepth 100000 in
set_option maxHeartbeats 2000000 in
theorem check29_ok (l : List (Int × Int)) (v : Value) (t : Int) (w : World) (hv : Sl w 2 v (prs l)) (hl : l.length ≤ 24) (ht : Tbl 1000000000000 1000000 l) (h0 : 0 ≤ t ∧ t ≤ 1000000000000) :
  Calls Tryz.prog 206 #[v, .int .i64 t] w fun e w' => e = .returned (.int .i64 0) ∧ Below w.heap.size w w' := by
 have H1 := Lib.hid (Brackets_ok l v w hv hl ht)
 obtain ⟨A, cap, rfl, h1, h2, _, _⟩ := hv
 rw [prs_len] at h1 H1 ⊢
 have d1 : decide (t < 0) = false := decide_eq_false (by omega)
 have d2 : decide ((1000000000000 : Int) < t) = false := decide_eq_false (by omega)
 clear ht
 go_enter Tryz.func206, Tryz.ntmps206
 go_wp2_with fail
 refine H1.out.mono ?_
 rintro e w1 ⟨rfl, hb⟩
 go_wp2_with fail
 go_ret
 exact ⟨rfl, hb⟩
set_option maxRecDepth 100000 in
set_option maxHeartbeats 2000000 in
theorem Split_ok (l : List (Int × Int)) (v : Value) (t : Int) (w : World) (hv : Sl w 2 v (prs l)) (hl : l.length ≤ 24) (ht : Tbl 1000000000000 1000000 l) (h0 : 0 ≤ t ∧ t ≤ 1000000000000) :
  Calls Tryz.prog 200 #[v, .int .i64 t] w fun e w' => ∃ (u : Value) (ps : List Int), e = .returned (.tuple #[u, .int .i64 0]) ∧ ps.length = l.length ∧ Own w' w.heap.size 3 1 u (ints ps) ∧ Below w.heap.size w w' := by
 have H1 := Lib.hid (check29_ok l v t w hv hl ht h0)
 have HV := Lib.hid hv
 obtain ⟨A, cap, rfl, h1, h2, _, _⟩ := hv
 rw [prs_len] at h1 H1 HV ⊢
 unfold maxLen at h2
 have hpos := ht.pos
 clear ht
 go_enter Tryz.func200, Tryz.ntmps200
 go_wp2_with fail
 refine H1.out.mono ?_
 rintro e w1 ⟨rfl, hb⟩
 have HB := Lib.hid hb
 have hs1 := hb.size
 have hmk := fun w => mk_ints w l.length (by omega)
 have HO1 := Lib.hid (own_ints w1 w.heap.size l.length hs1 (by omega))
 have HB1 := Lib.hid (hb.alloc hs1 (.cells (madeCells #[.int .i64 0] l.length) 3))
 clear hb H1
 go_upto_region 5 with (fail)
 clear hmk
 obtain ⟨w2, hw⟩ : ∃ w2, w1.alloc (.cells (madeCells #[.int .i64 0] l.length) 3) = w2 := ⟨_, rfl⟩
 rw [hw] at HO1 HB1 ⊢
 obtain ⟨p, hp⟩ : ∃ p, w1.heap.size = p := ⟨_, rfl⟩
 rw [hp] at HO1 ⊢
 clear hw hp hs1
 go_wp2_with fail
 go_loopw [8] (fun i wr => ∃ (k : Nat) (ps : List Int), k ≤ l.length ∧ i = .int .i64 k ∧ ps.length = l.length ∧ Hid (Own wr w.heap.size 3 1 (.slice (some ⟨p, 0, none⟩) l.length l.length) (ints ps) ∧ Below w.heap.size w wr)) (fun i _ => l.length - (intOf i).toNat)
 case atStart => exact ⟨0, List.replicate l.length 0, by omega, rfl, by simp, HO1.out, HB1.out⟩
 case round =>
  clear HO1 HB1 HB
  obtain ⟨k, ps, hk, rfl, hpl, HX⟩ := hrel
  obtain ⟨wo, rfl⟩ : ∃ wo : World, wo = wr := ⟨_, rfl⟩
  by_cases hlt : k < l.length
  ·obtain ⟨bk, off, rfl, hc⟩ := (HV.out.below HX.out.2).cells (by rw [prs_len]; omega)
   have hbl := hc.1
   have i1 : (k : Int) < (l.length : Int) := by omega
   have c0 := hc.at (prs_at hlt) 0 rfl
   simp only [Nat.add_zero] at c0
   have q2 := HX.out.1.frozenE k
   obtain ⟨fq, hfq⟩ : ∃ fq, ps[k]? = some fq := ⟨_, List.getElem?_eq_getElem (by rw [hpl]; exact hlt)⟩
   have q0 : wo.cell? ⟨p, k, none⟩ = some (.int .i64 fq) := by
    have := HX.out.1.cellE (by omega) (i := k) (x := [.int .i64 fq]) (by simp [ints, hfq]) (j := 0) rfl
    rwa [Nat.mul_one, Nat.add_zero] at this
   have HST := Lib.hid fun x => (show Own (wo.setCell ⟨p, k, none⟩ (.int .i64 x)) w.heap.size 3 1 (.slice (some ⟨p, 0, none⟩) l.length l.length) (ints (ps.set k x)) ∧ Below w.heap.size w (wo.setCell ⟨p, k, none⟩ (.int .i64 x)) by
    obtain ⟨oP, gP⟩ := HX.out.1.setInt (by rw [hpl]; exact hlt) x
    exact ⟨oP, HX.out.1.grown HX.out.2 gP HX.out.2.size⟩)
   have e1 : IntKind.i64.wrap ((k : Int) + 1) = ((k + 1 : Nat) : Int) := by rw [show (k : Int) + 1 = ((k + 1 : Nat) : Int) by omega]; exact IntWalk.i64_in _ (by omega)
   clear HX hfq
   by_cases hn : k + 1 < l.length
   ·have i2 : ((k + 1 : Nat) : Int) < (l.length : Int) := by omega
    have n0 := hc.at (prs_at hn) 0 rfl
    simp only [Nat.add_zero] at n0
    clear hc
    go_wp2_with fail
    go_roundw
    case rel => exact ⟨k + 1, ps.set k _, by omega, by go_num, by simp [hpl], HST.out _⟩
    case measure => simp [intOf]; omega
   ·have i2 : ¬ ((k + 1 : Nat) : Int) < (l.length : Int) := by omega
    clear hc
    go_wp2_with fail
    go_roundw
    case rel => exact ⟨k + 1, ps.set k _, by omega, by go_num, by simp [hpl], HST.out _⟩
    case measure => simp [intOf]; omega
  ·obtain rfl : k = l.length := by omega
   go_wp2_with fail
   go_ret2
   first | exact ⟨_, rfl, ps, hpl, HX.out.1, HX.out.2⟩ | exact ⟨_, ps, rfl, hpl, HX.out.1, HX.out.2⟩
set_option maxRecDepth 100000 in
set_option maxHeartbeats 2000000 in
theorem Exact_ok (l : List (Int × Int)) (v : Value) (t : Int) (w : World) (hv : Sl w 2 v (prs l)) (hl : l.length ≤ 24) (ht : Tbl 1000000000000 1000000 l) (h0 : 0 ≤ t ∧ t ≤ 1000000000000) :
  Calls Tryz.prog 185 #[v, .int .i64 t] w fun e w' => ∃ n : Int, e = .returned (.tuple #[.int .i64 n, .int .i64 0]) ∧ Below w.heap.size w w' := by
 have H1 := Lib.hid (Split_ok l v t w hv hl ht h0)
 have HV := Lib.hid hv
 obtain ⟨A, cap, rfl, h1, h2, _, _⟩ := hv
 rw [prs_len] at h1 H1 HV ⊢
 unfold maxLen at h2
 have hpos := ht.pos
 clear ht
 go_enter Tryz.func185, Tryz.ntmps185
 go_wp2_with fail
 refine H1.out.mono ?_
 rintro e w1 ⟨u, ps, rfl, hpl, hown, hb⟩
 obtain ⟨g, cu, rfl, hcu⟩ := hown.formP (by rw [ints_len]; omega)
 rw [ints_len] at hcu ⊢
 have HO := Lib.hid hown
 have HB := Lib.hid hb
 obtain ⟨bk, off, rfl, hc⟩ := (HV.out.below hb).cells (by rw [prs_len]; omega)
 have hbl := hc.1
 have HC := Lib.hid hc
 have hcu2 : cu ≤ maxLen := by
  obtain ⟨_, _, hv, q1, q2, _⟩ := (hown.sl (by omega))
  injection hv with e1 e2 e3
  omega
 unfold maxLen at hcu2
 clear hown hb hc H1 HV
 go_wp2_with fail
 go_loopw [8, 9] (fun n i wr => ∃ (k : Nat) (m : Int), k ≤ ps.length ∧ i = .int .i64 k ∧ n = .int .i64 m ∧ Hid (Below w1.heap.size w1 wr)) (fun _ i _ => ps.length - (intOf i).toNat)
 case atStart => exact ⟨0, 0, by omega, rfl, rfl, Below.refl _ _⟩
 case round =>
  obtain ⟨k, m, hk, rfl, rfl, HBW⟩ := hrel
  obtain ⟨wo, rfl⟩ : ∃ wo : World, wo = wr := ⟨_, rfl⟩
  have HBQ := fun z => Below.draws HBW.out z
  by_cases hlt : k < ps.length
  ·have i1 : (k : Int) < (ps.length : Int) := by omega
   have i2 : (k : Int) < (l.length : Int) := by omega
   have c1 := (HC.out.below HBW.out hbl).at (prs_at (show k < l.length by omega)) 1 rfl
   have hbl2 := Nat.lt_of_lt_of_le hbl HBW.out.size
   obtain ⟨fq, hfq⟩ : ∃ fq, ps[k]? = some fq := ⟨_, List.getElem?_eq_getElem hlt⟩
   have q0 : wo.cell? ⟨g, k, none⟩ = some (.int .i64 fq) := by
    have := (HO.out.kept HBW.out).cellE (by omega) (i := k) (x := [.int .i64 fq]) (by simp [ints, hfq]) (j := 0) rfl
    rwa [Nat.mul_one, Nat.add_zero] at this
   clear HC HO hfq
   go_wp2_with fail
   go_quiet (fail)
   go_wp2_with fail
   go_roundw
   case rel => exact ⟨k + 1, _, by omega, by go_num, rfl, HBQ _⟩
   case measure => simp [intOf]; omega
  ·obtain rfl : k = ps.length := by omega
   have HE := Lib.hid (below_after HB.out HBW.out HB.out.size)
   go_wp2_with fail
   go_ret2
   first | exact ⟨rfl, HE.out⟩ | exact ⟨_, rfl, HE.out⟩
end Go.Proofs.YtogdefomigiepaaGreatDoor
/- Contracts of payrollref29: round, Tax, Scale. -/
namespace Go.Proofs.YtogdefomigiepaaGreatDoor
open Go.RowKit

theorem mode_cases {m : Int} (h : modeB m = true) : m = 0 ∨ m = 1 ∨ m = 2 ∨ m = 3 ∨ m = 4 ∨ m = 5 ∨ m = 6 := by
 simp only [modeB, Bool.and_eq_true, decide_eq_true_eq] at h
 omega
set_option maxRecDepth 100000 in
set_option maxHeartbeats 4000000 in
theorem round_any (n unit m : Int) (w : World) (hu : 1 ≤ unit ∧ unit ≤ 100) (hm : modeB m = true) :
  Calls Tryz.prog 186 #[.int .i64 n, .int .i64 unit, .int .i64 m] w fun e w' => ∃ q : Int, e = .returned (.int .i64 q) ∧ Below w.heap.size w w' := by
 have e1 : IntKind.i64.wrap (1000000 * unit) = 1000000 * unit := IntWalk.i64_in _ (by omega)
 have e2 : ¬ 1000000 * unit = 0 := by omega
 obtain ⟨d, hd⟩ : ∃ d, 1000000 * unit = d := ⟨_, rfl⟩
 rw [hd] at e1 e2
 clear hd
 rcases mode_cases hm with rfl | rfl | rfl | rfl | rfl | rfl | rfl
 all_goals
  clear hm
  go_enter Tryz.func186, Tryz.ntmps186
  go_wp2_with fail
  go_quiet (fail)
  go_wp2
  all_goals
   go_ret
   first | exact ⟨_, rfl, Below.draws (Below.refl _ _) _⟩ | exact ⟨rfl, Below.draws (Below.refl _ _) _⟩ | exact ⟨⟨_, rfl⟩, Below.draws (Below.refl _ _) _⟩
set_option maxRecDepth 100000 in
set_option maxHeartbeats 2000000 in
theorem Tax_ok (l : List (Int × Int)) (v : Value) (t unit m : Int) (w : World) (hv : Sl w 2 v (prs l)) (hl : l.length ≤ 24) (ht : Tbl 1000000000000 1000000 l) (h0 : 0 ≤ t ∧ t ≤ 1000000000000) (hu : 1 ≤ unit ∧ unit ≤ 100) (hm : modeB m = true) :
  Calls Tryz.prog 161 #[v, .int .i64 t, .int .i64 unit, .int .i64 m] w fun e w' => ∃ n : Int, e = .returned (.tuple #[.int .i64 n, .int .i64 0]) ∧ Below w.heap.size w w' := by
 have H1 := Lib.hid (Exact_ok l v t w hv hl ht h0)
 have H2 := Lib.hid fun n w => round_any n unit m w hu hm
 have H3 := Lib.hid fun w => rMode_any m w
 rw [hm] at H3
 obtain ⟨A, cap, rfl, h1, h2, _, _⟩ := hv
 have d1 : decide (unit < 1) = false := decide_eq_false (by omega)
 have d2 : decide ((1000000 : Int) < unit) = false := decide_eq_false (by omega)
 clear ht hm
 go_enter Tryz.func161, Tryz.ntmps161
 go_wp2_with fail
 refine H1.out.mono ?_
 rintro e w1 ⟨n, rfl, hb⟩
 go_wp2_with fail
 refine (H3.out _).mono ?_
 rintro e _ ⟨rfl, rfl⟩
 go_wp2_with fail
 refine (H2.out n _).mono ?_
 rintro e w2 ⟨q, rfl, hb2⟩
 have hb3 := below_after hb hb2 hb.size
 go_wp2_with fail
 go_ret2
 first | exact ⟨rfl, hb3⟩ | exact ⟨_, rfl, hb3⟩
def sclT (num den : Int) (l : List (Int × Int)) (k : Nat) : Int := match l[k]? with
 | some p => p.1 * num / den
 | none => 0
structure SclOk (num den : Int) (l out : List (Int × Int)) (k : Nat) : Prop where
 asc : out.Pairwise fun p q => p.1 < q.1
 bound : ∀ p ∈ out, (0 ≤ p.1 ∧ p.1 ≤ 1000000000000) ∧ 0 ≤ p.2 ∧ p.2 ≤ 1000000
 below : k < l.length → ∀ p ∈ out, p.1 < sclT num den l k
 first : (out = [] ∧ (k < l.length → sclT num den l k = 0)) ∨ ∃ r, out[0]? = some (0, r)
 len : out.length ≤ k
theorem sclT_at {num den : Int} {l : List (Int × Int)} {k : Nat} (h : k < l.length) : sclT num den l k = l[k].1 * num / den := by simp [sclT, h]
theorem sclT_mono {num den : Int} {l : List (Int × Int)} (ht : Tbl 1000000000000 1000000 l) (hn : 0 ≤ num) (hd : 0 < den) {k : Nat} (h : k + 1 < l.length) : sclT num den l k ≤ sclT num den l (k + 1) := by
 rw [sclT_at h, sclT_at (by omega)]
 have := List.pairwise_iff_getElem.1 ht.asc k (k + 1) (by omega) h (by omega)
 exact Int.ediv_le_ediv hd (Int.mul_le_mul_of_nonneg_right (by omega) hn)
theorem sclT_bound {num den : Int} {l : List (Int × Int)} (ht : Tbl 1000000000000 1000000 l) (hn : 0 ≤ num) (hd : 0 < den) (hnd : num ≤ den) {k : Nat} (h : k < l.length) : 0 ≤ sclT num den l k ∧ sclT num den l k ≤ 1000000000000 := by
 rw [sclT_at h]
 have hb := (ht.bound _ (List.getElem_mem h)).1
 refine ⟨Int.ediv_nonneg (Int.mul_nonneg hb.1 hn) (by omega), ?_⟩
 have h1 : l[k].1 * num ≤ l[k].1 * den := Int.mul_le_mul_of_nonneg_left hnd hb.1
 have h2 : l[k].1 * num / den ≤ l[k].1 * den / den := Int.ediv_le_ediv hd h1
 rw [Int.mul_ediv_cancel _ (by omega)] at h2
 omega
theorem SclOk.start {num den : Int} {l : List (Int × Int)} (ht : Tbl 1000000000000 1000000 l) : SclOk num den l [] 0 :=
 ⟨List.Pairwise.nil, fun _ h => (by cases h), fun _ _ h => (by cases h), .inl ⟨rfl, fun h => by rw [sclT_at h, ht.first h]; simp⟩, by simp⟩
theorem SclOk.skip {num den : Int} {l out : List (Int × Int)} {k : Nat} (h : SclOk num den l out k) (hk : k + 1 < l.length) (he : sclT num den l (k + 1) = sclT num den l k) : SclOk num den l out (k + 1) :=
 ⟨h.asc, h.bound, fun _ p hp => by rw [he]; exact h.below (by omega) p hp, h.first.imp (fun ⟨a, b⟩ => ⟨a, fun _ => by rw [he]; exact b (by omega)⟩) id, by have := h.len; omega⟩
theorem SclOk.snoc {num den : Int} {l out : List (Int × Int)} {k : Nat} (h : SclOk num den l out k) (ht : Tbl 1000000000000 1000000 l) (hn : 0 ≤ num) (hd : 0 < den) (hnd : num ≤ den) (hk : k < l.length) (he : k + 1 < l.length → sclT num den l (k + 1) ≠ sclT num den l k) : SclOk num den l (out ++ [(sclT num den l k, l[k].2)]) (k + 1) := by
 refine ⟨List.pairwise_append.2 ⟨h.asc, List.pairwise_singleton _ _, fun p hp q hq => ?_⟩, fun p hp => ?_, fun hk1 p hp => ?_, ?_, by have := h.len; simp; omega⟩
 ·rw [List.mem_singleton.1 hq]; exact h.below hk p hp
 ·rcases List.mem_append.1 hp with hp | hp
  ·exact h.bound p hp
  ·rw [List.mem_singleton.1 hp]
   exact ⟨sclT_bound ht hn hd hnd hk, (ht.bound _ (List.getElem_mem hk)).2⟩
 ·have hm := sclT_mono ht hn hd hk1
  have hne := he hk1
  rcases List.mem_append.1 hp with hp | hp
  ·have := h.below hk p hp; omega
  ·rw [List.mem_singleton.1 hp]; show sclT num den l k < _; omega
 ·right
  rcases h.first with ⟨rfl, h0⟩ | ⟨r, hr⟩
  ·exact ⟨l[k].2, by rw [List.nil_append, h0 hk]; rfl⟩
  ·refine ⟨r, ?_⟩
   rw [List.getElem?_append_left (by
    rcases out with _ | ⟨_, _⟩
    ·cases hr
    ·simp)]
   exact hr
theorem SclOk.tbl {num den : Int} {l out : List (Int × Int)} (h : SclOk num den l out l.length) (h0 : out ≠ []) : Tbl 1000000000000 1000000 out := by
 rcases h.first with ⟨e, _⟩ | ⟨r, hr⟩
 ·exact (h0 e).elim
 ·refine ⟨List.length_pos_iff.2 h0, fun hp => ?_, h.asc, h.bound⟩
  rw [List.getElem?_eq_getElem hp, Option.some.injEq] at hr
  rw [hr]
set_option maxRecDepth 100000 in
set_option maxHeartbeats 4000000 in
theorem Scale_ok (l : List (Int × Int)) (v : Value) (num den : Int) (w : World) (hv : Sl w 2 v (prs l)) (hl : l.length ≤ 24) (ht : Tbl 1000000000000 1000000 l) (hd : 1 ≤ den ∧ den ≤ 53) (hn : 0 ≤ num ∧ num ≤ den) :
  Calls Tryz.prog 162 #[v, .int .i64 num, .int .i64 den] w fun e w' => ∃ (u : Value) (out : List (Int × Int)), e = .returned (.tuple #[u, .int .i64 0]) ∧ Tbl 1000000000000 1000000 out ∧ out.length ≤ 24 ∧ Own w' w.heap.size 236 2 u (prs out) ∧ Below w.heap.size w w' := by
 have H1 := Lib.hid (Brackets_ok l v w hv hl ht)
 have HV := Lib.hid hv
 have HT := Lib.hid ht
 obtain ⟨A, cap, rfl, h1, h2, _, _⟩ := hv
 rw [prs_len] at h1 H1 HV ⊢
 unfold maxLen at h2
 have hpos := ht.pos
 have d1 : decide (den < 1) = false := decide_eq_false (by omega)
 have d2 : decide ((53 : Int) < den) = false := decide_eq_false (by omega)
 have d3 : decide (num < 0) = false := decide_eq_false (by omega)
 have d4 : decide (den < num) = false := decide_eq_false (by omega)
 have hd0 : ¬ den = 0 := by omega
 have HFR : Hid (∀ k (h : k < l.length), IntKind.i64.wrap (l[k].1 * num) = l[k].1 * num ∧ (l[k].1 * num).tdiv den = sclT num den l k ∧ IntKind.i64.wrap (sclT num den l k) = sclT num den l k) := fun k h => by
  have hb := (ht.bound _ (List.getElem_mem h)).1
  have hp0 := Int.mul_nonneg hb.1 hn.1
  have hp1 : l[k].1 * num ≤ 1000000000000 * 53 := Int.le_trans (Int.mul_le_mul_of_nonneg_left (show num ≤ 53 by omega) hb.1) (Int.mul_le_mul_of_nonneg_right hb.2 (by omega))
  have hs := sclT_bound ht hn.1 (show 0 < den by omega) hn.2 h
  exact ⟨IntWalk.i64_in _ (by omega), by rw [Int.tdiv_eq_ediv_of_nonneg hp0, sclT_at h], IntWalk.i64_in _ (by omega)⟩
 clear ht
 go_enter Tryz.func162, Tryz.ntmps162
 go_wp2_with fail
 refine H1.out.mono ?_
 rintro e w1 ⟨rfl, hb⟩
 have HB := Lib.hid hb
 clear hb H1
 go_wp2_with fail
 go_loopw [8, 9] (fun o i wr => ∃ (k : Nat) (out : List (Int × Int)), k ≤ l.length ∧ i = .int .i64 k ∧ Hid (SclOk num den l out k ∧ (0 < k → k = l.length → out ≠ []) ∧ Own wr w.heap.size 236 2 o (prs out) ∧ Below w.heap.size w wr)) (fun _ i _ => l.length - (intOf i).toNat)
 case atStart => exact ⟨0, [], by omega, rfl, SclOk.start HT.out, fun h => by omega, Own.nil _ _ _ _, HB.out⟩
 case round =>
  clear HB
  obtain ⟨k, out, hk, rfl, HX⟩ := hrel
  obtain ⟨wo, rfl⟩ : ∃ wo : World, wo = wr := ⟨_, rfl⟩
  have hlen := HX.out.1.len
  have hbs := HX.out.2.2.2.size
  by_cases hlt : k < l.length
  ·obtain ⟨bk, off, rfl, hc⟩ := (HV.out.below HX.out.2.2.2).cells (by rw [prs_len]; omega)
   have hbl := hc.1
   have i1 : (k : Int) < (l.length : Int) := by omega
   have c0 := hc.at (prs_at hlt) 0 rfl
   have c1 := hc.at (prs_at hlt) 1 rfl
   simp only [Nat.add_zero] at c0
   obtain ⟨f1, f2, f3⟩ := HFR.out k hlt
   have e1 : IntKind.i64.wrap ((k : Int) + 1) = ((k + 1 : Nat) : Int) := by rw [show (k : Int) + 1 = ((k + 1 : Nat) : Int) by omega]; exact IntWalk.i64_in _ (by omega)
   have HSN := Lib.hid fun he => HX.out.1.snoc HT.out hn.1 (show 0 < den by omega) hn.2 hlt he
   obtain ⟨S, hS⟩ : ∃ S, sclT num den l k = S := ⟨_, rfl⟩
   rw [hS] at f2 f3 HSN
   obtain ⟨fr, hfr⟩ : ∃ fr, l[k].1 * num = fr := ⟨_, rfl⟩
   rw [hfr] at f1 f2
   by_cases hn1 : k + 1 < l.length
   ·have i2 : ((k + 1 : Nat) : Int) < (l.length : Int) := by omega
    have n0 := hc.at (prs_at hn1) 0 rfl
    simp only [Nat.add_zero] at n0
    obtain ⟨g1, g2, g3⟩ := HFR.out (k + 1) hn1
    have HSK := Lib.hid fun he => HX.out.1.skip hn1 he
    obtain ⟨S2, hS2⟩ : ∃ S2, sclT num den l (k + 1) = S2 := ⟨_, rfl⟩
    rw [hS2] at g2 g3 HSN HSK
    rw [hS] at HSK
    obtain ⟨fr2, hfr2⟩ : ∃ fr2, l[k + 1].1 * num = fr2 := ⟨_, rfl⟩
    rw [hfr2] at g1 g2
    clear hc hS hS2
    by_cases he : S2 = S
    ·have HF := Lib.hid (And.intro (HSK.out he) (And.intro (show 0 < k + 1 → k + 1 = l.length → out ≠ [] from fun _ h => by omega) HX.out.2.2))
     clear HSK HSN
     subst he
     go_wp2_with fail
     go_roundw
     case rel => exact ⟨k + 1, out, by omega, by go_num, HF.out⟩
     case measure => simp [intOf]; omega
    ·have q1 : (S2 == S) = false := by simpa using he
     have HF := Lib.hid (HSN.out fun _ => he)
     have hown := HX.out.2.2.1
     have hb := HX.out.2.2.2
     clear HSK HSN he
     go_wp2_with (at_builtin; refine wpList_append_sl rfl (.tmp 63) (.tmp 71) rfl rowBr w.heap.size _ _ _ (prs [(S, l[k].2)]) rfl (hown.alloc _) rfl (Sl.one rfl rfl) (prs_wide _) (by rw [prs_len, prs_len]; unfold maxLen; simp; omega) (by rw [prs_len, prs_len]; simp; omega) (by simp; omega) ?_; intro v2 w2 hown2 hg2 _; have hb2 := Own.grown (hown.alloc _) (hb.alloc hbs _) hg2 (by simp; omega); rw [← prs_append] at hown2)
     go_roundw
     case rel => exact ⟨k + 1, _, by omega, by go_num, HF.out, fun _ _ h => by simp at h, hown2, hb2⟩
     case measure => simp [intOf]; omega
   ·have i2 : ¬ ((k + 1 : Nat) : Int) < (l.length : Int) := by omega
    have HF := Lib.hid (HSN.out fun h => absurd h hn1)
    have hown := HX.out.2.2.1
    have hb := HX.out.2.2.2
    clear HSN hc hS
    go_wp2_with (at_builtin; refine wpList_append_sl rfl (.tmp 63) (.tmp 71) rfl rowBr w.heap.size _ _ _ (prs [(S, l[k].2)]) rfl (hown.alloc _) rfl (Sl.one rfl rfl) (prs_wide _) (by rw [prs_len, prs_len]; unfold maxLen; simp; omega) (by rw [prs_len, prs_len]; simp; omega) (by simp; omega) ?_; intro v2 w2 hown2 hg2 _; have hb2 := Own.grown (hown.alloc _) (hb.alloc hbs _) hg2 (by simp; omega); rw [← prs_append] at hown2)
    go_roundw
    case rel => exact ⟨k + 1, _, by omega, by go_num, HF.out, fun _ _ h => by simp at h, hown2, hb2⟩
    case measure => simp [intOf]; omega
  ·obtain rfl : k = l.length := by omega
   have HTB := Lib.hid (HX.out.1.tbl (HX.out.2.1 hpos rfl))
   have HE := Lib.hid HX.out.2.2
   clear HX
   go_wp2_with fail
   go_ret2
   first | exact ⟨_, rfl, out, HTB.out, by omega, HE.out.1, HE.out.2⟩ | exact ⟨_, out, rfl, HTB.out, by omega, HE.out.1, HE.out.2⟩
end Go.Proofs.YtogdefomigiepaaGreatDoor
