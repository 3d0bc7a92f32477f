/- Contracts and plain facts that the laws of this seat share, part 11. -/
import Derived.Test.YtogdefomigiepaaGreatDoorPkI
import Derived.Test.YtogdefomigiepaaGreatDoorPkJ
import Derived.Test.YtogdefomigiepaaGreatDoorPkF
import Derived.Test.YtogdefomigiepaaGreatDoorPkB
import Derived.Deep.CutBlock
import Derived.Deep.DeepCutAuto
import Derived.RegionTactic
import Derived.IntWalk
import Derived.Test.YtogdefomigiepaaGreatDoorPkD
import Derived.Test.YtogdefomigiepaaGreatDoorPkE
import Derived.Deep.RegionHeld3
set_option linter.unusedVariables false
set_option linter.unusedSimpArgs false
/- Contracts of payrollref32: Valid, ValidPerson, ValidYear. Written by gen_r32.py. -/
namespace Go.Proofs.YtogdefomigiepaaGreatDoor
open Go.RowKit

structure RuSl (w : World) (r : Ru) : Prop where
 ws : Sl w 6 r.wv (r.ws.map Wg.vals)
 ss : Sl w 8 r.sv (r.ss.map Sc.vals)
 tf : TfSl w r.tf
structure EmsSl (w : World) (v : Value) (ems : List Em) : Prop where
 own : Sl w 2 v (ems.map Em.vals)
 each : ∀ x ∈ ems, Sl w 1 x.ev (ints x.l)
structure PsSl (w : World) (p : Ps) : Prop where
 ded : Sl w 6 p.dv (p.ded.map Dd.vals)
 ord : Sl w 5 p.ov (p.ord.map Od.vals)
 ems : EmsSl w p.ev p.ems
structure YrSl (w : World) (y : Yr) : Prop where
 ins : Sl w 1 y.iv (ints y.ins)
 tak : Sl w 2 y.tv (y.tak.map El.vals)
theorem RuSl.below {w w' : World} {r : Ru} (h : RuSl w r) (hb : Below w.heap.size w w') : RuSl w' r := ⟨h.ws.below hb, h.ss.below hb, h.tf.below hb⟩
theorem EmsSl.below {w w' : World} {v : Value} {ems : List Em} (h : EmsSl w v ems) (hb : Below w.heap.size w w') : EmsSl w' v ems := ⟨h.own.below hb, fun x hx => (h.each x hx).below hb⟩
theorem PsSl.below {w w' : World} {p : Ps} (h : PsSl w p) (hb : Below w.heap.size w w') : PsSl w' p := ⟨h.ded.below hb, h.ord.below hb, h.ems.below hb⟩
theorem YrSl.below {w w' : World} {y : Yr} (h : YrSl w y) (hb : Below w.heap.size w w') : YrSl w' y := ⟨h.ins.below hb, h.tak.below hb⟩
theorem RuOwn.sl {w : World} {B : Nat} {r : Ru} (h : RuOwn w B r) : RuSl w r := ⟨h.ws.sl (by omega), h.ss.sl (by omega), ⟨h.tf.brs.sl (by omega), h.tf.rows.sl (by omega)⟩⟩
theorem PsOwn.sl {w : World} {B : Nat} {p : Ps} (h : PsOwn w B p) : PsSl w p := ⟨h.ded.sl (by omega), h.ord.sl (by omega), ⟨h.ems.own.sl (by omega), fun x hx => (h.ems.each x hx).sl (by omega)⟩⟩
theorem YrOwn.sl {w : World} {B : Nat} {y : Yr} (h : YrOwn w B y) : YrSl w y := ⟨h.ins.sl (by omega), h.tak.sl (by omega)⟩
set_option maxRecDepth 100000 in
set_option maxHeartbeats 8000000 in
theorem Rules_ok (r : Ru) (hr : RuOk r) (w : World) (hs : RuSl w r) :
  Calls Tryz.prog 78 #[.agg r.cells.toArray] w fun e w' => e = .returned (.bool true) ∧ Below w.heap.size w w' := by
 obtain ⟨wv, ws, sv, ss, ⟨me, bv, brs, al, cr, un, mo, rv, rows⟩, ct, ⟨fx, de, lo, sh, tp⟩, rc⟩ := r
 have H1 := Lib.hid fun (y : World) (hy : Below w.heap.size w y) => Wages_ok ws wv y (hs.ws.below hy) hr.ws
 have H2 := Lib.hid fun (y : World) (hy : Below w.heap.size w y) => TValid_ok ⟨me, bv, brs, al, cr, un, mo, rv, rows⟩ hr.tf y (hs.tf.below hy)
 have H3 := Lib.hid fun (y : World) => Shield_ok ⟨fx, de, lo, sh, tp⟩ hr.sh y
 simp only [Tf.vals] at H2
 simp only [Sh.vals] at H3
 have H4 := Lib.hid fun w => in32_ok (n := rc) (m := 1000000) w (by have := hr.rcv; dsimp only at this; omega)
 have hct := hr.count
 dsimp only at hct
 have d1 : decide (ct < 1) = false := decide_eq_false (by omega)
 have d2 : decide ((53 : Int) < ct) = false := decide_eq_false (by omega)
 have HSS := hr.ss
 have hsv := hs.ss
 dsimp only at HSS hsv
 have HOK := Lib.hid HSS.ok
 have HAS := Lib.hid (HSS.asc litS_asc)
 have HSL : ss.length ≤ 3 := HSS.len
 have HVS := Lib.hid hsv
 obtain ⟨A, cap, rfl, h1, h2, _, _⟩ := hsv
 rw [List.length_map] at h1 HVS ⊢
 unfold maxLen at h2
 have d3 : decide ((12 : Int) < (ss.length : Int)) = false := decide_eq_false (by omega)
 have HCL := Lib.hid fun (k : Nat) (hlt : k < ss.length) => (show ∃ bk off, A = some ⟨bk, off, none⟩ ∧ bk < w.heap.size ∧ ∀ i (hi : i < ss.length) j u, (ss[i]).vals[j]? = some u → ∀ y : World, Below w.heap.size w y → y.cell? ⟨bk, off + i * 8 + j, none⟩ = some u by
  obtain ⟨bk, off, hA, hcc⟩ := HVS.out.cells (by rw [List.length_map]; omega)
  exact ⟨bk, off, hA, hcc.1, fun i hi j u hj y hy => (hcc.below hy hcc.1).at (k := i) (x := (ss[i]).vals) (by simp [hi]) j hj⟩)
 clear hs hr HSS HVS
 show Calls Tryz.prog 78 #[.agg #[wv, .slice A ss.length cap, .int .i64 me, bv, .int .i64 al, .int .i64 cr, .int .i64 un, .int .i64 mo, rv, .int .i64 ct, .int .i64 fx, .int .i64 de, .int .i64 lo, .int .i64 sh, .int .i64 tp, .int .i64 rc]] w _
 go_enter Tryz.func78, Tryz.ntmps78
 go_upto_region 1 with (fail)
 have kk : Below w.heap.size w (w.alloc (.cells #[wv, .slice A ss.length cap, .int .i64 me, bv, .int .i64 al, .int .i64 cr, .int .i64 un, .int .i64 mo, rv, .int .i64 ct, .int .i64 fx, .int .i64 de, .int .i64 lo, .int .i64 sh, .int .i64 tp, .int .i64 rc] 59)) := (Below.refl _ _).alloc (Nat.le_refl _) _
 have S_1 := Row.new w 59 #[wv, .slice A ss.length cap, .int .i64 me, bv, .int .i64 al, .int .i64 cr, .int .i64 un, .int .i64 mo, rv, .int .i64 ct, .int .i64 fx, .int .i64 de, .int .i64 lo, .int .i64 sh, .int .i64 tp, .int .i64 rc]
 have hsS : (w.alloc (.cells #[wv, .slice A ss.length cap, .int .i64 me, bv, .int .i64 al, .int .i64 cr, .int .i64 un, .int .i64 mo, rv, .int .i64 ct, .int .i64 fx, .int .i64 de, .int .i64 lo, .int .i64 sh, .int .i64 tp, .int .i64 rc] 59)).heap.size = w.heap.size + 1 := by simp
 obtain ⟨w1, hw⟩ : ∃ w1, w.alloc (.cells #[wv, .slice A ss.length cap, .int .i64 me, bv, .int .i64 al, .int .i64 cr, .int .i64 un, .int .i64 mo, rv, .int .i64 ct, .int .i64 fx, .int .i64 de, .int .i64 lo, .int .i64 sh, .int .i64 tp, .int .i64 rc] 59) = w1 := ⟨_, rfl⟩
 rw [hw] at kk S_1 hsS ⊢
 clear hw
 obtain ⟨gS, hg⟩ : ∃ gS, w.heap.size = gS := ⟨_, rfl⟩
 rw [hg] at S_1 hsS ⊢
 have zS : w.heap.size ≤ gS := by omega
 clear hg
 have b1 := Lib.hid kk
 clear kk
 have cS0 : w1.cell? ⟨gS, 0, none⟩ = some (wv) := Row.cell S_1 0
 have cS1 : w1.cell? ⟨gS, 1, none⟩ = some (.slice A ss.length cap) := Row.cell S_1 1
 have cS2 : w1.cell? ⟨gS, 2, none⟩ = some (.int .i64 me) := Row.cell S_1 2
 have cS3 : w1.cell? ⟨gS, 3, none⟩ = some (bv) := Row.cell S_1 3
 have cS4 : w1.cell? ⟨gS, 4, none⟩ = some (.int .i64 al) := Row.cell S_1 4
 have cS5 : w1.cell? ⟨gS, 5, none⟩ = some (.int .i64 cr) := Row.cell S_1 5
 have cS6 : w1.cell? ⟨gS, 6, none⟩ = some (.int .i64 un) := Row.cell S_1 6
 have cS7 : w1.cell? ⟨gS, 7, none⟩ = some (.int .i64 mo) := Row.cell S_1 7
 have cS8 : w1.cell? ⟨gS, 8, none⟩ = some (rv) := Row.cell S_1 8
 have cS9 : w1.cell? ⟨gS, 9, none⟩ = some (.int .i64 ct) := Row.cell S_1 9
 have cS10 : w1.cell? ⟨gS, 10, none⟩ = some (.int .i64 fx) := Row.cell S_1 10
 have cS11 : w1.cell? ⟨gS, 11, none⟩ = some (.int .i64 de) := Row.cell S_1 11
 have cS12 : w1.cell? ⟨gS, 12, none⟩ = some (.int .i64 lo) := Row.cell S_1 12
 have cS13 : w1.cell? ⟨gS, 13, none⟩ = some (.int .i64 sh) := Row.cell S_1 13
 have cS14 : w1.cell? ⟨gS, 14, none⟩ = some (.int .i64 tp) := Row.cell S_1 14
 have cS15 : w1.cell? ⟨gS, 15, none⟩ = some (.int .i64 rc) := Row.cell S_1 15
 have lS := Row.lt S_1
 go_wp2_with fail
 refine (H1.out _ b1.out).mono ?_
 rintro e w2 ⟨rfl, k2⟩
 have S_2 := Row.below S_1 k2 S_1.lt
 have b2 := Lib.hid (below_after b1.out k2 b1.out.size)
 clear S_1 b1 k2
 have cS0 : w2.cell? ⟨gS, 0, none⟩ = some (wv) := Row.cell S_2 0
 have cS1 : w2.cell? ⟨gS, 1, none⟩ = some (.slice A ss.length cap) := Row.cell S_2 1
 have cS2 : w2.cell? ⟨gS, 2, none⟩ = some (.int .i64 me) := Row.cell S_2 2
 have cS3 : w2.cell? ⟨gS, 3, none⟩ = some (bv) := Row.cell S_2 3
 have cS4 : w2.cell? ⟨gS, 4, none⟩ = some (.int .i64 al) := Row.cell S_2 4
 have cS5 : w2.cell? ⟨gS, 5, none⟩ = some (.int .i64 cr) := Row.cell S_2 5
 have cS6 : w2.cell? ⟨gS, 6, none⟩ = some (.int .i64 un) := Row.cell S_2 6
 have cS7 : w2.cell? ⟨gS, 7, none⟩ = some (.int .i64 mo) := Row.cell S_2 7
 have cS8 : w2.cell? ⟨gS, 8, none⟩ = some (rv) := Row.cell S_2 8
 have cS9 : w2.cell? ⟨gS, 9, none⟩ = some (.int .i64 ct) := Row.cell S_2 9
 have cS10 : w2.cell? ⟨gS, 10, none⟩ = some (.int .i64 fx) := Row.cell S_2 10
 have cS11 : w2.cell? ⟨gS, 11, none⟩ = some (.int .i64 de) := Row.cell S_2 11
 have cS12 : w2.cell? ⟨gS, 12, none⟩ = some (.int .i64 lo) := Row.cell S_2 12
 have cS13 : w2.cell? ⟨gS, 13, none⟩ = some (.int .i64 sh) := Row.cell S_2 13
 have cS14 : w2.cell? ⟨gS, 14, none⟩ = some (.int .i64 tp) := Row.cell S_2 14
 have cS15 : w2.cell? ⟨gS, 15, none⟩ = some (.int .i64 rc) := Row.cell S_2 15
 have lS := Row.lt S_2
 go_wp2_with fail
 refine (H2.out _ b2.out).mono ?_
 rintro e w3 ⟨rfl, k3⟩
 have S_3 := Row.below S_2 k3 S_2.lt
 have b3 := Lib.hid (below_after b2.out k3 b2.out.size)
 clear S_2 b2 k3
 have cS0 : w3.cell? ⟨gS, 0, none⟩ = some (wv) := Row.cell S_3 0
 have cS1 : w3.cell? ⟨gS, 1, none⟩ = some (.slice A ss.length cap) := Row.cell S_3 1
 have cS2 : w3.cell? ⟨gS, 2, none⟩ = some (.int .i64 me) := Row.cell S_3 2
 have cS3 : w3.cell? ⟨gS, 3, none⟩ = some (bv) := Row.cell S_3 3
 have cS4 : w3.cell? ⟨gS, 4, none⟩ = some (.int .i64 al) := Row.cell S_3 4
 have cS5 : w3.cell? ⟨gS, 5, none⟩ = some (.int .i64 cr) := Row.cell S_3 5
 have cS6 : w3.cell? ⟨gS, 6, none⟩ = some (.int .i64 un) := Row.cell S_3 6
 have cS7 : w3.cell? ⟨gS, 7, none⟩ = some (.int .i64 mo) := Row.cell S_3 7
 have cS8 : w3.cell? ⟨gS, 8, none⟩ = some (rv) := Row.cell S_3 8
 have cS9 : w3.cell? ⟨gS, 9, none⟩ = some (.int .i64 ct) := Row.cell S_3 9
 have cS10 : w3.cell? ⟨gS, 10, none⟩ = some (.int .i64 fx) := Row.cell S_3 10
 have cS11 : w3.cell? ⟨gS, 11, none⟩ = some (.int .i64 de) := Row.cell S_3 11
 have cS12 : w3.cell? ⟨gS, 12, none⟩ = some (.int .i64 lo) := Row.cell S_3 12
 have cS13 : w3.cell? ⟨gS, 13, none⟩ = some (.int .i64 sh) := Row.cell S_3 13
 have cS14 : w3.cell? ⟨gS, 14, none⟩ = some (.int .i64 tp) := Row.cell S_3 14
 have cS15 : w3.cell? ⟨gS, 15, none⟩ = some (.int .i64 rc) := Row.cell S_3 15
 have lS := Row.lt S_3
 go_wp2_with fail
 refine (H3.out _).mono ?_
 rintro e w4 ⟨rfl, k4⟩
 have S_4 := Row.below S_3 k4 S_3.lt
 have b4 := Lib.hid (below_after b3.out k4 b3.out.size)
 clear S_3 b3 k4
 have cS0 : w4.cell? ⟨gS, 0, none⟩ = some (wv) := Row.cell S_4 0
 have cS1 : w4.cell? ⟨gS, 1, none⟩ = some (.slice A ss.length cap) := Row.cell S_4 1
 have cS2 : w4.cell? ⟨gS, 2, none⟩ = some (.int .i64 me) := Row.cell S_4 2
 have cS3 : w4.cell? ⟨gS, 3, none⟩ = some (bv) := Row.cell S_4 3
 have cS4 : w4.cell? ⟨gS, 4, none⟩ = some (.int .i64 al) := Row.cell S_4 4
 have cS5 : w4.cell? ⟨gS, 5, none⟩ = some (.int .i64 cr) := Row.cell S_4 5
 have cS6 : w4.cell? ⟨gS, 6, none⟩ = some (.int .i64 un) := Row.cell S_4 6
 have cS7 : w4.cell? ⟨gS, 7, none⟩ = some (.int .i64 mo) := Row.cell S_4 7
 have cS8 : w4.cell? ⟨gS, 8, none⟩ = some (rv) := Row.cell S_4 8
 have cS9 : w4.cell? ⟨gS, 9, none⟩ = some (.int .i64 ct) := Row.cell S_4 9
 have cS10 : w4.cell? ⟨gS, 10, none⟩ = some (.int .i64 fx) := Row.cell S_4 10
 have cS11 : w4.cell? ⟨gS, 11, none⟩ = some (.int .i64 de) := Row.cell S_4 11
 have cS12 : w4.cell? ⟨gS, 12, none⟩ = some (.int .i64 lo) := Row.cell S_4 12
 have cS13 : w4.cell? ⟨gS, 13, none⟩ = some (.int .i64 sh) := Row.cell S_4 13
 have cS14 : w4.cell? ⟨gS, 14, none⟩ = some (.int .i64 tp) := Row.cell S_4 14
 have cS15 : w4.cell? ⟨gS, 15, none⟩ = some (.int .i64 rc) := Row.cell S_4 15
 have lS := Row.lt S_4
 go_wp2_with fail
 refine (H4.out _).mono ?_
 rintro e _ ⟨rfl, rfl⟩
 clear H1 H2 H3 H4
 go_wp2_with fail
 go_loopw [3] (fun i wr => ∃ k : Nat, k ≤ ss.length ∧ i = .int .i64 k ∧ Hid (Below w4.heap.size w4 wr)) (fun i _ => ss.length - (intOf i).toNat)
 case atStart => exact ⟨0, by omega, rfl, Below.refl _ _⟩
 case round =>
  obtain ⟨k, hk, rfl, HB⟩ := hrel
  obtain ⟨wo, rfl⟩ : ∃ wo : World, wo = wr := ⟨_, rfl⟩
  have RS := Row.below S_4 HB.out (Row.lt S_4)
  have hbw := below_after b4.out HB.out b4.out.size
  have c1 : wo.cell? ⟨gS, 1, none⟩ = some (.slice A ss.length cap) := Row.cell RS 1
  have lS2 := Row.lt RS
  have s1 := ext_cell lS2 c1
  by_cases hlt : k < ss.length
  ·obtain ⟨bk, off, rfl, hbl0, hce⟩ := HCL.out k hlt
   have hbl := Nat.lt_of_lt_of_le hbl0 hbw.size
   have i1 : (k : Int) < (ss.length : Int) := by omega
   have hxo := HOK.out _ (List.getElem_mem hlt)
   have HP : Hid (∀ (j : Nat) (_ : j + 1 = k), ∃ q : ByteArray, q.toList < (ss[k]).code.toList ∧ ∀ y : Ext wo, y.val.cell? ⟨bk, off + j * 8, none⟩ = some (.string q)) := by
    rintro j rfl
    refine ⟨(ss[j]'(by omega)).code, List.pairwise_iff_getElem.1 HAS.out j (j + 1) (by omega) hlt (by omega), fun y => ?_⟩
    exact hce j (by omega) 0 _ rfl y.val (below_after hbw y.property hbw.size)
   have hcc := fun j u h (y : Ext wo) => hce k hlt j u h y.val (below_after hbw y.property hbw.size)
   obtain ⟨x, hx⟩ : ∃ x, ss[k] = x := ⟨_, rfl⟩
   rw [hx] at hcc hxo HP
   have HF := Lib.hid fun y : Ext wo => Scheme_ok x hxo y.val
   obtain ⟨code, xe, xr, xf, xc, xu, xm, xd⟩ := x
   have e0 := hcc 0 _ rfl
   have e1 := hcc 1 _ rfl
   have e2 := hcc 2 _ rfl
   have e3 := hcc 3 _ rfl
   have e4 := hcc 4 _ rfl
   have e5 := hcc 5 _ rfl
   have e6 := hcc 6 _ rfl
   have e7 := hcc 7 _ rfl
   simp only [Nat.add_zero] at e0
   dsimp only at e0 e1 e2 e3 e4 e5 e6 e7 HP
   simp only [Sc.vals] at HF
   have HBY := Lib.hid fun y : Ext wo => below_after HB.out y.property HB.out.size
   clear hcc hce hx hxo HCL HOK HAS RS
   go_upto_region 6 with (fail)
   clear c1
   rcases Nat.eq_zero_or_pos k with rfl | hk0
   ·clear HP
    simp only [Nat.zero_mul, Nat.add_zero] at e0 e1 e2 e3 e4 e5 e6 e7
    refine region_ext (by kernel_rfl) (by kernel_rfl) ?_
    repeat (go_big_quiet_step ((go_at_call 89; exact ext_call (HF.out _))))
    refine wpQuiet_nil ?_
    rintro _ ⟨y, rfl⟩
    go_wp2_with fail
    go_roundw
    case rel => exact ⟨0 + 1, by omega, by go_num, HBY.out y⟩
    case measure => simp [intOf]; omega
   ·obtain ⟨j, rfl⟩ : ∃ j, k = j + 1 := ⟨k - 1, by omega⟩
    obtain ⟨q, hq, pq⟩ := HP.out j rfl
    have i2 : (j : Int) < (ss.length : Int) := by omega
    have s2 : IntKind.i64.wrap ((j : Int) + 1 - 1) = (j : Int) := by rw [show (j : Int) + 1 - 1 = (j : Int) by omega]; exact IntWalk.i64_in _ (by omega)
    have b1 : Op.bytesLess q.toList code.toList = true := by rw [bytesLess_eq]; exact decide_eq_true hq
    clear hq HP
    refine region_ext (by kernel_rfl) (by kernel_rfl) ?_
    repeat (go_big_quiet_step ((go_at_call 89; exact ext_call (HF.out _))))
    refine wpQuiet_nil ?_
    rintro _ ⟨y, rfl⟩
    go_wp2_with fail
    go_roundw
    case rel => exact ⟨j + 1 + 1, by omega, by go_num, HBY.out y⟩
    case measure => simp [intOf]; omega
  ·obtain rfl : k = ss.length := by omega
   have HE := Lib.hid hbw
   go_wp2
   go_ret
   exact ⟨rfl, HE.out⟩
end Go.Proofs.YtogdefomigiepaaGreatDoor
/- Contract of payrollref28.Joint. Written by gen_r28j.py. -/
namespace Go.Proofs.YtogdefomigiepaaGreatDoor
open Go.RowKit

structure EmAt (w : World) (b off : Nat) (q : Nat) (ems : List Em) (k : Nat) (hk : k < ems.length) (A : Option Addr) (c : Nat) : Prop where
 ev : (ems[k]).ev = .slice A q c
 sl : Sl w 1 (.slice A q c) (ints (ems[k]).l)
 len : (ems[k]).l.length = q
 nums : ∀ y ∈ (ems[k]).l, 0 ≤ y ∧ y ≤ 1000000
 base : 0 ≤ (ems[k]).base ∧ (ems[k]).base ≤ 75000000
 c0 : ∀ y, Below w.heap.size w y → y.cell? ⟨b, off + k * 2, none⟩ = some (.slice A q c)
 c1 : ∀ y, Below w.heap.size w y → y.cell? ⟨b, off + k * 2 + 1, none⟩ = some (.int .i64 (ems[k]).base)
theorem ems_at {w : World} {v : Value} {ems : List Em} {q : Nat} (h : EmsSl w v ems) (hn : 0 < ems.length) (he : ∀ x ∈ ems, (x.l.length = q ∧ ∀ y ∈ x.l, 0 ≤ y ∧ y ≤ 1000000) ∧ 0 ≤ x.base ∧ x.base ≤ 75000000) :
  ∃ b off c, v = .slice (some ⟨b, off, none⟩) ems.length c ∧ ems.length ≤ c ∧ c ≤ maxLen ∧ b < w.heap.size ∧ ∀ k (hk : k < ems.length), ∃ A ca, EmAt w b off q ems k hk A ca := by
 have ho := h.own
 obtain ⟨A, cap, rfl, h1, h2, _, _⟩ := ho
 rw [List.length_map] at h1
 have h3 := h.own
 rw [List.length_map] at h3 ⊢
 obtain ⟨b, off, rfl, hc⟩ := h3.cells (by rw [List.length_map]; omega)
 refine ⟨b, off, cap, rfl, h1, h2, hc.1, fun k hk => ?_⟩
 obtain ⟨⟨e1, e2⟩, e3⟩ := he _ (List.getElem_mem hk)
 have hs := h.each _ (List.getElem_mem hk)
 obtain ⟨A', c', hv, _, _, _, _⟩ := id hs
 rw [ints_len, e1] at hv
 refine ⟨A', c', hv, by rw [← hv]; exact hs, e1, e2, e3, fun y hy => ?_, fun y hy => ?_⟩
 ·have := (hc.below hy hc.1).at (k := k) (x := (ems[k]).vals) (by simp [hk]) 0 rfl
  rw [← hv]; exact this
 ·exact (hc.below hy hc.1).at (k := k) (x := (ems[k]).vals) (by simp [hk]) 1 rfl
def SumsOk (q : Nat) (l : List Int) (k j : Nat) : Prop := l.length = q + 1 ∧ ∀ i (hi : i < l.length), 0 ≤ l[i] ∧ l[i] ≤ 75000000 * (k : Int) + (if i < j then 75000000 else 0)
theorem SumsOk.set {q k j : Nat} {l : List Int} (h : SumsOk q l k j) (hj : j < l.length) {x : Int} (hx : 0 ≤ x ∧ x ≤ 75000000) : SumsOk q (l.set j (l[j] + x)) k (j + 1) := by
 refine ⟨by rw [List.length_set]; exact h.1, fun i hi => ?_⟩
 rw [List.length_set] at hi
 have hi2 := h.2 i hi
 rw [List.getElem_set]
 by_cases e : j = i
 ·subst e
  rw [if_pos rfl, if_pos (by omega)]
  rw [if_neg (by omega)] at hi2
  omega
 ·rw [if_neg e]
  by_cases h3 : i < j
  ·rw [if_pos (by omega)]; rw [if_pos h3] at hi2; exact hi2
  ·rw [if_neg (by omega)]; rw [if_neg h3] at hi2; exact hi2
theorem SumsOk.next {q k : Nat} {l : List Int} (h : SumsOk q l k (q + 1)) : SumsOk q l (k + 1) 0 := by
 refine ⟨h.1, fun i hi => ?_⟩
 have := h.2 i hi
 rw [if_pos (by rw [h.1] at hi; exact hi)] at this
 rw [if_neg (by omega)]
 omega
theorem SumsOk.zero (q : Nat) : SumsOk q (List.replicate (q + 1) 0) 0 0 := by
 refine ⟨by simp, fun i hi => ?_⟩
 rw [List.getElem_replicate]; simp
theorem SumsOk.all {q k : Nat} {l : List Int} (h : SumsOk q l k 0) (hk : k ≤ 3) : ∀ x ∈ l, 0 ≤ x ∧ x ≤ 225000000 := fun x hx => by
 obtain ⟨i, hi, rfl⟩ := List.getElem_of_mem hx
 have := h.2 i hi
 rw [if_neg (by omega)] at this
 omega
def basesOf (ems : List Em) (k : Nat) : List Int := (ems.take k).map (·.base)
theorem basesOf_len {ems : List Em} {k : Nat} (hk : k ≤ ems.length) : (basesOf ems k).length = k := by simp [basesOf]; omega
theorem basesOf_step {ems : List Em} {k : Nat} (hk : k < ems.length) : ints (basesOf ems k) ++ ints [(ems[k]).base] = ints (basesOf ems (k + 1)) := by
 rw [← ints_append, basesOf, basesOf, List.take_succ_eq_append_getElem hk, List.map_append]; rfl
theorem own_apart {w : World} {p n c sz : Nat} {e : TypeId} {v : Value} {es : List (List Value)} (h : Own w (p + 1) e sz v es) : Value.ownBlock (.slice (some ⟨p, 0, none⟩) n c) = none ∨ Value.ownBlock (.slice (some ⟨p, 0, none⟩) n c) ≠ v.ownBlock := .inr fun e => by
 have := (h.1.lt p (by rw [← e]; rfl)).1
 omega
theorem own_apart2 {w : World} {p sz : Nat} {e : TypeId} {v : Value} {es : List (List Value)} (h : Own w (p + 1) e sz v es) : v.ownBlock = none ∨ v.ownBlock ≠ some p := .inr fun e => by
 have := (h.1.lt p e).1
 omega
set_option maxRecDepth 100000 in
set_option maxHeartbeats 8000000 in
theorem Joint_ok (s : Sc) (hs : ScOk s) (q : Nat) (hq : q ≤ 3) (ems : List Em) (hn : 0 < ems.length ∧ ems.length ≤ 3) (he : ∀ x ∈ ems, (x.l.length = q ∧ ∀ y ∈ x.l, 0 ≤ y ∧ y ≤ 1000000) ∧ 0 ≤ x.base ∧ x.base ≤ 75000000) (v : Value) (w : World) (hv : EmsSl w v ems) :
  Calls Tryz.prog 48 #[.agg s.vals.toArray, v] w fun e w' => ∃ (u : Value) (l : List Lv), e = .returned (.tuple #[u, .int .i64 0]) ∧ l.length = ems.length ∧ LvsOk l ∧ Own w' w.heap.size 133 3 u (lvs l) ∧ Below w.heap.size w w' := by
 obtain ⟨bk, off, cap, rfl, h1, h2, hbk, hat⟩ := ems_at hv hn.1 he
 unfold maxLen at h2
 have HAT := Lib.hid hat
 have HBO : Hid (∀ x ∈ basesOf ems ems.length, 0 ≤ x ∧ x ≤ 1000000000) := fun x hx => by
  obtain ⟨y, hy, rfl⟩ := List.mem_map.1 hx
  have := (he y (List.mem_of_mem_take hy)).2
  omega
 have HSC := Lib.hid fun y => Scheme_ok s hs y
 have HNX := Lib.hid fun l v y (hv : Sl y 1 v (ints l)) hl ha => next_ok s hs l v y hv hl ha
 have HLV := Lib.hid fun l (hl : l.length ≤ 4) (ha : ∀ x ∈ l, 0 ≤ x ∧ x ≤ 225000000) => (show LvOk (nextI s l) 1000000000 by
  have h0 := nextI_ok hs ha
  have hb : (225000000 : Int) * l.length ≤ 225000000 * 4 := Int.mul_le_mul_of_nonneg_left (by omega) (by omega)
  exact ⟨⟨h0.base.1, by have := h0.base.2; omega⟩, ⟨h0.ee.1, by have := h0.ee.2; omega⟩, ⟨h0.er.1, by have := h0.er.2; omega⟩⟩)
 have HNI : Hid (∀ l, ∃ a b c, nextI s l = ⟨a, b, c⟩) := fun l => ⟨_, _, _, rfl⟩
 clear hv he hat hs
 obtain ⟨code, ee, er, fl, ce, un, mo, de⟩ := s
 simp only [Sc.vals] at HSC HNX
 show Calls Tryz.prog 48 #[.agg #[.string code, .int .i64 ee, .int .i64 er, .int .i64 fl, .int .i64 ce, .int .i64 un, .int .i64 mo, .bool de], .slice (some ⟨bk, off, none⟩) ems.length cap] w _
 go_enter Tryz.func48, Tryz.ntmps48
 go_upto_region 1 with (fail)
 have kk : Below w.heap.size w (w.alloc (.cells #[.string code, .int .i64 ee, .int .i64 er, .int .i64 fl, .int .i64 ce, .int .i64 un, .int .i64 mo, .bool de] 131)) := (Below.refl _ _).alloc (Nat.le_refl _) _
 have S_1 := Row.new w 131 #[.string code, .int .i64 ee, .int .i64 er, .int .i64 fl, .int .i64 ce, .int .i64 un, .int .i64 mo, .bool de]
 have hsS : (w.alloc (.cells #[.string code, .int .i64 ee, .int .i64 er, .int .i64 fl, .int .i64 ce, .int .i64 un, .int .i64 mo, .bool de] 131)).heap.size = w.heap.size + 1 := by simp
 obtain ⟨w1, hw⟩ : ∃ w1, w.alloc (.cells #[.string code, .int .i64 ee, .int .i64 er, .int .i64 fl, .int .i64 ce, .int .i64 un, .int .i64 mo, .bool de] 131) = w1 := ⟨_, rfl⟩
 rw [hw] at kk S_1 hsS ⊢
 clear hw
 obtain ⟨gS, hg⟩ : ∃ gS, w.heap.size = gS := ⟨_, rfl⟩
 rw [hg] at S_1 hsS ⊢
 have zS : w.heap.size ≤ gS := by omega
 clear hg
 have b1 := Lib.hid kk
 clear kk
 have cS0 : w1.cell? ⟨gS, 0, none⟩ = some (.string code) := Row.cell S_1 0
 have cS1 : w1.cell? ⟨gS, 1, none⟩ = some (.int .i64 ee) := Row.cell S_1 1
 have cS2 : w1.cell? ⟨gS, 2, none⟩ = some (.int .i64 er) := Row.cell S_1 2
 have cS3 : w1.cell? ⟨gS, 3, none⟩ = some (.int .i64 fl) := Row.cell S_1 3
 have cS4 : w1.cell? ⟨gS, 4, none⟩ = some (.int .i64 ce) := Row.cell S_1 4
 have cS5 : w1.cell? ⟨gS, 5, none⟩ = some (.int .i64 un) := Row.cell S_1 5
 have cS6 : w1.cell? ⟨gS, 6, none⟩ = some (.int .i64 mo) := Row.cell S_1 6
 have cS7 : w1.cell? ⟨gS, 7, none⟩ = some (.bool de) := Row.cell S_1 7
 have lS := Row.lt S_1
 go_wp2_with fail
 refine (HSC.out _).mono ?_
 rintro e w2 ⟨rfl, k2⟩
 have S_2 := Row.below S_1 k2 S_1.lt
 have b2 := Lib.hid (below_after b1.out k2 b1.out.size)
 clear S_1 b1 k2
 clear HSC
 obtain ⟨n, hN⟩ : ∃ n, ems.length = n := ⟨_, rfl⟩
 have HN := Lib.hid hN
 rw [hN] at hn h1 HBO ⊢
 have HAT2 : Hid (∀ k, k < n → ∃ A ca, ∃ hk : k < ems.length, EmAt w bk off q ems k hk A ca) := fun k hk => by obtain ⟨A, ca, h⟩ := HAT.out k (by omega); exact ⟨A, ca, by omega, h⟩
 clear HAT hN
 have hbk2 := Nat.lt_of_lt_of_le hbk b2.out.size
 have i0 : (0 : Int) < (n : Int) := by omega
 have e0 : ((n : Int) == 0) = false := by simp; omega
 have e8 : decide ((8 : Int) < (n : Int)) = false := decide_eq_false (by omega)
 have e53 : decide ((53 : Int) ≤ (q : Int)) = false := decide_eq_false (by omega)
 go_wp2_with fail
 go_loop [6] (fun i => ∃ k : Nat, k ≤ n ∧ i = .int .i64 k) (fun i => n - (intOf i).toNat)
 case atStart => exact ⟨0, by omega, rfl⟩
 case round =>
  obtain ⟨k, hk, rfl⟩ := hrel
  by_cases hlt : k < n
  ·have i1 : (k : Int) < (n : Int) := by omega
   obtain ⟨A, ca, hkk, HA⟩ := HAT2.out k hlt
   have c0 := HA.c0 _ b2.out
   clear HA
   go_wp2_with fail
   go_round
   case rel => exact ⟨k + 1, by omega, by go_num⟩
   case measure => simp [intOf]; omega
  ·obtain rfl : n = k := by omega
   obtain ⟨A0, ca0, hk0, HA0⟩ := HAT2.out 0 (by omega)
   have z0 : True := trivial
   have HA0 := Lib.hid HA0
   go_wp2_with fail
   go_loopw [7] (fun i wr => ∃ j : Nat, 1 ≤ j ∧ j ≤ n ∧ i = .int .i64 j ∧ Hid (Below w2.heap.size w2 wr)) (fun i _ => n - (intOf i).toNat)
   case atStart => exact ⟨1, by omega, by omega, rfl, Below.refl _ _⟩
   case round =>
    obtain ⟨j, hj1, hj, rfl, HBL⟩ := hrel
    obtain ⟨wo, rfl⟩ : ∃ wo : World, wo = wr := ⟨_, rfl⟩
    have HBW := Lib.hid (below_after b2.out HBL.out b2.out.size)
    have hbk3 := Nat.lt_of_lt_of_le hbk HBW.out.size
    clear z0
    have z0 := (HA0.out.c0 _ HBW.out)
    simp only [Nat.zero_mul, Nat.add_zero] at z0
    by_cases hlt : j < n
    ·have i1 : (j : Int) < (n : Int) := by omega
     obtain ⟨A, ca, hkk, HA⟩ := HAT2.out j hlt
     have c0 := HA.c0 _ HBW.out
     clear HA
     go_upto_region 13 with (fail)
     go_region
     all_goals
      go_wp2_with fail
      go_roundw
      case rel => exact ⟨j + 1, by omega, by omega, by go_num, Below.drew HBL.out⟩
      case measure => simp [intOf]; omega
    ·obtain rfl : n = j := by omega
     have hmk := fun w => mk_ints w (q + 1) (by omega)
     simp only [show ((q + 1 : Nat) : Int) = (q : Int) + 1 from rfl] at hmk
     have s5 : IntKind.i64.wrap ((q : Int) + 1) = (q : Int) + 1 := IntWalk.i64_in _ (by omega)
     have HO0 := Lib.hid (own_ints wo wo.heap.size (q + 1) (Nat.le_refl _) (by omega))
     have HB0 : Hid (Below wo.heap.size wo (wo.alloc (.cells (madeCells #[.int .i64 0] (q + 1)) 3))) := (Below.refl _ _).alloc (Nat.le_refl _) _
     go_upto_region 17 with (fail)
     clear hmk s5 z0
     have hs5 : (wo.alloc (.cells (madeCells #[.int .i64 0] (q + 1)) 3)).heap.size = wo.heap.size + 1 := by simp
     obtain ⟨w5, hw⟩ : ∃ w5, wo.alloc (.cells (madeCells #[.int .i64 0] (q + 1)) 3) = w5 := ⟨_, rfl⟩
     rw [hw] at HO0 HB0 hs5 ⊢
     have HT := Lib.hid (show wo.heap.size + 1 ≤ w5.heap.size by omega)
     clear hw hs5
     obtain ⟨p, hp⟩ : ∃ p, wo.heap.size = p := ⟨_, rfl⟩
     have HP := Lib.hid hp
     rw [hp] at HO0 HB0 HT ⊢
     clear hp
     have HS0 := Lib.hid (SumsOk.zero q)
     obtain ⟨l0, hl0⟩ : ∃ l0 : List Int, List.replicate (q + 1) 0 = l0 := ⟨_, rfl⟩
     rw [hl0] at HO0 HS0
     clear hl0
     go_wp2_with fail
     go_loopw [8, 10] (fun bs i wr => ∃ (k : Nat) (l : List Int), k ≤ n ∧ i = .int .i64 k ∧ Hid (SumsOk q l k 0 ∧ Own wr (p + 1) 3 1 bs (ints (basesOf ems k)) ∧ Own wr p 3 1 (.slice (some ⟨p, 0, none⟩) (q + 1) (q + 1)) (ints l) ∧ Below p wo wr ∧ p + 1 ≤ wr.heap.size)) (fun _ i _ => n - (intOf i).toNat)
     case atStart => exact ⟨0, l0, by omega, rfl, HS0.out, Own.nil _ _ _ _, HO0.out, HB0.out, HT.out⟩
     case round =>
      clear HO0 HB0 HT HS0
      obtain ⟨k, l, hk, rfl, HX⟩ := hrel
      obtain ⟨wx, rfl⟩ : ∃ wx : World, wx = wr := ⟨_, rfl⟩
      have HBX := Lib.hid (below_after HBW.out (HP.out ▸ HX.out.2.2.2.1) HBW.out.size)
      have hbk4 := Nat.lt_of_lt_of_le hbk HBX.out.size
      by_cases hlt : k < n
      ·have i1 : (k : Int) < (n : Int) := by omega
       obtain ⟨A, ca, hkk, HA⟩ := HAT2.out k hlt
       have c0 := HA.c0 _ HBX.out
       have c1 := HA.c1 _ HBX.out
       have hbb := HA.base
       obtain ⟨bb, hbe⟩ : ∃ bb, (ems[k]).base = bb := ⟨_, rfl⟩
       have HST := Lib.hid (basesOf_step hkk)
       rw [hbe] at c1 hbb HST
       have HI := Lib.hid (in28_ok wx (n := bb) (by omega))
       have HALL := Lib.hid (all_ok _ _ wx (HA.sl.below HBX.out) (fun y hy => by have := HA.nums y hy; omega))
       have HAA := Lib.hid HA
       have HBE := Lib.hid hbe
       clear HA hbe
       go_wp2_with fail
       refine HI.out.mono ?_
       rintro e _ ⟨rfl, rfl⟩
       go_wp2_with fail
       refine HALL.out.mono ?_
       rintro e _ ⟨rfl, rfl⟩
       have HXS := Lib.hid HX.out.1
       have HX1 := Lib.hid HX.out.2.1
       have HX2 := Lib.hid HX.out.2.2.1
       have HX3 := Lib.hid HX.out.2.2.2.1
       have hps := HX.out.2.2.2.2
       have hps0 : p ≤ wx.heap.size := by omega
       have HBL2 := Lib.hid (basesOf_len (ems := ems) (k := k) (by have := HN.out; omega))
       clear HX HI HALL
       have HC1 : Hid ((ints (basesOf ems k)).length + (ints [bb]).length ≤ maxLen) := by
        have := HBL2.out
        show _ ≤ _
        rw [ints_len, ints_len, this, List.length_singleton]; unfold maxLen; omega
       have HC2 : Hid (((ints (basesOf ems k)).length + (ints [bb]).length) * 8 ≤ 140737488355328) := by
        have := HBL2.out
        show _ ≤ _
        rw [ints_len, ints_len, this, List.length_singleton]; omega
       have HC3 : Hid (∀ o, p + 1 ≤ (wx.alloc o).heap.size) := fun o => by rw [World.size_alloc]; omega
       go_upto_region 23 with (at_builtin; go_loud (refine wpList_append_sl rfl (.tmp 84) (.tmp 90) rfl rowInt (p + 1) _ _ _ (ints [bb]) rfl (HX1.out.alloc _) rfl (Sl.one rfl rfl) (ints_wide _) HC1.out HC2.out (HC3.out _) ?_; intro v2 w6 hown2 hg2 _; have hb2 := Lib.hid (Own.grown ((HX1.out.alloc _).more (show p ≤ p + 1 from Nat.le_succ p)) (HX3.out.alloc hps0 _) hg2 (Nat.le_of_succ_le (HC3.out _))); have HO6 := Lib.hid ((HX2.out.alloc _).keepG hg2 (own_apart HX1.out)); have hgs := hg2.size; clear hg2; rw [HST.out] at hown2))
       rw [World.size_alloc] at hgs
       have HOB := Lib.hid hown2
       clear hown2 HX1 HX2 HX3 c0 c1 HST HBX hbk4
       go_wp2_with fail
       go_loopw [11] (fun i wr => ∃ (j : Nat) (l2 : List Int), j ≤ q ∧ i = .int .i64 j ∧ Hid (SumsOk q l2 k j ∧ Own wr (p + 1) 3 1 v2 (ints (basesOf ems (k + 1))) ∧ Own wr p 3 1 (.slice (some ⟨p, 0, none⟩) (q + 1) (q + 1)) (ints l2) ∧ Below p wo wr ∧ p + 1 ≤ wr.heap.size)) (fun i _ => q - (intOf i).toNat)
       case atStart => exact ⟨0, l, by omega, rfl, HXS.out, HOB.out, HO6.out, hb2.out, by omega⟩
       case round =>
        clear HXS HOB HO6 hb2
        obtain ⟨j, l2, hj, rfl, HY⟩ := hrel
        obtain ⟨wy, rfl⟩ : ∃ wy : World, wy = wr := ⟨_, rfl⟩
        have HBY := Lib.hid (below_after HBW.out (HP.out ▸ HY.out.2.2.2.1) HBW.out.size)
        have hbk5 := Nat.lt_of_lt_of_le hbk HBY.out.size
        have c0 := HAA.out.c0 _ HBY.out
        have hpz := HY.out.2.2.2.2
        have hjl2 : j < l2.length := by have := HY.out.1.1; omega
        have hsj := HY.out.1.2 j hjl2
        rw [if_neg (Nat.lt_irrefl j)] at hsj
        have q0 : wy.cell? ⟨p, j, none⟩ = some (.int .i64 (l2[j]'hjl2)) := by
         have := HY.out.2.2.1.cellE (by omega) (i := j) (x := [.int .i64 (l2[j]'hjl2)]) (by simp [ints, hjl2]) (j := 0) rfl
         rwa [Nat.mul_one, Nat.add_zero] at this
        have q1 := HY.out.2.2.1.frozenE j
        by_cases hj2 : j < q
        ·have i2 : (j : Int) < (q : Int) := by omega
         have i3 : (j : Int) < (q : Int) + 1 := by omega
         have hjl : j < (ems[k]).l.length := by have := HAA.out.len; omega
         obtain ⟨be, oe, rfl, hce, ce0⟩ := (HAA.out.sl.below HBY.out).intAt hjl
         have hbe := hce.1
         have hnn := HAA.out.nums _ (List.getElem_mem hjl)
         obtain ⟨y, hy⟩ : ∃ y, (ems[k]).l[j]'hjl = y := ⟨_, rfl⟩
         rw [hy] at ce0 hnn
         have HSS := Lib.hid (HY.out.1.set hjl2 ⟨hnn.1, by omega⟩)
         obtain ⟨s, hs⟩ : ∃ s, l2[j]'hjl2 = s := ⟨_, rfl⟩
         rw [hs] at HSS q0 hsj
         have s5 : IntKind.i64.wrap (s + y) = s + y := IntWalk.i64_in _ (by omega)
         obtain ⟨oP, gP⟩ := HY.out.2.2.1.setInt hjl2 (s + y)
         have HZ := Lib.hid (And.intro HSS.out (And.intro (HY.out.2.1.keepG gP (own_apart2 HY.out.2.1)).drew (And.intro oP.drew (And.intro (Below.drew (HY.out.2.2.1.grown HY.out.2.2.2.1 gP (by omega))) (show p + 1 ≤ (wy.setCell ⟨p, j, none⟩ (.int .i64 (s + y))).drew.heap.size by have := gP.size; show p + 1 ≤ (wy.setCell ⟨p, j, none⟩ (.int .i64 (s + y))).heap.size; omega)))))
         clear HY oP gP hy hs hce HSS hjl
         go_upto_region 26 with (fail)
         go_region
         all_goals
          go_wp2_with fail
          go_roundw
          case rel => exact ⟨j + 1, l2.set j (s + y), by omega, by go_num, HZ.out⟩
          case measure => simp [intOf]; omega
        ·obtain rfl : q = j := by omega
         have c1 := HAA.out.c1 _ HBY.out
         rw [HBE.out] at c1
         have HSS := Lib.hid (HY.out.1.set hjl2 hbb).next
         obtain ⟨s, hs⟩ : ∃ s, l2[q]'hjl2 = s := ⟨_, rfl⟩
         rw [hs] at HSS q0 hsj
         have s5 : IntKind.i64.wrap (s + bb) = s + bb := IntWalk.i64_in _ (by omega)
         have s6 : IntKind.i64.wrap ((q : Int) + 1 - 1) = (q : Int) := by rw [show (q : Int) + 1 - 1 = q by omega]; exact IntWalk.i64_in _ (by omega)
         have i3 : (q : Int) < (q : Int) + 1 := by omega
         obtain ⟨oP, gP⟩ := HY.out.2.2.1.setInt hjl2 (s + bb)
         have HZ := Lib.hid (And.intro HSS.out (And.intro (HY.out.2.1.keepG gP (own_apart2 HY.out.2.1)).drew (And.intro oP.drew (And.intro (Below.drew (HY.out.2.2.1.grown HY.out.2.2.2.1 gP (by omega))) (show p + 1 ≤ (wy.setCell ⟨p, q, none⟩ (.int .i64 (s + bb))).drew.heap.size by have := gP.size; show p + 1 ≤ (wy.setCell ⟨p, q, none⟩ (.int .i64 (s + bb))).heap.size; omega)))))
         clear HY oP gP hs HSS
         go_upto_region 27 with (fail)
         go_region
         all_goals
          go_wp2_with fail
          go_roundw
          case rel => exact ⟨k + 1, l2.set q (s + bb), by omega, by go_num, HZ.out⟩
          case measure => simp [intOf]; omega
      ·obtain rfl : n = k := by omega
       have hll := HX.out.1.1
       have hall := HX.out.1.all (by omega)
       obtain ⟨a, b, c, hab⟩ := HNI.out l
       have HN1 := HNX.out l (.slice (some ⟨p, 0, none⟩) (q + 1) (q + 1)) wx (HX.out.2.2.1.sl (by omega)) (by omega) hall
       have hlv := HLV.out l (by omega) hall
       rw [hab] at HN1 hlv
       have HLV1 := Lib.hid hlv
       obtain ⟨la, lb, lc⟩ := hlv
       simp only at la lb lc
       have HN2 := Lib.hid HN1
       simp only [Lv.vals] at HN2
       have RS := Row.below S_2 (below_after HBL.out (HP.out ▸ HX.out.2.2.2.1) HBL.out.size) (Row.lt S_2)
       have lRS := Row.lt RS
       have cS0 := Row.cell RS 0
       have cS1 := Row.cell RS 1
       have cS2 := Row.cell RS 2
       have cS3 := Row.cell RS 3
       have cS4 := Row.cell RS 4
       have cS5 := Row.cell RS 5
       have cS6 := Row.cell RS 6
       have cS7 := Row.cell RS 7
       have HBS := Lib.hid HX.out.2.1
       clear hab HN1 HX HNX HLV HNI hall
       go_wp2_with fail
       refine HN2.out.mono ?_
       rintro e w6 ⟨rfl, k6⟩
       have HB6 := Lib.hid (below_after HBX.out k6 HBX.out.size)
       have HO6 := Lib.hid (HBS.out.kept k6)
       clear k6 HN2 RS lRS cS0 cS1 cS2 cS3 cS4 cS5 cS6 cS7 HBS HBX
       go_upto_region 29 with (fail)
       have RL := Row.new w6 133 #[.int .i64 a, .int .i64 b, .int .i64 c]
       have kL : Below w6.heap.size w6 (w6.alloc (.cells #[.int .i64 a, .int .i64 b, .int .i64 c] 133)) := (Below.refl _ _).alloc (Nat.le_refl _) _
       obtain ⟨w7, hw⟩ : ∃ w7, w6.alloc (.cells #[.int .i64 a, .int .i64 b, .int .i64 c] 133) = w7 := ⟨_, rfl⟩
       rw [hw] at RL kL ⊢
       have HB7 := Lib.hid (below_after HB6.out kL HB6.out.size)
       have HO7 := Lib.hid (HO6.out.kept kL)
       obtain ⟨gL, hg⟩ : ∃ gL, w6.heap.size = gL := ⟨_, rfl⟩
       rw [hg] at RL ⊢
       clear hw hg kL HB6 HO6
       have cL0 : w7.cell? ⟨gL, 0, none⟩ = some (.int .i64 a) := Row.cell RL 0
       have cL1 : w7.cell? ⟨gL, 1, none⟩ = some (.int .i64 b) := Row.cell RL 1
       have cL2 : w7.cell? ⟨gL, 2, none⟩ = some (.int .i64 c) := Row.cell RL 2
       have lL := Row.lt RL
       have d1 : decide (1000000000 < a) = false := decide_eq_false (by omega)
       have d2 : decide (1000000000 < b) = false := decide_eq_false (by omega)
       have d3 : decide (1000000000 < c) = false := decide_eq_false (by omega)
       have hbl := basesOf_len (ems := ems) (k := n) (by have := HN.out; omega)
       have HBN := Lib.hid hbl
       have HD := Lib.hid (divide_ok ⟨a, b, c⟩ HLV1.out (basesOf ems n) _ w7 (HO7.out.sl (by omega)) ⟨by omega, by omega⟩ HBO.out)
       simp only [Lv.vals] at HD
       clear HO7 HLV1 la lb lc hbl
       go_wp2_with fail
       refine HD.out.mono ?_
       rintro e w8 ⟨u, l8, rfl, hl8, ok8, own8, k8⟩
       rw [HBN.out] at hl8
       have HE := Lib.hid (And.intro hl8 (And.intro ok8 (And.intro (own8.more HB7.out.size) (below_after HB7.out k8 HB7.out.size))))
       clear hl8 ok8 own8 k8 HD
       go_wp2_with fail
       go_ret2
       exact ⟨u, l8, rfl, HE.out.1.trans HN.out.symm, HE.out.2⟩
end Go.Proofs.YtogdefomigiepaaGreatDoor
/- Contract of payrollref26.Put: an amount is put into a list of elements. -/
namespace Go.Proofs.YtogdefomigiepaaGreatDoor
open Go.RowKit

theorem lnLt_el {a b : Ln} (ha : a.kind = 0) (hb : b.kind = 0) : lnLt a b = Op.bytesLess a.code.toList b.code.toList := by
 rw [bytesLess_eq]; simp [lnLt, ha, hb]
def BoxE (w : World) (B : Nat) (x : Ln) : Prop := Row w B 112 #[.string x.code, .int .i64 x.amt]
theorem BoxE.cells {w : World} {B : Nat} {x : Ln} (h : BoxE w B x) : w.cell? ⟨B, 0, none⟩ = some (.string x.code) ∧ w.cell? ⟨B, 1, none⟩ = some (.int .i64 x.amt) ∧ w.frozen? ⟨B, 1, none⟩ = false ∧ B < w.heap.size :=
 ⟨Row.cell h 0, Row.cell h 1, Row.frozen h 1, Row.lt h⟩
theorem BoxE.below {w w' : World} {B C : Nat} {x : Ln} (h : BoxE w B x) (hb : Below C w w') (hB : B < C) : BoxE w' B x := Row.below h hb hB
theorem BoxE.add {w : World} {B : Nat} {x : Ln} (h : BoxE w B x) (a : Int) : BoxE (w.setCell ⟨B, 1, none⟩ (.int .i64 a)) B ⟨x.kind, x.code, a⟩ := Row.set h 1 _
def sameEl (l : List Ln) (x : Ln) (j : Nat) : Bool := match l[j]? with
 | some a => (a.code.toList == x.code.toList)
 | none => false
theorem sameEl_no {l : List Ln} {x : Ln} {j : Nat} (h : ¬ j < l.length) : sameEl l x j = false := by simp [sameEl, h]
theorem sameEl_at {l : List Ln} {x : Ln} {j : Nat} (h : j < l.length) : sameEl l x j = (l[j].code.toList == x.code.toList) := by simp [sameEl, h]
def PutMidE (w : World) (base B T : Nat) (t : Value) (l : List Ln) (x : Ln) (j : Nat) (i : Value) (wx : World) : Prop :=
 ∃ (y : Ln) (k : Nat), i = .int .i64 k ∧ k ≤ l.length ∧ l.take j ++ y :: l.drop k = putR x l ∧ BoxE wx B y ∧ Own wx base T 2 t (els (l.take j)) ∧ Below w.heap.size w wx ∧ base ≤ wx.heap.size
set_option maxRecDepth 100000 in
set_option maxHeartbeats 3200000 in
theorem PutE_any (v : Value) (l : List Ln) (x : Ln) (w : World) (hv : Sl w 2 v (els l)) (hlen : l.length ≤ 1000000) (hx : -1000000000000000 ≤ x.amt ∧ x.amt ≤ 1000000000000000) (hl : ∀ a ∈ l, -1000000000000000000 ≤ a.amt ∧ a.amt ≤ 1000000000000000000) (hk0 : ∀ a ∈ l, a.kind = 0) (hx0 : x.kind = 0) :
  Calls Tryz.prog 88 #[v, .agg #[.string x.code, .int .i64 x.amt]] w (RetOwn w 112 2 (els (putR x l))) := by
 have H1 := Lib.hid hv
 obtain ⟨A, cap, rfl, h1, h2, x1, h3⟩ := hv
 rw [els_len] at h1 H1 ⊢
 unfold maxLen at h2
 have H3 := Lib.hid h3
 have HL := Lib.hid hl
 have HK0 := Lib.hid hk0
 have HX0 := Lib.hid hx0
 clear h3 x1 hl hk0 hx0
 go_enter Tryz.func88, Tryz.ntmps88
 go_upto_block 0 with (fail)
 obtain ⟨w0, hw0⟩ : ∃ w0, w0 = w.alloc (Obj.cells #[Value.string x.code, Value.int IntKind.i64 x.amt] 112) := ⟨_, rfl⟩
 rw [← hw0]
 have hb0 : Below w.heap.size w w0 := by rw [hw0]; exact (Below.refl _ _).alloc (Nat.le_refl _) _
 have hs0 : w0.heap.size = w.heap.size + 1 := by rw [hw0]; simp
 have HB0 : Hid (BoxE w0 w.heap.size x) := by
  rw [Hid, hw0]
  exact Row.new w _ _
 clear hw0
 have hs0' : w.heap.size + 1 ≤ w0.heap.size := by omega
 have HS0 := Lib.hid hs0
 clear hs0
 go_cut [5, 6] (fun t i wx => ∃ j : Nat, j ≤ l.length ∧ i = .int .i64 j ∧ Own wx w0.heap.size 112 2 t (els (l.take j)) ∧ Below w0.heap.size w0 wx ∧ Hid (∀ i (h : i < j) (h' : i < l.length), lnLt l[i] x = true) ∧ Hid (∀ h : j < l.length, lnLt l[j] x = false))
 case first =>
  go_wp2_with fail
  go_loopw [5, 6] (fun t i wr => ∃ j : Nat, j ≤ l.length ∧ i = .int .i64 j ∧ Own wr w0.heap.size 112 2 t (els (l.take j)) ∧ Below w0.heap.size w0 wr ∧ Hid (∀ i (h : i < j) (h' : i < l.length), lnLt l[i] x = true)) (fun _ i _ => l.length - (intOf i).toNat)
  case atStart => exact ⟨0, by omega, rfl, Own.nil _ _ _ _, Below.refl _ _, fun i h => absurd h (by omega)⟩
  case round =>
   obtain ⟨j, hj, rfl, hown, hb, HJ⟩ := hrel
   have hbs := hb.size
   obtain ⟨b0, b1, _, bl⟩ := (HB0.out.below hb (by omega)).cells
   have hownq := fun q => (hown.kept (Below.draws (Below.refl wr.heap.size wr) q))
   have hbq := fun q => Below.draws hb q
   by_cases hlt : j < l.length
   ·have dl : (j : Int) < (l.length : Int) := by omega
    rcases H3.out with h | ⟨b, off, rfl, hc0⟩
    ·exact (els_pos hlt h).elim
    ·obtain ⟨c0, c1⟩ := ((hc0.below hb0 hc0.1).below hb (Nat.lt_of_lt_of_le hc0.1 (by omega))).el hlt
     have HLL := Lib.hid (lnLt_el (HK0.out _ (List.getElem_mem hlt)) HX0.out)
     clear H3 hc0
     cases hr : Op.bytesLess l[j].code.toList x.code.toList
     ·have HF : Hid (∀ h : j < l.length, lnLt l[j] x = false) := fun _ => by rw [HLL.out]; exact hr
      go_wp2_with fail
      go_quiet (fail)
      go_wp2_with fail
      go_meet
      exact ⟨j, hj, rfl, hownq _, hbq _, HJ, HF⟩
     ·have HT : Hid (∀ i (h : i < j + 1) (h' : i < l.length), lnLt l[i] x = true) := fun i hi hl' => by
       by_cases e : i = j
       ·subst e; rw [HLL.out]; exact hr
       ·exact HJ.out i (by omega) hl'
      have HTK : Hid (l.take (j + 1) = l.take j ++ [l[j]]) := by rw [Hid, List.take_succ_eq_append_getElem hlt]
      have hlj : (l.take j).length = j := by rw [List.length_take]; omega
      have HLJ := Lib.hid hlj
      clear hlj
      go_wp2_with fail
      go_quiet (fail)
      go_wp2_with (at_builtin; refine wpList_append_sl rfl (.tmp 23) (.tmp 28) rfl rowEl w0.heap.size _ _ _ (els [l[j]]) rfl ((hownq _).alloc _) rfl (Sl.one rfl rfl) (els_wide _) (by rw [els_len, els_len, HLJ.out]; unfold maxLen; simp; omega) (by rw [els_len, els_len, HLJ.out]; simp; omega) (by simp; omega) ?_; intro v4 w4 hown4 hg4 _; have hb4 := Own.grown ((hownq _).alloc _) ((hbq _).alloc (by simpa using hbs) _) hg4 (by simp; omega); rw [← els_append, ← HTK.out] at hown4)
      go_roundw
      case rel => exact ⟨j + 1, by omega, by go_num, hown4, hb4, HT⟩
      case measure => simp [intOf]; omega
   ·have dl : decide (j < l.length) = false := decide_eq_false hlt
    have HF : Hid (∀ h : j < l.length, lnLt l[j] x = false) := fun h => absurd h hlt
    have dl' : ¬ (j : Int) < (l.length : Int) := by omega
    go_wp2_with fail
    go_quiet (fail)
    go_wp2_with fail
    go_meet
    exact ⟨j, hj, rfl, hownq _, hbq _, HJ, HF⟩
 case rest =>
  obtain ⟨j, hj, rfl, hown, hb, HJ, HF⟩ := hcut
  obtain ⟨tv, htv⟩ : ∃ tv : Value, tv = u5 := ⟨_, rfl⟩
  subst htv
  obtain ⟨w2, hw2⟩ : ∃ w2 : World, w2 = wc := ⟨_, rfl⟩
  subst hw2
  have hbs := hb.size
  have hB2 : Below w.heap.size w w2 := hb0.trans (hb.mono (by omega))
  have HBX := HB0.out.below hb (by omega)
  have HBXH := Lib.hid HBX
  obtain ⟨b0, b1, bf, bl⟩ := HBX.cells
  clear HBX
  clear HB0
  go_upto_region 6 with (fail)
  go_cut [43] (fun s wx => s = .bool (sameEl l x j) ∧ Below w2.heap.size w2 wx)
  case first =>
   by_cases hlt : j < l.length
   ·have dl : decide (j < l.length) = true := decide_eq_true hlt
    rcases H3.out with h | ⟨b, off, rfl, hc0⟩
    ·exact (els_pos hlt h).elim
    ·obtain ⟨c0, c1⟩ := ((hc0.below hB2 hc0.1)).el hlt
     have HSA := Lib.hid (sameEl_at (x := x) hlt)
     clear H3 hc0
     cases e2 : (l[j].code.toList == x.code.toList)
     ·have HZ : Hid (sameEl l x j = false) := by rw [Hid, HSA.out, e2]
      go_quiet (fail)
      go_wp2_with fail
      go_meet
      exact ⟨by rw [HZ.out], Below.draws (Below.refl _ _) _⟩
     ·have HZ : Hid (sameEl l x j = true) := by rw [Hid, HSA.out, e2]
      go_quiet (fail)
      go_wp2_with fail
      go_meet
      exact ⟨by rw [HZ.out], Below.draws (Below.refl _ _) _⟩
   ·have dl : decide (j < l.length) = false := decide_eq_false hlt
    have HZ := Lib.hid (sameEl_no (x := x) hlt)
    go_quiet (fail)
    go_wp2_with fail
    go_meet
    exact ⟨by rw [HZ.out], Below.draws (Below.refl _ _) _⟩
  case rest =>
   obtain ⟨rfl, hb3⟩ := hcut
   obtain ⟨w3, hw3⟩ : ∃ w3 : World, w3 = wc := ⟨_, rfl⟩
   subst hw3
   have hB3 := hB2.trans (hb3.mono hB2.size)
   have hown3 := hown.kept hb3
   have HBX3 := Lib.hid (HBXH.out.below hb3 bl)
   have hs3 := hB3.size
   clear hown b0 b1 bf HBXH
   go_upto_if 43 with (fail)
   go_cut [6] (fun i wx => PutMidE w w0.heap.size w.heap.size 112 tv l x j i wx)
   case first =>
    cases hc : sameEl l x j
    ·have HP : Hid (l.take j ++ x :: l.drop j = putR x l) := by
      rw [Hid, putR_new hj (fun i hi => HJ.out i hi (by omega)) fun h => ⟨HF.out h, fun hh => ?_⟩]
      rw [sameEl_at h, hh.2] at hc
      simp at hc
     go_wp2_with fail
     go_meet
     exact ⟨x, j, rfl, hj, HP.out, HBX3.out, hown3, hB3, Nat.le_trans hbs hb3.size⟩
    ·have hlt : j < l.length := by
      refine Nat.lt_of_not_le fun h => ?_
      rw [sameEl_no (by omega)] at hc; cases hc
     have hsm : l[j].kind = x.kind ∧ l[j].code = x.code := by
      rw [sameEl_at hlt, beq_iff_eq] at hc
      exact ⟨by rw [HK0.out _ (List.getElem_mem hlt), HX0.out], bytes_of_toList hc⟩
     have HP := Lib.hid (putR_same hlt (fun i hi => HJ.out i hi (by omega)) (HF.out hlt) hsm).symm
     have ha := HL.out l[j] (List.getElem_mem hlt)
     rcases H3.out with h | ⟨b, off, rfl, hc0⟩
     ·exact (els_pos hlt h).elim
     ·obtain ⟨_, c2⟩ := ((hc0.below hB3 hc0.1)).el hlt
      obtain ⟨_, b2, bf, bl3⟩ := HBX3.out.cells
      have hne : b ≠ w.heap.size := Nat.ne_of_lt hc0.1
      have hwr : IntKind.i64.wrap (x.amt + l[j].amt) = x.amt + l[j].amt := IntWalk.i64_in _ (by omega)
      have HBXA := Lib.hid (HBX3.out.add (x.amt + l[j].amt))
      clear hsm H3 hc0 hc
      go_wp2_with fail
      go_region
      go_wp2_with fail
      go_meet
      refine ⟨_, j + 1, by go_num, by omega, HP.out, HBXA.out, ?_, (hB3.setCell (Nat.le_refl _) _).drew, Nat.le_trans hbs (by simpa using hb3.size)⟩
      exact (hown3.keepG (grown_set _ _ _ _) (by
       cases hob : tv.ownBlock with
       | none => exact .inl rfl
       | some g => exact .inr fun e => by have := (hown3.1.lt g hob).1; injection e with e; omega)).kept (Below.refl _ _).drew
   case rest =>
    obtain ⟨y, k, rfl, hk, HP0, HBY, hown4, hB4, hs40⟩ := hcut
    obtain ⟨w4, hw4⟩ : ∃ w4 : World, w4 = wc := ⟨_, rfl⟩
    subst hw4
    have HP := Lib.hid HP0
    clear HP0
    obtain ⟨c0, c1, _, bl4⟩ := HBY.cells
    have hs4 := hB4.size
    have HTL := Lib.hid (H1.out.from k (by omega))
    have HLJ : Hid ((l.take j).length = j) := by rw [Hid, List.length_take]; omega
    have HAP : Hid (els (l.take j) ++ els [y] = els (l.take j ++ [y])) := (els_append _ _).symm
    have HAQ : Hid (els (l.take j ++ [y]) ++ (els l).drop k = els (putR x l)) := by
     rw [Hid, ← HP.out]
     show els _ ++ (l.map elv).drop k = _
     rw [← List.map_drop]
     show els _ ++ els _ = _
     rw [← els_append]; simp
    have HDL : Hid (((els l).drop k).length = l.length - k) := by rw [Hid, List.length_drop, els_len]
    have HWD : Hid (Wide 2 ((els l).drop k)) := fun z hz => els_wide l z (List.mem_of_mem_drop hz)
    have HL2 : Hid ((els (l.take j ++ [y])).length = j + 1) := by rw [Hid, els_len, List.length_append, HLJ.out]; rfl
    clear H3 HF HJ HBY
    by_cases hc : cap = k
    ·have hkl : k = l.length := by omega
     subst hc
     subst hkl
     rw [if_pos rfl, Nat.sub_self l.length] at HTL
     go_wp2_with (first
      | (at_builtin; refine wpList_append_sl rfl (.tmp 55) (.tmp 57) rfl rowEl w0.heap.size _ _ _ (els [y]) rfl (hown4.alloc _) rfl (Sl.one rfl rfl) (els_wide _) (by rw [els_len, els_len, HLJ.out]; unfold maxLen; simp; omega) (by rw [els_len, els_len, HLJ.out]; simp; omega) (by simp; omega) ?_; intro v5 w5 hown5 hg5 _; have hb5 : Below w.heap.size w w5 := ((hB4.alloc hs4 _).grown hg5 (by simp; omega) (fun g hg => Nat.le_trans (by omega) (hown4.1.lt g hg).1)); have hs5 : w0.heap.size ≤ w5.heap.size := (Nat.le_trans (by simp; omega) hg5.size); rw [HAP.out] at hown5; clear hg5)
      | (at_builtin; refine wpList_append_sl rfl (.tmp 59) (.tmp 62) rfl rowEl w0.heap.size _ _ _ _ rfl hown5 rfl (by have hq := HTL.out.below hb5; first | exact hq | simpa using hq) HWD.out (by rw [HDL.out, HL2.out]; unfold maxLen; omega) (by rw [HDL.out, HL2.out]; omega) hs5 ?_; intro v6 w6 hown6 hg6 _; have hb6 : Below w.heap.size w w6 := (hb5.grown hg6 hb5.size (fun g hg => Nat.le_trans (by omega) (hown5.1.lt g hg).1)); rw [HAQ.out] at hown6; clear hg6))
     go_ret
     exact ⟨_, rfl, hown6.more (by omega), hb6⟩
    ·rw [if_neg hc] at HTL
     go_wp2_with (first
      | (at_builtin; refine wpList_append_sl rfl (.tmp 55) (.tmp 57) rfl rowEl w0.heap.size _ _ _ (els [y]) rfl (hown4.alloc _) rfl (Sl.one rfl rfl) (els_wide _) (by rw [els_len, els_len, HLJ.out]; unfold maxLen; simp; omega) (by rw [els_len, els_len, HLJ.out]; simp; omega) (by simp; omega) ?_; intro v5 w5 hown5 hg5 _; have hb5 : Below w.heap.size w w5 := ((hB4.alloc hs4 _).grown hg5 (by simp; omega) (fun g hg => Nat.le_trans (by omega) (hown4.1.lt g hg).1)); have hs5 : w0.heap.size ≤ w5.heap.size := (Nat.le_trans (by simp; omega) hg5.size); rw [HAP.out] at hown5; clear hg5)
      | (at_builtin; refine wpList_append_sl rfl (.tmp 59) (.tmp 62) rfl rowEl w0.heap.size _ _ _ _ rfl hown5 rfl (by have hq := HTL.out.below hb5; first | exact hq | simpa using hq) HWD.out (by rw [HDL.out, HL2.out]; unfold maxLen; omega) (by rw [HDL.out, HL2.out]; omega) hs5 ?_; intro v6 w6 hown6 hg6 _; have hb6 : Below w.heap.size w w6 := (hb5.grown hg6 hb5.size (fun g hg => Nat.le_trans (by omega) (hown5.1.lt g hg).1)); rw [HAQ.out] at hown6; clear hg6))
     go_ret
     exact ⟨_, rfl, hown6.more (by omega), hb6⟩
end Go.Proofs.YtogdefomigiepaaGreatDoor
/- Contracts of payrollref26.sums and Merge, for good elements. -/
namespace Go.Proofs.YtogdefomigiepaaGreatDoor
open Go.RowKit

theorem puts_title {l : List Ln} : ∀ x ∈ putsR l, ∃ y ∈ l, x.kind = y.kind ∧ x.code = y.code := by
 have key : ∀ (l acc : List Ln), ∀ x ∈ l.foldl (fun acc x => putR x acc) acc, (∃ y ∈ acc, x.kind = y.kind ∧ x.code = y.code) ∨ ∃ y ∈ l, x.kind = y.kind ∧ x.code = y.code := by
  intro l
  induction l with
  | nil => intro acc x hx; exact .inl ⟨x, hx, rfl, rfl⟩
  | cons a r ih =>
   intro acc x hx
   rcases ih (putR a acc) x hx with ⟨y, hy, h1, h2⟩ | ⟨y, hy, h1, h2⟩
   ·rcases putR_mem hy with ⟨h3, h4⟩ | hy
    ·exact .inr ⟨a, by simp, h1.trans h3, h2.trans h4⟩
    ·exact .inl ⟨y, hy, h1, h2⟩
   ·exact .inr ⟨y, by simp [hy], h1, h2⟩
 intro x hx
 rcases key l [] x hx with ⟨y, hy, _⟩ | h
 ·cases hy
 ·exact h
theorem puts_bound {l : List Ln} {M : Int} (hM : 0 ≤ M) (h : ∀ x ∈ l, -M ≤ x.amt ∧ x.amt ≤ M) : ∀ a ∈ putsR l, -(M * l.length) ≤ a.amt ∧ a.amt ≤ M * l.length := fun a ha => by
 have hs := strict_amt (by have := puts_strict l l.length; rwa [List.take_length] at this) ha
 have h2 := sumT_puts l l.length a.kind a.code
 rw [List.take_length] at h2
 rw [h2] at hs
 have := sumT_bound (l := l) (M := M) hM h a.kind a.code
 rw [hs] at this
 exact this
structure EsOk (l : List Ln) : Prop where
 zero : ∀ x ∈ l, x.kind = 0
 name : ∀ x ∈ l, nameB x.code.data.toList = true
 amt : ∀ x ∈ l, -600000 ≤ x.amt ∧ x.amt ≤ 600000
 len : l.length ≤ 100
theorem EsOk.take {l : List Ln} (h : EsOk l) (k : Nat) : EsOk (l.take k) := ⟨fun x hx => h.zero x (List.mem_of_mem_take hx), fun x hx => h.name x (List.mem_of_mem_take hx), fun x hx => h.amt x (List.mem_of_mem_take hx), by have := h.len; rw [List.length_take]; omega⟩
theorem EsOk.puts {l : List Ln} (h : EsOk l) : ElOk (putsR l) 60000000 := by
 refine ⟨by have := puts_strict l l.length; rwa [List.take_length] at this, fun x hx => ?_, fun x hx => ?_, fun x hx => ?_⟩
 ·obtain ⟨y, hy, h1, _⟩ := puts_title x hx
  rw [h1]; exact h.zero y hy
 ·obtain ⟨y, hy, _, h1⟩ := puts_title x hx
  rw [h1]; exact h.name y hy
 ·have := puts_bound (by omega) h.amt x hx
  have hl := h.len
  omega
set_option maxRecDepth 100000 in
set_option maxHeartbeats 4000000 in
theorem sums_ok (l : List Ln) (v : Value) (w : World) (hv : Sl w 2 v (els l)) (h : EsOk l) :
  Calls Tryz.prog 83 #[v] w (RetOwn2 w 112 2 (els (putsR l)) 0) := by
 have HV := Lib.hid hv
 have H := Lib.hid h
 have hl := h.len
 obtain ⟨A, cap, rfl, h1, h2, _, _⟩ := hv
 rw [els_len] at h1 HV ⊢
 unfold maxLen at h2
 clear h
 go_enter Tryz.func83, Tryz.ntmps83
 go_wp2_with fail
 go_loopw [4] (fun i wr => ∃ k : Nat, k ≤ l.length ∧ i = .int .i64 k ∧ Hid (Below w.heap.size w wr)) (fun i _ => l.length - (intOf i).toNat)
 case atStart => exact ⟨0, by omega, rfl, Below.refl _ _⟩
 case round =>
  obtain ⟨k, hk, rfl, HB⟩ := hrel
  obtain ⟨wo, rfl⟩ : ∃ wo : World, wo = wr := ⟨_, rfl⟩
  by_cases hlt : k < l.length
  ·obtain ⟨bk, off, rfl, hc⟩ := (HV.out.below HB.out).cells (by rw [els_len]; omega)
   have hbl := hc.1
   have i1 : (k : Int) < (l.length : Int) := by omega
   obtain ⟨c0, c1⟩ := hc.el hlt
   have HN := H.out.name _ (List.getElem_mem hlt)
   obtain ⟨x, hx⟩ : ∃ x, l[k] = x := ⟨_, rfl⟩
   rw [hx] at c0 c1 HN
   have HF := Lib.hid (refIsName_any x.code wo)
   rw [HN] at HF
   clear hc hx HN
   go_wp2_with fail
   refine HF.out.mono ?_
   rintro e w2 ⟨rfl, hb2⟩
   have HB2 := Lib.hid (below_after HB.out hb2 HB.out.size)
   clear hb2 HF
   go_wp2_with fail
   go_roundw
   case rel => exact ⟨k + 1, by omega, by go_num, HB2.out⟩
   case measure => simp [intOf]; omega
  ·obtain rfl : k = l.length := by omega
   go_wp2_with fail
   go_loopw [5, 6] (fun t i wr => ∃ k : Nat, k ≤ l.length ∧ i = .int .i64 k ∧ Hid (Own wr w.heap.size 112 2 t (els (putsR (l.take k))) ∧ Below w.heap.size w wr)) (fun _ i _ => l.length - (intOf i).toNat)
   case atStart => exact ⟨0, by omega, rfl, Own.nil _ _ _ _, HB.out⟩
   case round =>
    clear HB
    obtain ⟨k, hk, rfl, HO⟩ := hrel
    obtain ⟨wi, rfl⟩ : ∃ wi : World, wi = wr := ⟨_, rfl⟩
    by_cases hlt : k < l.length
    ·obtain ⟨bk, off, rfl, hc⟩ := (HV.out.below HO.out.2).cells (by rw [els_len]; omega)
     have hbl := hc.1
     have i1 : (k : Int) < (l.length : Int) := by omega
     obtain ⟨c0, c1⟩ := hc.el hlt
     have ha := H.out.amt _ (List.getElem_mem hlt)
     have hz := H.out.zero _ (List.getElem_mem hlt)
     have hp := (H.out.take k).puts
     have hpl := puts_len l k
     have HSN := Lib.hid (putsR_snoc l k hlt)
     have HA := Lib.hid (Amount_ok (n := l[k].amt) wi (by omega))
     have HPUT := Lib.hid fun vv (h : vv = u5) => PutE_any vv (putsR (l.take k)) l[k] wi (by rw [h]; exact HO.out.1.sl (by omega)) (by omega) (by omega) (fun a ha => by have := hp.amt a ha; omega) hp.zero hz
     clear hc hp
     go_wp2_with fail
     refine HA.out.mono ?_
     rintro e _ ⟨rfl, rfl⟩
     go_wp2_with fail
     refine (HPUT.out _ rfl).mono ?_
     rintro e w3 ⟨y, rfl, hown3, hb3⟩
     rw [← HSN.out] at hown3
     have HO3 : Hid (Own w3 w.heap.size 112 2 y (els (putsR (l.take (k + 1)))) ∧ Below w.heap.size w w3) := ⟨hown3.more HO.out.2.size, below_after HO.out.2 hb3 HO.out.2.size⟩
     clear hown3 hb3 HPUT HA
     go_wp2_with fail
     go_roundw
     case rel => exact ⟨k + 1, by omega, by go_num, HO3.out⟩
     case measure => simp [intOf]; omega
    ·obtain rfl : k = l.length := by omega
     rw [List.take_length] at HO
     have hpl := puts_len l l.length
     rw [List.take_length] at hpl
     have HE := Lib.hid H.out.puts
     obtain ⟨es, hes⟩ : ∃ es, putsR l = es := ⟨_, rfl⟩
     rw [hes] at HO HE hpl ⊢
     obtain ⟨A3, c3, hf⟩ := HO.out.1.form
     rw [els_len] at hf
     subst hf
     have HS := Lib.hid (HO.out.1.sl (by omega))
     have h4 : es.length ≤ c3 ∧ c3 ≤ maxLen := by
      obtain ⟨_, _, hv, q1, q2, _⟩ := HS.out
      injection hv with e1 e2 e3
      rw [els_len] at q1
      omega
     unfold maxLen at h4
     go_wp2_with fail
     go_loop [7] (fun i => ∃ k : Nat, k ≤ es.length ∧ i = .int .i64 k) (fun i => es.length - (intOf i).toNat)
     case atStart => exact ⟨0, by omega, rfl⟩
     case round =>
      obtain ⟨k, hk, rfl⟩ := hrel
      by_cases hlt : k < es.length
      ·obtain ⟨bk, off, rfl, hc⟩ := HS.out.cells (by rw [els_len]; omega)
       have hbl := hc.1
       have i1 : (k : Int) < (es.length : Int) := by omega
       obtain ⟨c0, c1⟩ := hc.el hlt
       have ha := HE.out.amt _ (List.getElem_mem hlt)
       have HA := Lib.hid (Amount_ok (n := es[k].amt) wi (by omega))
       clear hc
       go_wp2_with fail
       refine HA.out.mono ?_
       rintro e _ ⟨rfl, rfl⟩
       go_wp2_with fail
       go_round
       case rel => exact ⟨k + 1, by omega, by go_num⟩
       case measure => simp [intOf]; omega
      ·obtain rfl : k = es.length := by omega
       go_wp2_with fail
       go_ret2
       exact ⟨_, rfl, HO.out.1, HO.out.2⟩
set_option maxRecDepth 100000 in
set_option maxHeartbeats 4000000 in
theorem MergeE_ok (l : List Ln) (v : Value) (w : World) (hv : Sl w 2 v (els l)) (h : EsOk l) :
  Calls Tryz.prog 44 #[v] w (RetOwn2 w 112 2 (els ((putsR l).filter nz)) 0) := by
 have HS := Lib.hid (sums_ok l v w hv h)
 have hpl := puts_len l l.length
 rw [List.take_length] at hpl
 have hl := h.len
 obtain ⟨A, cap, rfl, h1, h2, _, _⟩ := hv
 rw [els_len] at h1 HS ⊢
 unfold maxLen at h2
 clear h
 go_enter Tryz.func44, Tryz.ntmps44
 go_wp2_with fail
 refine HS.out.mono ?_
 rintro e w1 ⟨y, rfl, hown, hb⟩
 obtain ⟨es, hes⟩ : ∃ es, putsR l = es := ⟨_, rfl⟩
 have HES := Lib.hid hes
 rw [hes] at hown hpl
 clear hes
 obtain ⟨A3, c3, hf⟩ := hown.form
 rw [els_len] at hf
 subst hf
 have HS1 := Lib.hid (hown.sl (by omega))
 have h4 : es.length ≤ c3 ∧ c3 ≤ maxLen := by
  obtain ⟨_, _, hv, q1, q2, _⟩ := HS1.out
  injection hv with e1 e2 e3
  rw [els_len] at q1
  omega
 unfold maxLen at h4
 have hs1 := hb.size
 clear hown HS
 have HB := Lib.hid hb
 clear hb
 go_wp2_with fail
 go_loopw [6, 7] (fun t i wr => ∃ k : Nat, k ≤ es.length ∧ i = .int .i64 k ∧ Own wr w1.heap.size 112 2 t (els ((es.take k).filter nz)) ∧ Below w1.heap.size w1 wr) (fun _ i _ => es.length - (intOf i).toNat)
 case atStart => exact ⟨0, by omega, rfl, Own.nil _ _ _ _, Below.refl _ _⟩
 case round =>
  obtain ⟨k, hk, rfl, hown, hb⟩ := hrel
  by_cases hlt : k < es.length
  ·obtain ⟨bk, off, rfl, hc⟩ := (HS1.out.below hb).cells (by rw [els_len]; omega)
   have hbl := hc.1
   have i1 : (k : Int) < (es.length : Int) := by omega
   obtain ⟨c0, c1⟩ := hc.el hlt
   have hbs := hb.size
   have hsn := Lib.hid (nz_snoc es k hlt)
   have hul := nz_len es k
   clear hc
   cases e1 : (es[k].amt != 0)
   ·have hN : Hid ((es.take k).filter nz = (es.take (k + 1)).filter nz) := by rw [Hid, hsn.out, if_pos (by simpa using e1), List.append_nil]
    go_wp2_with fail
    go_roundw
    case rel => exact ⟨k + 1, by omega, by go_num, by rw [← hN.out]; exact hown, hb⟩
    case measure => simp [intOf]; omega
   ·have hN : Hid ((es.take (k + 1)).filter nz = (es.take k).filter nz ++ [es[k]]) := by rw [Hid, hsn.out, if_neg (by simpa using e1)]
    go_wp2_with (at_builtin; refine wpList_append_sl rfl (.tmp 28) (.tmp 33) rfl rowEl w1.heap.size _ _ _ (els [es[k]]) rfl (hown.alloc _) rfl (Sl.one rfl rfl) (els_wide _) (by rw [els_len, els_len]; unfold maxLen; simp; omega) (by rw [els_len, els_len]; simp; omega) (by simp; omega) ?_; intro v2 w2 hown2 hg2 _; have hb2 := Own.grown (hown.alloc _) (hb.alloc hbs _) hg2 (by simp; omega); rw [← els_append, ← hN.out] at hown2)
    go_roundw
    case rel => exact ⟨k + 1, by omega, by go_num, hown2, hb2⟩
    case measure => simp [intOf]; omega
  ·obtain rfl : k = es.length := by omega
   rw [List.take_length] at hown
   go_wp2_with fail
   go_ret2
   exact ⟨_, rfl, by rw [HES.out]; exact hown.more hs1, below_after HB.out hb hs1⟩
end Go.Proofs.YtogdefomigiepaaGreatDoor
/- Contracts of payrollref26.Find, At and payrollref27.Sum. -/
namespace Go.Proofs.YtogdefomigiepaaGreatDoor
open Go.RowKit

def atE (l : List Ln) (c : ByteArray) : Int := match l with
 | [] => 0
 | x :: r => if x.code = c then x.amt else atE r c
theorem atE_at {c : ByteArray} : ∀ {l : List Ln} {k : Nat} (hk : k < l.length), (∀ j (h : j < k), (l[j]'(by omega)).code ≠ c) → l[k].code = c → atE l c = l[k].amt
 | x :: r, 0, _, _, h => by
  simp only [List.getElem_cons_zero] at h ⊢
  simp [atE, h]
 | x :: r, k + 1, hk, h1, h => by
  have h0 := h1 0 (by omega)
  simp only [List.getElem_cons_zero] at h0
  have := atE_at (l := r) (k := k) (by simpa using hk) (fun j hj => by have := h1 (j + 1) (by omega); simpa using this) (by simpa using h)
  simpa [atE, h0] using this
theorem atE_none {c : ByteArray} : ∀ {l : List Ln}, (∀ j (h : j < l.length), l[j].code ≠ c) → atE l c = 0
 | [], _ => rfl
 | x :: r, h => by
  have h0 := h 0 (by simp)
  simp only [List.getElem_cons_zero] at h0
  have := atE_none (l := r) fun j hj => by have := h (j + 1) (by simpa using hj); simpa using this
  simpa [atE, h0] using this
theorem atE_bound {l : List Ln} {c : ByteArray} {M : Int} (hM : 0 ≤ M) (h : ∀ x ∈ l, 0 ≤ x.amt ∧ x.amt ≤ M) : 0 ≤ atE l c ∧ atE l c ≤ M := by
 induction l with
 | nil => exact ⟨Int.le_refl _, hM⟩
 | cons x r ih =>
  have := ih fun y hy => h y (by simp [hy])
  have h0 := h x (by simp)
  rw [atE]; split
  ·exact h0
  ·exact this
set_option maxRecDepth 100000 in
set_option maxHeartbeats 4000000 in
theorem AtE_any (l : List Ln) (c : ByteArray) (v : Value) (w : World) (hv : Sl w 2 v (els l)) :
  Calls Tryz.prog 87 #[v, .string c] w fun e w' => e = .returned (.int .i64 (atE l c)) ∧ w = w' := by
 have HV := Lib.hid hv
 obtain ⟨A, cap, rfl, h1, h2, _, _⟩ := hv
 rw [els_len] at h1 HV ⊢
 unfold maxLen at h2
 go_enter Tryz.func87, Tryz.ntmps87
 go_wp2_with fail
 go_loop [5] (fun i => ∃ k : Nat, k ≤ l.length ∧ i = .int .i64 k ∧ Hid (∀ j (h : j < k) (h' : j < l.length), l[j].code ≠ c)) (fun i => l.length - (intOf i).toNat)
 case atStart => exact ⟨0, by omega, rfl, fun j h => by omega⟩
 case round =>
  obtain ⟨k, hk, rfl, HK⟩ := hrel
  by_cases hlt : k < l.length
  ·obtain ⟨bk, off, rfl, hc⟩ := HV.out.cells (by rw [els_len]; omega)
   have hbl := hc.1
   have i1 : (k : Int) < (l.length : Int) := by omega
   obtain ⟨c0, c1⟩ := hc.el hlt
   cases e : (l[k].code.toList == c.toList)
   ·have HN : Hid (∀ j (h : j < k + 1) (h' : j < l.length), l[j].code ≠ c) := fun j hj hjl => by
     by_cases ej : j = k
     ·subst ej; intro hh; rw [hh] at e; simp at e
     ·exact HK.out j (by omega) hjl
    clear hc
    go_wp2_with fail
    go_round
    case rel => exact ⟨k + 1, by omega, by go_num, HN⟩
    case measure => simp [intOf]; omega
   ·have HE : Hid (atE l c = l[k].amt) := atE_at hlt (fun j hj => HK.out j hj (by omega)) (bytes_of_toList (by simpa using e))
    clear hc
    go_wp2_with fail
    go_ret
    exact ⟨ret_int HE.out.symm, rfl⟩
  ·obtain rfl : k = l.length := by omega
   have HE : Hid (atE l c = 0) := atE_none fun j hj => HK.out j hj hj
   go_wp2
   go_ret
   exact ⟨ret_int HE.out.symm, rfl⟩
set_option maxRecDepth 100000 in
set_option maxHeartbeats 4000000 in
theorem SumE_any (l : List Ln) (v : Value) (w : World) (hv : Sl w 2 v (els l)) (hl : l.length ≤ 1000) (ha : ∀ x ∈ l, -1000000000000 ≤ x.amt ∧ x.amt ≤ 1000000000000) :
  Calls Tryz.prog 47 #[v] w fun e w' => e = .returned (.int .i64 (sumA l)) ∧ w = w' := by
 have HV := Lib.hid hv
 have HO := Lib.hid ha
 obtain ⟨A, cap, rfl, h1, h2, _, _⟩ := hv
 rw [els_len] at h1 HV ⊢
 unfold maxLen at h2
 clear ha
 go_enter Tryz.func47, Tryz.ntmps47
 go_wp2_with fail
 go_loop [3, 4] (fun s i => ∃ k : Nat, k ≤ l.length ∧ i = .int .i64 k ∧ s = .int .i64 (sumA (l.take k))) (fun _ i => l.length - (intOf i).toNat)
 case atStart => exact ⟨0, by omega, rfl, rfl⟩
 case round =>
  obtain ⟨k, hk, rfl, rfl⟩ := hrel
  by_cases hlt : k < l.length
  ·obtain ⟨bk, off, rfl, hc⟩ := HV.out.cells (by rw [els_len]; omega)
   have hbl := hc.1
   have i1 : (k : Int) < (l.length : Int) := by omega
   obtain ⟨c0, c1⟩ := hc.el hlt
   have HS := Lib.hid (sumA_snoc l k hlt)
   have hx := HO.out _ (List.getElem_mem hlt)
   have hb := sumA_bound (l := l.take k) (M := 1000000000000) fun x hx => HO.out x (List.mem_of_mem_take hx)
   have hk2 : (l.take k).length ≤ 1000 := by rw [List.length_take]; omega
   have hw1 : IntKind.i64.wrap (sumA (l.take k) + l[k].amt) = sumA (l.take k) + l[k].amt := IntWalk.i64_in _ (by omega)
   clear hc hb hx hk2
   go_wp2_with fail
   go_round
   case rel => exact ⟨k + 1, by omega, by go_num, by rw [HS.out]⟩
   case measure => simp [intOf]; omega
  ·obtain rfl : k = l.length := by omega
   rw [List.take_length]
   go_wp2
   go_ret
   exact ⟨rfl, rfl⟩
set_option maxRecDepth 100000 in
set_option maxHeartbeats 4000000 in
theorem Find_ok (ws : List Wg) (c : ByteArray) (v : Value) (w : World) (hv : Sl w 6 v (ws.map Wg.vals)) (hl : ws.length ≤ 100) (hc : ∃ x ∈ ws, x.code = c) :
  Calls Tryz.prog 45 #[v, .string c] w fun e w' => ∃ x ∈ ws, x.code = c ∧ e = .returned (.tuple #[.agg x.vals.toArray, .bool true]) ∧ Below w.heap.size w w' := by
 have HV := Lib.hid hv
 have HC := Lib.hid hc
 obtain ⟨A, cap, rfl, h1, h2, _, _⟩ := hv
 rw [List.length_map] at h1 HV ⊢
 unfold maxLen at h2
 clear hc
 go_enter Tryz.func45, Tryz.ntmps45
 go_upto_region 1 with (fail)
 have R := Row.new w 120 #[.string ⟨#[]⟩, .int .i64 0, .bool false, .bool false, .bool false, .int .i64 0]
 have hb : Below w.heap.size w (w.alloc (.cells #[.string ⟨#[]⟩, .int .i64 0, .bool false, .bool false, .bool false, .int .i64 0] 120)) := (Below.refl _ _).alloc (Nat.le_refl _) _
 obtain ⟨w1, hw⟩ : ∃ w1, w.alloc (.cells #[.string ⟨#[]⟩, .int .i64 0, .bool false, .bool false, .bool false, .int .i64 0] 120) = w1 := ⟨_, rfl⟩
 rw [hw] at R hb ⊢
 obtain ⟨g, hg⟩ : ∃ g, w.heap.size = g := ⟨_, rfl⟩
 rw [hg] at R ⊢
 have HG := Lib.hid hg
 clear hw hg
 go_wp2_with fail
 go_loop [6] (fun i => ∃ k : Nat, k ≤ ws.length ∧ i = .int .i64 k ∧ Hid (∀ j (h : j < k) (h' : j < ws.length), ws[j].code ≠ c)) (fun i => ws.length - (intOf i).toNat)
 case atStart => exact ⟨0, by omega, rfl, fun j h => by omega⟩
 case round =>
  obtain ⟨k, hk, rfl, HK⟩ := hrel
  by_cases hlt : k < ws.length
  ·obtain ⟨bk, off, rfl, hc⟩ := (HV.out.below hb).cells (by rw [List.length_map]; omega)
   have hbl := hc.1
   have i1 : (k : Int) < (ws.length : Int) := by omega
   have hwk : (ws.map Wg.vals)[k]? = some (ws[k]).vals := by simp [hlt]
   have HM := Lib.hid (List.getElem_mem hlt)
   have HKN := Lib.hid fun (h : (ws[k]).code ≠ c) => (show ∀ j (h : j < k + 1) (h' : j < ws.length), ws[j].code ≠ c from fun j hj hjl => by
    by_cases ej : j = k
    ·subst ej; exact h
    ·exact HK.out j (by omega) hjl)
   obtain ⟨⟨code, kind, tax, ins, att, acc⟩, hx⟩ : ∃ x, ws[k] = x := ⟨_, rfl⟩
   rw [hx] at hwk HM HKN
   have c0 := hc.at hwk 0 rfl
   have c1 := hc.at hwk 1 rfl
   have c2 := hc.at hwk 2 rfl
   have c3 := hc.at hwk 3 rfl
   have c4 := hc.at hwk 4 rfl
   have c5 := hc.at hwk 5 rfl
   simp only [Nat.add_zero] at c0
   dsimp only at c0 HKN
   clear hc hwk hx
   cases e : (code.toList == c.toList)
   ·have HN := Lib.hid (HKN.out (fun hh => by rw [hh] at e; simp at e))
    clear HKN
    go_wp2_with fail
    go_round
    case rel => exact ⟨k + 1, by omega, by go_num, HN⟩
    case measure => simp [intOf]; omega
   ·have HE : Hid (code = c) := bytes_of_toList (by simpa using e)
    clear HKN
    go_wp2_with (refine wpList_storeRow rfl 120 (.tmp 4) (.tmp 23) rfl #[.string code, .int .i64 kind, .bool tax, .bool ins, .bool att, .int .i64 acc] rfl rfl R (by simp) (by kernel_rfl) (by simp [Value.oneCell']) (by rfl) ?_; intro wZ RZ gZ _)
    refine bodyPost_ret (v := .tuple #[.agg #[.string code, .int .i64 kind, .bool tax, .bool ins, .bool att, .int .i64 acc], .bool true]) (results_rows rfl _ rfl RZ Tryz.underlying120 rfl (by kernel_rfl) rfl) rfl ⟨_, HM.out, HE.out, rfl, ?_⟩
    have := hb.grown gZ hb.size (fun k hk => by injection hk with hk; have := HG.out; omega)
    first | exact this | rwa [HG.out] at this
  ·obtain rfl : k = ws.length := by omega
   obtain ⟨x, hx, e⟩ := HC.out
   obtain ⟨j, hj, rfl⟩ := List.getElem_of_mem hx
   exact (HK.out j hj hj e).elim
end Go.Proofs.YtogdefomigiepaaGreatDoor
/- Contracts of payrollref27.Wanted and Take. Written by gen_r27.py. -/
namespace Go.Proofs.YtogdefomigiepaaGreatDoor
open Go.RowKit

set_option maxRecDepth 100000 in
set_option maxHeartbeats 1500000 in
theorem Wanted_ok (x : Dd) (hx : DdOk x) (hc : x.code ∈ litC) (base taken : Int) (w : World) (hb : 0 ≤ base ∧ base ≤ 1000000000) (ht : 0 ≤ taken ∧ taken ≤ 1000000000000) :
  ∃ n : Int, 0 ≤ n ∧ n ≤ 1000000000 ∧ ∀ w : World, Calls Tryz.prog 86 #[.agg x.vals.toArray, .int .i64 base, .int .i64 taken] w fun e w' => e = .returned (.tuple #[.int .i64 n, .int .i64 0]) ∧ Below w.heap.size w w' := by
 have hco : Coded Dd.code DdOk litC litC.length [x] := ⟨by rw [List.take_length]; simpa using hc, fun y hy => by rw [List.mem_singleton.1 hy]; exact hx⟩
 have HV := Lib.hid fun (w : World) A cap (h : Sl w 6 (.slice A 1 cap) [x.vals]) => Deds_ok [x] (.slice A 1 cap) w h hco
 obtain ⟨code, rank, bef, amt, rate, cp⟩ := x
 obtain ⟨_, ⟨a1, a2⟩, ⟨r1, r2⟩, ⟨c1, c2⟩⟩ := hx
 dsimp only at a1 a2 r1 r2 c1 c2
 obtain ⟨p0, p1⟩ := partI_bounds (num := rate) (unit := 1) 4 hb.1 r1 r2 (by omega)
 have HP := Lib.hid fun w => Part_any base rate 1 4 w hb ⟨r1, r2⟩ (by omega) (by decide)
 obtain ⟨p, hp⟩ : ∃ p, partI base rate 1 4 = p := ⟨_, rfl⟩
 rw [hp] at HP p0 p1
 obtain ⟨n, hn1, hn2⟩ : ∃ n : Int, (0 < cp → n = min (amt + p) (min 1000000000 (max (cp - taken) 0))) ∧ (cp ≤ 0 → n = min (amt + p) 1000000000) := by
  by_cases h : 0 < cp
  ·exact ⟨_, fun _ => rfl, fun h' => by omega⟩
  ·exact ⟨_, fun h' => absurd h' h, fun _ => rfl⟩
 have hn0 : 0 ≤ n ∧ n ≤ 1000000000 := by
  by_cases h : 0 < cp
  ·have := hn1 h; omega
  ·have := hn2 (by omega); omega
 have HN1 := Lib.hid hn1
 have HN2 := Lib.hid hn2
 refine ⟨n, hn0.1, hn0.2, fun w => ?_⟩
 clear hn1 hn2 hn0
 have s1 : IntKind.i64.wrap (amt + p) = amt + p := IntWalk.i64_in _ (by omega)
 have s2 : IntKind.i64.wrap (cp - taken) = cp - taken := IntWalk.i64_in _ (by omega)
 have HI1 := Lib.hid fun w => in27_ok w hb
 have HI2 := Lib.hid fun w => in27_ok w ht
 clear hco hp
 show Calls Tryz.prog 86 #[.agg #[.string code, .int .i64 rank, .bool bef, .int .i64 amt, .int .i64 rate, .int .i64 cp], .int .i64 base, .int .i64 taken] w _
 go_enter Tryz.func86, Tryz.ntmps86
 go_upto_region 1 with (fail)
 have kk : Below w.heap.size w (w.alloc (.cells #[.string code, .int .i64 rank, .bool bef, .int .i64 amt, .int .i64 rate, .int .i64 cp] 170)) := (Below.refl _ _).alloc (Nat.le_refl _) _
 have S_1 := Row.new w 170 #[.string code, .int .i64 rank, .bool bef, .int .i64 amt, .int .i64 rate, .int .i64 cp]
 have hsS : (w.alloc (.cells #[.string code, .int .i64 rank, .bool bef, .int .i64 amt, .int .i64 rate, .int .i64 cp] 170)).heap.size = w.heap.size + 1 := by simp
 obtain ⟨w1, hw⟩ : ∃ w1, w.alloc (.cells #[.string code, .int .i64 rank, .bool bef, .int .i64 amt, .int .i64 rate, .int .i64 cp] 170) = w1 := ⟨_, rfl⟩
 rw [hw] at kk S_1 hsS ⊢
 clear hw
 obtain ⟨gS, hg⟩ : ∃ gS, w.heap.size = gS := ⟨_, rfl⟩
 rw [hg] at S_1 hsS ⊢
 have zS : w.heap.size ≤ gS := by omega
 clear hg
 have b1 := Lib.hid kk
 clear kk
 have cS0 : w1.cell? ⟨gS, 0, none⟩ = some (.string code) := Row.cell S_1 0
 have cS1 : w1.cell? ⟨gS, 1, none⟩ = some (.int .i64 rank) := Row.cell S_1 1
 have cS2 : w1.cell? ⟨gS, 2, none⟩ = some (.bool bef) := Row.cell S_1 2
 have cS3 : w1.cell? ⟨gS, 3, none⟩ = some (.int .i64 amt) := Row.cell S_1 3
 have cS4 : w1.cell? ⟨gS, 4, none⟩ = some (.int .i64 rate) := Row.cell S_1 4
 have cS5 : w1.cell? ⟨gS, 5, none⟩ = some (.int .i64 cp) := Row.cell S_1 5
 have lS := Row.lt S_1
 go_wp2_with fail
 have HC := Lib.hid (HV.out (w1.alloc (.cells #[.string code, .int .i64 rank, .bool bef, .int .i64 amt, .int .i64 rate, .int .i64 cp] 170)) (some ⟨gS + 1, 0, none⟩) 1 (Sl.one hsS rfl))
 have ba : Below w1.heap.size w1 (w1.alloc (.cells #[.string code, .int .i64 rank, .bool bef, .int .i64 amt, .int .i64 rate, .int .i64 cp] 170)) := (Below.refl _ _).alloc (Nat.le_refl _) _
 have HAB := Lib.hid fun w2 (h : Below (w1.alloc (.cells #[.string code, .int .i64 rank, .bool bef, .int .i64 amt, .int .i64 rate, .int .i64 cp] 170)).heap.size (w1.alloc (.cells #[.string code, .int .i64 rank, .bool bef, .int .i64 amt, .int .i64 rate, .int .i64 cp] 170)) w2) => below_after ba h ba.size
 clear ba HV cS0 cS1 cS2 cS3 cS4 cS5 lS
 try rw [hsS]
 refine HC.out.mono ?_
 rintro e w2 ⟨rfl, kq⟩
 have k2 := HAB.out _ kq
 clear kq HAB HC
 have S_2 := Row.below S_1 k2 S_1.lt
 have b2 := Lib.hid (below_after b1.out k2 b1.out.size)
 clear S_1 b1 k2
 have cS0 : w2.cell? ⟨gS, 0, none⟩ = some (.string code) := Row.cell S_2 0
 have cS1 : w2.cell? ⟨gS, 1, none⟩ = some (.int .i64 rank) := Row.cell S_2 1
 have cS2 : w2.cell? ⟨gS, 2, none⟩ = some (.bool bef) := Row.cell S_2 2
 have cS3 : w2.cell? ⟨gS, 3, none⟩ = some (.int .i64 amt) := Row.cell S_2 3
 have cS4 : w2.cell? ⟨gS, 4, none⟩ = some (.int .i64 rate) := Row.cell S_2 4
 have cS5 : w2.cell? ⟨gS, 5, none⟩ = some (.int .i64 cp) := Row.cell S_2 5
 have lS := Row.lt S_2
 go_wp2_with fail
 refine (HI1.out _).mono ?_
 rintro e _ ⟨rfl, rfl⟩
 go_wp2_with fail
 refine (HI2.out _).mono ?_
 rintro e _ ⟨rfl, rfl⟩
 go_wp2_with fail
 refine (HP.out _).mono ?_
 rintro e _ ⟨rfl, rfl⟩
 by_cases hcp : 0 < cp
 ·have HN := HN1.out hcp
  subst HN
  have dcp : decide (0 < cp) = true := decide_eq_true hcp
  clear HN1 HN2
  go_wp2_with fail
  go_ret2
  exact ⟨rfl, b2.out⟩
 ·have HN := HN2.out (by omega)
  subst HN
  have dcp : decide (0 < cp) = false := decide_eq_false hcp
  clear HN1 HN2
  go_wp2_with fail
  go_ret2
  exact ⟨rfl, b2.out⟩
structure TkOk (l : List Ln) : Prop where
 strict : Strict l
 zero : ∀ x ∈ l, x.kind = 0
 pos : ∀ x ∈ l, 0 ≤ x.amt
 code : ∀ x ∈ l, x.code ∈ litC
theorem TkOk.nil : TkOk [] := ⟨List.Pairwise.nil, fun _ h => (by cases h), fun _ h => (by cases h), fun _ h => (by cases h)⟩
theorem TkOk.put {l : List Ln} (h : TkOk l) {x : Ln} (h0 : x.kind = 0) (hp : 0 ≤ x.amt) (hc : x.code ∈ litC) : TkOk (putR x l) :=
 ⟨putR_strict h.strict, put_kind h.zero h0, put_nonneg h.pos hp, put_name (p := fun c => c ∈ litC) h.code hc⟩
theorem TkOk.len {l : List Ln} (h : TkOk l) : l.length ≤ 4 := by
 have := strict_le (m := litC.map fun c => c.data.toList) h.strict h.zero fun x hx => List.mem_map.2 ⟨_, h.code x hx, rfl⟩
 simpa [litC] using this
theorem TkOk.el {l : List Ln} (h : TkOk l) {M : Int} (hM : sumA l ≤ M) : ElOk l M :=
 ⟨h.strict, h.zero, fun x hx => litC_name _ (h.code x hx), fun x hx => by
  have h1 := h.pos x hx
  have h2 := sumA_mem h.pos hx
  omega⟩
def TkSt (w : World) (avail : Int) (a o : Value) (wr : World) : Prop :=
 ∃ (av : Int) (l : List Ln), a = .int .i64 av ∧ (0 ≤ av ∧ av ≤ 1000000000) ∧ Own wr w.heap.size 112 2 o (els l) ∧ TkOk l ∧ sumA l + av = avail ∧ Below w.heap.size w wr
set_option maxRecDepth 100000 in
set_option maxHeartbeats 4000000 in
theorem Take_ok (ds : List Dd) (hc : Coded Dd.code DdOk litC litC.length ds) (bef : Bool) (base avail : Int) (yl : List Ln) (vd vy : Value) (w : World) (hvd : Sl w 6 vd (ds.map Dd.vals)) (hvy : Sl w 2 vy (els yl))
  (hl : yl.length ≤ 128) (hs : yl.Pairwise fun a b => a.code.toList < b.code.toList) (hn : ∀ x ∈ yl, nameB x.code.data.toList = true) (hya : ∀ x ∈ yl, 0 ≤ x.amt ∧ x.amt ≤ 1000000000000) (hb : 0 ≤ base ∧ base ≤ 1000000000) (hav : 0 ≤ avail ∧ avail ≤ 1000000000) :
  Calls Tryz.prog 46 #[vd, .bool bef, .int .i64 base, .int .i64 avail, vy] w fun e w' => ∃ (v : Value) (l : List Ln), e = .returned (.tuple #[v, .int .i64 0]) ∧ TkOk l ∧ sumA l ≤ avail ∧ Own w' w.heap.size 112 2 v (els l) ∧ Below w.heap.size w w' := by
 have HVD := Lib.hid hvd
 have HVY := Lib.hid hvy
 have H1 := Lib.hid (Deds_ok ds vd w hvd hc)
 have H2 := Lib.hid fun (y : World) (hy : Below w.heap.size w y) => Record_ok yl vy y (hvy.below hy) hl hs hn hya
 have HI1 := Lib.hid fun w => in27_ok w hb
 have HI2 := Lib.hid fun w => in27_ok w hav
 have HAT := Lib.hid fun c => atE_bound (l := yl) (c := c) (M := 1000000000000) (by omega) hya
 have HDL : ds.length ≤ 4 := hc.len
 have HOK := Lib.hid hc.ok
 have HCD := Lib.hid fun x hx => hc.mem (x := x) hx
 obtain ⟨A, cap, rfl, h1, h2, _, _⟩ := hvd
 obtain ⟨Ay, capy, rfl, h3, h4, _, _⟩ := hvy
 rw [List.length_map] at h1 HVD H1 ⊢
 rw [els_len] at h3 HVY H2 ⊢
 unfold maxLen at h2 h4
 clear hc hs hn hya
 go_enter Tryz.func46, Tryz.ntmps46
 go_wp2_with fail
 refine H1.out.mono ?_
 rintro e w1 ⟨rfl, k1⟩
 go_wp2_with fail
 refine (H2.out _ k1).mono ?_
 rintro e w2 ⟨rfl, k2⟩
 have k3 := below_after k1 k2 k1.size
 clear k1 k2 H1 H2
 go_wp2_with fail
 refine (HI1.out _).mono ?_
 rintro e _ ⟨rfl, rfl⟩
 go_wp2_with fail
 refine (HI2.out _).mono ?_
 rintro e _ ⟨rfl, rfl⟩
 go_wp2_with fail
 go_loopw [3, 12, 13] (fun a o r wr => ∃ rk : Nat, rk ≤ 100 ∧ r = .int .i64 rk ∧ Hid (TkSt w avail a o wr)) (fun _ _ r _ => 100 - (intOf r).toNat)
 case atStart => exact ⟨0, by omega, rfl, avail, [], rfl, hav, Own.nil _ _ _ _, TkOk.nil, by simp [sumA], k3⟩
 case round =>
  clear k3
  obtain ⟨rk, hrk, rfl, HS⟩ := hrel
  obtain ⟨wo, rfl⟩ : ∃ wo : World, wo = wr := ⟨_, rfl⟩
  by_cases hr99 : rk ≤ 99
  ·have dr : (rk : Int) ≤ 99 := by omega
   obtain ⟨av0, l0, rfl, hav0, HS0⟩ := HS.out
   have HS1 : Hid (TkSt w avail (.int .i64 av0) u12 wo) := ⟨av0, l0, rfl, hav0, HS0⟩
   clear HS HS0
   go_wp2_with fail
   go_loopw [3, 12, 14] (fun a o i wr => ∃ k : Nat, k ≤ ds.length ∧ i = .int .i64 k ∧ Hid (TkSt w avail a o wr)) (fun _ _ i _ => ds.length - (intOf i).toNat)
   case atStart => exact ⟨0, by omega, rfl, HS1.out⟩
   case round =>
    clear HS1
    obtain ⟨k, hk, rfl, HS⟩ := hrel
    obtain ⟨wi, rfl⟩ : ∃ wi : World, wi = wr := ⟨_, rfl⟩
    obtain ⟨av, l, rfl, ha1, hown, htk, hsum, hbi⟩ := HS.out
    have HS2 := Lib.hid (show TkSt w avail (.int .i64 av) _ wi from ⟨av, l, rfl, ha1, hown, htk, hsum, hbi⟩)
    clear HS
    have HTK := Lib.hid htk
    have HOW := Lib.hid hown
    have HBI := Lib.hid hbi
    have hlen := htk.len
    have HMB := Lib.hid fun x (hx : x ∈ l) => (show -1000000000000000000 ≤ x.amt ∧ x.amt ≤ 1000000000000000000 by have a1 := htk.pos x hx; have a2 := sumA_mem htk.pos hx; omega)
    clear htk hown hbi
    by_cases hlt : k < ds.length
    ·obtain ⟨bk, off, rfl, hcc⟩ := (HVD.out.below HBI.out).cells (by rw [List.length_map]; omega)
     have hbl := hcc.1
     have i1 : (k : Int) < (ds.length : Int) := by omega
     have hwk : (ds.map Dd.vals)[k]? = some (ds[k]).vals := by simp [hlt]
     have hxo := HOK.out _ (List.getElem_mem hlt)
     have hxc := HCD.out _ (List.getElem_mem hlt)
     obtain ⟨x, hx⟩ : ∃ x, ds[k] = x := ⟨_, rfl⟩
     rw [hx] at hwk hxo hxc
     have hat := HAT.out x.code
     obtain ⟨n, n0, n1, hw⟩ := Wanted_ok x hxo hxc base (atE yl x.code) w hb hat
     have HW := Lib.hid hw
     have HXC := Lib.hid hxc
     have HA := Lib.hid fun y : Ext wi => AtE_any yl x.code (.slice Ay yl.length capy) y.val ((HVY.out.below HBI.out).below y.property)
     obtain ⟨code, rank, bf, amt, rate, cp⟩ := x
     have c0 := hcc.at hwk 0 rfl
     have c1 := hcc.at hwk 1 rfl
     have c2 := hcc.at hwk 2 rfl
     have c3 := hcc.at hwk 3 rfl
     have c4 := hcc.at hwk 4 rfl
     have c5 := hcc.at hwk 5 rfl
     simp only [Nat.add_zero] at c0
     dsimp only at c0 HA hat HW HXC
     simp only [Dd.vals] at HW
     generalize atE yl code = at0 at HA HW hat
     clear hx hcc hwk hxo hxc hw HVD
     by_cases e1 : rank = (rk : Int)
     ·by_cases e2 : bf = bef
      ·subst e1 e2
       have q1 : (bf != bf) = false := by simp
       have d0 := ext_cell hbl c0
       have d1 := ext_cell hbl c1
       have d2 := ext_cell hbl c2
       have d3 := ext_cell hbl c3
       have d4 := ext_cell hbl c4
       have d5 := ext_cell hbl c5
       have HOY := Lib.hid fun y : Ext wi => HOW.out.kept y.property
       have HBY := Lib.hid fun y : Ext wi => below_after HBI.out y.property HBI.out.size
       clear HOW HBI HAT HVY
       go_upto_region 13 with (fail)
       clear c0 c1 c2 c3 c4 c5
       refine region_ext (by kernel_rfl) (by kernel_rfl) ?_
       repeat (go_big_quiet_step (first | (go_at_call 87; exact ext_quiet (HA.out _)) | (go_at_call 86; exact ext_call (HW.out _))))
       refine wpQuiet_nil ?_
       rintro _ ⟨y, rfl⟩
       have f0 := d0 y
       clear d0 d1 d2 d3 d4 d5 HA HW
       have hwr : IntKind.i64.wrap (av - min n av) = av - min n av := IntWalk.i64_in _ (by omega)
       by_cases hpos : 0 < min n av
       ·have dp : decide (0 < min n av) = true := decide_eq_true hpos
        have HPUT := Lib.hid fun vv (h : vv = u12) => PutE_any vv l ⟨0, code, min n av⟩ y.val (by rw [h]; exact (HOY.out y).sl (by omega)) (by omega) (by dsimp only; omega) HMB.out HTK.out.zero rfl
        have lb := Nat.lt_of_lt_of_le hbl y.property.size
        go_wp2_with fail
        refine (HPUT.out _ rfl).mono ?_
        rintro e w8 ⟨v8, rfl, hown8, hb8⟩
        have HF : Hid (TkSt w avail (.int .i64 (av - min n av)) v8 w8) := ⟨av - min n av, putR ⟨0, code, min n av⟩ l, rfl, by omega, hown8.more (by have := (HBY.out y).size; omega), HTK.out.put rfl (by dsimp only; omega) HXC.out, by rw [sumA_put]; dsimp only; omega, below_after (HBY.out y) hb8 (HBY.out y).size⟩
        clear HPUT hown8 hb8 f0
        go_wp2_with fail
        go_roundw
        case rel => exact ⟨k + 1, by omega, by go_num, HF.out⟩
        case measure => simp [intOf]; omega
       ·have dp : decide (0 < min n av) = false := decide_eq_false hpos
        have HF : Hid (TkSt w avail (.int .i64 (av - min n av)) u12 y.val) := ⟨av - min n av, l, rfl, by omega, HOY.out y, HTK.out, by omega, HBY.out y⟩
        go_wp2_with fail
        go_roundw
        case rel => exact ⟨k + 1, by omega, by go_num, HF.out⟩
        case measure => simp [intOf]; omega
      ·have hb2 : bef = !bf := by cases bf <;> cases bef <;> simp_all
       subst hb2 e1
       cases bf
       all_goals
        go_wp2_with fail
        go_roundw
        case rel => exact ⟨k + 1, by omega, by go_num, HS2.out⟩
        case measure => simp [intOf]; omega
     ·have q1 : (rank != (rk : Int)) = true := by simpa using e1
      go_wp2_with fail
      go_roundw
      case rel => exact ⟨k + 1, by omega, by go_num, HS2.out⟩
      case measure => simp [intOf]; omega
    ·obtain rfl : k = ds.length := by omega
     go_wp2_with fail
     go_roundw
     case rel => exact ⟨rk + 1, by omega, by go_num, HS2.out⟩
     case measure => simp [intOf]; omega
  ·obtain rfl : rk = 100 := by omega
   obtain ⟨av, l, rfl, ha1, hown, htk, hsum, hbi⟩ := HS.out
   have HE := Lib.hid (And.intro htk (And.intro (show sumA l ≤ avail by omega) (And.intro hown hbi)))
   clear HS htk hown hbi hsum
   go_wp2_with fail
   go_ret2
   exact ⟨_, l, rfl, HE.out.1, HE.out.2.1, HE.out.2.2.1, HE.out.2.2.2⟩
end Go.Proofs.YtogdefomigiepaaGreatDoor
/- Contract of payrollref27.Add. -/
namespace Go.Proofs.YtogdefomigiepaaGreatDoor
open Go.RowKit

structure RcOk (l : List Ln) (M : Int) : Prop where
 tk : TkOk l
 amt : ∀ x ∈ l, x.amt ≤ M
theorem RcOk.pair {l : List Ln} (h : TkOk l) : l.Pairwise fun a b => a.code.toList < b.code.toList := by
 refine List.Pairwise.imp_of_mem (fun {a b} ha hb hab => ?_) h.strict
 rw [lnLt_el (h.zero a ha) (h.zero b hb), bytesLess_eq] at hab
 exact of_decide_eq_true hab
theorem TkOk.filter {l : List Ln} (h : TkOk l) (p : Ln → Bool) : TkOk (l.filter p) :=
 ⟨List.Pairwise.filter _ h.strict, fun x hx => h.zero x (List.mem_filter.1 hx).1, fun x hx => h.pos x (List.mem_filter.1 hx).1, fun x hx => h.code x (List.mem_filter.1 hx).1⟩
def putsOn (acc l : List Ln) : List Ln := l.foldl (fun acc x => putR x acc) acc
theorem putsOn_snoc (acc l : List Ln) (k : Nat) (h : k < l.length) : putsOn acc (l.take (k + 1)) = putR l[k] (putsOn acc (l.take k)) := by
 rw [List.take_succ_eq_append_getElem h, putsOn, List.foldl_append]; rfl
theorem putsOn_ok {acc : List Ln} (ha : TkOk acc) : ∀ {l : List Ln}, TkOk l → ∀ k, TkOk (putsOn acc (l.take k)) := by
 intro l hl k
 induction k with
 | zero => exact ha
 | succ k ih =>
  by_cases h : k < l.length
  ·rw [putsOn_snoc acc l k h]
   exact ih.put (hl.zero _ (List.getElem_mem h)) (hl.pos _ (List.getElem_mem h)) (hl.code _ (List.getElem_mem h))
  ·rw [List.take_of_length_le (by omega)]; rw [List.take_of_length_le (by omega)] at ih; exact ih
theorem putsOn_sum (acc l : List Ln) (k : Nat) : sumA (putsOn acc (l.take k)) = sumA acc + sumA (l.take k) := by
 induction k with
 | zero => simp [putsOn, sumA]
 | succ k ih =>
  by_cases h : k < l.length
  ·rw [putsOn_snoc acc l k h, sumA_put, ih, sumA_snoc l k h]; omega
  ·rw [List.take_of_length_le (by omega)]; rw [List.take_of_length_le (by omega)] at ih; exact ih
theorem sumA_filter_nz (l : List Ln) : sumA (l.filter nz) = sumA l := by
 induction l with
 | nil => rfl
 | cons x r ih =>
  rw [List.filter_cons]
  by_cases h : x.amt = 0
  ·rw [if_neg (by simp [nz, h]), ih, sumA_cons, h, Int.zero_add]
  ·rw [if_pos (by simp [nz, h]), sumA_cons, sumA_cons, ih]
set_option maxRecDepth 100000 in
set_option maxHeartbeats 4000000 in
theorem Add_ok (yl tl : List Ln) (vy vt : Value) (w : World) (hvy : Sl w 2 vy (els yl)) (hvt : Sl w 2 vt (els tl)) (hy : TkOk yl) (ht : TkOk tl) (hsy : sumA yl ≤ 100000000000) (hst : sumA tl ≤ 1000000000) :
  Calls Tryz.prog 52 #[vy, vt] w fun e w' => ∃ (v : Value) (l : List Ln), e = .returned (.tuple #[v, .int .i64 0]) ∧ TkOk l ∧ sumA l = sumA yl + sumA tl ∧ Own w' w.heap.size 112 2 v (els l) ∧ Below w.heap.size w w' := by
 have hyl := hy.len
 have htl := ht.len
 have HVT := Lib.hid hvt
 have HVY := Lib.hid hvy
 have HY := Lib.hid hy
 have HT := Lib.hid ht
 have HYA := Lib.hid fun x (hx : x ∈ yl) => sumA_mem hy.pos hx
 have HTA := Lib.hid fun x (hx : x ∈ tl) => (show 0 ≤ x.amt ∧ x.amt ≤ 1000000000 by have := ht.pos x hx; have := sumA_mem ht.pos hx; omega)
 have H1 := Lib.hid (Record_ok yl vy w hvy (by omega) (RcOk.pair hy) (fun x hx => litC_name _ (hy.code x hx)) (fun x hx => by have := hy.pos x hx; have := sumA_mem hy.pos hx; omega))
 obtain ⟨Ay, capy, rfl, h1, h2, _, _⟩ := hvy
 obtain ⟨A, cap, rfl, h3, h4, _, _⟩ := hvt
 rw [els_len] at h1 HVY H1 ⊢
 rw [els_len] at h3 HVT ⊢
 unfold maxLen at h2 h4
 clear hy ht
 go_enter Tryz.func52, Tryz.ntmps52
 go_wp2_with fail
 refine H1.out.mono ?_
 rintro e w1 ⟨rfl, hb1⟩
 have HB1 := Lib.hid hb1
 clear hb1 H1
 go_wp2_with fail
 go_loopw [6] (fun i wr => ∃ k : Nat, k ≤ tl.length ∧ i = .int .i64 k ∧ Hid (Below w.heap.size w wr)) (fun i _ => tl.length - (intOf i).toNat)
 case atStart => exact ⟨0, by omega, rfl, HB1.out⟩
 case round =>
  clear HB1
  obtain ⟨k, hk, rfl, HB⟩ := hrel
  obtain ⟨wo, rfl⟩ : ∃ wo : World, wo = wr := ⟨_, rfl⟩
  by_cases hlt : k < tl.length
  ·obtain ⟨bk, off, rfl, hc⟩ := (HVT.out.below HB.out).cells (by rw [els_len]; omega)
   have hbl := hc.1
   have i1 : (k : Int) < (tl.length : Int) := by omega
   have HN : Hid (nameB (tl[k]).code.data.toList = true) := litC_name _ (HT.out.code _ (List.getElem_mem hlt))
   have ha := HTA.out _ (List.getElem_mem hlt)
   obtain ⟨c0, c1⟩ := hc.el hlt
   obtain ⟨x, hx⟩ : ∃ x, tl[k] = x := ⟨_, rfl⟩
   rw [hx] at c0 c1 HN ha
   have d1 := ext_cell hbl c1
   have HF := Lib.hid (refIsName_any x.code wo)
   rw [HN.out] at HF
   have HI := Lib.hid fun w => in27_ok w ha
   clear hc hx HN
   go_wp2_with fail
   refine HF.out.mono ?_
   rintro e w2 ⟨rfl, hb2⟩
   have HB2 := Lib.hid (below_after HB.out hb2 HB.out.size)
   have e1 := d1 ⟨w2, hb2⟩
   have hbl2 := Nat.lt_of_lt_of_le hbl hb2.size
   dsimp only at e1
   clear hb2 HF d1 c0 c1
   go_wp2_with fail
   refine (HI.out _).mono ?_
   rintro e _ ⟨rfl, rfl⟩
   go_wp2_with fail
   go_roundw
   case rel => exact ⟨k + 1, by omega, by go_num, HB2.out⟩
   case measure => simp [intOf]; omega
  ·obtain rfl : k = tl.length := by omega
   have dl : decide ((128 : Int) < (tl.length : Int)) = false := decide_eq_false (by omega)
   have hs1 := HB.out.size
   have HO0 := Lib.hid fun n (hn : wo.heap.size = n) => own_none wo 112 2 w.heap.size n hn (by rw [← hn]; exact hs1)
   have HVY1 := Lib.hid (fun o => (HVY.out.below HB.out).below ((Below.refl wo.heap.size wo).alloc (Nat.le_refl _) o))
   have hba := Lib.hid fun o => HB.out.alloc hs1 o
   go_wp2_with (at_builtin; refine wpList_append_sl rfl (.tmp 40) (.tmp 41) rfl rowEl w.heap.size _ _ [] (els yl) rfl (HO0.out _ rfl) rfl (HVY1.out _) (els_wide _) (by rw [els_len]; unfold maxLen; simp; omega) (by rw [els_len]; simp; omega) (by simp; omega) ?_; intro v7 w7 hown7 hg7 _; have hb7 := Own.grown (HO0.out _ rfl) (hba.out _) hg7 (by simp; omega))
   rw [List.nil_append] at hown7
   have HO7 : Hid (Own w7 w.heap.size 112 2 v7 (els yl) ∧ Below w.heap.size w w7) := ⟨hown7, hb7⟩
   clear hown7 hb7 hg7 HO0 HVY1 hba HB HVY hs1
   go_wp2_with fail
   go_loopw [7, 8] (fun t i wr => ∃ k : Nat, k ≤ tl.length ∧ i = .int .i64 k ∧ Hid (Own wr w.heap.size 112 2 t (els (putsOn yl (tl.take k))) ∧ Below w.heap.size w wr)) (fun _ i _ => tl.length - (intOf i).toNat)
   case atStart => exact ⟨0, by omega, rfl, HO7.out⟩
   case round =>
    clear HO7
    obtain ⟨k, hk, rfl, HO⟩ := hrel
    obtain ⟨wi, rfl⟩ : ∃ wi : World, wi = wr := ⟨_, rfl⟩
    have hp := putsOn_ok HY.out HT.out k
    have hpl := hp.len
    have hps := putsOn_sum yl tl k
    have htk := sumA_nonneg (l := tl.drop k) fun x hx => HT.out.pos x (List.mem_of_mem_drop hx)
    have htd : sumA (tl.take k) + sumA (tl.drop k) = sumA tl := by rw [← sumA_append, List.take_append_drop]
    have hpm := Lib.hid fun x (hx : x ∈ putsOn yl (tl.take k)) => (show 0 ≤ x.amt ∧ x.amt ≤ 200000000000 by have := hp.pos x hx; have := sumA_mem hp.pos hx; omega)
    have HP := Lib.hid hp
    clear hp htk htd hps
    by_cases hlt : k < tl.length
    ·obtain ⟨bk, off, rfl, hc⟩ := (HVT.out.below HO.out.2).cells (by rw [els_len]; omega)
     have hbl := hc.1
     have i1 : (k : Int) < (tl.length : Int) := by omega
     obtain ⟨c0, c1⟩ := hc.el hlt
     have ha := HTA.out _ (List.getElem_mem hlt)
     have hz := HT.out.zero _ (List.getElem_mem hlt)
     have HSN := Lib.hid (putsOn_snoc yl tl k hlt)
     have HPUT := Lib.hid fun vv (h : vv = u7) => PutE_any vv (putsOn yl (tl.take k)) tl[k] wi (by rw [h]; exact HO.out.1.sl (by omega)) (by omega) (by omega) (fun a ha => by have := hpm.out a ha; omega) HP.out.zero hz
     clear hc
     go_wp2_with fail
     refine (HPUT.out _ rfl).mono ?_
     rintro e w3 ⟨y, rfl, hown3, hb3⟩
     rw [← HSN.out] at hown3
     have HO3 : Hid (Own w3 w.heap.size 112 2 y (els (putsOn yl (tl.take (k + 1)))) ∧ Below w.heap.size w w3) := ⟨hown3.more HO.out.2.size, below_after HO.out.2 hb3 HO.out.2.size⟩
     clear hown3 hb3 HPUT
     go_wp2_with fail
     go_roundw
     case rel => exact ⟨k + 1, by omega, by go_num, HO3.out⟩
     case measure => simp [intOf]; omega
    ·obtain rfl : k = tl.length := by omega
     have hsum := putsOn_sum yl tl tl.length
     rw [List.take_length] at HO HP hpm hpl hsum
     have HSUM : Hid (sumA ((putsOn yl tl).filter nz) = sumA yl + sumA tl) := by rw [Hid, sumA_filter_nz]; exact hsum
     have HFT := Lib.hid (HP.out.filter nz)
     have HFA := Lib.hid fun x (hx : x ∈ (putsOn yl tl).filter nz) => hpm.out x (List.mem_filter.1 hx).1
     obtain ⟨es, hes⟩ : ∃ es, putsOn yl tl = es := ⟨_, rfl⟩
     rw [hes] at HO hpl HSUM HFT HFA
     clear hes hsum HP hpm
     obtain ⟨A3, c3, hf⟩ := HO.out.1.form
     rw [els_len] at hf
     subst hf
     have HS1 := Lib.hid (HO.out.1.sl (by omega))
     have h5 : es.length ≤ c3 ∧ c3 ≤ maxLen := by
      obtain ⟨_, _, hv, q1, q2, _⟩ := HS1.out
      injection hv with e1 e2 e3
      rw [els_len] at q1
      omega
     unfold maxLen at h5
     have HB := Lib.hid HO.out.2
     have hs1 := HB.out.size
     clear HO
     go_wp2_with fail
     go_loopw [9, 10] (fun t i wr => ∃ k : Nat, k ≤ es.length ∧ i = .int .i64 k ∧ Hid (Own wr wi.heap.size 112 2 t (els ((es.take k).filter nz)) ∧ Below wi.heap.size wi wr)) (fun _ i _ => es.length - (intOf i).toNat)
     case atStart => exact ⟨0, by omega, rfl, Own.nil _ _ _ _, Below.refl _ _⟩
     case round =>
      obtain ⟨k, hk, rfl, HX⟩ := hrel
      obtain ⟨wj, rfl⟩ : ∃ wj : World, wj = wr := ⟨_, rfl⟩
      have hbs := HX.out.2.size
      by_cases hlt : k < es.length
      ·obtain ⟨bk, off, rfl, hc⟩ := (HS1.out.below HX.out.2).cells (by rw [els_len]; omega)
       have hbl := hc.1
       have i1 : (k : Int) < (es.length : Int) := by omega
       obtain ⟨c0, c1⟩ := hc.el hlt
       have hsn := Lib.hid (nz_snoc es k hlt)
       have hul := nz_len es k
       clear hc
       cases e1 : (es[k].amt != 0)
       ·have hN : Hid ((es.take k).filter nz = (es.take (k + 1)).filter nz) := by rw [Hid, hsn.out, if_pos (by simpa using e1), List.append_nil]
        go_wp2_with fail
        go_roundw
        case rel => exact ⟨k + 1, by omega, by go_num, by rw [← hN.out]; exact HX.out⟩
        case measure => simp [intOf]; omega
       ·have hN : Hid ((es.take (k + 1)).filter nz = (es.take k).filter nz ++ [es[k]]) := by rw [Hid, hsn.out, if_neg (by simpa using e1)]
        have hownX := HX.out.1
        have hbX := HX.out.2
        go_wp2_with (at_builtin; refine wpList_append_sl rfl (.tmp 67) (.tmp 72) rfl rowEl wi.heap.size _ _ _ (els [es[k]]) rfl (hownX.alloc _) rfl (Sl.one rfl rfl) (els_wide _) (by rw [els_len, els_len]; unfold maxLen; simp; omega) (by rw [els_len, els_len]; simp; omega) (by simp; omega) ?_; intro v2 w2 hown2 hg2 _; have hb2 := Own.grown (hownX.alloc _) (hbX.alloc hbs _) hg2 (by simp; omega); rw [← els_append, ← hN.out] at hown2)
        go_roundw
        case rel => exact ⟨k + 1, by omega, by go_num, hown2, hb2⟩
        case measure => simp [intOf]; omega
      ·obtain rfl : k = es.length := by omega
       rw [List.take_length] at HX
       obtain ⟨fs, hfs⟩ : ∃ fs, es.filter nz = fs := ⟨_, rfl⟩
       rw [hfs] at HX HSUM HFT HFA
       clear hfs
       have hfl := HFT.out.len
       obtain ⟨A4, c4, hf⟩ := HX.out.1.form
       rw [els_len] at hf
       subst hf
       have HS4 := Lib.hid (HX.out.1.sl (by omega))
       have dl : decide ((128 : Int) < (fs.length : Int)) = false := decide_eq_false (by omega)
       have h6 : fs.length ≤ c4 ∧ c4 ≤ maxLen := by
        obtain ⟨_, _, hv, q1, q2, _⟩ := HS4.out
        injection hv with e1 e2 e3
        rw [els_len] at q1
        omega
       unfold maxLen at h6
       have HEND : Hid (Own wj w.heap.size 112 2 (.slice A4 fs.length c4) (els fs) ∧ Below w.heap.size w wj) := ⟨HX.out.1.more hs1, below_after HB.out HX.out.2 hs1⟩
       clear HX HB
       go_wp2_with fail
       go_loop [11] (fun i => ∃ k : Nat, k ≤ fs.length ∧ i = .int .i64 k) (fun i => fs.length - (intOf i).toNat)
       case atStart => exact ⟨0, by omega, rfl⟩
       case round =>
        obtain ⟨k, hk, rfl⟩ := hrel
        by_cases hlt : k < fs.length
        ·obtain ⟨bk, off, rfl, hc⟩ := HS4.out.cells (by rw [els_len]; omega)
         have hbl := hc.1
         have i1 : (k : Int) < (fs.length : Int) := by omega
         obtain ⟨c0, c1⟩ := hc.el hlt
         have ha := HFA.out _ (List.getElem_mem hlt)
         have da : decide ((1000000000000 : Int) < fs[k].amt) = false := decide_eq_false (by omega)
         clear hc
         go_wp2_with fail
         go_round
         case rel => exact ⟨k + 1, by omega, by go_num⟩
         case measure => simp [intOf]; omega
        ·obtain rfl : k = fs.length := by omega
         go_wp2_with fail
         go_ret2
         first | exact ⟨_, rfl, fs, HFT.out, HSUM.out, HEND.out.1, HEND.out.2⟩ | exact ⟨_, fs, rfl, HFT.out, HSUM.out, HEND.out.1, HEND.out.2⟩
end Go.Proofs.YtogdefomigiepaaGreatDoor
/- Plain laws of what is attached: orders, groups, claims; states of payrollref31.serve. -/
namespace Go.Proofs.YtogdefomigiepaaGreatDoor
open Go.RowKit

structure TkO (l : List Ln) : Prop where
 strict : Strict l
 zero : ∀ x ∈ l, x.kind = 0
 pos : ∀ x ∈ l, 0 ≤ x.amt
 code : ∀ x ∈ l, x.code ∈ litO
theorem TkO.nil : TkO [] := ⟨List.Pairwise.nil, fun _ h => (by cases h), fun _ h => (by cases h), fun _ h => (by cases h)⟩
theorem TkO.put {l : List Ln} (h : TkO l) {x : Ln} (h0 : x.kind = 0) (hp : 0 ≤ x.amt) (hc : x.code ∈ litO) : TkO (putR x l) :=
 ⟨putR_strict h.strict, put_kind h.zero h0, put_nonneg h.pos hp, put_name (p := fun c => c ∈ litO) h.code hc⟩
theorem TkO.len {l : List Ln} (h : TkO l) : l.length ≤ 5 := by
 have := strict_le (m := litO.map fun c => c.data.toList) h.strict h.zero fun x hx => List.mem_map.2 ⟨_, h.code x hx, rfl⟩
 simpa [litO] using this
theorem TkO.el {l : List Ln} (h : TkO l) {M : Int} (hM : sumA l ≤ M) : ElOk l M :=
 ⟨h.strict, h.zero, fun x hx => litO_name _ (h.code x hx), fun x hx => by
  have h1 := h.pos x hx
  have h2 := sumA_mem h.pos hx
  omega⟩
def grp (r d : Int) (x : Od) : Bool := (x.rank == r) && (x.day == d)
def cnt (r d : Int) (ds : List Od) (k : Nat) : Nat := ((ds.take k).filter (grp r d)).length
def clms (r d : Int) (ds : List Od) (k : Nat) : List Int := ((ds.take k).filter (grp r d)).map clm
theorem clms_len (r d : Int) (ds : List Od) (k : Nat) : (clms r d ds k).length = cnt r d ds k := by simp [clms, cnt]
theorem cnt_le (r d : Int) (ds : List Od) (k : Nat) : cnt r d ds k ≤ k := Nat.le_trans (List.length_filter_le _ _) (List.length_take_le _ _)
theorem clms_yes {r d : Int} {ds : List Od} {k : Nat} (h : k < ds.length) (hg : grp r d ds[k] = true) : clms r d ds (k + 1) = clms r d ds k ++ [clm ds[k]] := by
 unfold clms; rw [List.take_succ_eq_append_getElem h, List.filter_append, List.map_append]; simp [hg]
theorem clms_no {r d : Int} {ds : List Od} {k : Nat} (h : k < ds.length) (hg : grp r d ds[k] = false) : clms r d ds (k + 1) = clms r d ds k := by
 unfold clms; rw [List.take_succ_eq_append_getElem h, List.filter_append, List.map_append]; simp [hg]
theorem cnt_yes {r d : Int} {ds : List Od} {k : Nat} (h : k < ds.length) (hg : grp r d ds[k] = true) : cnt r d ds (k + 1) = cnt r d ds k + 1 := by
 unfold cnt; rw [List.take_succ_eq_append_getElem h, List.filter_append, List.length_append]; simp [hg]
theorem cnt_no {r d : Int} {ds : List Od} {k : Nat} (h : k < ds.length) (hg : grp r d ds[k] = false) : cnt r d ds (k + 1) = cnt r d ds k := by
 unfold cnt; rw [List.take_succ_eq_append_getElem h, List.filter_append, List.length_append]; simp [hg]
theorem cnt_mono (r d : Int) (ds : List Od) : ∀ {j k : Nat}, j ≤ k → cnt r d ds j ≤ cnt r d ds k := fun {j k} h => by
 unfold cnt
 exact ((List.take_sublist_take_left h).filter _).length_le
theorem clms_bound {r d : Int} {ds : List Od} (h : ∀ x ∈ ds, OdOk x) (k : Nat) : ∀ y ∈ clms r d ds k, 0 ≤ y ∧ y ≤ 600000 := fun y hy => by
 obtain ⟨x, hx, rfl⟩ := List.mem_map.1 hy
 exact clm_bound (h x (List.mem_of_mem_take (List.mem_filter.1 hx).1))
def Nxt (rk dy rr dd : Int) : Prop := (rr = 10 ∧ dd = 0) ∨ ((rk < rr ∨ (rk = rr ∧ dy < dd)) ∧ 0 ≤ rr ∧ rr ≤ 9 ∧ 0 ≤ dd ∧ dd ≤ 84005)
def SvSt (w : World) (l0 : List Ln) (left : Int) (o : Value) (a t : Int) (wr : World) : Prop :=
 ∃ l : List Ln, (0 ≤ a ∧ 0 ≤ t ∧ a + t = left) ∧ TkO l ∧ sumA l = sumA l0 + t ∧ Sl wr 2 o (els l) ∧ Below w.heap.size w wr
theorem SvSt.below {w : World} {l0 : List Ln} {left : Int} {o : Value} {a t : Int} {wr wx : World} (h : SvSt w l0 left o a t wr) (hb : Below wr.heap.size wr wx) : SvSt w l0 left o a t wx := by
 obtain ⟨l, h1, h2, h3, h4, h5⟩ := h
 exact ⟨l, h1, h2, h3, h4.below hb, below_after h5 hb h5.size⟩
end Go.Proofs.YtogdefomigiepaaGreatDoor
/- The last loop of payrollref31.serve, as a declaration of its own. -/
namespace Go.Proofs.YtogdefomigiepaaGreatDoor
open Go.RowKit

def allLoops : Code → List Code
 | .loop c => .loop c :: allLoops c
 | .seq a b => allLoops a ++ allLoops b
 | .block _ c => allLoops c
 | .scope c => allLoops c
 | .cond _ a b => allLoops a ++ allLoops b
 | _ => []
noncomputable def serveLp (n : Nat) : Code := (((Tryz.f103.body.map allLoops).getD [])[n]?).getD .skip
set_option maxRecDepth 1000000 in
set_option maxHeartbeats 8000000 in
theorem serve_l4 {Q0 : Exit → Act → World → Prop} {ds : List Od} {w w2 : World} {l0 : List Ln} {left a t rr dd : Int} {A Ap : Option Addr} {cap cp : Nat} {ps : List Int} {ov c2 c4 c5 c6 c7 c8 c9 c13 c14 c15 c16 c17 c18 c22 c23 c24 c25 c26 c27 c28 c29 c30 c31 c32 c33 c34 c35 c36 c37 c38 c39 c40 c41 c42 c43 c44 c45 c46 c47 c48 c49 c50 c51 c52 c53 c54 c55 c56 c57 c58 c59 c60 c61 c62 c63 c64 c65 c66 c67 c68 c69 c70 c71 c72 c73 c74 c75 c76 c77 c78 c79 c80 c81 c82 c83 c84 c85 c86 c87 c88 c89 c90 c91 c92 c93 c94 c95 c96 c97 c98 c99 c100 c101 c102 c103 c104 c105 c106 c107 c108 c109 c110 c111 c112 c113 c114 c115 c116 c117 c118 c119 c120 c121 c122 c123 c124 c125 c126 c127 c128 c129 c130 c131 c132 c133 c134 c135 c136 c137 c138 c139 c140 c141 c142 c143 c144 c145 c146 c147 c148 c149 c150 c151 c152 c153 c154 c155 c156 c157 c158 c159 c160 c161 c162 c163 c164 c165 c166 c167 c168 c169 c170 c171 c172 c173 c174 c175 c176 c177 c178 c179 c180 c181 c182 c183 c184 c185 c186 c187 c188 c189 c190 c191 c192 c193 c194 c195 c196 c197 c198 c199 c200 c201 c202 c203 c204 c205 : Value}
  (HDL : ds.length ≤ 5) (h1 : ds.length ≤ cap) (h2 : cap ≤ 2 ^ 63 - 1) (h0 : 0 ≤ left ∧ left ≤ 1000000000) (hs0 : sumA l0 ≤ 1000000000)
  (HCD : Hid (∀ x ∈ ds, x.code ∈ litO)) (HCL : Hid (∀ (k : Nat) (hlt : k < ds.length), ∃ bk off, A = some ⟨bk, off, none⟩ ∧ bk < w.heap.size ∧ ∀ j u, (ds[k]).vals[j]? = some u → ∀ y : World, Below w.heap.size w y → y.cell? ⟨bk, off + k * 5 + j, none⟩ = some u))
  (HS2 : Hid (SvSt w l0 left ov a t w2)) (HSP : Hid (Sl w2 1 (.slice Ap ps.length cp) (ints ps))) (HPP : Hid (∀ x ∈ ps, 0 ≤ x)) (hps : ps.sum ≤ a) (HPL : Hid (ps.length = cnt rr dd ds ds.length)) (hpl5 : ps.length ≤ 5) (hcp1 : ps.length ≤ cp) (hcp2 : cp ≤ 2 ^ 63 - 1)
  (hexit : ∀ (x0 x3 x10 x20 x21 x153 x154 x155 x156 x157 x158 x159 x160 x161 x162 x163 x164 x165 x166 x167 x168 x169 x170 x171 x172 x173 x174 x175 x176 x177 x178 x179 x180 x181 x182 x183 x184 x185 x186 x187 x188 x189 x190 x191 x192 x193 x194 x195 x196 x197 x198 x199 x200 x201 x202 x203 x204 x205 : Value) (wr : World), (∃ a4 t4 : Int, x3 = .int .i64 a4 ∧ x10 = .int .i64 t4 ∧ SvSt w l0 left x0 a4 t4 wr) → Q0 (.exit 6) ⟨#[x0, .slice A ds.length cap, c2, x3, c4, c5, c6, c7, c8, c9, x10, .int .i64 rr, .int .i64 dd, c13, c14, c15, c16, c17, c18, .slice Ap ps.length cp, x20, x21, c22, c23, c24, c25, c26, c27, c28, c29, c30, c31, c32, c33, c34, c35, c36, c37, c38, c39, c40, c41, c42, c43, c44, c45, c46, c47, c48, c49, c50, c51, c52, c53, c54, c55, c56, c57, c58, c59, c60, c61, c62, c63, c64, c65, c66, c67, c68, c69, c70, c71, c72, c73, c74, c75, c76, c77, c78, c79, c80, c81, c82, c83, c84, c85, c86, c87, c88, c89, c90, c91, c92, c93, c94, c95, c96, c97, c98, c99, c100, c101, c102, c103, c104, c105, c106, c107, c108, c109, c110, c111, c112, c113, c114, c115, c116, c117, c118, c119, c120, c121, c122, c123, c124, c125, c126, c127, c128, c129, c130, c131, c132, c133, c134, c135, c136, c137, c138, c139, c140, c141, c142, c143, c144, c145, c146, c147, c148, c149, c150, c151, c152, x153, x154, x155, x156, x157, x158, x159, x160, x161, x162, x163, x164, x165, x166, x167, x168, x169, x170, x171, x172, x173, x174, x175, x176, x177, x178, x179, x180, x181, x182, x183, x184, x185, x186, x187, x188, x189, x190, x191, x192, x193, x194, x195, x196, x197, x198, x199, x200, x201, x202, x203, x204, x205], []⟩ wr) :
  Code.wp Tryz.prog (serveLp 3) Q0 ⟨#[ov, .slice A ds.length cap, c2, .int .i64 a, c4, c5, c6, c7, c8, c9, .int .i64 t, .int .i64 rr, .int .i64 dd, c13, c14, c15, c16, c17, c18, .slice Ap ps.length cp, .int .i64 0, .int .i64 0, c22, c23, c24, c25, c26, c27, c28, c29, c30, c31, c32, c33, c34, c35, c36, c37, c38, c39, c40, c41, c42, c43, c44, c45, c46, c47, c48, c49, c50, c51, c52, c53, c54, c55, c56, c57, c58, c59, c60, c61, c62, c63, c64, c65, c66, c67, c68, c69, c70, c71, c72, c73, c74, c75, c76, c77, c78, c79, c80, c81, c82, c83, c84, c85, c86, c87, c88, c89, c90, c91, c92, c93, c94, c95, c96, c97, c98, c99, c100, c101, c102, c103, c104, c105, c106, c107, c108, c109, c110, c111, c112, c113, c114, c115, c116, c117, c118, c119, c120, c121, c122, c123, c124, c125, c126, c127, c128, c129, c130, c131, c132, c133, c134, c135, c136, c137, c138, c139, c140, c141, c142, c143, c144, c145, c146, c147, c148, c149, c150, c151, c152, c153, c154, c155, c156, c157, c158, c159, c160, c161, c162, c163, c164, c165, c166, c167, c168, c169, c170, c171, c172, c173, c174, c175, c176, c177, c178, c179, c180, c181, c182, c183, c184, c185, c186, c187, c188, c189, c190, c191, c192, c193, c194, c195, c196, c197, c198, c199, c200, c201, c202, c203, c204, c205], []⟩ w2 := by
 refine Code.wp_mono NoPanic.imp ?_
 conv => arg 2; whnf
 dsimp only
 go_loopw [0, 3, 10, 20, 21] (fun o lf tk kk i wr => ∃ (k : Nat) (a4 t4 : Int), k ≤ ds.length ∧ i = .int .i64 k ∧ kk = .int .i64 (cnt rr dd ds k) ∧ lf = .int .i64 a4 ∧ tk = .int .i64 t4 ∧ a4 = a - (ps.take (cnt rr dd ds k)).sum ∧ Hid (SvSt w l0 left o a4 t4 wr ∧ Below w2.heap.size w2 wr)) (fun _ _ _ _ i _ => ds.length - (intOf i).toNat)
 case atStart => exact ⟨0, a, t, by omega, rfl, rfl, rfl, rfl, by simp [cnt], HS2.out, Below.refl _ _⟩
 case round =>
  clear HS2
  obtain ⟨k, a4, t4, hk, rfl, rfl, rfl, rfl, ha4, HX⟩ := hrel
  obtain ⟨w3, rfl⟩ : ∃ w3 : World, w3 = wr := ⟨_, rfl⟩
  obtain ⟨ov4, hov⟩ : ∃ ov4, u0 = ov4 := ⟨_, rfl⟩
  rw [hov] at HX ⊢
  clear hov
  have HA4 := Lib.hid ha4
  clear ha4
  by_cases hlt : k < ds.length
  ·obtain ⟨bk, off, rfl, hbl0, hce⟩ := HCL.out k hlt
   have hb3 : Below w.heap.size w w3 := by obtain ⟨_, _, _, _, _, h⟩ := HX.out.1; exact h
   have hbl := Nat.lt_of_lt_of_le hbl0 hb3.size
   have i1 : (k : Int) < (ds.length : Int) := by omega
   have hxc := HCD.out _ (List.getElem_mem hlt)
   have HY := Lib.hid fun h => cnt_yes (r := rr) (d := dd) hlt h
   have HNO := Lib.hid fun h => cnt_no (r := rr) (d := dd) hlt h
   have HMO := Lib.hid (cnt_mono rr dd ds (show k + 1 ≤ ds.length by omega))
   obtain ⟨⟨code, rank, day, amt, total⟩, hx⟩ : ∃ x, ds[k] = x := ⟨_, rfl⟩
   rw [hx] at hce hxc HY HNO
   have c0 := hce 0 _ rfl w3 hb3
   have c1 := hce 1 _ rfl w3 hb3
   have c2 := hce 2 _ rfl w3 hb3
   simp only [Nat.add_zero] at c0
   dsimp only at c0 c1 c2 hxc
   have HXC := Lib.hid hxc
   have hg : grp rr dd ⟨code, rank, day, amt, total⟩ = ((rank == rr) && (day == dd)) := rfl
   rw [hg] at HY HNO
   clear hg hx hce hxc HCL HCD
   cases e1 : (rank == rr)
   ·have HN := Lib.hid (HNO.out (by simp [e1]))
    have HA := Lib.hid (show a4 = a - (ps.take (cnt rr dd ds (k + 1))).sum by rw [HN.out]; exact HA4.out)
    clear HY HNO HMO
    go_wp2_with fail
    go_roundw
    case rel => exact ⟨k + 1, a4, t4, by omega, by go_num, by rw [HN.out], rfl, rfl, HA.out, HX.out⟩
    case measure => simp [intOf]; omega
   ·cases e2 : (day == dd)
    ·have HN := Lib.hid (HNO.out (by simp [e2]))
     have HA := Lib.hid (show a4 = a - (ps.take (cnt rr dd ds (k + 1))).sum by rw [HN.out]; exact HA4.out)
     clear HY HNO HMO
     go_wp2_with fail
     go_roundw
     case rel => exact ⟨k + 1, a4, t4, by omega, by go_num, by rw [HN.out], rfl, rfl, HA.out, HX.out⟩
     case measure => simp [intOf]; omega
    ·have hy := HY.out (by simp [e1, e2])
     have hmo := HMO.out
     have hpl := HPL.out
     have HYS := Lib.hid hy
     have ha4 := HA4.out
     obtain ⟨c, hc⟩ : ∃ c, cnt rr dd ds k = c := ⟨_, rfl⟩
     rw [hc] at hy ha4 HYS ⊢
     have hcl : c < ps.length := by omega
     obtain ⟨bp, op, rfl, hcp, _⟩ := HSP.out.intAt hcl
     have hbp := hcp.1
     have hpos := HPP.out _ (List.getElem_mem hcl)
     have hst := sum_take_succ hcl
     have hsl := sum_take_le HPP.out (c + 1)
     have HPC := Lib.hid fun (y : World) (hy : Below w2.heap.size w2 y) => (show y.cell? ⟨bp, op + c, none⟩ = some (.int .i64 ps[c]) by
      have := (hcp.below hy hbp).at (k := c) (x := [.int .i64 ps[c]]) (by simp [ints, hcl]) 0 rfl
      rwa [Nat.mul_one, Nat.add_zero] at this)
     obtain ⟨p, hp⟩ : ∃ p, ps[c]'hcl = p := ⟨_, rfl⟩
     rw [hp] at HPC hpos hst
     obtain ⟨l, ⟨s1, s2, s3⟩, s4, s5, s6, s7⟩ := HX.out.1
     have hll := s4.len
     have HTK := Lib.hid s4
     have HMB := Lib.hid fun x (hx : x ∈ l) => (show -1000000000000000000 ≤ x.amt ∧ x.amt ≤ 1000000000000000000 by have a1 := s4.pos x hx; have a2 := sumA_mem s4.pos hx; omega)
     have hpa : p ≤ a4 := by omega
     have HA5 : Hid (a4 - p = a - (ps.take (cnt rr dd ds (k + 1))).sum) := by rw [Hid, HYS.out, hst]; omega
     have HCE : Hid (cnt rr dd ds (k + 1) = c + 1) := HYS.out
     have w1 : IntKind.i64.wrap (a4 - p) = a4 - p := IntWalk.i64_in _ (by omega)
     have w2' : IntKind.i64.wrap (t4 + p) = t4 + p := IntWalk.i64_in _ (by omega)
     have q0 := HPC.out w3 HX.out.2
     have hbp3 := Nat.lt_of_lt_of_le hbp HX.out.2.size
     have HB23 := Lib.hid HX.out.2
     have ic : (c : Int) < (ps.length : Int) := by omega
     have H0 : Hid (0 ≤ a4 - p ∧ 0 ≤ t4 + p ∧ a4 - p + (t4 + p) = left) := ⟨by omega, by omega, by omega⟩
     have HS5 := Lib.hid s5
     have HS6 := Lib.hid s6
     have HS7 := Lib.hid s7
     clear HY HNO HMO hy hmo hpl ha4 hc hcp hp hst hsl HX s4 s5 s6 s7 HA4 HYS HPL HSP HPP
     by_cases hpp : 0 < p
     ·have d1 : decide (0 < p) = true := decide_eq_true hpp
      have HPUT := Lib.hid fun vv (h : vv = ov4) => PutE_any vv l ⟨0, code, p⟩ w3.drew (by rw [h]; exact HS6.out.below (Below.refl _ _).drew) (by omega) (by dsimp only; omega) HMB.out HTK.out.zero rfl
      have HBD := Lib.hid (Below.drew HB23.out)
      have HWD := Lib.hid (Below.drew HS7.out)
      go_upto_region 29 with (fail)
      go_region_with (go_at_call 88; refine (HPUT.out _ rfl).mono ?_; rintro e w8 ⟨v8, rfl, hown8, hb8⟩; have hb28 := below_after HBD.out hb8 HBD.out.size; have z0 := HPC.out w8 hb28; have hbp8 := Nat.lt_of_lt_of_le hbp hb28.size; have HF : Hid (SvSt w l0 left v8 (a4 - p) (t4 + p) w8 ∧ Below w2.heap.size w2 w8) := ⟨⟨putR ⟨0, code, p⟩ l, H0.out, HTK.out.put rfl (by dsimp only; omega) HXC.out, by rw [sumA_put, HS5.out]; dsimp only; omega, hown8.sl (by omega), below_after HWD.out hb8 HWD.out.size⟩, hb28⟩; clear hown8 hb8 hb28)
      all_goals
       clear q0 hbp3 c0 c1 c2
       go_wp2_with fail
       go_roundw
       case rel => exact ⟨k + 1, a4 - p, t4 + p, by omega, by go_num, by rw [HCE.out]; go_num, rfl, rfl, HA5.out, HF.out⟩
       case measure => simp [intOf]; omega
     ·have d1 : decide (0 < p) = false := decide_eq_false hpp
      have HF : Hid (SvSt w l0 left ov4 (a4 - p) (t4 + p) w3 ∧ Below w2.heap.size w2 w3) := ⟨⟨l, H0.out, HTK.out, by rw [HS5.out]; omega, HS6.out, HS7.out⟩, HB23.out⟩
      go_wp2_with fail
      go_roundw
      case rel => exact ⟨k + 1, a4 - p, t4 + p, by omega, by go_num, by rw [HCE.out]; go_num, rfl, rfl, HA5.out, HF.out⟩
      case measure => simp [intOf]; omega
  ·obtain rfl : k = ds.length := by omega
   have HF := Lib.hid HX.out.1
   clear HX HSP HPP HPL HA4 HCL HCD
   go_wp2_with fail
   show Q0 (.exit 6) _ _
   exact hexit _ _ _ _ _ _ _ _ _ _ _ _ _ _ _ _ _ _ _ _ _ _ _ _ _ _ _ _ _ _ _ _ _ _ _ _ _ _ _ _ _ _ _ _ _ _ _ _ _ _ _ _ _ _ _ _ _ _ _ ⟨a4, t4, rfl, rfl, HF.out⟩
end Go.Proofs.YtogdefomigiepaaGreatDoor
