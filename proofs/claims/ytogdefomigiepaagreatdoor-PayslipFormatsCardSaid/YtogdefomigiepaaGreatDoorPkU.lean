/- Contracts and plain facts that the laws of this seat share, part 21. -/
import Derived.Test.YtogdefomigiepaaGreatDoorPkN
import Derived.Test.YtogdefomigiepaaGreatDoorPkO
import Derived.Test.YtogdefomigiepaaGreatDoorPkP
import Derived.Test.YtogdefomigiepaaGreatDoorPkQ
import Derived.Test.YtogdefomigiepaaGreatDoorPkS
import Derived.Test.YtogdefomigiepaaGreatDoorPkT
set_option linter.unusedVariables false
set_option linter.unusedSimpArgs false
/- Contract of payrollref32.Compute, for drawn cases. Written by gen_cp.py. -/
namespace Go.Proofs.YtogdefomigiepaaGreatDoor
open Go.RowKit

set_option maxRecDepth 1000000 in
theorem cp_code : cpBody = Code.seq (st 0) (Code.seq (st 1) (Code.seq (st 2) (Code.seq (st 3) (Code.seq (st 4) (Code.seq (st 5) (Code.seq (st 6) (Code.seq (st 7) (Code.seq (st 8) (Code.seq (st 9) (Code.seq (st 10) (Code.seq (st 11) (Code.seq (st 12) (Code.seq (st 13) (Code.seq (st 14) (Code.seq (st 15) (Code.seq (st 16) (Code.seq (st 17) (Code.seq (st 18) (Code.seq (st 19) (Code.seq (st 20) (Code.seq (st 21) (Code.seq (st 22) (Code.seq (st 23) (Code.seq (st 24) (Code.seq (st 25) (Code.seq (st 26) (Code.seq (st 27) (Code.seq (st 28) (Code.seq (st 29) (Code.seq (st 30) (Code.seq (st 31) (Code.seq (st 32) (Code.seq (st 33) (Code.seq (st 34) (Code.seq (st 35) (Code.seq (st 36) (Code.seq (st 37) (Code.seq (st 38) (Code.seq (st 39) (Code.seq (st 40) (Code.seq (st 41) (Code.seq (st 42) (Code.seq (st 43) (Code.seq (st 44) (Code.seq (st 45) (Code.ret)))))))))))))))))))))))))))))))))))))))))))))) := by kernel_rfl
set_option maxRecDepth 1000000 in
set_option maxHeartbeats 8000000 in
theorem Compute_ok {w : World} {r : Ru} {p : Ps} {k : Nat} {y : Yr} {kl : List Ln} {vk : Value} {fst : Bool} {el : List Ln} {ve : Value} (hin : CpIn w r p k y kl vk el ve) :
  Calls Tryz.prog 19 #[.agg r.cells.toArray, .agg p.cells.toArray, .agg (y.cells k).toArray, vk, .bool fst, ve] w (CompRes w) := by
 have HI := Lib.hid hin
 clear hin
 show Calls Tryz.prog 19 #[.agg #[r.wv, r.sv, .int .i64 r.tf.method, r.tf.bv, .int .i64 r.tf.allow, .int .i64 r.tf.credit, .int .i64 r.tf.unit, .int .i64 r.tf.mode, r.tf.rv, .int .i64 r.count, .int .i64 r.sh.fixed, .int .i64 r.sh.dep, .int .i64 r.sh.lower, .int .i64 r.sh.share, .int .i64 r.sh.top, .int .i64 r.rcv], .agg #[.int .i64 p.dep, p.dv, p.ov, p.ev], .agg #[.int .i64 (k : Int), .int .i64 y.inc, .int .i64 y.wh, y.iv, y.tv], vk, .bool fst, ve] w (CompRes w)
 go_enter Tryz.func19, Tryz.ntmps19
 show Code.wp Tryz.prog cpBody _ _ _
 rw [cp_code]
 refine cp0 HI ?_
 intro Qa Qb Qc Qd Qe Qf Qg Qh Qi Qj Qk Ql Qm Qn Qo Qp Qq Qr Qs Qt Qu Qv Qw Qx Qy Qz QA QB QC QD gR gP gY gS gN gB b0 b1 b2 b3 b4 m Am cm w1 hB hm1 hm2 hm3 H1
 have HR1 := Lib.hid H1.out.1
 have HB1 := Lib.hid H1.out.2.1
 refine cp6 HI HR1 (Lib.hid H1.out.2.2) hm2 (Lib.hid hm3) ?_
 intro QE QF QG QH QI QJ QK QL QM QN QO QP QQ QR QS QT QU QV QW QX QY QZ Q0 Q1 Q2 Q3 Q4 Q5 Q6 Q7 Q8 Q9 Q_ Ua Ub Uc Ud e20 e21 ear ben w2 s1 s2 H2
 have HR2 := Lib.hid (HR1.out.step H2.out.1)
 have HB2 : Hid (Bas w2 gB b0 b1 b2 b3 b4) := Row.below HB1.out H2.out.1 (Row.lt HB1.out)
 refine cp7 HI HR2 HB2 hB.2.1 hB.2.2.1 hB.2.2.2.1 ?_
 intro Ue Uf Ug Uh Ui Uj Uk Ul Um Un Uo Up Uq Ur Us Ut Uu Uv Uw Ux Uy Uz UA UB UC UD UE UF UG UH UI UJ UK UL UM UN UO UP UQ UR US UT UU bv lv bf sb ems w3 hbf hsb hsb2 hems H3
 have HR3 := Lib.hid (HR2.out.step H3.out.1)
 have HB3 : Hid (Bas w3 gB b0 b1 b2 b3 b4) := Row.below HB2.out H3.out.1 (Row.lt HB2.out)
 have hb1 : -75000000 ≤ b1 ∧ b1 ≤ 75000000 := hB.2.1
 have hb2 : -75000000 ≤ b2 ∧ b2 ≤ 75000000 := hB.2.2.1
 have hb3 : -75000000 ≤ b3 ∧ b3 ≤ 75000000 := hB.2.2.2.1
 have hb4 : -75000000 ≤ b4 ∧ b4 ≤ 75000000 := hB.2.2.2.2
 have hb0 : -75000000 ≤ b0 ∧ b0 ≤ 75000000 := hB.1
 refine cp16 HI HR3 (Lib.hid H3.out.2.2) (Lib.hid hems) (by omega) ?_
 intro UV UW UX UY UZ U0 U1 U2 U3 U4 U5 U6 U7 U8 U9 U_ Va Vb Vc Vd Ve Vf Vg Vh Vi Vj Vk Vl Vm Vn Vo Vp Vq Vr Vs Vt Vu Vv Vw Vx Vy Vz VA VB VC VD VE VF VG VH VI VJ VK VL VM VN VO VP VQ VR VS VT VU VV VW VX VY VZ V0 V1 V2 V3 e31 e32 own emp s t w4 ho1 ho2 hol hs ht H4
 have HR4 := Lib.hid (HR3.out.step H4.out.1)
 have HB4 : Hid (Bas w4 gB b0 b1 b2 b3 b4) := Row.below HB3.out H4.out.1 (Row.lt HB3.out)
 refine cpa HI HR4 (by omega) (by omega) hs ?_
 intro V4 V5 V6 V7 V8 V9 V_ Xa Xb Xc Xd Xe Xf Xg Xh Xi Xj Xk Xl Xm Xn Xo Xp Xq Xr Xs Xt Xu Xv Xw tx w5 htx H5
 have HR5 := Lib.hid (HR4.out.step H5.out)
 have HB5 : Hid (Bas w5 gB b0 b1 b2 b3 b4) := Row.below HB4.out H5.out (Row.lt HB4.out)
 refine cpb HI HR5 HB5 hB.2.1 hB.2.2.2.2 (by omega) ?_
 intro Xx Xy Xz XA XB XC XD XE XF XG XH XI XJ XK XL XM XN XO XP XQ XR XS XT XU XV XW XX av al w6 hal has H6
 have HR6 := Lib.hid (HR5.out.step H6.out.1)
 have HB6 : Hid (Bas w6 gB b0 b1 b2 b3 b4) := Row.below HB5.out H6.out.1 (Row.lt HB5.out)
 have HBV6 := Lib.hid (((H3.out.2.1.below H4.out.1).below H5.out).below H6.out.1)
 refine cpc HI HR6 HBV6 (Lib.hid H6.out.2) hbf (by omega) hal has (by omega) (by omega) ?_
 intro XY XZ X0 X1 X2 X3 X4 X5 X6 X7 X8 X9 X_ Ya Yb Yc Yd Ye Yf Yg Yh Yi Yj Yk Yl Ym Yn Yo Yp Yq Ys Yt Yu Yv Yw Yx Yy Yz YA YB YC YD YE YF YG YH YI YJ lf At nt ct fv af w7 haf hafs hlf H7
 have HR7 := Lib.hid (HR6.out.step H7.out.1)
 have HB7 : Hid (Bas w7 gB b0 b1 b2 b3 b4) := Row.below HB6.out H7.out.1 (Row.lt HB6.out)
 have h27 := Lib.hid (fun (v : Value) (sz : Nat) (es : List (List Value)) (h : Sl w2 sz v es) => ((((h.below H3.out.1).below H4.out.1).below H5.out).below H6.out.1).below H7.out.1)
 have HE20 := Lib.hid (h27.out _ _ _ H2.out.2.1)
 have HE21 := Lib.hid (h27.out _ _ _ H2.out.2.2)
 have HBV7 := Lib.hid (HBV6.out.below H7.out.1)
 have HE31 := Lib.hid (((H4.out.2.1.below H5.out).below H6.out.1).below H7.out.1)
 have HE32 := Lib.hid (((H4.out.2.2.below H5.out).below H6.out.1).below H7.out.1)
 have HAV := Lib.hid (H6.out.2.below H7.out.1)
 have HFV := Lib.hid H7.out.2
 have n1 := s1.length_le
 have n2 := s2.length_le
 have n3 := hbf.len
 have n7 := hal.len
 have n8 := haf.len
 have m1 := lift_len 1 ear
 have m2 := lift_len 2 ben
 have m3 := lift_len 3 bf
 have m4 := lift_len 4 own
 have m5 := lift_len 5 emp
 have m6 := lift_len 6 [⟨0, ⟨#[]⟩, tx⟩]
 have m7 := lift_len 7 al
 have m8 := lift_len 8 af
 have m9 := lift_len 9 [⟨0, ⟨#[]⟩, max lf 0⟩]
 have m10 := lift_len 10 [⟨0, ⟨#[]⟩, max (-lf) 0⟩]
 simp only [List.length_singleton] at m6 m9 m10
 refine cpl61 HB7 hB.2.1 hs htx ?_
 intro YK YL YM YN YO YP YQ YR w8 L0
 refine cpl62 L0 HE20 (by simp only [List.length_append, List.length_nil]; omega) (by omega) ?_
 intro YS YT YU YV YW YX w9 v9 L1
 refine cpl63 L1 HE21 (by simp only [List.length_append, List.length_nil]; omega) (by omega) ?_
 intro YY YZ Y0 Y1 Y2 Y3 w10 v10 L2
 refine cpl64 L2 HBV7 (by simp only [List.length_append, List.length_nil]; omega) (by omega) ?_
 intro Y4 Y5 Y6 Y7 Y8 Y9 w11 v11 L3
 refine cpl65 L3 HE31 (by simp only [List.length_append, List.length_nil]; omega) (by omega) ?_
 intro Y_ Za Zb Zc Zd Ze w12 v12 L4
 refine cpl66 L4 HE32 (by simp only [List.length_append, List.length_nil]; omega) (by omega) ?_
 intro Zf Zg Zh Zi Zj Zk w13 v13 L5
 refine cpl67 L5 (by simp only [List.length_append, List.length_nil]; omega) (by omega) ?_
 intro Zl Zm Zn Zo Zp Zq Zr Zs w14 v14 L6
 refine cpl68 L6 HAV (by simp only [List.length_append, List.length_nil]; omega) (by omega) ?_
 intro Zt Zu Zv Zw Zx Zy w15 v15 L7
 refine cpl69 L7 HFV (by simp only [List.length_append, List.length_nil]; omega) (by omega) ?_
 intro Zz ZA ZB ZC ZD ZE w16 v16 L8
 refine cpl70 L8 (by simp only [List.length_append, List.length_nil]; omega) (by omega) ?_
 intro ZF ZG ZH ZI ZJ ZK ZL ZM ZN w17 v17 L9
 refine cpl71 L9 (by simp only [List.length_append, List.length_nil]; omega) (by omega) ?_
 intro ZO ZP ZQ ZR ZS ZT ZU ZV ZW ZX w18 v18 L10
 have HR18 := Lib.hid (HR7.out.step (by have := L10.out.b; rw [← L10.out.e] at this; exact this))
 refine cpl72 L10 (Lib.hid HR18.out.Y) (Lib.hid (HI.out.sy.ins.below HR18.out.b)) HI.out.ok.1 HI.out.oy (by omega) htx ?_
 intro ZY ZZ Z0 Z1 Z2 Z3 Z4 Z5 Z6 Z7 Z8 Z9 Z_ Ja Jb Jc Jd Je Jf Jg g42 ya yb yc A3 n3 k3 w19 H19
 have HR19 := Lib.hid (HR18.out.step H19.out.2.2.1)
 have hgl := Row.lt L10.out.row
 obtain ⟨Al, nl, cl, hform⟩ := H19.out.1.own.formN
 have HL19 := Lib.hid H19.out.1
 rw [hform] at HL19
 have hS7 := Row.lt HR7.out.S
 have hN7 := Row.lt HR7.out.N
 have hw7 := HR7.out.b.size
 refine cpl73 HR19 HL19 (Lib.hid H19.out.2.1) ⟨hS7, hN7, Nat.lt_of_lt_of_le hgl H19.out.2.2.2⟩ hw7 ?_
 have hp : PartsOk ⟨ear, ben, bf, own, emp, tx, al, af, max lf 0, max (-lf) 0⟩ := ⟨(hm1.sub s1).more (by omega), (hm1.sub s2).more (by omega), hbf.el (by omega), ho1, ho2, by dsimp only; omega, hal.el (by omega), haf.el (by omega), by dsimp only; omega, by dsimp only; omega, by dsimp only; omega⟩
 refine ⟨by simp [Slp.bs, totB]; omega, by simp [totB]; omega, ?_, ?_⟩
 ·have := hp.length
  simpa only [Parts.lines, List.nil_append] using this
 ·have := hp.ord
  simpa only [Parts.lines, List.nil_append] using this
end Go.Proofs.YtogdefomigiepaaGreatDoor
/- Contract of paygen.Deck.Slip. Written by gen_dsl.py. -/
namespace Go.Proofs.YtogdefomigiepaaGreatDoor
open Go.RowKit

def SlD (w : World) (D m : Nat) (e : Ending) (w' : World) : Prop :=
 ∃ (s : Slp) (v : Value), SlipOk s ∧ e = .returned (.agg (s.vals v)) ∧ Own w' w.heap.size 45 3 v (lns s.lines) ∧ DS w D m w'
theorem Own.oneC {w : World} {B e sz : Nat} {v : Value} {es : List (List Value)} (h : Own w B e sz v es) : v.oneCell' = true := by
 obtain ⟨A, c, rfl⟩ := h.form
 rfl
theorem litCity_tk (a : Int) (ha : 0 ≤ a) : TkO [⟨0, litCity, a⟩] := by
 refine ⟨List.pairwise_singleton _ _, fun x hx => ?_, fun x hx => ?_, fun x hx => ?_⟩
 all_goals rw [List.mem_singleton.1 hx]
 ·exact ha
 ·simp [litO, litCity]
theorem cs_in {w : World} {B : Nat} {c : Cs} (h : CsOk c) (o : CsOwn w B c) : CpIn w c.ru c.ps c.k c.yr (c.kept.map El.ln) c.kv (c.es.map El.ln) c.ev := by
 refine ⟨h.ru, h.ps, h.yr, h.k, ?_, ?_, ⟨?_, ?_, ?_, ?_⟩, ?_, ?_, o.ru.sl, o.ps.sl, o.yr.sl, ?_, ?_⟩
 ·rcases h.kept with e | ⟨a, ha, e⟩
  ·rw [e]; exact TkO.nil
  ·rw [e]; exact litCity_tk a ha.1
 ·rcases h.kept with e | ⟨a, ha, e⟩
  ·rw [e]; simp [sumA]
  ·rw [e]; simp [sumA, El.ln]; omega
 ·intro x hx; obtain ⟨y, _, rfl⟩ := List.mem_map.1 hx; rfl
 ·intro x hx; obtain ⟨y, hy, rfl⟩ := List.mem_map.1 hx
  obtain ⟨⟨q, hq, e⟩, _⟩ := h.es.1 y hy
  show nameB y.code.data.toList = true
  rw [e]; exact litW_name _ (h.ru.ws.mem hq)
 ·intro x hx; obtain ⟨y, hy, rfl⟩ := List.mem_map.1 hx; exact (h.es.1 y hy).2
 ·rw [List.length_map]; have := h.es.2; omega
 ·rw [List.length_map]; exact h.es.2
 ·intro x hx; obtain ⟨y, hy, rfl⟩ := List.mem_map.1 hx
  obtain ⟨⟨q, hq, e⟩, _⟩ := h.es.1 y hy
  exact ⟨q, hq, e.symm⟩
 ·rw [els_ln]; exact o.kept.sl (by omega)
 ·rw [els_ln]; exact o.es.sl (by omega)
theorem cs_one {w : World} {B : Nat} {c : Cs} (o : CsOwn w B c) : ∀ u ∈ (#[c.ru.wv, c.ru.sv, .int .i64 c.ru.tf.method, c.ru.tf.bv, .int .i64 c.ru.tf.allow, .int .i64 c.ru.tf.credit, .int .i64 c.ru.tf.unit, .int .i64 c.ru.tf.mode, c.ru.tf.rv, .int .i64 c.ru.count, .int .i64 c.ru.sh.fixed, .int .i64 c.ru.sh.dep, .int .i64 c.ru.sh.lower, .int .i64 c.ru.sh.share, .int .i64 c.ru.sh.top, .int .i64 c.ru.rcv, .int .i64 c.ps.dep, c.ps.dv, c.ps.ov, c.ps.ev, .int .i64 (c.k : Int), .int .i64 c.yr.inc, .int .i64 c.yr.wh, c.yr.iv, c.yr.tv, c.kv, .bool c.first, c.ev] : Array Value).toList, u.oneCell' = true := by
 have h1 := o.ru.ws.oneC
 have h2 := o.ru.ss.oneC
 have h3 := o.ru.tf.brs.oneC
 have h4 := o.ru.tf.rows.oneC
 have h5 := o.ps.ded.oneC
 have h6 := o.ps.ord.oneC
 have h7 := o.ps.ems.own.oneC
 have h8 := o.yr.ins.oneC
 have h9 := o.yr.tak.oneC
 have h10 := o.kept.oneC
 have h11 := o.es.oneC
 intro u hu
 simp only [List.mem_cons, List.not_mem_nil, or_false] at hu
 rcases hu with rfl | rfl | rfl | rfl | rfl | rfl | rfl | rfl | rfl | rfl | rfl | rfl | rfl | rfl | rfl | rfl | rfl | rfl | rfl | rfl | rfl | rfl | rfl | rfl | rfl | rfl | rfl | rfl <;> first | assumption | rfl
theorem CpIn.below {w w' : World} {r : Ru} {p : Ps} {k : Nat} {y : Yr} {kl : List Ln} {vk : Value} {el : List Ln} {ve : Value} (h : CpIn w r p k y kl vk el ve) (b : Below w.heap.size w w') : CpIn w' r p k y kl vk el ve :=
 ⟨h.or, h.op, h.oy, h.ok, h.okl, h.oks, h.oel, h.eln, h.elc, h.sr.below b, h.sp.below b, h.sy.below b, h.sk.below b, h.se.below b⟩
set_option maxRecDepth 100000 in
set_option maxHeartbeats 8000000 in
theorem SlipD {w : World} {D m : Nat} (hd : Dk w D m) (hm : m ≤ 1000) :
  Calls Tryz.prog 9 #[.pointer (some ⟨D, 0, none⟩)] w (SlD w D (m + 4000)) := by
 have hD := hd.lt
 have HD1 := Lib.hid (hd.start.alloc (.cells #[.int .i64 0, .int .i64 0, .int .i64 0, .int .i64 0, .int .i64 0, .int .i64 0, .slice none 0 0] 27))
 have HR1 := Lib.hid (Row.new w 27 #[.int .i64 0, .int .i64 0, .int .i64 0, .int .i64 0, .int .i64 0, .int .i64 0, .slice none 0 0])
 go_enter Tryz.func9, Tryz.ntmps9
 go_upto_region 1 with (fail)
 have hs1 : (w.alloc (.cells #[.int .i64 0, .int .i64 0, .int .i64 0, .int .i64 0, .int .i64 0, .int .i64 0, .slice none 0 0] 27)).heap.size = w.heap.size + 1 := by simp
 obtain ⟨w1, hw1⟩ : ∃ w1, w.alloc (.cells #[.int .i64 0, .int .i64 0, .int .i64 0, .int .i64 0, .int .i64 0, .int .i64 0, .slice none 0 0] 27) = w1 := ⟨_, rfl⟩
 rw [hw1] at HD1 HR1 hs1 ⊢
 obtain ⟨gR, hgR⟩ : ∃ g, w.heap.size = g := ⟨_, rfl⟩
 have HG := Lib.hid hgR
 rw [hgR] at HR1 hs1 ⊢
 clear hw1 hgR
 go_wp2_with fail
 refine (CaseD HD1.out.dk hm).mono ?_
 rintro e w2 ⟨c, hc, rfl, ho, hds⟩
 have HC := Lib.hid hc
 have HO := Lib.hid ho
 have HD2 := Lib.hid (HD1.out.step hds)
 have HR2 := Lib.hid (hds.row HR1.out (by have := HG.out; omega))
 rw [show c.cells.toArray = #[c.ru.wv, c.ru.sv, .int .i64 c.ru.tf.method, c.ru.tf.bv, .int .i64 c.ru.tf.allow, .int .i64 c.ru.tf.credit, .int .i64 c.ru.tf.unit, .int .i64 c.ru.tf.mode, c.ru.tf.rv, .int .i64 c.ru.count, .int .i64 c.ru.sh.fixed, .int .i64 c.ru.sh.dep, .int .i64 c.ru.sh.lower, .int .i64 c.ru.sh.share, .int .i64 c.ru.sh.top, .int .i64 c.ru.rcv, .int .i64 c.ps.dep, c.ps.dv, c.ps.ov, c.ps.ev, .int .i64 (c.k : Int), .int .i64 c.yr.inc, .int .i64 c.yr.wh, c.yr.iv, c.yr.tv, c.kv, .bool c.first, c.ev] from rfl]
 clear hc ho hds HD1 HR1
 have HCI2 := Lib.hid (cs_in HC.out HO.out)
 go_upto_region 2 with (refine wpList_storeNew rfl 69 (.tmp 3) (.tmp 8) rfl #[c.ru.wv, c.ru.sv, .int .i64 c.ru.tf.method, c.ru.tf.bv, .int .i64 c.ru.tf.allow, .int .i64 c.ru.tf.credit, .int .i64 c.ru.tf.unit, .int .i64 c.ru.tf.mode, c.ru.tf.rv, .int .i64 c.ru.count, .int .i64 c.ru.sh.fixed, .int .i64 c.ru.sh.dep, .int .i64 c.ru.sh.lower, .int .i64 c.ru.sh.share, .int .i64 c.ru.sh.top, .int .i64 c.ru.rcv, .int .i64 c.ps.dep, c.ps.dv, c.ps.ov, c.ps.ev, .int .i64 (c.k : Int), .int .i64 c.yr.inc, .int .i64 c.yr.wh, c.yr.iv, c.yr.tv, c.kv, .bool c.first, c.ev] rfl rfl (by simp) (by kernel_rfl) (cs_one HO.out) (by kernel_rfl) ?_; intro w3 R3 k3)
 have HCI := Lib.hid (HCI2.out.below k3)
 have HD3 := Lib.hid (HD2.out.below k3)
 have HR3 := Lib.hid (Row.below HR2.out k3 (Row.lt HR2.out))
 have hw3 := HD3.out.size
 obtain ⟨gC, hgC⟩ : ∃ g, w2.heap.size = g := ⟨_, rfl⟩
 rw [hgC] at R3 ⊢
 have HRC := Lib.hid R3
 have c25 : w3.cell? ⟨gC, 25, none⟩ = some c.kv := Row.cell R3 25
 have c26 : w3.cell? ⟨gC, 26, none⟩ = some (.bool c.first) := Row.cell R3 26
 have c27 : w3.cell? ⟨gC, 27, none⟩ = some c.ev := Row.cell R3 27
 have lC := Row.lt R3
 have HCO := Lib.hid (show Calls Tryz.prog 19 #[.agg #[c.ru.wv, c.ru.sv, .int .i64 c.ru.tf.method, c.ru.tf.bv, .int .i64 c.ru.tf.allow, .int .i64 c.ru.tf.credit, .int .i64 c.ru.tf.unit, .int .i64 c.ru.tf.mode, c.ru.tf.rv, .int .i64 c.ru.count, .int .i64 c.ru.sh.fixed, .int .i64 c.ru.sh.dep, .int .i64 c.ru.sh.lower, .int .i64 c.ru.sh.share, .int .i64 c.ru.sh.top, .int .i64 c.ru.rcv], .agg #[.int .i64 c.ps.dep, c.ps.dv, c.ps.ov, c.ps.ev], .agg #[.int .i64 (c.k : Int), .int .i64 c.yr.inc, .int .i64 c.yr.wh, c.yr.iv, c.yr.tv], c.kv, .bool c.first, c.ev] w3 (CompRes w3) from Compute_ok HCI.out)
 clear HCI2 HCI HD2 HR2 k3 R3 hgC HO HC
 go_wp2_with (first | (refine wpList_loadRow rfl 59 (.tmp 10) rfl [c.ru.wv, c.ru.sv, .int .i64 c.ru.tf.method, c.ru.tf.bv, .int .i64 c.ru.tf.allow, .int .i64 c.ru.tf.credit, .int .i64 c.ru.tf.unit, .int .i64 c.ru.tf.mode, c.ru.tf.rv, .int .i64 c.ru.count, .int .i64 c.ru.sh.fixed, .int .i64 c.ru.sh.dep, .int .i64 c.ru.sh.lower, .int .i64 c.ru.sh.share, .int .i64 c.ru.sh.top, .int .i64 c.ru.rcv] _ rfl HRC.out (by kernel_rfl) Tryz.underlying59 rfl (by kernel_rfl) ?_) | (refine wpList_loadRow rfl 64 (.tmp 12) rfl [.int .i64 c.ps.dep, c.ps.dv, c.ps.ov, c.ps.ev] _ rfl HRC.out (by kernel_rfl) Tryz.underlying64 rfl (by kernel_rfl) ?_) | (refine wpList_loadRow rfl 67 (.tmp 14) rfl [.int .i64 (c.k : Int), .int .i64 c.yr.inc, .int .i64 c.yr.wh, c.yr.iv, c.yr.tv] _ rfl HRC.out (by kernel_rfl) Tryz.underlying67 rfl (by kernel_rfl) ?_))
 refine HCO.out.mono ?_
 rintro e w4 ⟨s, v, yc, f, hs, hyc, rfl, how, k4⟩
 have HSO := Lib.hid hs
 have HYC := Lib.hid hyc
 have HD4 := Lib.hid (((HD3.out.below k4).alloc (.cells #[.int .i64 0, .int .i64 0, .int .i64 0, .int .i64 0, .int .i64 0, .int .i64 0, .slice none 0 0] 27)).alloc (.cells #[.int .i64 0, .int .i64 0, .int .i64 0, .slice none 0 0, .slice none 0 0] 67))
 have HW := Lib.hid ((how.alloc (.cells #[.int .i64 0, .int .i64 0, .int .i64 0, .int .i64 0, .int .i64 0, .int .i64 0, .slice none 0 0] 27)).alloc (.cells #[.int .i64 0, .int .i64 0, .int .i64 0, .slice none 0 0, .slice none 0 0] 67))
 have hvo := how.oneC
 have HWL := Lib.hid fun g hg => (how.1.lt g hg).2
 have HVO : Hid (∀ u ∈ (s.vals v).toList, u.oneCell' = true) := fun u hu => by
  simp only [Slp.vals, List.mem_cons, List.not_mem_nil, or_false] at hu
  rcases hu with rfl | rfl | rfl | rfl | rfl | rfl | rfl <;> first | assumption | rfl
 have HR4 := Lib.hid (((Row.below HR3.out k4 (Row.lt HR3.out)).alloc (.cells #[.int .i64 0, .int .i64 0, .int .i64 0, .int .i64 0, .int .i64 0, .int .i64 0, .slice none 0 0] 27)).alloc (.cells #[.int .i64 0, .int .i64 0, .int .i64 0, .slice none 0 0, .slice none 0 0] 67))
 have HA := Lib.hid ((Row.new w4 27 #[.int .i64 0, .int .i64 0, .int .i64 0, .int .i64 0, .int .i64 0, .int .i64 0, .slice none 0 0]).alloc (.cells #[.int .i64 0, .int .i64 0, .int .i64 0, .slice none 0 0, .slice none 0 0] 67))
 have HB : Hid (Row ((w4.alloc (.cells #[.int .i64 0, .int .i64 0, .int .i64 0, .int .i64 0, .int .i64 0, .int .i64 0, .slice none 0 0] 27)).alloc (.cells #[.int .i64 0, .int .i64 0, .int .i64 0, .slice none 0 0, .slice none 0 0] 67)) (w4.heap.size + 1) 67 #[.int .i64 0, .int .i64 0, .int .i64 0, .slice none 0 0, .slice none 0 0]) := Row.newM (by simp)
 have hw4 := k4.size
 have hgr3 := Row.lt HR3.out
 have hgr : gR < w4.heap.size := by omega
 have hg0 := HG.out
 clear hs hyc how k4 hvo HCO HRC c25 c26 c27 lC HR3 HD3
 go_wp2_with (first
  | (refine wpList_storeRow rfl 27 (.tmp 4) (.tmp 23) rfl (s.vals v) rfl rfl HA.out (by simp [Slp.vals]) (by kernel_rfl) HVO.out (by kernel_rfl) ?_; intro w5 R5 g5 z5'; have HA5 := Lib.hid R5; have HB5 := Lib.hid (HB.out.keep g5 (fun e => by injection e; omega)); have HR5 := Lib.hid (HR4.out.keep g5 (fun e => by injection e; omega)); have HW5 := Lib.hid (HW.out.keepG g5 (own_ne (fun g hg => by have := (HW.out.1.lt g hg).2; have := HWL.out g hg; omega))); have HD5 := Lib.hid (HD4.out.other g5 (fun g hg => by injection hg; omega) hD); clear R5 g5 z5')
  | (refine wpList_storeRow rfl 67 (.tmp 5) (.tmp 24) rfl _ rfl rfl HB5.out (by rw [HYC.out.1]; decide) (by rw [HYC.out.1]; kernel_rfl) HYC.out.2 rfl ?_; intro w6 R6 g6 z6'; have HA6 := Lib.hid (HA5.out.keep g6 (fun e => by injection e; omega)); have HR6 := Lib.hid (HR5.out.keep g6 (fun e => by injection e; omega)); have HW6 := Lib.hid (HW5.out.keepG g6 (own_ne (fun g hg => by have := HWL.out g hg; omega))); have HD6 := Lib.hid (HD5.out.other g6 (fun g hg => by injection hg; omega) hD); clear R6 g6 z6')
  | (refine wpList_loadRow rfl 27 (.tmp 4) rfl (s.vals v).toList _ rfl HA6.out (by kernel_rfl) Tryz.underlying27 rfl (by kernel_rfl) ?_)
  | (refine wpList_storeRow rfl 27 (.tmp 2) (.tmp 26) rfl (s.vals v) rfl rfl HR6.out (by simp [Slp.vals]) (by kernel_rfl) HVO.out (by kernel_rfl) ?_; intro w7 R7 g7 z7'; have HW7 := Lib.hid (HW6.out.keepG g7 (own_ne (fun g hg => by have := (HW6.out.1.lt g hg).1; omega))); have HD7 := Lib.hid (HD6.out.other g7 (fun g hg => by injection hg; omega) hD); have HR7 := Lib.hid R7; clear R7 g7 z7'))
 refine bodyPost_ret (v := .agg (s.vals v)) (results_row rfl _ rfl HR7.out Tryz.underlying27 rfl (by kernel_rfl)) rfl ?_
 exact ⟨s, v, HSO.out, rfl, HW7.out.more (by omega), HD7.out⟩
end Go.Proofs.YtogdefomigiepaaGreatDoor
