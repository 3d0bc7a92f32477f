/- Contracts and plain facts that the laws of this seat share, part 14. -/
import Derived.Test.YtogdefomigiepaaGreatDoorPkK
import Derived.Test.YtogdefomigiepaaGreatDoorPkM
import Derived.Deep.RegionHeld3
import Derived.Deep.CutBlock
import Derived.Deep.DeepCutAuto
set_option linter.unusedVariables false
set_option linter.unusedSimpArgs false
/- What stands in memory while payrollref32.Compute runs, and its statements one by one. -/
namespace Go.Proofs.YtogdefomigiepaaGreatDoor
open Go.RowKit

def dropS : Nat → Code → Code
 | 0, c => c
 | n + 1, .seq _ b => dropS n b
 | _ + 1, c => c
def headS : Code → Code
 | .seq a _ => a
 | c => c
noncomputable def cpBody : Code := Tryz.f19.body.getD .skip
noncomputable def st (j : Nat) : Code := headS (dropS j cpBody)

structure CpIn (w : World) (r : Ru) (p : Ps) (k : Nat) (y : Yr) (kl : List Ln) (vk : Value) (el : List Ln) (ve : Value) : Prop where
 or : RuOk r
 op : PsOk k p
 oy : YrOk k y
 ok : k ≤ 3 ∧ (k : Int) < r.count
 okl : TkO kl
 oks : sumA kl ≤ 1000000000
 oel : EsOk el
 eln : el.length ≤ 5
 elc : ∀ x ∈ el, ∃ q ∈ r.ws, q.code = x.code
 sr : RuSl w r
 sp : PsSl w p
 sy : YrSl w y
 sk : Sl w 2 vk (els kl)
 se : Sl w 2 ve (els el)
def z7 : Array Value := #[.int .i64 0, .int .i64 0, .int .i64 0, .int .i64 0, .int .i64 0, .int .i64 0, .slice none 0 0]
def z5 : Array Value := #[.int .i64 0, .int .i64 0, .int .i64 0, .slice none 0 0, .slice none 0 0]
structure CpR (w : World) (r : Ru) (p : Ps) (k : Nat) (y : Yr) (gR gP gY gS gN : Nat) (wx : World) : Prop where
 b : Below w.heap.size w wx
 R : Row wx gR 59 r.cells.toArray
 P : Row wx gP 64 p.cells.toArray
 Y : Row wx gY 67 (y.cells k).toArray
 S : Row wx gS 27 z7
 N : Row wx gN 67 z5
 lo : w.heap.size ≤ gS ∧ w.heap.size ≤ gN ∧ gS ≠ gN
theorem CpR.step {w wx wy : World} {r : Ru} {p : Ps} {k : Nat} {y : Yr} {gR gP gY gS gN : Nat} (h : CpR w r p k y gR gP gY gS gN wx) (b : Below wx.heap.size wx wy) : CpR w r p k y gR gP gY gS gN wy :=
 ⟨below_after h.b b h.b.size, h.R.below b h.R.lt, h.P.below b h.P.lt, h.Y.below b h.Y.lt, h.S.below b h.S.lt, h.N.below b h.N.lt, h.lo⟩
def Bas (wx : World) (gB : Nat) (g c t i a : Int) : Prop := Row wx gB 24 #[.int .i64 g, .int .i64 c, .int .i64 t, .int .i64 i, .int .i64 a]
def B75 (x : Int) : Prop := -75000000 ≤ x ∧ x ≤ 75000000
def CompRes (w : World) (e : Ending) (w' : World) : Prop :=
 ∃ (s : Slp) (v : Value) (yc : Array Value) (f : Int), SlipOk s ∧ (yc.size = 5 ∧ ∀ u ∈ yc.toList, u.oneCell' = true) ∧ e = .returned (.tuple #[.agg (s.vals v), .agg yc, .int .i64 f]) ∧ Own w' w.heap.size 45 3 v (lns s.lines) ∧ Below w.heap.size w w'
def RetZ (w : World) (gS gN : Nat) (a : Act) (wr : World) : Prop :=
 a.defers = [] ∧ a.tmps.getD 12 undef = .pointer (some ⟨gS, 0, none⟩) ∧ a.tmps.getD 13 undef = .pointer (some ⟨gN, 0, none⟩) ∧ (∃ f : Int, a.tmps.getD 14 undef = .int .i64 f) ∧ Row wr gS 27 z7 ∧ Row wr gN 67 z5 ∧ Below w.heap.size w wr
theorem results_2rows {P : Program} {fn : Func} {p q u : Tmp} {ty ty' : TypeId} (h : fn.results = #[.cell p ty, .cell q ty', .tmp u]) (tmps : Array Value) {w : World} {g g' : Nat} {t t' : TypeId} {cs cs' : Array Value} {d d' : TypeDesc}
  (hp : tmps.getD p undef = .pointer (some ⟨g, 0, none⟩)) (hr : Row w g t cs) (hu : P.underlying ty = some d) (hd : d.isRow = true) (hi : (P.info? ty).map (·.size) = some cs.size)
  (hq : tmps.getD q undef = .pointer (some ⟨g', 0, none⟩)) (hr' : Row w g' t' cs') (hu' : P.underlying ty' = some d') (hd' : d'.isRow = true) (hi' : (P.info? ty').map (·.size) = some cs'.size) {r : Value} (hu2 : tmps.getD u undef = r) :
  (results fn tmps).run P w = .ok (.tuple #[.agg cs, .agg cs', r]) w := by
 subst hu2
 have hl := run_loadVar_mid (P := P) w g 0 ty cs.toList d (hr.range 0 (by simp only [List.drop_zero]; exact List.take_of_length_le (Nat.le_refl _))) hu hd (by simpa using hi)
 have hl' := run_loadVar_mid (P := P) w g' 0 ty' cs'.toList d' (hr'.range 0 (by simp only [List.drop_zero]; exact List.take_of_length_le (Nat.le_refl _))) hu' hd' (by simpa using hi')
 simp only [Array.toArray_toList] at hl hl'
 have hp' : tmps[p]?.getD undef = .pointer (some ⟨g, 0, none⟩) := by simpa using hp
 have hq' : tmps[q]?.getD undef = .pointer (some ⟨g', 0, none⟩) := by simpa using hq
 simp only [results, h]
 simp [Sem.run_bind, Result.andThen, hp', hq', asAddr, hl, hl']
theorem cp_ret_zero {w : World} {gS gN : Nat} {a : Act} {wr : World} (h : RetZ w gS gN a wr) : bodyPost Tryz.prog Tryz.f19 (CompRes w) .ret a wr := by
 obtain ⟨h1, h2, h3, ⟨f, h4⟩, h5, h6, h7⟩ := h
 refine bodyPost_ret (v := .tuple #[.agg z7, .agg z5, .int .i64 f]) (results_2rows rfl _ h2 h5 Tryz.underlying27 rfl (by kernel_rfl) h3 h6 Tryz.underlying67 rfl (by kernel_rfl) h4) h1 ?_
 exact ⟨⟨0, 0, 0, 0, 0, 0, []⟩, .slice none 0 0, z5, f, SlipOk.zero, ⟨rfl, by simp [z5, Value.oneCell']⟩, rfl, Own.nil _ _ _ _, h7⟩
theorem cp_ret {w : World} {gS gN : Nat} {a : Act} {wr : World} (s : Slp) (v : Value) (yc : Array Value) (hs : SlipOk s) (h1 : a.defers = []) (h2 : a.tmps.getD 12 undef = .pointer (some ⟨gS, 0, none⟩)) (h3 : a.tmps.getD 13 undef = .pointer (some ⟨gN, 0, none⟩)) {f : Int} (h4 : a.tmps.getD 14 undef = .int .i64 f)
  (h5 : Row wr gS 27 (s.vals v)) (h6 : Row wr gN 67 yc) (hy : yc.size = 5) (hyo : ∀ u ∈ yc.toList, u.oneCell' = true) (h7 : Own wr w.heap.size 45 3 v (lns s.lines)) (h8 : Below w.heap.size w wr) : bodyPost Tryz.prog Tryz.f19 (CompRes w) .ret a wr := by
 refine bodyPost_ret (v := .tuple #[.agg (s.vals v), .agg yc, .int .i64 f]) (results_2rows rfl _ h2 h5 Tryz.underlying27 rfl (by kernel_rfl) h3 h6 Tryz.underlying67 rfl (by rw [hy]; kernel_rfl) h4) h1 ?_
 exact ⟨s, v, yc, f, hs, ⟨hy, hyo⟩, rfl, h7, h8⟩

end Go.Proofs.YtogdefomigiepaaGreatDoor
/- payrollref32.Compute: the statements 0 to 15 (a part of them). Written by gen_cpa.py. -/
namespace Go.Proofs.YtogdefomigiepaaGreatDoor
open Go.RowKit


theorem Row.newM {w : World} {n : Nat} {t : TypeId} {cs : Array Value} (hn : w.heap.size = n) : Row (w.alloc (.cells cs t)) n t cs := by
 subst hn; exact Row.new w t cs
set_option maxRecDepth 1000000 in
set_option maxHeartbeats 8000000 in
theorem cp0 {R : Code} {w : World} {r : Ru} {p : Ps} {k : Nat} {y : Yr} {kl : List Ln} {vk : Value} {el : List Ln} {ve : Value} {fst : Bool} {c6 c7 c8 c9 Qa Qb ZZ Z0 Z1 Z2 Z3 Z4 Z5 Z6 Z7 Z8 Qc Qd Qe Qf Qg Qh Qi Qj Qk Ql Qm Qn Qo Qp Qq Qr Qs Qt Qu Qv Qw Z9 Z_ Ja Jb Jc Jd Je Jf Jg Jh Ji Jj Jk Jl Jm Jn Jo Jp Jq Jr Js Jt Ju Jv Jw Jx Jy Qx Qy Qz QA QB QC QD QE QF QG QH QI QJ QK QL QM QN QO QP QQ QR QS QT QU QV QW QX QY QZ Q0 Q1 Q2 Q3 Q4 Q5 Q6 Q7 Q8 Q9 Q_ Ua Ub Uc Ud Ue Uf Ug Uh Ui Uj Uk Ul Um Un Uo Up Uq Ur Us Ut Uu Uv Uw Ux Uy Uz UA UB UC UD UE UF UG UH UI UJ UK UL UM UN UO UP UQ UR US UT UU UV UW UX UY UZ U0 U1 U2 U3 U4 U5 U6 U7 U8 U9 U_ Va Vb Vc Vd Ve Vf Vg Vh Vi Vj Vk Vl Vm Vn Vo Vp Vq Vr Vs Vt Vu Vv Vw Vx Vy Vz VA VB VC VD VE VF VG VH VI VJ VK VL VM VN VO VP VQ VR VS VT VU VV VW VX VY VZ V0 V1 V2 V3 V4 V5 V6 V7 V8 V9 V_ Xa Xb Xc Xd Xe Xf Xg Xh Xi Xj Xk Xl Xm Xn Xo Xp Xq Xr Xs Xt Xu Xv Xw Xx Xy Xz XA XB XC XD XE XF XG XH XI XJ XK XL XM XN XO XP XQ XR XS XT XU XV XW XX XY XZ X0 X1 X2 X3 X4 X5 X6 X7 X8 X9 X_ Ya Yb Yc Yd Ye Yf Yg Yh Yi Yj Yk Yl Ym Yn Yo Yp Yq Ys Yt Yu Yv Yw Yx Yy Yz YA YB YC YD YE YF YG YH YI YJ YK YL YM YN YO YP YQ YR YS YT YU YV YW YX YY YZ Y0 Y1 Y2 Y3 Y4 Y5 Y6 Y7 Y8 Y9 Y_ Za Zb Zc Zd Ze Zf Zg Zh Zi Zj Zk Zl Zm Zn Zo Zp Zq Zr Zs Zt Zu Zv Zw Zx Zy Zz ZA ZB ZC ZD ZE ZF ZG ZH ZI ZJ ZK ZL ZM ZN ZO ZP ZQ ZR ZS ZT ZU ZV ZW ZX ZY : Value}
  (HI : Hid (CpIn w r p k y kl vk el ve))
  (hexit : ∀ (Jz JA JB JC JD JE JF JG JH JI JJ JK JL JM JN JO JP JQ JR JS JT JU JV JW JX JY JZ J0 J1 J2 : Value) (gR gP gY gS gN gB : Nat) (b0 b1 b2 b3 b4 : Int) (m : List Ln) (Am : Option Addr) (cm : Nat) (wr : World), (B75 b0 ∧ B75 b1 ∧ B75 b2 ∧ B75 b3 ∧ B75 b4) → ElOk m 60000000 → m.length ≤ 5 → (∀ x ∈ m, ∃ q ∈ r.ws, q.code = x.code) → Hid (CpR w r p k y gR gP gY gS gN wr ∧ Bas wr gB b0 b1 b2 b3 b4 ∧ Sl wr 2 (.slice Am m.length cm) (els m)) → Code.wp Tryz.prog R (bodyPost Tryz.prog Tryz.f19 (CompRes w)) ⟨#[.agg #[r.wv, r.sv, .int .i64 r.tf.method, r.tf.bv, .int .i64 r.tf.allow, .int .i64 r.tf.credit, .int .i64 r.tf.unit, .int .i64 r.tf.mode, r.tf.rv, .int .i64 r.count, .int .i64 r.sh.fixed, .int .i64 r.sh.dep, .int .i64 r.sh.lower, .int .i64 r.sh.share, .int .i64 r.sh.top, .int .i64 r.rcv], .agg #[.int .i64 p.dep, p.dv, p.ov, p.ev], .agg #[.int .i64 (k : Int), .int .i64 y.inc, .int .i64 y.wh, y.iv, y.tv], vk, .bool fst, ve, .pointer (some ⟨gR, 0, none⟩), .pointer (some ⟨gP, 0, none⟩), .pointer (some ⟨gY, 0, none⟩), c9, Qa,Qb, .pointer (some ⟨gS, 0, none⟩), .pointer (some ⟨gN, 0, none⟩), .int .i64 0, Jz, .pointer (some ⟨gB, 0, none⟩), JA, .slice Am m.length cm, JB, .slice none 0 0, .slice none 0 0, Qc,Qd,Qe,Qf,Qg,Qh,Qi,Qj,Qk,Ql,Qm,Qn,Qo,Qp,Qq,Qr,Qs,Qt,Qu,Qv,Qw,JC,JD,JE,JF,JG,JH,JI,JJ,JK,JL,JM,JN,JO,JP,JQ,JR,JS,JT,JU,JV,JW,JX,JY,JZ,J0,J1,J2,Qx,Qy,Qz,QA,QB,QC,QD,QE,QF,QG,QH,QI,QJ,QK,QL,QM,QN,QO,QP,QQ,QR,QS,QT,QU,QV,QW,QX,QY,QZ,Q0,Q1,Q2,Q3,Q4,Q5,Q6,Q7,Q8,Q9,Q_,Ua,Ub,Uc,Ud,Ue,Uf,Ug,Uh,Ui,Uj,Uk,Ul,Um,Un,Uo,Up,Uq,Ur,Us,Ut,Uu,Uv,Uw,Ux,Uy,Uz,UA,UB,UC,UD,UE,UF,UG,UH,UI,UJ,UK,UL,UM,UN,UO,UP,UQ,UR,US,UT,UU,UV,UW,UX,UY,UZ,U0,U1,U2,U3,U4,U5,U6,U7,U8,U9,U_,Va,Vb,Vc,Vd,Ve,Vf,Vg,Vh,Vi,Vj,Vk,Vl,Vm,Vn,Vo,Vp,Vq,Vr,Vs,Vt,Vu,Vv,Vw,Vx,Vy,Vz,VA,VB,VC,VD,VE,VF,VG,VH,VI,VJ,VK,VL,VM,VN,VO,VP,VQ,VR,VS,VT,VU,VV,VW,VX,VY,VZ,V0,V1,V2,V3,V4,V5,V6,V7,V8,V9,V_,Xa,Xb,Xc,Xd,Xe,Xf,Xg,Xh,Xi,Xj,Xk,Xl,Xm,Xn,Xo,Xp,Xq,Xr,Xs,Xt,Xu,Xv,Xw,Xx,Xy,Xz,XA,XB,XC,XD,XE,XF,XG,XH,XI,XJ,XK,XL,XM,XN,XO,XP,XQ,XR,XS,XT,XU,XV,XW,XX,XY,XZ,X0,X1,X2,X3,X4,X5,X6,X7,X8,X9,X_,Ya,Yb,Yc,Yd,Ye,Yf,Yg,Yh,Yi,Yj,Yk,Yl,Ym,Yn,Yo,Yp,Yq,Ys,Yt,Yu,Yv,Yw,Yx,Yy,Yz,YA,YB,YC,YD,YE,YF,YG,YH,YI,YJ,YK,YL,YM,YN,YO,YP,YQ,YR,YS,YT,YU,YV,YW,YX,YY,YZ,Y0,Y1,Y2,Y3,Y4,Y5,Y6,Y7,Y8,Y9,Y_,Za,Zb,Zc,Zd,Ze,Zf,Zg,Zh,Zi,Zj,Zk,Zl,Zm,Zn,Zo,Zp,Zq,Zr,Zs,Zt,Zu,Zv,Zw,Zx,Zy,Zz,ZA,ZB,ZC,ZD,ZE,ZF,ZG,ZH,ZI,ZJ,ZK,ZL,ZM,ZN,ZO,ZP,ZQ,ZR,ZS,ZT,ZU,ZV,ZW,ZX,ZY], []⟩ wr) :
  Code.wp Tryz.prog (Code.seq (st 0) (Code.seq (st 1) (Code.seq (st 2) (Code.seq (st 3) (Code.seq (st 4) (Code.seq (st 5) (R))))))) (bodyPost Tryz.prog Tryz.f19 (CompRes w)) ⟨#[.agg #[r.wv, r.sv, .int .i64 r.tf.method, r.tf.bv, .int .i64 r.tf.allow, .int .i64 r.tf.credit, .int .i64 r.tf.unit, .int .i64 r.tf.mode, r.tf.rv, .int .i64 r.count, .int .i64 r.sh.fixed, .int .i64 r.sh.dep, .int .i64 r.sh.lower, .int .i64 r.sh.share, .int .i64 r.sh.top, .int .i64 r.rcv], .agg #[.int .i64 p.dep, p.dv, p.ov, p.ev], .agg #[.int .i64 (k : Int), .int .i64 y.inc, .int .i64 y.wh, y.iv, y.tv], vk, .bool fst, ve, c6, c7, c8, c9, Qa,Qb,ZZ,Z0,Z1,Z2,Z3,Z4,Z5,Z6,Z7,Z8,Qc,Qd,Qe,Qf,Qg,Qh,Qi,Qj,Qk,Ql,Qm,Qn,Qo,Qp,Qq,Qr,Qs,Qt,Qu,Qv,Qw,Z9,Z_,Ja,Jb,Jc,Jd,Je,Jf,Jg,Jh,Ji,Jj,Jk,Jl,Jm,Jn,Jo,Jp,Jq,Jr,Js,Jt,Ju,Jv,Jw,Jx,Jy,Qx,Qy,Qz,QA,QB,QC,QD,QE,QF,QG,QH,QI,QJ,QK,QL,QM,QN,QO,QP,QQ,QR,QS,QT,QU,QV,QW,QX,QY,QZ,Q0,Q1,Q2,Q3,Q4,Q5,Q6,Q7,Q8,Q9,Q_,Ua,Ub,Uc,Ud,Ue,Uf,Ug,Uh,Ui,Uj,Uk,Ul,Um,Un,Uo,Up,Uq,Ur,Us,Ut,Uu,Uv,Uw,Ux,Uy,Uz,UA,UB,UC,UD,UE,UF,UG,UH,UI,UJ,UK,UL,UM,UN,UO,UP,UQ,UR,US,UT,UU,UV,UW,UX,UY,UZ,U0,U1,U2,U3,U4,U5,U6,U7,U8,U9,U_,Va,Vb,Vc,Vd,Ve,Vf,Vg,Vh,Vi,Vj,Vk,Vl,Vm,Vn,Vo,Vp,Vq,Vr,Vs,Vt,Vu,Vv,Vw,Vx,Vy,Vz,VA,VB,VC,VD,VE,VF,VG,VH,VI,VJ,VK,VL,VM,VN,VO,VP,VQ,VR,VS,VT,VU,VV,VW,VX,VY,VZ,V0,V1,V2,V3,V4,V5,V6,V7,V8,V9,V_,Xa,Xb,Xc,Xd,Xe,Xf,Xg,Xh,Xi,Xj,Xk,Xl,Xm,Xn,Xo,Xp,Xq,Xr,Xs,Xt,Xu,Xv,Xw,Xx,Xy,Xz,XA,XB,XC,XD,XE,XF,XG,XH,XI,XJ,XK,XL,XM,XN,XO,XP,XQ,XR,XS,XT,XU,XV,XW,XX,XY,XZ,X0,X1,X2,X3,X4,X5,X6,X7,X8,X9,X_,Ya,Yb,Yc,Yd,Ye,Yf,Yg,Yh,Yi,Yj,Yk,Yl,Ym,Yn,Yo,Yp,Yq,Ys,Yt,Yu,Yv,Yw,Yx,Yy,Yz,YA,YB,YC,YD,YE,YF,YG,YH,YI,YJ,YK,YL,YM,YN,YO,YP,YQ,YR,YS,YT,YU,YV,YW,YX,YY,YZ,Y0,Y1,Y2,Y3,Y4,Y5,Y6,Y7,Y8,Y9,Y_,Za,Zb,Zc,Zd,Ze,Zf,Zg,Zh,Zi,Zj,Zk,Zl,Zm,Zn,Zo,Zp,Zq,Zr,Zs,Zt,Zu,Zv,Zw,Zx,Zy,Zz,ZA,ZB,ZC,ZD,ZE,ZF,ZG,ZH,ZI,ZJ,ZK,ZL,ZM,ZN,ZO,ZP,ZQ,ZR,ZS,ZT,ZU,ZV,ZW,ZX,ZY], []⟩ w := by
 have HX := Lib.hid hexit
 clear hexit
 have HC := Lib.hid fun (z : World) (hz : Below w.heap.size w z) => check32_ok r p k y kl vk HI.out.or HI.out.op HI.out.oy HI.out.ok HI.out.okl HI.out.oks z (HI.out.sr.below hz) (HI.out.sp.below hz) (HI.out.sy.below hz) (HI.out.sk.below hz)
 have HOF := Lib.hid fun (z : World) (hz : Below w.heap.size w z) => Of_ok r.ws HI.out.or.ws el HI.out.oel HI.out.eln HI.out.elc r.wv ve z (HI.out.sr.ws.below hz) (HI.out.se.below hz)
 have HME := Lib.hid fun (z : World) (hz : Below w.heap.size w z) => MergeE_ok el ve z (HI.out.se.below hz) HI.out.oel
 simp only [Ru.cells, Ps.cells, Yr.cells] at HC
 have HR0 : Hid (CpR w r p k y w.heap.size (w.heap.size + 1) (w.heap.size + 2) (w.heap.size + 3) (w.heap.size + 4) (((((w.alloc (.cells #[r.wv, r.sv, .int .i64 r.tf.method, r.tf.bv, .int .i64 r.tf.allow, .int .i64 r.tf.credit, .int .i64 r.tf.unit, .int .i64 r.tf.mode, r.tf.rv, .int .i64 r.count, .int .i64 r.sh.fixed, .int .i64 r.sh.dep, .int .i64 r.sh.lower, .int .i64 r.sh.share, .int .i64 r.sh.top, .int .i64 r.rcv] 59)).alloc (.cells #[.int .i64 p.dep, p.dv, p.ov, p.ev] 64)).alloc (.cells #[.int .i64 (k : Int), .int .i64 y.inc, .int .i64 y.wh, y.iv, y.tv] 67)).alloc (.cells #[.int .i64 0, .int .i64 0, .int .i64 0, .int .i64 0, .int .i64 0, .int .i64 0, .slice none 0 0] 27)).alloc (.cells #[.int .i64 0, .int .i64 0, .int .i64 0, .slice none 0 0, .slice none 0 0] 67))) :=
  ⟨(((((Below.refl _ _).alloc (Nat.le_refl _) _).alloc (by simp) _).alloc (by simp; omega) _).alloc (by simp; omega) _).alloc (by simp; omega) _, ((((Row.newM rfl).alloc _).alloc _).alloc _).alloc _, (((Row.newM (by simp)).alloc _).alloc _).alloc _, ((Row.newM (by simp)).alloc _).alloc _, (Row.newM (by simp)).alloc _, Row.newM (by simp), by omega⟩
 go_wp2_with fail
 conv => arg 2; whnf
 go_wp2_with fail
 obtain ⟨w1, hw1⟩ : ∃ w1, (((((w.alloc (.cells #[r.wv, r.sv, .int .i64 r.tf.method, r.tf.bv, .int .i64 r.tf.allow, .int .i64 r.tf.credit, .int .i64 r.tf.unit, .int .i64 r.tf.mode, r.tf.rv, .int .i64 r.count, .int .i64 r.sh.fixed, .int .i64 r.sh.dep, .int .i64 r.sh.lower, .int .i64 r.sh.share, .int .i64 r.sh.top, .int .i64 r.rcv] 59)).alloc (.cells #[.int .i64 p.dep, p.dv, p.ov, p.ev] 64)).alloc (.cells #[.int .i64 (k : Int), .int .i64 y.inc, .int .i64 y.wh, y.iv, y.tv] 67)).alloc (.cells #[.int .i64 0, .int .i64 0, .int .i64 0, .int .i64 0, .int .i64 0, .int .i64 0, .slice none 0 0] 27)).alloc (.cells #[.int .i64 0, .int .i64 0, .int .i64 0, .slice none 0 0, .slice none 0 0] 67)) = w1 := ⟨_, rfl⟩
 rw [hw1] at HR0 ⊢
 clear hw1
 obtain ⟨gR, hgR⟩ : ∃ g, w.heap.size = g := ⟨_, rfl⟩
 obtain ⟨gP, hgP⟩ : ∃ g, w.heap.size + 1 = g := ⟨_, rfl⟩
 obtain ⟨gY, hgY⟩ : ∃ g, w.heap.size + 1 + 1 = g := ⟨_, rfl⟩
 obtain ⟨gS, hgS⟩ : ∃ g, w.heap.size + 1 + 1 + 1 = g := ⟨_, rfl⟩
 obtain ⟨gN, hgN⟩ : ∃ g, w.heap.size + 1 + 1 + 1 + 1 = g := ⟨_, rfl⟩
 have HR1 : Hid (CpR w r p k y gR gP gY gS gN w1) := by rw [← hgR, ← hgP, ← hgY, ← hgS, ← hgN]; exact HR0
 rw [hgN, hgS, hgY, hgP, hgR]
 clear hgR hgP hgY hgS hgN HR0
 have cgR0 : w1.cell? ⟨gR, 0, none⟩ = some (r.wv) := Row.cell HR1.out.R 0
 have cgR1 : w1.cell? ⟨gR, 1, none⟩ = some (r.sv) := Row.cell HR1.out.R 1
 have cgR2 : w1.cell? ⟨gR, 2, none⟩ = some (.int .i64 r.tf.method) := Row.cell HR1.out.R 2
 have cgR3 : w1.cell? ⟨gR, 3, none⟩ = some (r.tf.bv) := Row.cell HR1.out.R 3
 have cgR4 : w1.cell? ⟨gR, 4, none⟩ = some (.int .i64 r.tf.allow) := Row.cell HR1.out.R 4
 have cgR5 : w1.cell? ⟨gR, 5, none⟩ = some (.int .i64 r.tf.credit) := Row.cell HR1.out.R 5
 have cgR6 : w1.cell? ⟨gR, 6, none⟩ = some (.int .i64 r.tf.unit) := Row.cell HR1.out.R 6
 have cgR7 : w1.cell? ⟨gR, 7, none⟩ = some (.int .i64 r.tf.mode) := Row.cell HR1.out.R 7
 have cgR8 : w1.cell? ⟨gR, 8, none⟩ = some (r.tf.rv) := Row.cell HR1.out.R 8
 have cgR9 : w1.cell? ⟨gR, 9, none⟩ = some (.int .i64 r.count) := Row.cell HR1.out.R 9
 have cgR10 : w1.cell? ⟨gR, 10, none⟩ = some (.int .i64 r.sh.fixed) := Row.cell HR1.out.R 10
 have cgR11 : w1.cell? ⟨gR, 11, none⟩ = some (.int .i64 r.sh.dep) := Row.cell HR1.out.R 11
 have cgR12 : w1.cell? ⟨gR, 12, none⟩ = some (.int .i64 r.sh.lower) := Row.cell HR1.out.R 12
 have cgR13 : w1.cell? ⟨gR, 13, none⟩ = some (.int .i64 r.sh.share) := Row.cell HR1.out.R 13
 have cgR14 : w1.cell? ⟨gR, 14, none⟩ = some (.int .i64 r.sh.top) := Row.cell HR1.out.R 14
 have cgR15 : w1.cell? ⟨gR, 15, none⟩ = some (.int .i64 r.rcv) := Row.cell HR1.out.R 15
 have cgP0 : w1.cell? ⟨gP, 0, none⟩ = some (.int .i64 p.dep) := Row.cell HR1.out.P 0
 have cgP1 : w1.cell? ⟨gP, 1, none⟩ = some (p.dv) := Row.cell HR1.out.P 1
 have cgP2 : w1.cell? ⟨gP, 2, none⟩ = some (p.ov) := Row.cell HR1.out.P 2
 have cgP3 : w1.cell? ⟨gP, 3, none⟩ = some (p.ev) := Row.cell HR1.out.P 3
 have cgY0 : w1.cell? ⟨gY, 0, none⟩ = some (.int .i64 (k : Int)) := Row.cell HR1.out.Y 0
 have cgY1 : w1.cell? ⟨gY, 1, none⟩ = some (.int .i64 y.inc) := Row.cell HR1.out.Y 1
 have cgY2 : w1.cell? ⟨gY, 2, none⟩ = some (.int .i64 y.wh) := Row.cell HR1.out.Y 2
 have cgY3 : w1.cell? ⟨gY, 3, none⟩ = some (y.iv) := Row.cell HR1.out.Y 3
 have cgY4 : w1.cell? ⟨gY, 4, none⟩ = some (y.tv) := Row.cell HR1.out.Y 4
 have lR := Row.lt HR1.out.R
 have lP := Row.lt HR1.out.P
 have lY := Row.lt HR1.out.Y
 conv => arg 2; whnf
 go_wp2_with fail
 refine (HC.out _ HR1.out.b).mono ?_
 rintro e w2 ⟨rfl, k2⟩
 have HR2 := Lib.hid (HR1.out.step k2)
 clear k2 HC lR lP lY cgR0 cgR1 cgR2 cgR3 cgR4 cgR5 cgR6 cgR7 cgR8 cgR9 cgR10 cgR11 cgR12 cgR13 cgR14 cgR15 cgP0 cgP1 cgP2 cgP3 cgY0 cgY1 cgY2 cgY3 cgY4 HR1
 have cgR0 : w2.cell? ⟨gR, 0, none⟩ = some (r.wv) := Row.cell HR2.out.R 0
 have lR := Row.lt HR2.out.R
 go_wp2_with fail
 conv => arg 2; whnf
 go_wp2_with fail
 refine (HOF.out _ HR2.out.b).mono ?_
 rintro e w3 ⟨b0, b1, b2, b3, b4, hb, rfl, k3⟩
 have HBB := Lib.hid hb
 have HR3 := Lib.hid (HR2.out.step k3)
 have HR4 := Lib.hid (HR3.out.step ((Below.refl _ _).alloc (Nat.le_refl _) (.cells #[.int .i64 b0, .int .i64 b1, .int .i64 b2, .int .i64 b3, .int .i64 b4] 24)))
 have HBR : Hid (Bas (w3.alloc (.cells #[.int .i64 b0, .int .i64 b1, .int .i64 b2, .int .i64 b3, .int .i64 b4] 24)) w3.heap.size b0 b1 b2 b3 b4) := Row.new _ _ _
 clear hb k3 HOF HR2 cgR0 lR
 go_wp2_with fail
 obtain ⟨w4, hw4⟩ : ∃ w4, w3.alloc (.cells #[.int .i64 b0, .int .i64 b1, .int .i64 b2, .int .i64 b3, .int .i64 b4] 24) = w4 := ⟨_, rfl⟩
 obtain ⟨gB, hgB⟩ : ∃ g, w3.heap.size = g := ⟨_, rfl⟩
 rw [hw4] at HR4 HBR ⊢
 rw [hgB] at HBR ⊢
 clear hw4 hgB HR3
 conv => arg 2; whnf
 go_wp2_with fail
 conv => arg 2; whnf
 go_wp2_with fail
 refine (HME.out _ HR4.out.b).mono ?_
 rintro e w5 ⟨v5, rfl, ow5, k5⟩
 have hpl := puts_len el el.length
 rw [List.take_length] at hpl
 have HM1 : Hid (ElOk ((putsR el).filter nz) 60000000 ∧ ((putsR el).filter nz).length ≤ 5 ∧ ∀ x ∈ (putsR el).filter nz, ∃ q ∈ r.ws, q.code = x.code) := by
  refine ⟨HI.out.oel.puts.filter _, Nat.le_trans (List.length_filter_le _ _) (by have := HI.out.eln; omega), fun x hx => ?_⟩
  obtain ⟨z, hz, _, e⟩ := puts_title x (List.mem_filter.1 hx).1
  rw [e]; exact HI.out.elc z hz
 obtain ⟨m, hm⟩ : ∃ m, (putsR el).filter nz = m := ⟨_, rfl⟩
 rw [hm] at HM1 ow5
 obtain ⟨Am, cm, hf⟩ := ow5.form
 rw [els_len] at hf
 subst hf
 have HE := Lib.hid (And.intro (HR4.out.step k5) (And.intro (Row.below HBR.out k5 (Row.lt HBR.out)) (ow5.sl (by omega))))
 clear hm hpl ow5 k5 HME HR4 HBR
 go_wp2_with fail
 conv => arg 2; whnf
 go_wp2_with fail
 exact HX.out _ _ _ _ _ _ _ _ _ _ _ _ _ _ _ _ _ _ _ _ _ _ _ _ _ _ _ _ _ _ gR gP gY gS gN gB b0 b1 b2 b3 b4 m Am cm _ HBB.out HM1.out.1 HM1.out.2.1 HM1.out.2.2 HE
theorem ElOk.sub {l m : List Ln} {M : Int} (h : ElOk m M) (s : l.Sublist m) : ElOk l M :=
 ⟨List.Pairwise.sublist s h.strict, fun x hx => h.zero x (s.subset hx), fun x hx => h.name x (s.subset hx), fun x hx => h.amt x (s.subset hx)⟩
theorem rowW {w : World} {g : Nat} {t : TypeId} {a0 a1 a2 a3 a4 a5 : Value} (h : Row w g t #[a0, a1, a2, a3, a4, a5]) : w.cell? ⟨g, 0, none⟩ = some a0 ∧ w.cell? ⟨g, 1, none⟩ = some a1 ∧ w.cell? ⟨g, 2, none⟩ = some a2 ∧ w.cell? ⟨g, 3, none⟩ = some a3 ∧ w.cell? ⟨g, 4, none⟩ = some a4 ∧ w.cell? ⟨g, 5, none⟩ = some a5 ∧
  w.frozen? ⟨g, 0, none⟩ = false ∧ w.frozen? ⟨g, 1, none⟩ = false ∧ w.frozen? ⟨g, 2, none⟩ = false ∧ w.frozen? ⟨g, 3, none⟩ = false ∧ w.frozen? ⟨g, 4, none⟩ = false ∧ w.frozen? ⟨g, 5, none⟩ = false ∧ g < w.heap.size :=
 ⟨Row.cell h 0, Row.cell h 1, Row.cell h 2, Row.cell h 3, Row.cell h 4, Row.cell h 5, Row.frozen h 0, Row.frozen h 1, Row.frozen h 2, Row.frozen h 3, Row.frozen h 4, Row.frozen h 5, Row.lt h⟩
structure SpSt (B : Nat) (wx : World) (m : List Ln) (j : Nat) (a b : Value) (ear ben : List Ln) (wr : World) : Prop where
 s1 : ear.Sublist (m.take j)
 s2 : ben.Sublist (m.take j)
 o1 : Own wr B 112 2 a (els ear)
 o2 : Own wr B 112 2 b (els ben)
 ap : ∀ g, a.ownBlock = some g → b.ownBlock ≠ some g
 bl : Below B wx wr
 bs : B ≤ wr.heap.size
theorem SpSt.kept {B : Nat} {wx wr wy : World} {m : List Ln} {j : Nat} {a b : Value} {ear ben : List Ln} (h : SpSt B wx m j a b ear ben wr) (k : Below wr.heap.size wr wy) : SpSt B wx m j a b ear ben wy :=
 ⟨h.s1, h.s2, h.o1.kept k, h.o2.kept k, h.ap, below_after h.bl k h.bs, Nat.le_trans h.bs k.size⟩
theorem ownBlock_keep {u v : Value} (h : ∀ g, u.ownBlock = some g → v.ownBlock ≠ some g) : v.ownBlock = none ∨ v.ownBlock ≠ u.ownBlock := by
 cases hv : v.ownBlock with
 | none => exact .inl rfl
 | some g => exact .inr fun e => h g e.symm hv
theorem take_sub {ear m : List Ln} {j : Nat} (h : ear.Sublist (m.take j)) (hj : j < m.length) : (ear ++ [m[j]]).Sublist (m.take (j + 1)) := by
 rw [List.take_succ_eq_append_getElem hj]; exact h.append (List.Sublist.refl _)
theorem take_sub0 {ear m : List Ln} {j : Nat} (h : ear.Sublist (m.take j)) : ear.Sublist (m.take (j + 1)) := h.trans (List.take_sublist_take_left (Nat.le_succ j))
theorem SpSt.swap {B : Nat} {wx wr : World} {m : List Ln} {j : Nat} {a b : Value} {ear ben : List Ln} (h : SpSt B wx m j a b ear ben wr) : SpSt B wx m j b a ben ear wr :=
 ⟨h.s2, h.s1, h.o2, h.o1, fun g h1 h2 => h.ap g h2 h1, h.bl, h.bs⟩
theorem SpSt.add {B : Nat} {wx wr wy : World} {m : List Ln} {j : Nat} {a a2 b : Value} {ear ben : List Ln} (h : SpSt B wx m j a b ear ben wr) (hj : j < m.length) (ho : Own wy B 112 2 a2 (els ear ++ els [m[j]])) (hg : wr.grownBy wy a.ownBlock) (hv : a2.ownBlock = a.ownBlock ∨ a2.ownBlock = some wr.heap.size) :
  SpSt B wx m (j + 1) a2 b (ear ++ [m[j]]) ben wy := by
 refine ⟨take_sub h.s1 hj, take_sub0 h.s2, by rw [els_append]; exact ho, h.o2.keepG hg (ownBlock_keep h.ap), fun g h1 h2 => ?_, h.o1.grown h.bl hg h.bs, Nat.le_trans h.bs hg.size⟩
 rcases hv with hv | hv
 ·exact h.ap g (hv ▸ h1) h2
 ·rw [h1] at hv; injection hv with hv; have := (h.o2.1.lt g h2).2; omega
end Go.Proofs.YtogdefomigiepaaGreatDoor
