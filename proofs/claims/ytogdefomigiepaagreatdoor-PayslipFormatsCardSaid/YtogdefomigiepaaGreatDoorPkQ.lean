/- Contracts and plain facts that the laws of this seat share, part 17. -/
import Derived.Test.YtogdefomigiepaaGreatDoorPkN
set_option linter.unusedVariables false
set_option linter.unusedSimpArgs false
/- payrollref32.Compute: the statements 17 to 32. Written by gen_cpd.py. -/
namespace Go.Proofs.YtogdefomigiepaaGreatDoor
open Go.RowKit

set_option maxRecDepth 1000000 in
set_option maxHeartbeats 8000000 in
theorem cpa {R : Code} {w wx : World} {r : Ru} {p : Ps} {k : Nat} {y : Yr} {kl : List Ln} {vk : Value} {el : List Ln} {ve : Value} {gR gP gY gS gN : Nat} {left inc lv : Int} {c0 c1 c2 c4 c5 c9 Qa Qb Jo Qc Jp Jq Qd Qe Qf Qg Qh Qi Qj Jr Js Qk Ql Qm Qn Qo Qp Qq YL Jx YM YN Qr Qs Qt Qu Qv Qw Qx Qy Qz QA QB QC QD QE QF QG QH QI QJ QK QL QM QN QO QP QQ QR QS QT QU QV QW QX QY QZ Q0 Q1 Q2 Q3 Q4 Q5 Q6 Q7 Q8 Q9 Q_ Ua Ub Uc Ud Ue Uf Ug Uh Ui Uj Uk Ul Um Un Uo Up Uq Ur Us Ut Uu Uv Uw Ux Uy Uz UA UB UC UD UE UF UG UH UI UJ UK UL UM UN UO UP UQ UR US UT UU UV UW UX UY UZ U0 U1 U2 U3 U4 U5 U6 U7 U8 U9 U_ Va Vb Vc Vd Ve Vf Vg Vh Vi Vj Vk Vl Vm Vn Vo Vp Vq Vr Vs Vt Vu Vv Vw Vx Vy Vz VA VB VC VD VE VF VG VH VI VJ VK VL VM VN VO VP VQ VR VS VT VU VV VW VX VY VZ V0 V1 V2 V3 V4 V5 V6 V7 V8 V9 V_ YO YP YQ YR YS YT YU YV YW YX YY YZ Y0 Y1 Y2 Y3 Y4 Y5 Y6 Y7 Y8 Y9 Y_ Za Zb Zc Zd Ze Zf Zg Zh Zi Zj Zk Zl Zm Zn Zo Zp Zq Zr Zs Zt Zu Zv Zw Zx Zy Zz ZA ZB ZC ZD ZE ZF ZG ZH ZI ZJ ZK ZL ZM ZN ZO ZP ZQ ZR ZS ZT ZU ZV ZW ZX ZY ZZ Z0 Z1 Z2 Z3 Z4 Z5 Z6 Z7 Z8 Z9 Z_ Ja Jb Jc Jd Je Jf Jg Jh Ji Jj Jk Jl Jm Jn Xa Xb Xc Xd Xe Xf Xg Xh Xi Xj Xk Xl Xm Xn Xo Xp Xq Xr Xs Xt Xu Xv Xw Xx Xy Xz XA XB XC XD XE XF XG XH XI XJ XK XL XM XN XO XP XQ XR XS XT XU XV XW XX XY XZ X0 X1 X2 X3 X4 X5 X6 X7 X8 X9 X_ Ya Yb Yc Yd Ye Yf Yg Yh Yi Yj Yk Yl Ym Yn Yo Yp Yq Ys Yt Yu Yv Yw Yx Yy Yz YA YB YC YD YE YF YG YH YI YJ YK : Value}
  (HI : Hid (CpIn w r p k y kl vk el ve)) (HR : Hid (CpR w r p k y gR gP gY gS gN wx)) (hl : -150000000 ≤ left ∧ left ≤ 75000000) (hi : -10000000000 ≤ inc ∧ inc ≤ 75000000) (hv : 0 ≤ lv ∧ lv ≤ 3000000000)
  (hexit : ∀ (Jt Jy Jz JA JB JC JD JE JF JG JH JI JJ JK JL JM JN JO JP JQ JR JS JT JU JV JW JX JY JZ J0 : Value) (tx : Int) (wr : World), (-1000000000 ≤ tx ∧ tx ≤ 1000000000) → Hid (Below wx.heap.size wx wr) → Code.wp Tryz.prog R (bodyPost Tryz.prog Tryz.f19 (CompRes w)) ⟨#[c0, c1, c2, vk, c4, c5, .pointer (some ⟨gR, 0, none⟩), .pointer (some ⟨gP, 0, none⟩), .pointer (some ⟨gY, 0, none⟩), c9, Qa,Qb, .pointer (some ⟨gS, 0, none⟩), .pointer (some ⟨gN, 0, none⟩), Jo,Qc,Jp,Jt,Qd,Qe,Qf,Qg,Qh,Qi,Qj, .int .i64 (left - lv - tx), Jr,Js, .int .i64 (max inc 0), Qk,Ql,Qm,Qn, .int .i64 lv, Qo,Qp,Qq, .int .i64 tx, vk, YM,YN,Qr,Qs,Qt,Qu,Qv,Qw,Qx,Qy,Qz,QA,QB,QC,QD,QE,QF,QG,QH,QI,QJ,QK,QL,QM,QN,QO,QP,QQ,QR,QS,QT,QU,QV,QW,QX,QY,QZ,Q0,Q1,Q2,Q3,Q4,Q5,Q6,Q7,Q8,Q9,Q_,Ua,Ub,Uc,Ud,Ue,Uf,Ug,Uh,Ui,Uj,Uk,Ul,Um,Un,Uo,Up,Uq,Ur,Us,Ut,Uu,Uv,Uw,Ux,Uy,Uz,UA,UB,UC,UD,UE,UF,UG,UH,UI,UJ,UK,UL,UM,UN,UO,UP,UQ,UR,US,UT,UU,UV,UW,UX,UY,UZ,U0,U1,U2,U3,U4,U5,U6,U7,U8,U9,U_,Va,Vb,Vc,Vd,Ve,Vf,Vg,Vh,Vi,Vj,Vk,Vl,Vm,Vn,Vo,Vp,Vq,Vr,Vs,Vt,Vu,Vv,Vw,Vx,Vy,Vz,VA,VB,VC,VD,VE,VF,VG,VH,VI,VJ,VK,VL,VM,VN,VO,VP,VQ,VR,VS,VT,VU,VV,VW,VX,VY,VZ,V0,V1,V2,V3,V4,V5,V6,V7,V8,V9,V_,Jy,Jz,JA,JB,JC,JD,JE,JF,JG,JH,JI,JJ,JK,JL,JM,JN,JO,JP,JQ,JR,JS,JT,JU,JV,JW,JX,JY,JZ,J0,Zg,Zh,Zi,Zj,Zk,Zl,Zm,Zn,Zo,Zp,Zq,Zr,Zs,Zt,Zu,Zv,Zw,Zx,Zy,Zz,ZA,ZB,ZC,ZD,ZE,ZF,ZG,ZH,ZI,ZJ,ZK,ZL,ZM,ZN,ZO,ZP,ZQ,ZR,ZS,ZT,ZU,ZV,ZW,ZX,ZY,ZZ,Z0,Z1,Z2,Z3,Z4,Z5,Z6,Z7,Z8,Z9,Z_,Ja,Jb,Jc,Jd,Je,Jf,Jg,Jh,Ji,Jj,Jk,Jl,Jm,Jn,Xa,Xb,Xc,Xd,Xe,Xf,Xg,Xh,Xi,Xj,Xk,Xl,Xm,Xn,Xo,Xp,Xq,Xr,Xs,Xt,Xu,Xv,Xw,Xx,Xy,Xz,XA,XB,XC,XD,XE,XF,XG,XH,XI,XJ,XK,XL,XM,XN,XO,XP,XQ,XR,XS,XT,XU,XV,XW,XX,XY,XZ,X0,X1,X2,X3,X4,X5,X6,X7,X8,X9,X_,Ya,Yb,Yc,Yd,Ye,Yf,Yg,Yh,Yi,Yj,Yk,Yl,Ym,Yn,Yo,Yp,Yq,Ys,Yt,Yu,Yv,Yw,Yx,Yy,Yz,YA,YB,YC,YD,YE,YF,YG,YH,YI,YJ,YK], []⟩ wr) :
  Code.wp Tryz.prog (Code.seq (st 17) (Code.seq (st 18) (Code.seq (st 19) (Code.seq (st 20) (Code.seq (st 21) (Code.seq (st 22) (Code.seq (st 23) (R)))))))) (bodyPost Tryz.prog Tryz.f19 (CompRes w)) ⟨#[c0, c1, c2, vk, c4, c5, .pointer (some ⟨gR, 0, none⟩), .pointer (some ⟨gP, 0, none⟩), .pointer (some ⟨gY, 0, none⟩), c9, Qa,Qb, .pointer (some ⟨gS, 0, none⟩), .pointer (some ⟨gN, 0, none⟩), Jo,Qc,Jp,Jq,Qd,Qe,Qf,Qg,Qh,Qi,Qj, .int .i64 left, Jr,Js, .int .i64 inc, Qk,Ql,Qm,Qn, .int .i64 lv, Qo,Qp,Qq,YL,Jx,YM,YN,Qr,Qs,Qt,Qu,Qv,Qw,Qx,Qy,Qz,QA,QB,QC,QD,QE,QF,QG,QH,QI,QJ,QK,QL,QM,QN,QO,QP,QQ,QR,QS,QT,QU,QV,QW,QX,QY,QZ,Q0,Q1,Q2,Q3,Q4,Q5,Q6,Q7,Q8,Q9,Q_,Ua,Ub,Uc,Ud,Ue,Uf,Ug,Uh,Ui,Uj,Uk,Ul,Um,Un,Uo,Up,Uq,Ur,Us,Ut,Uu,Uv,Uw,Ux,Uy,Uz,UA,UB,UC,UD,UE,UF,UG,UH,UI,UJ,UK,UL,UM,UN,UO,UP,UQ,UR,US,UT,UU,UV,UW,UX,UY,UZ,U0,U1,U2,U3,U4,U5,U6,U7,U8,U9,U_,Va,Vb,Vc,Vd,Ve,Vf,Vg,Vh,Vi,Vj,Vk,Vl,Vm,Vn,Vo,Vp,Vq,Vr,Vs,Vt,Vu,Vv,Vw,Vx,Vy,Vz,VA,VB,VC,VD,VE,VF,VG,VH,VI,VJ,VK,VL,VM,VN,VO,VP,VQ,VR,VS,VT,VU,VV,VW,VX,VY,VZ,V0,V1,V2,V3,V4,V5,V6,V7,V8,V9,V_,YO,YP,YQ,YR,YS,YT,YU,YV,YW,YX,YY,YZ,Y0,Y1,Y2,Y3,Y4,Y5,Y6,Y7,Y8,Y9,Y_,Za,Zb,Zc,Zd,Ze,Zf,Zg,Zh,Zi,Zj,Zk,Zl,Zm,Zn,Zo,Zp,Zq,Zr,Zs,Zt,Zu,Zv,Zw,Zx,Zy,Zz,ZA,ZB,ZC,ZD,ZE,ZF,ZG,ZH,ZI,ZJ,ZK,ZL,ZM,ZN,ZO,ZP,ZQ,ZR,ZS,ZT,ZU,ZV,ZW,ZX,ZY,ZZ,Z0,Z1,Z2,Z3,Z4,Z5,Z6,Z7,Z8,Z9,Z_,Ja,Jb,Jc,Jd,Je,Jf,Jg,Jh,Ji,Jj,Jk,Jl,Jm,Jn,Xa,Xb,Xc,Xd,Xe,Xf,Xg,Xh,Xi,Xj,Xk,Xl,Xm,Xn,Xo,Xp,Xq,Xr,Xs,Xt,Xu,Xv,Xw,Xx,Xy,Xz,XA,XB,XC,XD,XE,XF,XG,XH,XI,XJ,XK,XL,XM,XN,XO,XP,XQ,XR,XS,XT,XU,XV,XW,XX,XY,XZ,X0,X1,X2,X3,X4,X5,X6,X7,X8,X9,X_,Ya,Yb,Yc,Yd,Ye,Yf,Yg,Yh,Yi,Yj,Yk,Yl,Ym,Yn,Yo,Yp,Yq,Ys,Yt,Yu,Yv,Yw,Yx,Yy,Yz,YA,YB,YC,YD,YE,YF,YG,YH,YI,YJ,YK], []⟩ wx := by
 have HX := Lib.hid hexit
 clear hexit
 have HW := Lib.hid fun (z : World) (hz : Below w.heap.size w z) => Withhold_ok r.tf HI.out.or.tf z (HI.out.sr.tf.below hz) r.count k y.inc y.wh y.iv y.tv (max inc 0) HI.out.or.count HI.out.ok.2 (by have := HI.out.oy.inc; have := HI.out.ok.1; omega) (by have := HI.out.oy.wh; have := HI.out.ok.1; omega) (by omega)
 simp only [Tf.vals] at HW
 have s1 : IntKind.i64.wrap (left - lv) = left - lv := IntWalk.i64_in _ (by omega)
 have cgR2 : wx.cell? ⟨gR, 2, none⟩ = some (.int .i64 r.tf.method) := Row.cell HR.out.R 2
 have cgR3 : wx.cell? ⟨gR, 3, none⟩ = some (r.tf.bv) := Row.cell HR.out.R 3
 have cgR4 : wx.cell? ⟨gR, 4, none⟩ = some (.int .i64 r.tf.allow) := Row.cell HR.out.R 4
 have cgR5 : wx.cell? ⟨gR, 5, none⟩ = some (.int .i64 r.tf.credit) := Row.cell HR.out.R 5
 have cgR6 : wx.cell? ⟨gR, 6, none⟩ = some (.int .i64 r.tf.unit) := Row.cell HR.out.R 6
 have cgR7 : wx.cell? ⟨gR, 7, none⟩ = some (.int .i64 r.tf.mode) := Row.cell HR.out.R 7
 have cgR8 : wx.cell? ⟨gR, 8, none⟩ = some (r.tf.rv) := Row.cell HR.out.R 8
 have cgR9 : wx.cell? ⟨gR, 9, none⟩ = some (.int .i64 r.count) := Row.cell HR.out.R 9
 have cgY0 : wx.cell? ⟨gY, 0, none⟩ = some (.int .i64 (k : Int)) := Row.cell HR.out.Y 0
 have cgY1 : wx.cell? ⟨gY, 1, none⟩ = some (.int .i64 y.inc) := Row.cell HR.out.Y 1
 have cgY2 : wx.cell? ⟨gY, 2, none⟩ = some (.int .i64 y.wh) := Row.cell HR.out.Y 2
 have cgY3 : wx.cell? ⟨gY, 3, none⟩ = some (y.iv) := Row.cell HR.out.Y 3
 have cgY4 : wx.cell? ⟨gY, 4, none⟩ = some (y.tv) := Row.cell HR.out.Y 4
 have lR := Row.lt HR.out.R
 have lY := Row.lt HR.out.Y
 go_wp2_with fail
 conv => arg 2; whnf
 go_wp2_with fail
 conv => arg 2; whnf
 go_wp2_with fail
 conv => arg 2; whnf
 go_wp2_with fail
 refine (HW.out _ HR.out.b).mono ?_
 rintro e w1 ⟨tx, rfl, k1⟩
 have HR1 := Lib.hid (HR.out.step k1)
 have HB1 := Lib.hid k1
 clear k1 HW HR lR lY cgR2 cgR3 cgR4 cgR5 cgR6 cgR7 cgR8 cgR9 cgY0 cgY1 cgY2 cgY3 cgY4
 go_wp2_with fail
 conv => arg 2; whnf
 go_wp2_with fail
 conv => arg 2; whnf
 go_wp2_with fail
 by_cases ht : -1000000000 ≤ tx ∧ tx ≤ 1000000000
 ·refine (Amount_ok _ ht).mono ?_
  rintro e _ ⟨rfl, rfl⟩
  have s2 : IntKind.i64.wrap (left - lv - tx) = left - lv - tx := IntWalk.i64_in _ (by omega)
  go_wp2_with fail
  conv => arg 2; whnf
  go_wp2_with fail
  conv => arg 2; whnf
  go_wp2_with fail
  exact HX.out _ _ _ _ _ _ _ _ _ _ _ _ _ _ _ _ _ _ _ _ _ _ _ _ _ _ _ _ _ _ tx _ ht HB1
 ·refine (Amount_no _ (by omega)).mono ?_
  rintro e _ ⟨rfl, rfl⟩
  go_wp2_with (first | (refine wpList_storeRow rfl 27 (.tmp 12) (.tmp 236) rfl z7 rfl rfl HR1.out.S (by decide) (by kernel_rfl) (by simp [Value.oneCell']) (by rfl) ?_; intro w8 R8 g8 _; have HN8 := Lib.hid (HR1.out.N.keep g8 (fun e => by have := HR1.out.lo; injection e; omega))) | (refine wpList_storeRow rfl 67 (.tmp 13) (.tmp 237) rfl z5 rfl rfl HN8.out (by decide) (by kernel_rfl) (by simp [Value.oneCell']) (by rfl) ?_; intro w9 R9 g9 _))
  exact cp_ret_zero ⟨rfl, rfl, rfl, ⟨4, rfl⟩, R8.keep g9 (fun e => by have := HR1.out.lo; injection e; omega), R9, (HR1.out.b.grown g8 HR1.out.b.size (fun g hg => by have := HR1.out.lo; injection hg; omega)).grown g9 (by have := g8.size; have := HR1.out.b.size; omega) (fun g hg => by have := HR1.out.lo; injection hg; omega)⟩
set_option maxRecDepth 1000000 in
set_option maxHeartbeats 8000000 in
theorem cpb {R : Code} {w wx : World} {r : Ru} {p : Ps} {k : Nat} {y : Yr} {kl : List Ln} {vk : Value} {el : List Ln} {ve : Value} {gR gP gY gS gN : Nat} {fst : Bool} {gB : Nat} {b0 b1 b2 b3 b4 left : Int} {c0 c1 c2 c3 c5 c9 Qa Qb Jo Qc Jq Qd Qe Qf Qg Qh Qi Qj Jr Js Ju Qk Ql Qm Qn Jv Qo Qp Qq YL YM YN Qr Qs Qt Qu Qv Qw Qx Qy Qz QA QB QC QD QE QF QG QH QI QJ QK QL QM QN QO QP QQ QR QS QT QU QV QW QX QY QZ Q0 Q1 Q2 Q3 Q4 Q5 Q6 Q7 Q8 Q9 Q_ Ua Ub Uc Ud Ue Uf Ug Uh Ui Uj Uk Ul Um Un Uo Up Uq Ur Us Ut Uu Uv Uw Ux Uy Uz UA UB UC UD UE UF UG UH UI UJ UK UL UM UN UO UP UQ UR US UT UU UV UW UX UY UZ U0 U1 U2 U3 U4 U5 U6 U7 U8 U9 U_ Va Vb Vc Vd Ve Vf Vg Vh Vi Vj Vk Vl Vm Vn Vo Vp Vq Vr Vs Vt Vu Vv Vw Vx Vy Vz VA VB VC VD VE VF VG VH VI VJ VK VL VM VN VO VP VQ VR VS VT VU VV VW VX VY VZ V0 V1 V2 V3 V4 V5 V6 V7 V8 V9 V_ YO YP YQ YR YS YT YU YV YW YX YY YZ Y0 Y1 Y2 Y3 Y4 Y5 Y6 Y7 Y8 Y9 Y_ Za Zb Zc Zd Ze Zf Zg Zh Zi Zj Zk Zl Zm Zn Zo Zp Zq Zr Zs Zt Zu Zv Zw Zx Zy Zz ZA ZB ZC ZD ZE ZF ZG ZH ZI ZJ ZK ZL ZM ZN ZO ZP ZQ ZR ZS ZT ZU ZV ZW ZX ZY ZZ Z0 Z1 Z2 Z3 Z4 Z5 Z6 Z7 Z8 Z9 Z_ Ja Jb Jc Jd Je Jf Jg Jh Ji Jj Jk Jl Jm Jn Xa Xb Xc Xd Xe Xf Xg Xh Xi Xj Xk Xl Xm Xn Xo Xp Xq Xr Xs Xt Xu Xv Xw Xx Xy Xz XA XB XC XD XE XF XG XH XI XJ XK XL XM XN XO XP XQ XR XS XT XU XV XW XX XY XZ X0 X1 X2 X3 X4 X5 X6 X7 X8 X9 X_ Ya Yb Yc Yd Ye Yf Yg Yh Yi Yj Yk Yl Ym Yn Yo Yp Yq Ys Yt Yu Yv Yw Yx Yy Yz YA YB YC YD YE YF YG YH YI YJ YK : Value}
  (HI : Hid (CpIn w r p k y kl vk el ve)) (HR : Hid (CpR w r p k y gR gP gY gS gN wx)) (HB : Hid (Bas wx gB b0 b1 b2 b3 b4)) (h1 : B75 b1) (h4 : B75 b4) (hl : -10000000000 ≤ left ∧ left ≤ 2000000000)
  (hexit : ∀ (Jw Jt J1 J2 J3 J4 J5 J6 J7 J8 J9 J_ Pa Pb Pc Pd Pe Pf Pg Ph Pi Pj Pk Pl Pm Pn Po : Value) (av : Value) (al : List Ln) (wr : World), TkO al → sumA al ≤ 1000000000 → Hid (Below wx.heap.size wx wr ∧ Sl wr 2 av (els al)) → Code.wp Tryz.prog R (bodyPost Tryz.prog Tryz.f19 (CompRes w)) ⟨#[c0, c1, c2, c3, .bool fst, c5, .pointer (some ⟨gR, 0, none⟩), .pointer (some ⟨gP, 0, none⟩), .pointer (some ⟨gY, 0, none⟩), c9, Qa,Qb, .pointer (some ⟨gS, 0, none⟩), .pointer (some ⟨gN, 0, none⟩), Jw,Qc, .pointer (some ⟨gB, 0, none⟩), Jt,Qd,Qe,Qf,Qg,Qh,Qi,Qj, .int .i64 left, Jr,Js,Ju,Qk,Ql,Qm,Qn,Jv,Qo,Qp,Qq,YL, av, YM,YN,Qr,Qs,Qt,Qu,Qv,Qw,Qx,Qy,Qz,QA,QB,QC,QD,QE,QF,QG,QH,QI,QJ,QK,QL,QM,QN,QO,QP,QQ,QR,QS,QT,QU,QV,QW,QX,QY,QZ,Q0,Q1,Q2,Q3,Q4,Q5,Q6,Q7,Q8,Q9,Q_,Ua,Ub,Uc,Ud,Ue,Uf,Ug,Uh,Ui,Uj,Uk,Ul,Um,Un,Uo,Up,Uq,Ur,Us,Ut,Uu,Uv,Uw,Ux,Uy,Uz,UA,UB,UC,UD,UE,UF,UG,UH,UI,UJ,UK,UL,UM,UN,UO,UP,UQ,UR,US,UT,UU,UV,UW,UX,UY,UZ,U0,U1,U2,U3,U4,U5,U6,U7,U8,U9,U_,Va,Vb,Vc,Vd,Ve,Vf,Vg,Vh,Vi,Vj,Vk,Vl,Vm,Vn,Vo,Vp,Vq,Vr,Vs,Vt,Vu,Vv,Vw,Vx,Vy,Vz,VA,VB,VC,VD,VE,VF,VG,VH,VI,VJ,VK,VL,VM,VN,VO,VP,VQ,VR,VS,VT,VU,VV,VW,VX,VY,VZ,V0,V1,V2,V3,V4,V5,V6,V7,V8,V9,V_,YO,YP,YQ,YR,YS,YT,YU,YV,YW,YX,YY,YZ,Y0,Y1,Y2,Y3,Y4,Y5,Y6,Y7,Y8,Y9,Y_,Za,Zb,Zc,Zd,Ze,Zf,J1,J2,J3,J4,J5,J6,J7,J8,J9,J_,Pa,Pb,Pc,Pd,Pe,Pf,Pg,Ph,Pi,Pj,Pk,Pl,Pm,Pn,Po,ZF,ZG,ZH,ZI,ZJ,ZK,ZL,ZM,ZN,ZO,ZP,ZQ,ZR,ZS,ZT,ZU,ZV,ZW,ZX,ZY,ZZ,Z0,Z1,Z2,Z3,Z4,Z5,Z6,Z7,Z8,Z9,Z_,Ja,Jb,Jc,Jd,Je,Jf,Jg,Jh,Ji,Jj,Jk,Jl,Jm,Jn,Xa,Xb,Xc,Xd,Xe,Xf,Xg,Xh,Xi,Xj,Xk,Xl,Xm,Xn,Xo,Xp,Xq,Xr,Xs,Xt,Xu,Xv,Xw,Xx,Xy,Xz,XA,XB,XC,XD,XE,XF,XG,XH,XI,XJ,XK,XL,XM,XN,XO,XP,XQ,XR,XS,XT,XU,XV,XW,XX,XY,XZ,X0,X1,X2,X3,X4,X5,X6,X7,X8,X9,X_,Ya,Yb,Yc,Yd,Ye,Yf,Yg,Yh,Yi,Yj,Yk,Yl,Ym,Yn,Yo,Yp,Yq,Ys,Yt,Yu,Yv,Yw,Yx,Yy,Yz,YA,YB,YC,YD,YE,YF,YG,YH,YI,YJ,YK], []⟩ wr) :
  Code.wp Tryz.prog (Code.seq (st 24) (R)) (bodyPost Tryz.prog Tryz.f19 (CompRes w)) ⟨#[c0, c1, c2, c3, .bool fst, c5, .pointer (some ⟨gR, 0, none⟩), .pointer (some ⟨gP, 0, none⟩), .pointer (some ⟨gY, 0, none⟩), c9, Qa,Qb, .pointer (some ⟨gS, 0, none⟩), .pointer (some ⟨gN, 0, none⟩), Jo,Qc, .pointer (some ⟨gB, 0, none⟩), Jq,Qd,Qe,Qf,Qg,Qh,Qi,Qj, .int .i64 left, Jr,Js,Ju,Qk,Ql,Qm,Qn,Jv,Qo,Qp,Qq,YL, vk, YM,YN,Qr,Qs,Qt,Qu,Qv,Qw,Qx,Qy,Qz,QA,QB,QC,QD,QE,QF,QG,QH,QI,QJ,QK,QL,QM,QN,QO,QP,QQ,QR,QS,QT,QU,QV,QW,QX,QY,QZ,Q0,Q1,Q2,Q3,Q4,Q5,Q6,Q7,Q8,Q9,Q_,Ua,Ub,Uc,Ud,Ue,Uf,Ug,Uh,Ui,Uj,Uk,Ul,Um,Un,Uo,Up,Uq,Ur,Us,Ut,Uu,Uv,Uw,Ux,Uy,Uz,UA,UB,UC,UD,UE,UF,UG,UH,UI,UJ,UK,UL,UM,UN,UO,UP,UQ,UR,US,UT,UU,UV,UW,UX,UY,UZ,U0,U1,U2,U3,U4,U5,U6,U7,U8,U9,U_,Va,Vb,Vc,Vd,Ve,Vf,Vg,Vh,Vi,Vj,Vk,Vl,Vm,Vn,Vo,Vp,Vq,Vr,Vs,Vt,Vu,Vv,Vw,Vx,Vy,Vz,VA,VB,VC,VD,VE,VF,VG,VH,VI,VJ,VK,VL,VM,VN,VO,VP,VQ,VR,VS,VT,VU,VV,VW,VX,VY,VZ,V0,V1,V2,V3,V4,V5,V6,V7,V8,V9,V_,YO,YP,YQ,YR,YS,YT,YU,YV,YW,YX,YY,YZ,Y0,Y1,Y2,Y3,Y4,Y5,Y6,Y7,Y8,Y9,Y_,Za,Zb,Zc,Zd,Ze,Zf,Zg,Zh,Zi,Zj,Zk,Zl,Zm,Zn,Zo,Zp,Zq,Zr,Zs,Zt,Zu,Zv,Zw,Zx,Zy,Zz,ZA,ZB,ZC,ZD,ZE,ZF,ZG,ZH,ZI,ZJ,ZK,ZL,ZM,ZN,ZO,ZP,ZQ,ZR,ZS,ZT,ZU,ZV,ZW,ZX,ZY,ZZ,Z0,Z1,Z2,Z3,Z4,Z5,Z6,Z7,Z8,Z9,Z_,Ja,Jb,Jc,Jd,Je,Jf,Jg,Jh,Ji,Jj,Jk,Jl,Jm,Jn,Xa,Xb,Xc,Xd,Xe,Xf,Xg,Xh,Xi,Xj,Xk,Xl,Xm,Xn,Xo,Xp,Xq,Xr,Xs,Xt,Xu,Xv,Xw,Xx,Xy,Xz,XA,XB,XC,XD,XE,XF,XG,XH,XI,XJ,XK,XL,XM,XN,XO,XP,XQ,XR,XS,XT,XU,XV,XW,XX,XY,XZ,X0,X1,X2,X3,X4,X5,X6,X7,X8,X9,X_,Ya,Yb,Yc,Yd,Ye,Yf,Yg,Yh,Yi,Yj,Yk,Yl,Ym,Yn,Yo,Yp,Yq,Ys,Yt,Yu,Yv,Yw,Yx,Yy,Yz,YA,YB,YC,YD,YE,YF,YG,YH,YI,YJ,YK], []⟩ wx := by
 have HX := Lib.hid hexit
 clear hexit
 unfold B75 at h1 h4
 cases fst
 ·have HE := Lib.hid (HI.out.sk.below HR.out.b)
  go_wp2_with fail
  conv => arg 2; whnf
  go_wp2_with fail
  exact HX.out _ _ _ _ _ _ _ _ _ _ _ _ _ _ _ _ _ _ _ _ _ _ _ _ _ _ _ vk kl _ HI.out.okl HI.out.oks (Lib.hid ⟨Below.refl _ _, HE.out⟩)
 ·have s1 : IntKind.i64.wrap (b1 - b4) = b1 - b4 := IntWalk.i64_in _ (by omega)
  have s2 : IntKind.i64.wrap (left - max (b1 - b4) 0) = left - max (b1 - b4) 0 := IntWalk.i64_in _ (by omega)
  have cgR10 : wx.cell? ⟨gR, 10, none⟩ = some (.int .i64 r.sh.fixed) := Row.cell HR.out.R 10
  have cgR11 : wx.cell? ⟨gR, 11, none⟩ = some (.int .i64 r.sh.dep) := Row.cell HR.out.R 11
  have cgR12 : wx.cell? ⟨gR, 12, none⟩ = some (.int .i64 r.sh.lower) := Row.cell HR.out.R 12
  have cgR13 : wx.cell? ⟨gR, 13, none⟩ = some (.int .i64 r.sh.share) := Row.cell HR.out.R 13
  have cgR14 : wx.cell? ⟨gR, 14, none⟩ = some (.int .i64 r.sh.top) := Row.cell HR.out.R 14
  have cgP0 : wx.cell? ⟨gP, 0, none⟩ = some (.int .i64 p.dep) := Row.cell HR.out.P 0
  have cgP2 : wx.cell? ⟨gP, 2, none⟩ = some (p.ov) := Row.cell HR.out.P 2
  have cgB1 : wx.cell? ⟨gB, 1, none⟩ = some (.int .i64 b1) := Row.cell HB.out 1
  have cgB4 : wx.cell? ⟨gB, 4, none⟩ = some (.int .i64 b4) := Row.cell HB.out 4
  have lR := Row.lt HR.out.R
  have lP := Row.lt HR.out.P
  have lB := Row.lt HB.out
  have hdp := HI.out.op.dep
  by_cases hn : max (left - max (b1 - b4) 0) 0 ≤ 1000000000
  ·have HA := Lib.hid (Attach_ok r.sh HI.out.or.sh (max (left - max (b1 - b4) 0) 0) p.dep ⟨by omega, hn⟩ ⟨hdp.1, by omega⟩ p.ord HI.out.op.ord p.ov wx (HI.out.sp.ord.below HR.out.b))
   simp only [Sh.vals] at HA
   go_wp2_with fail
   conv => arg 2; whnf
   go_wp2_with fail
   refine HA.out.mono ?_
   rintro e w1 ⟨av, al, rfl, tk1, su1, sl1, k1⟩
   have HE := Lib.hid (And.intro k1 sl1)
   clear HA k1 sl1 cgR10 cgR11 cgR12 cgR13 cgR14 cgP0 cgP2 cgB1 cgB4 lR lP lB
   go_wp2_with fail
   exact HX.out _ _ _ _ _ _ _ _ _ _ _ _ _ _ _ _ _ _ _ _ _ _ _ _ _ _ _ av al _ tk1 (by omega) HE
  ·have HA := Lib.hid (Attach_no r.sh HI.out.or.sh wx (max (left - max (b1 - b4) 0) 0) p.dep (by omega) p.ord HI.out.op.ord p.ov (HI.out.sp.ord.below HR.out.b))
   simp only [Sh.vals] at HA
   go_wp2_with fail
   conv => arg 2; whnf
   go_wp2_with fail
   refine HA.out.mono ?_
   rintro e w1 ⟨rfl, k1⟩
   have HR1 := Lib.hid (HR.out.step k1)
   clear HA k1 cgR10 cgR11 cgR12 cgR13 cgR14 cgP0 cgP2 cgB1 cgB4 lR lP lB
   go_wp2_with (first | (refine wpList_storeRow rfl 27 (.tmp 12) (.tmp 264) rfl z7 rfl rfl HR1.out.S (by decide) (by kernel_rfl) (by simp [Value.oneCell']) (by rfl) ?_; intro w8 R8 g8 _; have HN8 := Lib.hid (HR1.out.N.keep g8 (fun e => by have := HR1.out.lo; injection e; omega))) | (refine wpList_storeRow rfl 67 (.tmp 13) (.tmp 265) rfl z5 rfl rfl HN8.out (by decide) (by kernel_rfl) (by simp [Value.oneCell']) (by rfl) ?_; intro w9 R9 g9 _))
   exact cp_ret_zero ⟨rfl, rfl, rfl, ⟨2, rfl⟩, R8.keep g9 (fun e => by have := HR1.out.lo; injection e; omega), R9, (HR1.out.b.grown g8 HR1.out.b.size (fun g hg => by have := HR1.out.lo; injection hg; omega)).grown g9 (by have := g8.size; have := HR1.out.b.size; omega) (fun g hg => by have := HR1.out.lo; injection hg; omega)⟩
set_option maxRecDepth 1000000 in
set_option maxHeartbeats 8000000 in
theorem cpc {R : Code} {w wx : World} {r : Ru} {p : Ps} {k : Nat} {y : Yr} {kl : List Ln} {vk : Value} {el : List Ln} {ve : Value} {gR gP gY gS gN : Nat} {left base : Int} {bf al : List Ln} {bv av : Value} {c0 c1 c2 c3 c4 c5 c9 Qa Qb Jo Qc Jp Jq Qd Qe Qf Qg Qh Qi Qj Ju Qk Ql Qm Qn Jv Qo Qp Qq YL YM YN Qr Qs Qt Qu Qv Qw Qx Qy Qz QA QB QC QD QE QF QG QH QI QJ QK QL QM QN QO QP QQ QR QS QT QU QV QW QX QY QZ Q0 Q1 Q2 Q3 Q4 Q5 Q6 Q7 Q8 Q9 Q_ Ua Ub Uc Ud Ue Uf Ug Uh Ui Uj Uk Ul Um Un Uo Up Uq Ur Us Ut Uu Uv Uw Ux Uy Uz UA UB UC UD UE UF UG UH UI UJ UK UL UM UN UO UP UQ UR US UT UU UV UW UX UY UZ U0 U1 U2 U3 U4 U5 U6 U7 U8 U9 U_ Va Vb Vc Vd Ve Vf Vg Vh Vi Vj Vk Vl Vm Vn Vo Vp Vq Vr Vs Vt Vu Vv Vw Vx Vy Vz VA VB VC VD VE VF VG VH VI VJ VK VL VM VN VO VP VQ VR VS VT VU VV VW VX VY VZ V0 V1 V2 V3 V4 V5 V6 V7 V8 V9 V_ YO YP YQ YR YS YT YU YV YW YX YY YZ Y0 Y1 Y2 Y3 Y4 Y5 Y6 Y7 Y8 Y9 Y_ Za Zb Zc Zd Ze Zf Zg Zh Zi Zj Zk Zl Zm Zn Zo Zp Zq Zr Zs Zt Zu Zv Zw Zx Zy Zz ZA ZB ZC ZD ZE ZF ZG ZH ZI ZJ ZK ZL ZM ZN ZO ZP ZQ ZR ZS ZT ZU ZV ZW ZX ZY ZZ Z0 Z1 Z2 Z3 Z4 Z5 Z6 Z7 Z8 Z9 Z_ Ja Jb Jc Jd Je Jf Jg Jh Ji Jj Jk Jl Jm Jn Xa Xb Xc Xd Xe Xf Xg Xh Xi Xj Xk Xl Xm Xn Xo Xp Xq Xr Xs Xt Xu Xv Xw Xx Xy Xz XA XB XC XD XE XF XG XH XI XJ XK XL XM XN XO XP XQ XR XS XT XU XV XW XX XY XZ X0 X1 X2 X3 X4 X5 X6 X7 X8 X9 X_ Ya Yb Yc Yd Ye Yf Yg Yh Yi Yj Yk Yl Ym Yn Yo Yp Yq Ys Yt Yu Yv Yw Yx Yy Yz YA YB YC YD YE YF YG YH YI YJ YK : Value}
    (HI : Hid (CpIn w r p k y kl vk el ve)) (HR : Hid (CpR w r p k y gR gP gY gS gN wx)) (HB : Hid (Sl wx 2 bv (els bf))) (HA : Hid (Sl wx 2 av (els al))) (hbf : TkOk bf) (hbs : sumA bf ≤ 75000000) (hal : TkO al) (has : sumA al ≤ 1000000000) (hb : 0 ≤ base ∧ base ≤ 75000000) (hl : -10000000000 ≤ left ∧ left ≤ 2000000000)
    (hexit : ∀ (Jw Jt Pp Pq Pr Pt Pu Pv Pw Px Py Pz PA PB PC PD PE PF PG PH PI PJ PK PL PM PN PO PP PQ PR PS PT PU PV PW PX PY PZ P0 P1 P2 P3 P4 P5 P6 P7 P8 P9 : Value) (lf2 : Int) (At : Option Addr) (nt ct : Nat) (fv : Value) (af : List Ln) (wr : World), TkOk af → sumA af ≤ 1000000000 → (-20000000000 ≤ lf2 ∧ lf2 ≤ 2000000000) → Hid (Below wx.heap.size wx wr ∧ Sl wr 2 fv (els af)) → Code.wp Tryz.prog R (bodyPost Tryz.prog Tryz.f19 (CompRes w)) ⟨#[c0, c1, c2, c3, c4, c5, .pointer (some ⟨gR, 0, none⟩), .pointer (some ⟨gP, 0, none⟩), .pointer (some ⟨gY, 0, none⟩), c9, Qa,Qb, .pointer (some ⟨gS, 0, none⟩), .pointer (some ⟨gN, 0, none⟩), Jw,Qc,Jp,Jt,Qd,Qe,Qf,Qg,Qh,Qi,Qj, .int .i64 lf2, .int .i64 base, bv, Ju,Qk,Ql,Qm,Qn,Jv,Qo,Qp,Qq,YL, av, .slice At nt ct, fv, Qr,Qs,Qt,Qu,Qv,Qw,Qx,Qy,Qz,QA,QB,QC,QD,QE,QF,QG,QH,QI,QJ,QK,QL,QM,QN,QO,QP,QQ,QR,QS,QT,QU,QV,QW,QX,QY,QZ,Q0,Q1,Q2,Q3,Q4,Q5,Q6,Q7,Q8,Q9,Q_,Ua,Ub,Uc,Ud,Ue,Uf,Ug,Uh,Ui,Uj,Uk,Ul,Um,Un,Uo,Up,Uq,Ur,Us,Ut,Uu,Uv,Uw,Ux,Uy,Uz,UA,UB,UC,UD,UE,UF,UG,UH,UI,UJ,UK,UL,UM,UN,UO,UP,UQ,UR,US,UT,UU,UV,UW,UX,UY,UZ,U0,U1,U2,U3,U4,U5,U6,U7,U8,U9,U_,Va,Vb,Vc,Vd,Ve,Vf,Vg,Vh,Vi,Vj,Vk,Vl,Vm,Vn,Vo,Vp,Vq,Vr,Vs,Vt,Vu,Vv,Vw,Vx,Vy,Vz,VA,VB,VC,VD,VE,VF,VG,VH,VI,VJ,VK,VL,VM,VN,VO,VP,VQ,VR,VS,VT,VU,VV,VW,VX,VY,VZ,V0,V1,V2,V3,V4,V5,V6,V7,V8,V9,V_,YO,YP,YQ,YR,YS,YT,YU,YV,YW,YX,YY,YZ,Y0,Y1,Y2,Y3,Y4,Y5,Y6,Y7,Y8,Y9,Y_,Za,Zb,Zc,Zd,Ze,Zf,Zg,Zh,Zi,Zj,Zk,Zl,Zm,Zn,Zo,Zp,Zq,Zr,Zs,Zt,Zu,Zv,Zw,Zx,Zy,Zz,ZA,ZB,ZC,ZD,ZE,Pp,Pq,Pr,Pt,Pu,Pv,Pw,Px,Py,Pz,PA,PB,PC,PD,PE,PF,PG,PH,PI,PJ,PK,PL,PM,PN,PO,PP,PQ,PR,PS,PT,PU,PV,PW,PX,PY,PZ,P0,P1,P2,P3,P4,P5,P6,P7,P8,P9,Xa,Xb,Xc,Xd,Xe,Xf,Xg,Xh,Xi,Xj,Xk,Xl,Xm,Xn,Xo,Xp,Xq,Xr,Xs,Xt,Xu,Xv,Xw,Xx,Xy,Xz,XA,XB,XC,XD,XE,XF,XG,XH,XI,XJ,XK,XL,XM,XN,XO,XP,XQ,XR,XS,XT,XU,XV,XW,XX,XY,XZ,X0,X1,X2,X3,X4,X5,X6,X7,X8,X9,X_,Ya,Yb,Yc,Yd,Ye,Yf,Yg,Yh,Yi,Yj,Yk,Yl,Ym,Yn,Yo,Yp,Yq,Ys,Yt,Yu,Yv,Yw,Yx,Yy,Yz,YA,YB,YC,YD,YE,YF,YG,YH,YI,YJ,YK], []⟩ wr) :
    Code.wp Tryz.prog (Code.seq (st 25) (Code.seq (st 26) (Code.seq (st 27) (Code.seq (st 28) (Code.seq (st 29) (Code.seq (st 30) (Code.seq (st 31) (Code.seq (st 32) (R))))))))) (bodyPost Tryz.prog Tryz.f19 (CompRes w)) ⟨#[c0, c1, c2, c3, c4, c5, .pointer (some ⟨gR, 0, none⟩), .pointer (some ⟨gP, 0, none⟩), .pointer (some ⟨gY, 0, none⟩), c9, Qa,Qb, .pointer (some ⟨gS, 0, none⟩), .pointer (some ⟨gN, 0, none⟩), Jo,Qc,Jp,Jq,Qd,Qe,Qf,Qg,Qh,Qi,Qj, .int .i64 left, .int .i64 base, bv, Ju,Qk,Ql,Qm,Qn,Jv,Qo,Qp,Qq,YL, av, YM,YN,Qr,Qs,Qt,Qu,Qv,Qw,Qx,Qy,Qz,QA,QB,QC,QD,QE,QF,QG,QH,QI,QJ,QK,QL,QM,QN,QO,QP,QQ,QR,QS,QT,QU,QV,QW,QX,QY,QZ,Q0,Q1,Q2,Q3,Q4,Q5,Q6,Q7,Q8,Q9,Q_,Ua,Ub,Uc,Ud,Ue,Uf,Ug,Uh,Ui,Uj,Uk,Ul,Um,Un,Uo,Up,Uq,Ur,Us,Ut,Uu,Uv,Uw,Ux,Uy,Uz,UA,UB,UC,UD,UE,UF,UG,UH,UI,UJ,UK,UL,UM,UN,UO,UP,UQ,UR,US,UT,UU,UV,UW,UX,UY,UZ,U0,U1,U2,U3,U4,U5,U6,U7,U8,U9,U_,Va,Vb,Vc,Vd,Ve,Vf,Vg,Vh,Vi,Vj,Vk,Vl,Vm,Vn,Vo,Vp,Vq,Vr,Vs,Vt,Vu,Vv,Vw,Vx,Vy,Vz,VA,VB,VC,VD,VE,VF,VG,VH,VI,VJ,VK,VL,VM,VN,VO,VP,VQ,VR,VS,VT,VU,VV,VW,VX,VY,VZ,V0,V1,V2,V3,V4,V5,V6,V7,V8,V9,V_,YO,YP,YQ,YR,YS,YT,YU,YV,YW,YX,YY,YZ,Y0,Y1,Y2,Y3,Y4,Y5,Y6,Y7,Y8,Y9,Y_,Za,Zb,Zc,Zd,Ze,Zf,Zg,Zh,Zi,Zj,Zk,Zl,Zm,Zn,Zo,Zp,Zq,Zr,Zs,Zt,Zu,Zv,Zw,Zx,Zy,Zz,ZA,ZB,ZC,ZD,ZE,ZF,ZG,ZH,ZI,ZJ,ZK,ZL,ZM,ZN,ZO,ZP,ZQ,ZR,ZS,ZT,ZU,ZV,ZW,ZX,ZY,ZZ,Z0,Z1,Z2,Z3,Z4,Z5,Z6,Z7,Z8,Z9,Z_,Ja,Jb,Jc,Jd,Je,Jf,Jg,Jh,Ji,Jj,Jk,Jl,Jm,Jn,Xa,Xb,Xc,Xd,Xe,Xf,Xg,Xh,Xi,Xj,Xk,Xl,Xm,Xn,Xo,Xp,Xq,Xr,Xs,Xt,Xu,Xv,Xw,Xx,Xy,Xz,XA,XB,XC,XD,XE,XF,XG,XH,XI,XJ,XK,XL,XM,XN,XO,XP,XQ,XR,XS,XT,XU,XV,XW,XX,XY,XZ,X0,X1,X2,X3,X4,X5,X6,X7,X8,X9,X_,Ya,Yb,Yc,Yd,Ye,Yf,Yg,Yh,Yi,Yj,Yk,Yl,Ym,Yn,Yo,Yp,Yq,Ys,Yt,Yu,Yv,Yw,Yx,Yy,Yz,YA,YB,YC,YD,YE,YF,YG,YH,YI,YJ,YK], []⟩ wx := by
  have HX := Lib.hid hexit
  clear hexit
  have ha0 := sumA_nonneg hal.pos
  have hb0 := sumA_nonneg hbf.pos
  have hyt := tk_of HI.out.oy.tak
  have hys := tk_sum HI.out.oy.tak
  have hy0 := sumA_nonneg hyt.pos
  have HS1 := Lib.hid (SumE_any al av wx HA.out (by have := hal.len; omega) (fun x hx => by have := hal.pos x hx; have := sumA_mem hal.pos hx; omega))
  have HAD := Lib.hid (Add_ok _ bf y.tv bv wx (by rw [els_ln]; exact HI.out.sy.tak.below HR.out.b) HB.out hyt hbf (by omega) (by omega))
  have HTK := Lib.hid fun (z : World) (hz : Below w.heap.size w z) (l1 : List Ln) (v1 : Value) (av : Int) (hv1 : Sl z 2 v1 (els l1)) (h1 : TkOk l1) (h2 : sumA l1 ≤ 1000000000) => (show _ ∧ _ from
    have ha : ∀ x ∈ l1, 0 ≤ x.amt ∧ x.amt ≤ 1000000000000 := fun x hx => by have := h1.pos x hx; have := sumA_mem h1.pos hx; omega
    ⟨fun (h3 : 0 ≤ av ∧ av ≤ 1000000000) => Take_ok p.ded HI.out.op.ded false base av l1 p.dv v1 z (HI.out.sp.ded.below hz) hv1 (by have := h1.len; omega) (RcOk.pair h1) (fun x hx => litC_name _ (h1.code x hx)) ha ⟨hb.1, by omega⟩ h3,
     fun (h3 : 1000000000 < av) => Take_no p.ded HI.out.op.ded false base av l1 p.dv v1 z (HI.out.sp.ded.below hz) hv1 (by have := h1.len; omega) (RcOk.pair h1) (fun x hx => litC_name _ (h1.code x hx)) ha ⟨hb.1, by omega⟩ h3⟩)
  have s1 : IntKind.i64.wrap (left - sumA al) = left - sumA al := IntWalk.i64_in _ (by omega)
  obtain ⟨sa, hsa⟩ : ∃ sa, sumA al = sa := ⟨_, rfl⟩
  rw [hsa] at HS1 s1 ha0 has
  clear hsa HB HA
  go_wp2_with fail
  conv => arg 2; whnf
  go_wp2_with fail
  refine HS1.out.mono ?_
  rintro e _ ⟨rfl, rfl⟩
  have cgY4 : wx.cell? ⟨gY, 4, none⟩ = some (y.tv) := Row.cell HR.out.Y 4
  have lY := Row.lt HR.out.Y
  clear HS1
  go_wp2_with fail
  conv => arg 2; whnf
  go_wp2_with fail
  refine HAD.out.mono ?_
  rintro e w1 ⟨v1, l1, rfl, tk1, su1, ow1, k1⟩
  have HR1 := Lib.hid (HR.out.step k1)
  have HB1 := Lib.hid k1
  have HV1 := Lib.hid (ow1.sl (by omega))
  have HT1 := Lib.hid tk1
  have hs1 : sumA l1 ≤ 1000000000 := by omega
  have hl0 := sumA_nonneg tk1.pos
  have HTT := Lib.hid (HTK.out w1 HR1.out.b l1 v1 (max (left - sa) 0) HV1.out HT1.out hs1)
  clear su1 k1 ow1 tk1 HAD cgY4 lY HR HTK
  go_wp2_with fail
  conv => arg 2; whnf
  go_wp2_with fail
  conv => arg 2; whnf
  have cgP1 : w1.cell? ⟨gP, 1, none⟩ = some (p.dv) := Row.cell HR1.out.P 1
  have lP := Row.lt HR1.out.P
  go_wp2_with fail
  by_cases hn : max (left - sa) 0 ≤ 1000000000
  · refine (HTT.out.1 ⟨by omega, hn⟩).mono ?_
    rintro e w2 ⟨fv, af, rfl, tk2, su2, ow2, k2⟩
    have HB2 := Lib.hid (below_after HB1.out k2 HB1.out.size)
    have HV2 := Lib.hid (ow2.sl (by omega))
    have HVT := Lib.hid (HV1.out.below k2)
    have HT2 := Lib.hid tk2
    have hf0 := sumA_nonneg tk2.pos
    have HS2 := Lib.hid (SumE_any af fv w2 HV2.out (by have := tk2.len; omega) (fun x hx => by have := tk2.pos x hx; have := sumA_mem tk2.pos hx; omega))
    have HAD2 := Lib.hid (Add_ok l1 af v1 fv w2 HVT.out HV2.out HT1.out tk2 (by omega) (by omega))
    obtain ⟨sf, hsf⟩ : ∃ sf, sumA af = sf := ⟨_, rfl⟩
    have HSF := Lib.hid hsf
    rw [hsf] at HS2 hf0 su2
    have s2 : IntKind.i64.wrap (left - sa - sf) = left - sa - sf := IntWalk.i64_in _ (by omega)
    clear hsf k2 ow2 tk2 cgP1 lP HTT
    go_wp2_with fail
    conv => arg 2; whnf
    go_wp2_with fail
    conv => arg 2; whnf
    go_wp2_with fail
    refine HS2.out.mono ?_
    rintro e _ ⟨rfl, rfl⟩
    clear HS2
    go_wp2_with fail
    conv => arg 2; whnf
    go_wp2_with fail
    refine HAD2.out.mono ?_
    rintro e w3 ⟨v3, l3, rfl, -, -, ow3, k3⟩
    obtain ⟨At, ct, hform⟩ := ow3.form
    subst hform
    have HE := Lib.hid (And.intro (below_after HB2.out k3 HB2.out.size) (HV2.out.below k3))
    clear k3 ow3 HAD2
    go_wp2_with fail
    conv => arg 2; whnf
    go_wp2_with fail
    exact HX.out _ _ _ _ _ _ _ _ _ _ _ _ _ _ _ _ _ _ _ _ _ _ _ _ _ _ _ _ _ _ _ _ _ _ _ _ _ _ _ _ _ _ _ _ _ _ _ _ _ _ _ _ fv af _ HT2.out (by rw [HSF.out]; omega) (by omega) HE
  · refine (HTT.out.2 (by omega)).mono ?_
    rintro e w2 ⟨rfl, k2⟩
    have HR2 := Lib.hid (HR1.out.step k2)
    clear k2 cgP1 lP HTT
    go_wp2_with fail
    conv => arg 2; whnf
    go_wp2_with (first | (refine wpList_storeRow rfl 27 (.tmp 12) (.tmp 295) rfl z7 rfl rfl HR2.out.S (by decide) (by kernel_rfl) (by simp [Value.oneCell']) (by rfl) ?_; intro w8 R8 g8 _; have HN8 := Lib.hid (HR2.out.N.keep g8 (fun e => by have := HR2.out.lo; injection e; omega))) | (refine wpList_storeRow rfl 67 (.tmp 13) (.tmp 296) rfl z5 rfl rfl HN8.out (by decide) (by kernel_rfl) (by simp [Value.oneCell']) (by rfl) ?_; intro w9 R9 g9 _))
    exact cp_ret_zero ⟨rfl, rfl, rfl, ⟨2, rfl⟩, R8.keep g9 (fun e => by have := HR2.out.lo; injection e; omega), R9, (HR2.out.b.grown g8 HR2.out.b.size (fun g hg => by have := HR2.out.lo; injection hg; omega)).grown g9 (by have := g8.size; have := HR2.out.b.size; omega) (fun g hg => by have := HR2.out.lo; injection hg; omega)⟩
end Go.Proofs.YtogdefomigiepaaGreatDoor
