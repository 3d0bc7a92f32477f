/- Contracts and plain facts that the laws of this seat share, part 16. -/
import Derived.Test.YtogdefomigiepaaGreatDoorPkN
import Derived.Deep.RegionHeld3
set_option linter.unusedVariables false
set_option linter.unusedSimpArgs false
/- payrollref32.Compute: the statements 0 to 15 (a part of them). Written by gen_cpa.py. -/
namespace Go.Proofs.YtogdefomigiepaaGreatDoor
open Go.RowKit

set_option maxRecDepth 1000000 in
set_option maxHeartbeats 8000000 in
theorem cp7 {R : Code} {w wx : World} {r : Ru} {p : Ps} {k : Nat} {y : Yr} {kl : List Ln} {vk : Value} {el : List Ln} {ve : Value} {gR gP gY gS gN : Nat} {gB : Nat} {b0 b1 b2 b3 b4 : Int} {c0 c1 c2 c3 c4 c5 c9 Qa Qb ZH Qc ZI Qd Qe Qf Qg Qh Qi Qj ZJ ZK ZL ZM ZN ZO ZP ZQ ZR Qk Ql Qm Qn Qo Qp Qq Qr Qs Qt Qu Qv Qw Qx Qy Qz QA QB QC QD QE QF QG QH QI QJ QK QL QM QN QO QP QQ QR QS QT QU QV QW QX QY QZ Q0 Q1 Q2 Q3 Q4 Q5 Q6 Q7 Q8 Q9 Q_ Ua Ub Uc Ud Ue Uf Ug Uh Ui Uj Uk Ul Um Un Uo Up Uq ZS ZT ZU ZV ZW ZX ZY ZZ Z0 Z1 Z2 Z3 Z4 Z5 Z6 Z7 Z8 Z9 Z_ Ja Jb Jc Jd Je Jf Jg Jh Ji Jj Jk Jl Jm Jn Jo Jp Jq Jr Js Jt Ju Jv Ur Us Ut Uu Uv Uw Ux Uy Uz UA UB UC UD UE UF UG UH UI UJ UK UL UM UN UO UP UQ UR US UT UU UV UW UX UY UZ U0 U1 U2 U3 U4 U5 U6 U7 U8 U9 U_ Va Vb Vc Vd Ve Vf Vg Vh Vi Vj Vk Vl Vm Vn Vo Vp Vq Vr Vs Vt Vu Vv Vw Vx Vy Vz VA VB VC VD VE VF VG VH VI VJ VK VL VM VN VO VP VQ VR VS VT VU VV VW VX VY VZ V0 V1 V2 V3 V4 V5 V6 V7 V8 V9 V_ Xa Xb Xc Xd Xe Xf Xg Xh Xi Xj Xk Xl Xm Xn Xo Xp Xq Xr Xs Xt Xu Xv Xw Xx Xy Xz XA XB XC XD XE XF XG XH XI XJ XK XL XM XN XO XP XQ XR XS XT XU XV XW XX XY XZ X0 X1 X2 X3 X4 X5 X6 X7 X8 X9 X_ Ya Yb Yc Yd Ye Yf Yg Yh Yi Yj Yk Yl Ym Yn Yo Yp Yq Ys Yt Yu Yv Yw Yx Yy Yz YA YB YC YD YE YF YG YH YI YJ YK YL YM YN YO YP YQ YR YS YT YU YV YW YX YY YZ Y0 Y1 Y2 Y3 Y4 Y5 Y6 Y7 Y8 Y9 Y_ Za Zb Zc Zd Ze Zf Zg Zh Zi Zj Zk Zl Zm Zn Zo Zp Zq Zr Zs Zt Zu Zv Zw Zx Zy Zz ZA ZB ZC ZD ZE ZF ZG : Value}
  (HI : Hid (CpIn w r p k y kl vk el ve)) (HR : Hid (CpR w r p k y gR gP gY gS gN wx)) (HB : Hid (Bas wx gB b0 b1 b2 b3 b4)) (h1 : B75 b1) (h2 : B75 b2) (h3 : B75 b3)
  (hexit : ∀ (Jw Jx Jy Jz JA JB JC JD JE JF JG JH JI JJ JK JL JM JN JO JP JQ JR JS JT JU JV JW JX JY JZ J0 J1 J2 J3 J4 J5 J6 J7 J8 J9 J_ Pa Pb : Value) (bv lv : Value) (bf : List Ln) (sb : Int) (ems : List Em) (wr : World), TkOk bf → sumA bf = sb → (0 ≤ sb ∧ sb ≤ 75000000) → ((0 < ems.length ∧ ems.length ≤ 3) ∧ ∀ x ∈ ems, (x.l.length = k ∧ ∀ y ∈ x.l, 0 ≤ y ∧ y ≤ 1000000) ∧ 0 ≤ x.base ∧ x.base ≤ 75000000) → Hid (Below wx.heap.size wx wr ∧ Sl wr 2 bv (els bf) ∧ EmsSl wr lv ems) → Code.wp Tryz.prog R (bodyPost Tryz.prog Tryz.f19 (CompRes w)) ⟨#[c0, c1, c2, c3, c4, c5, .pointer (some ⟨gR, 0, none⟩), .pointer (some ⟨gP, 0, none⟩), .pointer (some ⟨gY, 0, none⟩), c9, Qa,Qb, .pointer (some ⟨gS, 0, none⟩), .pointer (some ⟨gN, 0, none⟩), Jw,Qc, .pointer (some ⟨gB, 0, none⟩), Jx,Qd,Qe,Qf,Qg,Qh,Qi,Qj, .int .i64 (b1 - sb), .int .i64 (max b1 0), bv, .int .i64 (b2 - sb), .int .i64 (max b3 0), lv, .slice none 0 0, .slice none 0 0, .int .i64 0, Qk,Ql,Qm,Qn,Qo,Qp,Qq,Qr,Qs,Qt,Qu,Qv,Qw,Qx,Qy,Qz,QA,QB,QC,QD,QE,QF,QG,QH,QI,QJ,QK,QL,QM,QN,QO,QP,QQ,QR,QS,QT,QU,QV,QW,QX,QY,QZ,Q0,Q1,Q2,Q3,Q4,Q5,Q6,Q7,Q8,Q9,Q_,Ua,Ub,Uc,Ud,Ue,Uf,Ug,Uh,Ui,Uj,Uk,Ul,Um,Un,Uo,Up,Uq,Jy,Jz,JA,JB,JC,JD,JE,JF,JG,JH,JI,JJ,JK,JL,JM,JN,JO,JP,JQ,JR,JS,JT,JU,JV,JW,JX,JY,JZ,J0,J1,J2,J3,J4,J5,J6,J7,J8,J9,J_,Pa,Pb,Ur,Us,Ut,Uu,Uv,Uw,Ux,Uy,Uz,UA,UB,UC,UD,UE,UF,UG,UH,UI,UJ,UK,UL,UM,UN,UO,UP,UQ,UR,US,UT,UU,UV,UW,UX,UY,UZ,U0,U1,U2,U3,U4,U5,U6,U7,U8,U9,U_,Va,Vb,Vc,Vd,Ve,Vf,Vg,Vh,Vi,Vj,Vk,Vl,Vm,Vn,Vo,Vp,Vq,Vr,Vs,Vt,Vu,Vv,Vw,Vx,Vy,Vz,VA,VB,VC,VD,VE,VF,VG,VH,VI,VJ,VK,VL,VM,VN,VO,VP,VQ,VR,VS,VT,VU,VV,VW,VX,VY,VZ,V0,V1,V2,V3,V4,V5,V6,V7,V8,V9,V_,Xa,Xb,Xc,Xd,Xe,Xf,Xg,Xh,Xi,Xj,Xk,Xl,Xm,Xn,Xo,Xp,Xq,Xr,Xs,Xt,Xu,Xv,Xw,Xx,Xy,Xz,XA,XB,XC,XD,XE,XF,XG,XH,XI,XJ,XK,XL,XM,XN,XO,XP,XQ,XR,XS,XT,XU,XV,XW,XX,XY,XZ,X0,X1,X2,X3,X4,X5,X6,X7,X8,X9,X_,Ya,Yb,Yc,Yd,Ye,Yf,Yg,Yh,Yi,Yj,Yk,Yl,Ym,Yn,Yo,Yp,Yq,Ys,Yt,Yu,Yv,Yw,Yx,Yy,Yz,YA,YB,YC,YD,YE,YF,YG,YH,YI,YJ,YK,YL,YM,YN,YO,YP,YQ,YR,YS,YT,YU,YV,YW,YX,YY,YZ,Y0,Y1,Y2,Y3,Y4,Y5,Y6,Y7,Y8,Y9,Y_,Za,Zb,Zc,Zd,Ze,Zf,Zg,Zh,Zi,Zj,Zk,Zl,Zm,Zn,Zo,Zp,Zq,Zr,Zs,Zt,Zu,Zv,Zw,Zx,Zy,Zz,ZA,ZB,ZC,ZD,ZE,ZF,ZG], []⟩ wr) :
  Code.wp Tryz.prog (Code.seq (st 7) (Code.seq (st 8) (Code.seq (st 9) (Code.seq (st 10) (Code.seq (st 11) (Code.seq (st 12) (Code.seq (st 13) (Code.seq (st 14) (Code.seq (st 15) (R)))))))))) (bodyPost Tryz.prog Tryz.f19 (CompRes w)) ⟨#[c0, c1, c2, c3, c4, c5, .pointer (some ⟨gR, 0, none⟩), .pointer (some ⟨gP, 0, none⟩), .pointer (some ⟨gY, 0, none⟩), c9, Qa,Qb, .pointer (some ⟨gS, 0, none⟩), .pointer (some ⟨gN, 0, none⟩), ZH,Qc, .pointer (some ⟨gB, 0, none⟩), ZI,Qd,Qe,Qf,Qg,Qh,Qi,Qj,ZJ,ZK,ZL,ZM,ZN,ZO,ZP,ZQ,ZR,Qk,Ql,Qm,Qn,Qo,Qp,Qq,Qr,Qs,Qt,Qu,Qv,Qw,Qx,Qy,Qz,QA,QB,QC,QD,QE,QF,QG,QH,QI,QJ,QK,QL,QM,QN,QO,QP,QQ,QR,QS,QT,QU,QV,QW,QX,QY,QZ,Q0,Q1,Q2,Q3,Q4,Q5,Q6,Q7,Q8,Q9,Q_,Ua,Ub,Uc,Ud,Ue,Uf,Ug,Uh,Ui,Uj,Uk,Ul,Um,Un,Uo,Up,Uq,ZS,ZT,ZU,ZV,ZW,ZX,ZY,ZZ,Z0,Z1,Z2,Z3,Z4,Z5,Z6,Z7,Z8,Z9,Z_,Ja,Jb,Jc,Jd,Je,Jf,Jg,Jh,Ji,Jj,Jk,Jl,Jm,Jn,Jo,Jp,Jq,Jr,Js,Jt,Ju,Jv,Ur,Us,Ut,Uu,Uv,Uw,Ux,Uy,Uz,UA,UB,UC,UD,UE,UF,UG,UH,UI,UJ,UK,UL,UM,UN,UO,UP,UQ,UR,US,UT,UU,UV,UW,UX,UY,UZ,U0,U1,U2,U3,U4,U5,U6,U7,U8,U9,U_,Va,Vb,Vc,Vd,Ve,Vf,Vg,Vh,Vi,Vj,Vk,Vl,Vm,Vn,Vo,Vp,Vq,Vr,Vs,Vt,Vu,Vv,Vw,Vx,Vy,Vz,VA,VB,VC,VD,VE,VF,VG,VH,VI,VJ,VK,VL,VM,VN,VO,VP,VQ,VR,VS,VT,VU,VV,VW,VX,VY,VZ,V0,V1,V2,V3,V4,V5,V6,V7,V8,V9,V_,Xa,Xb,Xc,Xd,Xe,Xf,Xg,Xh,Xi,Xj,Xk,Xl,Xm,Xn,Xo,Xp,Xq,Xr,Xs,Xt,Xu,Xv,Xw,Xx,Xy,Xz,XA,XB,XC,XD,XE,XF,XG,XH,XI,XJ,XK,XL,XM,XN,XO,XP,XQ,XR,XS,XT,XU,XV,XW,XX,XY,XZ,X0,X1,X2,X3,X4,X5,X6,X7,X8,X9,X_,Ya,Yb,Yc,Yd,Ye,Yf,Yg,Yh,Yi,Yj,Yk,Yl,Ym,Yn,Yo,Yp,Yq,Ys,Yt,Yu,Yv,Yw,Yx,Yy,Yz,YA,YB,YC,YD,YE,YF,YG,YH,YI,YJ,YK,YL,YM,YN,YO,YP,YQ,YR,YS,YT,YU,YV,YW,YX,YY,YZ,Y0,Y1,Y2,Y3,Y4,Y5,Y6,Y7,Y8,Y9,Y_,Za,Zb,Zc,Zd,Ze,Zf,Zg,Zh,Zi,Zj,Zk,Zl,Zm,Zn,Zo,Zp,Zq,Zr,Zs,Zt,Zu,Zv,Zw,Zx,Zy,Zz,ZA,ZB,ZC,ZD,ZE,ZF,ZG], []⟩ wx := by
 have HX := Lib.hid hexit
 clear hexit
 unfold B75 at h1 h2 h3
 have hyt := tk_of HI.out.oy.tak
 have hys := tk_sum HI.out.oy.tak
 have hya : ∀ x ∈ y.tak.map El.ln, 0 ≤ x.amt ∧ x.amt ≤ 1000000000000 := fun x hx => by have := hyt.pos x hx; have := sumA_mem hyt.pos hx; omega
 have HTK := Lib.hid fun (z : World) (hz : Below wx.heap.size wx z) => Take_ok p.ded HI.out.op.ded true (max b1 0) (max b1 0) (y.tak.map El.ln) p.dv y.tv z (HI.out.sp.ded.below (below_after HR.out.b hz HR.out.b.size)) (by rw [els_ln]; exact HI.out.sy.tak.below (below_after HR.out.b hz HR.out.b.size)) (by have := hyt.len; omega) (RcOk.pair hyt) (fun x hx => litC_name _ (hyt.code x hx)) hya (by omega) (by omega)
 have HYI := Lib.hid (HI.out.sy.ins.below HR.out.b)
 have HYO := Lib.hid HI.out.oy.ins
 have HEM := Lib.hid (HI.out.sp.ems.below HR.out.b)
 have hel := HI.out.op.ems.1
 have HEO := Lib.hid HI.out.op.ems.2.2
 clear hyt hys hya
 have q1 : wx.cell? ⟨gB, 1, none⟩ = some (.int .i64 b1) := Row.cell HB.out 1
 have lB := Row.lt HB.out
 go_wp2_with fail
 conv => arg 2; whnf
 go_region
 obtain ⟨w0, hw0⟩ : ∃ w0, wx.drew = w0 := ⟨_, rfl⟩
 have HD0 : Hid (Below wx.heap.size wx w0) := by rw [← hw0]; exact Lib.hid (Below.drew (Below.refl _ _))
 rw [hw0]
 clear hw0 q1 lB
 have HR0 := Lib.hid (HR.out.step HD0.out)
 have HB0 : Hid (Bas w0 gB b0 b1 b2 b3 b4) := Row.below HB.out HD0.out (Row.lt HB.out)
 have HTK0 := Lib.hid (HTK.out w0 HD0.out)
 have cgP1 : w0.cell? ⟨gP, 1, none⟩ = some (p.dv) := Row.cell HR0.out.P 1
 have cgY4 : w0.cell? ⟨gY, 4, none⟩ = some (y.tv) := Row.cell HR0.out.Y 4
 have lP := Row.lt HR0.out.P
 have lY := Row.lt HR0.out.Y
 clear HTK HR HB
 go_wp2_with fail
 conv => arg 2; whnf
 go_wp2_with fail
 refine HTK0.out.mono ?_
 rintro e w1 ⟨bv, bf, rfl, tkb, sub, owb, k1⟩
 have HR1 := Lib.hid (HR0.out.step k1)
 have HB1 : Hid (Bas w1 gB b0 b1 b2 b3 b4) := Row.below HB0.out k1 (Row.lt HB0.out)
 have HD1 := Lib.hid (below_after HD0.out k1 HD0.out.size)
 have HV1 := Lib.hid (owb.sl (show 0 < 2 by omega))
 have HT1 := Lib.hid tkb
 have hb0 := sumA_nonneg tkb.pos
 have HSQ := Lib.hid fun q => (SumE_any bf bv (w1.drewN q) (HV1.out.below (Below.draws (Below.refl _ _) q)) (by have := tkb.len; omega) (fun x hx => by have := tkb.pos x hx; have := sumA_mem tkb.pos hx; omega)).mono (fun e w' hh => (show e = .returned (.int .i64 (sumA bf)) ∧ w' = w1.drewN q from ⟨hh.1, hh.2.symm⟩))
 have HSP := Lib.hid (SumE_any bf bv w1 HV1.out (by have := tkb.len; omega) (fun x hx => by have := tkb.pos x hx; have := sumA_mem tkb.pos hx; omega))
 obtain ⟨sb, hsb⟩ : ∃ sb, sumA bf = sb := ⟨_, rfl⟩
 have HSB := Lib.hid hsb
 rw [hsb] at HSQ HSP hb0 sub
 have hsb2 : sb ≤ 75000000 := by omega
 clear hsb k1 owb tkb HR0 HB0 HD0 HTK0 cgP1 cgY4 lP lY
 have s1 : IntKind.i64.wrap (b1 - sb) = b1 - sb := IntWalk.i64_in _ (by omega)
 have s2 : IntKind.i64.wrap (b2 - sb) = b2 - sb := IntWalk.i64_in _ (by omega)
 go_wp2_with fail
 conv => arg 2; whnf
 go_wp2_with fail
 conv => arg 2; whnf
 go_wp2_with fail
 refine HSP.out.mono ?_
 rintro e _ ⟨rfl, rfl⟩
 have q2 : w1.cell? ⟨gB, 2, none⟩ = some (.int .i64 b2) := Row.cell HB1.out 2
 have lB := Row.lt HB1.out
 go_wp2_with fail
 conv => arg 2; whnf
 go_quiet ((go_at_call 47; exact Calls.quiet_of_same (HSQ.out _)))
 obtain ⟨w2, hw2⟩ : ∃ w2, w1.drewN nq = w2 := ⟨_, rfl⟩
 have HDa : Hid (Below w1.heap.size w1 w2) := by rw [← hw2]; exact Lib.hid (Below.draws (Below.refl _ _) _)
 rw [hw2]
 clear hw2 q2 lB HSQ HSP s1 s2
 have HR2 := Lib.hid (HR1.out.step HDa.out)
 have HB2 : Hid (Bas w2 gB b0 b1 b2 b3 b4) := Row.below HB1.out HDa.out (Row.lt HB1.out)
 have HD2 := Lib.hid (below_after HD1.out HDa.out HD1.out.size)
 have HV2 := Lib.hid (HV1.out.below HDa.out)
 clear HR1 HB1 HD1 HV1 HDa
 have q3 : w2.cell? ⟨gB, 3, none⟩ = some (.int .i64 b3) := Row.cell HB2.out 3
 have lB := Row.lt HB2.out
 go_wp2_with fail
 conv => arg 2; whnf
 go_wp2_with fail
 clear q3 lB HB2
 obtain ⟨Ai, ci, hiv, -⟩ := id HYI.out
 rw [ints_len] at hiv
 have HIV := Lib.hid hiv
 clear hiv
 have cY3 : w2.cell? ⟨gY, 3, none⟩ = some (.slice Ai y.ins.length ci) := by rw [← HIV.out]; exact Row.cell HR2.out.Y 3
 have cP3 : w2.cell? ⟨gP, 3, none⟩ = some p.ev := Row.cell HR2.out.P 3
 have lY := Row.lt HR2.out.Y
 have lP := Row.lt HR2.out.P
 have HOW : Hid (Own (w2.alloc (.cells #[.slice Ai y.ins.length ci, .int .i64 (max b3 0)] 126)) w2.heap.size 126 2 (.slice (some ⟨w2.heap.size, 0, none⟩) 1 1) [[.slice Ai y.ins.length ci, .int .i64 (max b3 0)]]) := Own.ofRow (c := #[.slice Ai y.ins.length ci, .int .i64 (max b3 0)]) (Row.new _ _ _) (Nat.le_refl _) rfl (by simp [Value.oneCell'])
 have HSL : Hid (Sl (w2.alloc (.cells #[.slice Ai y.ins.length ci, .int .i64 (max b3 0)] 126)) 2 p.ev (p.ems.map Em.vals)) := (HEM.out.own.below (below_after HD2.out ((Below.refl _ _).alloc (Nat.le_refl _) _) HD2.out.size))
 have HWD : Hid (Wide 2 (p.ems.map Em.vals)) := fun x hx => by
  obtain ⟨q, hq, rfl⟩ := List.mem_map.1 hx
  obtain ⟨A', c', hv, -⟩ := HEM.out.each q hq
  refine ⟨rfl, fun u hu => ?_⟩
  simp only [Em.vals, List.mem_cons, List.not_mem_nil, or_false] at hu
  rcases hu with rfl | rfl
  ·rw [hv]; rfl
  ·rfl
 have HN : Hid (([[Value.slice Ai y.ins.length ci, .int .i64 (max b3 0)]] : List (List Value)).length + (p.ems.map Em.vals).length ≤ maxLen ∧ (([[Value.slice Ai y.ins.length ci, .int .i64 (max b3 0)]] : List (List Value)).length + (p.ems.map Em.vals).length) * 32 ≤ 140737488355328) := by
  rw [Hid, List.length_map, List.length_singleton]; unfold maxLen; omega
 have HEK : Hid (((0 < ((⟨.slice Ai y.ins.length ci, y.ins, max b3 0⟩ : Em) :: p.ems).length ∧ ((⟨.slice Ai y.ins.length ci, y.ins, max b3 0⟩ : Em) :: p.ems).length ≤ 3)) ∧ ∀ x ∈ ((⟨.slice Ai y.ins.length ci, y.ins, max b3 0⟩ : Em) :: p.ems), (x.l.length = k ∧ ∀ y ∈ x.l, 0 ≤ y ∧ y ≤ 1000000) ∧ 0 ≤ x.base ∧ x.base ≤ 75000000) := by
  refine ⟨⟨by simp, by rw [List.length_cons]; omega⟩, fun x hx => ?_⟩
  rcases List.mem_cons.1 hx with rfl | hx
  ·exact ⟨HYO.out, by dsimp only; omega⟩
  ·have := HEO.out x hx
   exact ⟨this.1, this.2.1, by omega⟩
 conv => arg 2; whnf
 go_wp2_with (refine wpList_append_sl rfl (.tmp 141) (.tmp 143) rfl rowEm w2.heap.size _ _ [[.slice Ai y.ins.length ci, .int .i64 (max b3 0)]] (p.ems.map Em.vals) rfl HOW.out rfl HSL.out HWD.out HN.out.1 HN.out.2 (by simp) ?_; intro v9 w9 hown9 hg9 _; have hb9 := Lib.hid (Own.grown HOW.out ((Below.refl w2.heap.size w2).alloc (Nat.le_refl _) _) hg9 (by simp)); have HO9 := Lib.hid hown9; clear hown9 hg9)
 have HE : Hid (Below wx.heap.size wx w9 ∧ Sl w9 2 bv (els bf) ∧ EmsSl w9 v9 ((⟨.slice Ai y.ins.length ci, y.ins, max b3 0⟩ : Em) :: p.ems)) := by
  have hbz := below_after HD2.out hb9.out HD2.out.size
  refine ⟨hbz, HV2.out.below hb9.out, HO9.out.sl (by omega), fun x hx => ?_⟩
  rcases List.mem_cons.1 hx with rfl | hx
  ·have := HYI.out.below hbz
   rw [HIV.out] at this
   exact this
  ·exact (HEM.out.each x hx).below hbz
 clear HOW HSL HWD HN HO9 hb9 cY3 cP3 lY lP
 go_wp2_with fail
 conv => arg 2; whnf
 go_wp2_with fail
 conv => arg 2; whnf
 go_wp2_with fail
 exact HX.out _ _ _ _ _ _ _ _ _ _ _ _ _ _ _ _ _ _ _ _ _ _ _ _ _ _ _ _ _ _ _ _ _ _ _ _ _ _ _ _ _ _ _ bv v9 bf sb _ _ HT1.out HSB.out ⟨hb0, hsb2⟩ HEK.out HE
end Go.Proofs.YtogdefomigiepaaGreatDoor
/- payrollref32.Compute: the statement 16, the loop over the schemes. Written by gen_cpj.py. -/
namespace Go.Proofs.YtogdefomigiepaaGreatDoor
open Go.RowKit

structure LvSt (B : Nat) (wx : World) (ss : List Sc) (j : Nat) (a b : Value) (own emp : List Ln) (s : Int) (wr : World) : Prop where
 c1 : own.map (·.code) = (ss.take j).map Sc.code
 k1 : ∀ x ∈ own, x.kind = 0 ∧ 0 ≤ x.amt ∧ x.amt ≤ 1000000000
 c2 : emp.map (·.code) = (ss.take j).map Sc.code
 k2 : ∀ x ∈ emp, x.kind = 0 ∧ 0 ≤ x.amt ∧ x.amt ≤ 1000000000
 su : 0 ≤ s ∧ s ≤ 1000000000 * (j : Int)
 o1 : Own wr B 112 2 a (els own)
 o2 : Own wr B 112 2 b (els emp)
 ap : ∀ g, a.ownBlock = some g → b.ownBlock ≠ some g
 bl : Below B wx wr
 bs : B ≤ wr.heap.size
structure MdSt (B : Nat) (wx : World) (a b : Value) (own emp : List Ln) (gu cu nu T : Nat) (l : List Lv) (wr : World) : Prop where
 o1 : Own wr B 112 2 a (els own)
 o2 : Own wr B 112 2 b (els emp)
 ap : ∀ g, a.ownBlock = some g → b.ownBlock ≠ some g
 n1 : a.ownBlock ≠ some gu
 n2 : b.ownBlock ≠ some gu
 lv : Own wr T 133 3 (.slice (some ⟨gu, 0, none⟩) nu cu) (lvs l)
 bl : Below B wx wr
 bs : B ≤ wr.heap.size
theorem MdSt.swap {B : Nat} {wx wr : World} {a b : Value} {own emp : List Ln} {gu cu nu T : Nat} {l : List Lv} (h : MdSt B wx a b own emp gu cu nu T l wr) : MdSt B wx b a emp own gu cu nu T l wr :=
 ⟨h.o2, h.o1, fun g h1 h2 => h.ap g h2 h1, h.n2, h.n1, h.lv, h.bl, h.bs⟩
theorem MdSt.kept {B : Nat} {wx wr wy : World} {a b : Value} {own emp : List Ln} {gu cu nu T : Nat} {l : List Lv} (h : MdSt B wx a b own emp gu cu nu T l wr) (k : Below wr.heap.size wr wy) : MdSt B wx a b own emp gu cu nu T l wy :=
 ⟨h.o1.kept k, h.o2.kept k, h.ap, h.n1, h.n2, h.lv.kept k, below_after h.bl k h.bs, Nat.le_trans h.bs k.size⟩
theorem MdSt.add {B : Nat} {wx wr wy : World} {a a2 b : Value} {own emp : List Ln} {gu cu nu T : Nat} {l : List Lv} (h : MdSt B wx a b own emp gu cu nu T l wr) (x : Ln) (ho : Own wy B 112 2 a2 (els own ++ els [x])) (hg : wr.grownBy wy a.ownBlock) (hv : a2.ownBlock = a.ownBlock ∨ a2.ownBlock = some wr.heap.size) :
  MdSt B wx a2 b (own ++ [x]) emp gu cu nu T l wy := by
 refine ⟨by rw [els_append]; exact ho, h.o2.keepG hg (ownBlock_keep h.ap), fun g h1 h2 => ?_, fun e => ?_, h.n2, h.lv.keepG hg (.inr fun e => h.n1 e.symm), h.o1.grown h.bl hg h.bs, Nat.le_trans h.bs hg.size⟩
 ·rcases hv with hv | hv
  ·exact h.ap g (hv ▸ h1) h2
  ·rw [h1] at hv; injection hv with hv; have := (h.o2.1.lt g h2).2; omega
 ·rcases hv with hv | hv
  ·exact h.n1 (hv ▸ e)
  ·rw [e] at hv; injection hv with hv; have := (h.lv.1.lt gu rfl).2; omega
theorem MdSt.cells {B : Nat} {wx wr : World} {a b : Value} {own emp : List Ln} {gu cu nu T : Nat} {l : List Lv} (h : MdSt B wx a b own emp gu cu nu T l wr) {x0 x1 x2 : Int} (hl : l[0]? = some ⟨x0, x1, x2⟩) :
  wr.cell? ⟨gu, 1, none⟩ = some (.int .i64 x1) ∧ wr.cell? ⟨gu, 2, none⟩ = some (.int .i64 x2) ∧ gu < wr.heap.size := by
 have h0 : (lvs l)[0]? = some (Lv.vals ⟨x0, x1, x2⟩) := by simp [lvs, hl]
 have c1 := h.lv.cellE (by omega) (i := 0) h0 (j := 1) rfl
 have c2 := h.lv.cellE (by omega) (i := 0) h0 (j := 2) rfl
 simp only [Nat.zero_mul, Nat.zero_add] at c1 c2
 exact ⟨c1, c2, (h.lv.1.lt gu rfl).2⟩
theorem el_of {own : List Ln} {ss : List Sc} (hs : Coded Sc.code ScOk litS litS.length ss) (hc : own.map (·.code) = ss.map Sc.code) (hk : ∀ x ∈ own, x.kind = 0 ∧ 0 ≤ x.amt ∧ x.amt ≤ 1000000000) : ElOk own 1000000000000 := by
 refine ⟨?_, fun x hx => (hk x hx).1, fun x hx => ?_, fun x hx => by have := hk x hx; omega⟩
 ·have h1 : (own.map (·.code)).Pairwise fun a b => a.toList < b.toList := by
   rw [hc]; exact List.pairwise_map.2 (hs.asc litS_asc)
  refine List.Pairwise.imp_of_mem (fun {a b} ha hb hab => ?_) (List.pairwise_map.1 h1)
  rw [lnLt_el (hk a ha).1 (hk b hb).1, bytesLess_eq]
  exact decide_eq_true hab
 ·have : x.code ∈ own.map (·.code) := List.mem_map.2 ⟨x, hx, rfl⟩
  rw [hc] at this
  obtain ⟨q, hq, e⟩ := List.mem_map.1 this
  rw [← e]; exact (hs.ok q hq).name
set_option maxRecDepth 1000000 in
set_option maxHeartbeats 8000000 in
theorem cp16 {R : Code} {w wx : World} {r : Ru} {p : Ps} {k : Nat} {y : Yr} {kl : List Ln} {vk : Value} {el : List Ln} {ve : Value} {gR gP gY gS gN : Nat} {lv : Value} {ems : List Em} {inc0 : Int} {c0 c1 c2 c3 c4 c5 c9 Qa Qb Zj Qc Qd Qe Qf Qg Qh Qi Qj Qk Ql Qm Qn Qo Qp Zk Zl Zm Qq Qr Qs Qt Qu Qv Qw Qx Qy Qz QA QB QC QD QE QF QG QH QI QJ QK QL QM QN QO QP QQ QR QS QT QU QV QW QX QY QZ Q0 Q1 Q2 Q3 Q4 Q5 Q6 Q7 Q8 Q9 Q_ Ua Ub Uc Ud Ue Uf Ug Uh Ui Uj Uk Ul Um Un Uo Up Uq Ur Us Ut Uu Uv Uw Ux Uy Uz UA UB UC UD UE UF UG UH UI UJ UK UL UM UN UO UP UQ UR US UT UU UV UW UX UY UZ U0 U1 U2 U3 U4 U5 U6 U7 U8 Zn Zo Zp Zq Zr Zs Zt Zu Zv Zw Zx Zy Zz ZA ZB ZC ZD ZE ZF ZG ZH ZI ZJ ZK ZL ZM ZN ZO ZP ZQ ZR ZS ZT ZU ZV ZW ZX ZY ZZ Z0 Z1 Z2 Z3 Z4 Z5 Z6 Z7 Z8 Z9 Z_ Ja Jb Jc Jd Je Jf Jg Jh Ji Jj Jk Jl Jm Jn Jo Jp Jq Jr U9 U_ Va Vb Vc Vd Ve Vf Vg Vh Vi Vj Vk Vl Vm Vn Vo Vp Vq Vr Vs Vt Vu Vv Vw Vx Vy Vz VA VB VC VD VE VF VG VH VI VJ VK VL VM VN VO VP VQ VR VS VT VU VV VW VX VY VZ V0 V1 V2 V3 V4 V5 V6 V7 V8 V9 V_ Xa Xb Xc Xd Xe Xf Xg Xh Xi Xj Xk Xl Xm Xn Xo Xp Xq Xr Xs Xt Xu Xv Xw Xx Xy Xz XA XB XC XD XE XF XG XH XI XJ XK XL XM XN XO XP XQ XR XS XT XU XV XW XX XY XZ X0 X1 X2 X3 X4 X5 X6 X7 X8 X9 X_ Ya Yb Yc Yd Ye Yf Yg Yh Yi Yj Yk Yl Ym Yn Yo Yp Yq Ys Yt Yu Yv Yw Yx Yy Yz YA YB YC YD YE YF YG YH YI YJ YK YL YM YN YO YP YQ YR YS YT YU YV YW YX YY YZ Y0 Y1 Y2 Y3 Y4 Y5 Y6 Y7 Y8 Y9 Y_ Za Zb Zc Zd Ze Zf Zg Zh Zi : Value}
  (HI : Hid (CpIn w r p k y kl vk el ve)) (HR : Hid (CpR w r p k y gR gP gY gS gN wx)) (HEM : Hid (EmsSl wx lv ems)) (HE : Hid ((0 < ems.length ∧ ems.length ≤ 3) ∧ ∀ x ∈ ems, (x.l.length = k ∧ ∀ y ∈ x.l, 0 ≤ y ∧ y ≤ 1000000) ∧ 0 ≤ x.base ∧ x.base ≤ 75000000)) (hi : -200000000 ≤ inc0 ∧ inc0 ≤ 200000000)
  (hexit : ∀ (Js Jt Ju Jv Jw Jx Jy Jz JA JB JC JD JE JF JG JH JI JJ JK JL JM JN JO JP JQ JR JS JT JU JV JW JX JY JZ J0 J1 J2 J3 J4 J5 J6 J7 J8 J9 J_ Pa Pb Pc Pd Pe Pf Pg Ph Pi Pj Pk Pl Pm Pn Po Pp Pq Pr Pt Pu Pv Pw Px Py Pz PA PB : Value) (e31 e32 : Value) (own emp : List Ln) (s t : Int) (wr : World), ElOk own 1000000000000 → ElOk emp 1000000000000 → (own.length ≤ 3 ∧ emp.length ≤ 3) → (0 ≤ s ∧ s ≤ 3000000000) → (inc0 - s ≤ t ∧ t ≤ inc0) → Hid (Below wx.heap.size wx wr ∧ Sl wr 2 e31 (els own) ∧ Sl wr 2 e32 (els emp)) → Code.wp Tryz.prog R (bodyPost Tryz.prog Tryz.f19 (CompRes w)) ⟨#[c0, c1, c2, c3, c4, c5, .pointer (some ⟨gR, 0, none⟩), .pointer (some ⟨gP, 0, none⟩), .pointer (some ⟨gY, 0, none⟩), c9, Qa,Qb, .pointer (some ⟨gS, 0, none⟩), .pointer (some ⟨gN, 0, none⟩), Js,Qc,Qd,Qe,Qf,Qg,Qh,Qi,Qj,Qk,Ql,Qm,Qn,Qo, .int .i64 t, Qp, lv, e31, e32, .int .i64 s, Jt,Ju,Jv,Qq,Qr,Qs,Qt,Qu,Qv,Qw,Qx,Qy,Qz,QA,QB,QC,QD,QE,QF,QG,QH,QI,QJ,QK,QL,QM,QN,QO,QP,QQ,QR,QS,QT,QU,QV,QW,QX,QY,QZ,Q0,Q1,Q2,Q3,Q4,Q5,Q6,Q7,Q8,Q9,Q_,Ua,Ub,Uc,Ud,Ue,Uf,Ug,Uh,Ui,Uj,Uk,Ul,Um,Un,Uo,Up,Uq,Ur,Us,Ut,Uu,Uv,Uw,Ux,Uy,Uz,UA,UB,UC,UD,UE,UF,UG,UH,UI,UJ,UK,UL,UM,UN,UO,UP,UQ,UR,US,UT,UU,UV,UW,UX,UY,UZ,U0,U1,U2,U3,U4,U5,U6,U7,U8,Jw,Jx,Jy,Jz,JA,JB,JC,JD,JE,JF,JG,JH,JI,JJ,JK,JL,JM,JN,JO,JP,JQ,JR,JS,JT,JU,JV,JW,JX,JY,JZ,J0,J1,J2,J3,J4,J5,J6,J7,J8,J9,J_,Pa,Pb,Pc,Pd,Pe,Pf,Pg,Ph,Pi,Pj,Pk,Pl,Pm,Pn,Po,Pp,Pq,Pr,Pt,Pu,Pv,Pw,Px,Py,Pz,PA,PB,U9,U_,Va,Vb,Vc,Vd,Ve,Vf,Vg,Vh,Vi,Vj,Vk,Vl,Vm,Vn,Vo,Vp,Vq,Vr,Vs,Vt,Vu,Vv,Vw,Vx,Vy,Vz,VA,VB,VC,VD,VE,VF,VG,VH,VI,VJ,VK,VL,VM,VN,VO,VP,VQ,VR,VS,VT,VU,VV,VW,VX,VY,VZ,V0,V1,V2,V3,V4,V5,V6,V7,V8,V9,V_,Xa,Xb,Xc,Xd,Xe,Xf,Xg,Xh,Xi,Xj,Xk,Xl,Xm,Xn,Xo,Xp,Xq,Xr,Xs,Xt,Xu,Xv,Xw,Xx,Xy,Xz,XA,XB,XC,XD,XE,XF,XG,XH,XI,XJ,XK,XL,XM,XN,XO,XP,XQ,XR,XS,XT,XU,XV,XW,XX,XY,XZ,X0,X1,X2,X3,X4,X5,X6,X7,X8,X9,X_,Ya,Yb,Yc,Yd,Ye,Yf,Yg,Yh,Yi,Yj,Yk,Yl,Ym,Yn,Yo,Yp,Yq,Ys,Yt,Yu,Yv,Yw,Yx,Yy,Yz,YA,YB,YC,YD,YE,YF,YG,YH,YI,YJ,YK,YL,YM,YN,YO,YP,YQ,YR,YS,YT,YU,YV,YW,YX,YY,YZ,Y0,Y1,Y2,Y3,Y4,Y5,Y6,Y7,Y8,Y9,Y_,Za,Zb,Zc,Zd,Ze,Zf,Zg,Zh,Zi], []⟩ wr) :
  Code.wp Tryz.prog (Code.seq (st 16) (R)) (bodyPost Tryz.prog Tryz.f19 (CompRes w)) ⟨#[c0, c1, c2, c3, c4, c5, .pointer (some ⟨gR, 0, none⟩), .pointer (some ⟨gP, 0, none⟩), .pointer (some ⟨gY, 0, none⟩), c9, Qa,Qb, .pointer (some ⟨gS, 0, none⟩), .pointer (some ⟨gN, 0, none⟩), Zj,Qc,Qd,Qe,Qf,Qg,Qh,Qi,Qj,Qk,Ql,Qm,Qn,Qo, .int .i64 inc0, Qp, lv, .slice none 0 0, .slice none 0 0, .int .i64 0, Zk,Zl,Zm,Qq,Qr,Qs,Qt,Qu,Qv,Qw,Qx,Qy,Qz,QA,QB,QC,QD,QE,QF,QG,QH,QI,QJ,QK,QL,QM,QN,QO,QP,QQ,QR,QS,QT,QU,QV,QW,QX,QY,QZ,Q0,Q1,Q2,Q3,Q4,Q5,Q6,Q7,Q8,Q9,Q_,Ua,Ub,Uc,Ud,Ue,Uf,Ug,Uh,Ui,Uj,Uk,Ul,Um,Un,Uo,Up,Uq,Ur,Us,Ut,Uu,Uv,Uw,Ux,Uy,Uz,UA,UB,UC,UD,UE,UF,UG,UH,UI,UJ,UK,UL,UM,UN,UO,UP,UQ,UR,US,UT,UU,UV,UW,UX,UY,UZ,U0,U1,U2,U3,U4,U5,U6,U7,U8,Zn,Zo,Zp,Zq,Zr,Zs,Zt,Zu,Zv,Zw,Zx,Zy,Zz,ZA,ZB,ZC,ZD,ZE,ZF,ZG,ZH,ZI,ZJ,ZK,ZL,ZM,ZN,ZO,ZP,ZQ,ZR,ZS,ZT,ZU,ZV,ZW,ZX,ZY,ZZ,Z0,Z1,Z2,Z3,Z4,Z5,Z6,Z7,Z8,Z9,Z_,Ja,Jb,Jc,Jd,Je,Jf,Jg,Jh,Ji,Jj,Jk,Jl,Jm,Jn,Jo,Jp,Jq,Jr,U9,U_,Va,Vb,Vc,Vd,Ve,Vf,Vg,Vh,Vi,Vj,Vk,Vl,Vm,Vn,Vo,Vp,Vq,Vr,Vs,Vt,Vu,Vv,Vw,Vx,Vy,Vz,VA,VB,VC,VD,VE,VF,VG,VH,VI,VJ,VK,VL,VM,VN,VO,VP,VQ,VR,VS,VT,VU,VV,VW,VX,VY,VZ,V0,V1,V2,V3,V4,V5,V6,V7,V8,V9,V_,Xa,Xb,Xc,Xd,Xe,Xf,Xg,Xh,Xi,Xj,Xk,Xl,Xm,Xn,Xo,Xp,Xq,Xr,Xs,Xt,Xu,Xv,Xw,Xx,Xy,Xz,XA,XB,XC,XD,XE,XF,XG,XH,XI,XJ,XK,XL,XM,XN,XO,XP,XQ,XR,XS,XT,XU,XV,XW,XX,XY,XZ,X0,X1,X2,X3,X4,X5,X6,X7,X8,X9,X_,Ya,Yb,Yc,Yd,Ye,Yf,Yg,Yh,Yi,Yj,Yk,Yl,Ym,Yn,Yo,Yp,Yq,Ys,Yt,Yu,Yv,Yw,Yx,Yy,Yz,YA,YB,YC,YD,YE,YF,YG,YH,YI,YJ,YK,YL,YM,YN,YO,YP,YQ,YR,YS,YT,YU,YV,YW,YX,YY,YZ,Y0,Y1,Y2,Y3,Y4,Y5,Y6,Y7,Y8,Y9,Y_,Za,Zb,Zc,Zd,Ze,Zf,Zg,Zh,Zi], []⟩ wx := by
 have HX := Lib.hid hexit
 clear hexit
 have hnn := HE.out.1
 have hsl := HI.out.or.ss.len
 have hsl3 : r.ss.length ≤ 3 := hsl
 obtain ⟨As, cs, hsv, hs1, hs2, -, -⟩ := id HI.out.sr.ss
 rw [List.length_map] at hsv hs1
 unfold maxLen at hs2
 have HSV := Lib.hid hsv
 have HSS := Lib.hid fun (z : World) (hz : Below w.heap.size w z) => (show Sl z 8 (.slice As r.ss.length cs) (r.ss.map Sc.vals) by have := HI.out.sr.ss.below hz; rw [hsv] at this; exact this)
 have HRC := Lib.hid fun (z : World) (hz : Below wx.heap.size wx z) => (show z.cell? ⟨gR, 1, none⟩ = some (.slice As r.ss.length cs) ∧ gR < z.heap.size by
  have := Row.below HR.out.R hz (Row.lt HR.out.R)
  exact ⟨by rw [← HSV.out]; exact Row.cell this 1, this.lt⟩)
 have HJ := Lib.hid fun (s : Sc) (hs : ScOk s) (z : World) (hz : Below wx.heap.size wx z) => Joint_ok s hs k HI.out.ok.1 ems HE.out.1 HE.out.2 lv z (HEM.out.below hz)
 have HS0 : Hid (LvSt wx.heap.size wx r.ss 0 (.slice none 0 0) (.slice none 0 0) [] [] 0 wx) := ⟨rfl, fun x h => (by cases h), rfl, fun x h => (by cases h), by omega, Own.nil _ _ _ _, Own.nil _ _ _ _, fun g h => (by cases h), Below.refl _ _, Nat.le_refl _⟩
 clear hsv hsl
 go_wp2_with fail
 conv => arg 2; whnf
 go_wp2_with fail
 go_loopw [28, 31, 32, 33, 34] (fun ic a b ls i wr => ∃ (j : Nat) (own emp : List Ln) (s t : Int), j ≤ r.ss.length ∧ i = .int .i64 j ∧ ls = .int .i64 s ∧ ic = .int .i64 t ∧ (inc0 - s ≤ t ∧ t ≤ inc0) ∧ Hid (LvSt wx.heap.size wx r.ss j a b own emp s wr)) (fun _ _ _ _ i _ => r.ss.length - (intOf i).toNat)
 case atStart => exact ⟨0, [], [], 0, inc0, by omega, rfl, rfl, rfl, by omega, HS0⟩
 case round =>
  clear HS0
  obtain ⟨j, own, emp, s, t, hj, rfl, rfl, rfl, hst, HS⟩ := hrel
  obtain ⟨wo, rfl⟩ : ∃ wo : World, wo = wr := ⟨_, rfl⟩
  obtain ⟨cR1, lR⟩ := HRC.out wo HS.out.bl
  have hsu := HS.out.su
  by_cases hlt : j < r.ss.length
  ·have i1 : (j : Int) < (r.ss.length : Int) := by omega
   have i0 : (0 : Int) ≤ (j : Int) := by omega
   obtain ⟨bk, off, rfl, hcx⟩ := (HSS.out wx HR.out.b).cells (by rw [List.length_map]; omega)
   have hcc := hcx.below HS.out.bl hcx.1
   have hbk := hcc.1
   have hso := HI.out.or.ss.ok _ (List.getElem_mem hlt)
   have hxk : (r.ss.map Sc.vals)[j]? = some (r.ss[j]).vals := by simp [hlt]
   obtain ⟨⟨code, ee, er, fl, ce, un, mo, de⟩, hx⟩ : ∃ x, r.ss[j] = x := ⟨_, rfl⟩
   have HXC : Hid ((r.ss.take (j + 1)).map Sc.code = (r.ss.take j).map Sc.code ++ [code]) := by
    rw [Hid, List.take_succ_eq_append_getElem hlt, List.map_append, hx]; rfl
   rw [hx] at hso hxk
   have s0 : wo.cell? ⟨bk, off + j * 8, none⟩ = some (.string code) := hcc.at hxk 0 rfl
   have s1 : wo.cell? ⟨bk, off + j * 8 + 1, none⟩ = some (.int .i64 ee) := hcc.at hxk 1 rfl
   have s2 : wo.cell? ⟨bk, off + j * 8 + 2, none⟩ = some (.int .i64 er) := hcc.at hxk 2 rfl
   have s3 : wo.cell? ⟨bk, off + j * 8 + 3, none⟩ = some (.int .i64 fl) := hcc.at hxk 3 rfl
   have s4 : wo.cell? ⟨bk, off + j * 8 + 4, none⟩ = some (.int .i64 ce) := hcc.at hxk 4 rfl
   have s5 : wo.cell? ⟨bk, off + j * 8 + 5, none⟩ = some (.int .i64 un) := hcc.at hxk 5 rfl
   have s6 : wo.cell? ⟨bk, off + j * 8 + 6, none⟩ = some (.int .i64 mo) := hcc.at hxk 6 rfl
   have s7 : wo.cell? ⟨bk, off + j * 8 + 7, none⟩ = some (.bool de) := hcc.at hxk 7 rfl
   have HCC := Lib.hid fun (z : World) (hz : Below wx.heap.size wx z) => (show (z.cell? ⟨gR, 1, none⟩ = some (.slice (some ⟨bk, off, none⟩) r.ss.length cs) ∧ gR < z.heap.size) ∧ z.cell? ⟨bk, off + j * 8, none⟩ = some (.string code) ∧ z.cell? ⟨bk, off + j * 8 + 7, none⟩ = some (.bool de) ∧ bk < z.heap.size from ⟨HRC.out z hz, (hcx.below hz hcx.1).at hxk 0 rfl, (hcx.below hz hcx.1).at hxk 7 rfl, (hcx.below hz hcx.1).1⟩)
   have HJ1 := Lib.hid (HJ.out ⟨code, ee, er, fl, ce, un, mo, de⟩ hso wo HS.out.bl)
   simp only [Sc.vals] at HJ1
   clear hx hxk hso hcc hcx
   go_wp2_with fail
   refine HJ1.out.mono ?_
   rintro e w1 ⟨u, l, rfl, hll, hlo, hou, k1⟩
   obtain ⟨gu, cu, rfl, hcu, hgu, hgu2⟩ := hou.formP (by rw [lvs_len]; omega)
   rw [lvs_len] at hcu
   obtain ⟨⟨x0, x1, x2⟩, hl0⟩ : ∃ x, l[0]? = some x := ⟨_, List.getElem?_eq_getElem (by omega)⟩
   have hx12 := hlo _ (List.mem_of_getElem? hl0)
   obtain ⟨-, hx1, hx2⟩ := hx12
   dsimp only at hx1 hx2
   obtain ⟨nu, hnu⟩ : ∃ nu, (lvs l).length = nu := ⟨_, rfl⟩
   have hnu0 : (0 : Int) < (nu : Int) := by rw [lvs_len] at hnu; omega
   have hnu1 : 0 < nu := by omega
   rw [hnu] at hou ⊢
   have HM1 : Hid (MdSt wx.heap.size wx u31 u32 own emp gu cu nu wo.heap.size l w1) := ⟨HS.out.o1.kept k1, HS.out.o2.kept k1, HS.out.ap, fun e => by have := (HS.out.o1.1.lt gu e).2; omega, fun e => by have := (HS.out.o2.1.lt gu e).2; omega, hou, below_after HS.out.bl k1 HS.out.bs, Nat.le_trans HS.out.bs k1.size⟩
   have HL0 := Lib.hid hl0
   have hlen1 : own.length ≤ 3 := by have := congrArg List.length HS.out.c1; rw [List.length_map, List.length_map, List.length_take] at this; omega
   have hlen2 : emp.length ≤ 3 := by have := congrArg List.length HS.out.c2; rw [List.length_map, List.length_map, List.length_take] at this; omega
   have HN1 : Hid ((els own).length + (els [(⟨0, code, x1⟩ : Ln)]).length ≤ maxLen ∧ ((els own).length + (els [(⟨0, code, x1⟩ : Ln)]).length) * 24 ≤ 140737488355328) := by
    rw [Hid, els_len, els_len, List.length_singleton]; unfold maxLen; omega
   have HN2 : Hid ((els emp).length + (els [(⟨0, code, x2⟩ : Ln)]).length ≤ maxLen ∧ ((els emp).length + (els [(⟨0, code, x2⟩ : Ln)]).length) * 24 ≤ 140737488355328) := by
    rw [Hid, els_len, els_len, List.length_singleton]; unfold maxLen; omega
   have HZ1 : Hid (MdSt wx.heap.size wx u31 u32 own emp gu cu nu wo.heap.size l (w1.alloc (.cells #[.string code, .int .i64 x1] 112)).drew) := HM1.out.kept (Below.drew ((Below.refl _ _).alloc (Nat.le_refl _) _))
   have HSO1 : Hid (Sl (w1.alloc (.cells #[.string code, .int .i64 x1] 112)).drew 2 (.slice (some ⟨w1.heap.size, 0, none⟩) 1 1) (els [⟨0, code, x1⟩])) := Lib.hid ((Sl.one (c := #[.string code, .int .i64 x1]) rfl rfl).below (Below.drew (Below.refl _ _)))
   obtain ⟨⟨p1, q1⟩, r1, t1, m1⟩ := HCC.out w1 HM1.out.bl
   obtain ⟨g1, h1, n1⟩ := HM1.out.cells hl0
   clear hl0 hnu hou k1 hll hlo hcu hgu hgu2 hlen1 hlen2 HJ1 cR1 lR s0 s1 s2 s3 s4 s5 s6 s7
   have sw1 : IntKind.i64.wrap (s + x1) = s + x1 := IntWalk.i64_in _ (by omega)
   have sw2 : IntKind.i64.wrap (t - x1) = t - x1 := IntWalk.i64_in _ (by omega)
   go_wp2_with fail
   go_region_held3 (fun w' => w'.cell? ⟨gR, 1, none⟩ = some (.slice (some ⟨bk, off, none⟩) r.ss.length cs) ∧ w'.cell? ⟨bk, off + j * 8, none⟩ = some (.string code) ∧ w'.cell? ⟨gu, 1, none⟩ = some (.int .i64 x1)) (first | go_keep | (go_split_ands <;> assumption)) ((refine step_append_sl (w := (w1.alloc (.cells #[.string code, .int .i64 x1] 112)).drew) rfl (.tmp 167) (.tmp 179) rfl rowEl wx.heap.size _ _ (els own) (els [⟨0, code, x1⟩]) rfl HZ1.out.o1 rfl HSO1.out (els_wide _) HN1.out.1 HN1.out.2 HZ1.out.bs ?_; intro v7 w7 hown hg hv; have HM7 := Lib.hid (HZ1.out.add ⟨0, code, x1⟩ hown hg hv); obtain ⟨⟨p7, q7⟩, r7, t7, m7⟩ := HCC.out w7 HM7.out.bl; obtain ⟨g7, h7, n7⟩ := HM7.out.cells HL0.out; clear hown hg hv))
   have HZ2 : Hid (MdSt wx.heap.size wx v7 u32 (own ++ [⟨0, code, x1⟩]) emp gu cu nu wo.heap.size l (w7.alloc (.cells #[.string code, .int .i64 x2] 112)).drew) := HM7.out.kept (Below.drew ((Below.refl _ _).alloc (Nat.le_refl _) _))
   have HSO2 : Hid (Sl (w7.alloc (.cells #[.string code, .int .i64 x2] 112)).drew 2 (.slice (some ⟨w7.heap.size, 0, none⟩) 1 1) (els [⟨0, code, x2⟩])) := Lib.hid ((Sl.one (c := #[.string code, .int .i64 x2]) rfl rfl).below (Below.drew (Below.refl _ _)))
   clear HZ1 HSO1 HN1 HM1 p1 q1 r1 t1 m1 g1 h1 n1
   go_wp2_with fail
   go_region_held3 (fun w' => w'.cell? ⟨gR, 1, none⟩ = some (.slice (some ⟨bk, off, none⟩) r.ss.length cs) ∧ w'.cell? ⟨bk, off + j * 8, none⟩ = some (.string code) ∧ w'.cell? ⟨gu, 2, none⟩ = some (.int .i64 x2)) (first | go_keep | (go_split_ands <;> assumption)) ((refine step_append_sl (w := (w7.alloc (.cells #[.string code, .int .i64 x2] 112)).drew) rfl (.tmp 181) (.tmp 193) rfl rowEl wx.heap.size _ _ (els emp) (els [⟨0, code, x2⟩]) rfl HZ2.out.o2 rfl HSO2.out (els_wide _) HN2.out.1 HN2.out.2 HZ2.out.bs ?_; intro v8 w8 hown hg hv; have HM8 := Lib.hid ((HZ2.out.swap.add ⟨0, code, x2⟩ hown hg hv).swap); obtain ⟨⟨p8, q8⟩, r8, t8, m8⟩ := HCC.out w8 HM8.out.bl; obtain ⟨g8, h8, n8⟩ := HM8.out.cells HL0.out; clear hown hg hv))
   have HF : Hid (LvSt wx.heap.size wx r.ss (j + 1) v7 v8 (own ++ [⟨0, code, x1⟩]) (emp ++ [⟨0, code, x2⟩]) (s + x1) w8) := by
    refine ⟨by rw [HXC.out, List.map_append, HS.out.c1]; rfl, fun x hx => ?_, by rw [HXC.out, List.map_append, HS.out.c2]; rfl, fun x hx => ?_, by omega, HM8.out.o1, HM8.out.o2, HM8.out.ap, HM8.out.bl, HM8.out.bs⟩
    ·rcases List.mem_append.1 hx with hx | hx
     ·exact HS.out.k1 x hx
     ·rw [List.mem_singleton.1 hx]; exact ⟨rfl, hx1⟩
    ·rcases List.mem_append.1 hx with hx | hx
     ·exact HS.out.k2 x hx
     ·rw [List.mem_singleton.1 hx]; exact ⟨rfl, hx2⟩
   clear HZ2 HSO2 HN2 HM7 HM8 HS HXC p7 q7 r7 t7 m7 g7 h7 n7
   cases de
   ·go_wp2_with fail
    go_roundw
    case rel => exact ⟨j + 1, _, _, s + x1, t, by omega, by go_num, rfl, rfl, by omega, HF.out⟩
    case measure => simp [intOf]; omega
   ·go_wp2_with fail
    go_roundw
    case rel => exact ⟨j + 1, _, _, s + x1, t - x1, by omega, by go_num, rfl, rfl, by omega, HF.out⟩
    case measure => simp [intOf]; omega
  ·obtain rfl : j = r.ss.length := by omega
   have hc1 := HS.out.c1
   have hc2 := HS.out.c2
   rw [List.take_length] at hc1 hc2
   have hle1 : own.length ≤ 3 := by have := congrArg List.length hc1; rw [List.length_map, List.length_map] at this; omega
   have hle2 : emp.length ≤ 3 := by have := congrArg List.length hc2; rw [List.length_map, List.length_map] at this; omega
   have H1 := Lib.hid (el_of HI.out.or.ss hc1 HS.out.k1)
   have H2 := Lib.hid (el_of HI.out.or.ss hc2 HS.out.k2)
   have HF := Lib.hid (And.intro HS.out.bl (And.intro (HS.out.o1.sl (by omega)) (HS.out.o2.sl (by omega))))
   clear hc1 hc2 HS
   go_wp2_with fail
   exact HX.out _ _ _ _ _ _ _ _ _ _ _ _ _ _ _ _ _ _ _ _ _ _ _ _ _ _ _ _ _ _ _ _ _ _ _ _ _ _ _ _ _ _ _ _ _ _ _ _ _ _ _ _ _ _ _ _ _ _ _ _ _ _ _ _ _ _ _ _ _ _ _ _ _ _ own emp s t _ H1.out H2.out ⟨hle1, hle2⟩ (by omega) hst HF
end Go.Proofs.YtogdefomigiepaaGreatDoor
