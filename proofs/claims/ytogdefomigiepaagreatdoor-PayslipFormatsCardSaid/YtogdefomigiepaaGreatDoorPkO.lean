/- Contracts and plain facts that the laws of this seat share, part 15. -/
import Derived.Test.YtogdefomigiepaaGreatDoorPkN
set_option linter.unusedVariables false
set_option linter.unusedSimpArgs false
/- payrollref32.Compute: the statements 0 to 15 (a part of them). Written by gen_cpa.py. -/
namespace Go.Proofs.YtogdefomigiepaaGreatDoor
open Go.RowKit

set_option maxRecDepth 1000000 in
set_option maxHeartbeats 8000000 in
theorem cp6 {R : Code} {w wx : World} {r : Ru} {p : Ps} {k : Nat} {y : Yr} {kl : List Ln} {vk : Value} {el : List Ln} {ve : Value} {gR gP gY gS gN : Nat} {m : List Ln} {Am : Option Addr} {cm : Nat} {c0 c1 c2 c3 c4 c5 c9 Qa Qb Qc Qd Qe Qf Qg ZU ZV ZW Qh Qi Qj Qk Ql Qm Qn Qo Qp Qq Qr Qs Qt Qu Qv Qw Qx Qy Qz QA QB QC QD QE QF QG QH QI QJ QK QL QM QN QO QP QQ QR QS QT QU QV QW QX QY QZ ZX ZY ZZ Z0 Z1 Z2 Z3 Z4 Z5 Z6 Z7 Z8 Z9 Z_ Ja Jb Jc Jd Je Jf Jg Jh Ji Jj Jk Jl Jm Jn Jo Jp Jq Jr Js Jt Q0 Q1 Q2 Q3 Q4 Q5 Q6 Q7 Q8 Q9 Q_ Ua Ub Uc Ud Ue Uf Ug Uh Ui Uj Uk Ul Um Un Uo Up Uq Ur Us Ut Uu Uv Uw Ux Uy Uz UA UB UC UD UE UF UG UH UI UJ UK UL UM UN UO UP UQ UR US UT UU UV UW UX UY UZ U0 U1 U2 U3 U4 U5 U6 U7 U8 U9 U_ Va Vb Vc Vd Ve Vf Vg Vh Vi Vj Vk Vl Vm Vn Vo Vp Vq Vr Vs Vt Vu Vv Vw Vx Vy Vz VA VB VC VD VE VF VG VH VI VJ VK VL VM VN VO VP VQ VR VS VT VU VV VW VX VY VZ V0 V1 V2 V3 V4 V5 V6 V7 V8 V9 V_ Xa Xb Xc Xd Xe Xf Xg Xh Xi Xj Xk Xl Xm Xn Xo Xp Xq Xr Xs Xt Xu Xv Xw Xx Xy Xz XA XB XC XD XE XF XG XH XI XJ XK XL XM XN XO XP XQ XR XS XT XU XV XW XX XY XZ X0 X1 X2 X3 X4 X5 X6 X7 X8 X9 X_ Ya Yb Yc Yd Ye Yf Yg Yh Yi Yj Yk Yl Ym Yn Yo Yp Yq Ys Yt Yu Yv Yw Yx Yy Yz YA YB YC YD YE YF YG YH YI YJ YK YL YM YN YO YP YQ YR YS YT YU YV YW YX YY YZ Y0 Y1 Y2 Y3 Y4 Y5 Y6 Y7 Y8 Y9 Y_ Za Zb Zc Zd Ze Zf Zg Zh Zi Zj Zk Zl Zm Zn Zo Zp Zq Zr Zs Zt Zu Zv Zw Zx Zy Zz ZA ZB ZC ZD ZE ZF ZG ZH ZI ZJ ZK ZL ZM ZN ZO ZP ZQ ZR ZS ZT : Value}
  (HI : Hid (CpIn w r p k y kl vk el ve)) (HR : Hid (CpR w r p k y gR gP gY gS gN wx)) (HM : Hid (Sl wx 2 (.slice Am m.length cm) (els m))) (hm5 : m.length ≤ 5) (HMC : Hid (∀ x ∈ m, ∃ q ∈ r.ws, q.code = x.code))
  (hexit : ∀ (Ju Jv Jw Jx Jy Jz JA JB JC JD JE JF JG JH JI JJ JK JL JM JN JO JP JQ JR JS JT JU JV JW JX JY JZ J0 J1 J2 J3 J4 : Value) (e20 e21 : Value) (ear ben : List Ln) (wr : World), ear.Sublist m → ben.Sublist m → Hid (Below wx.heap.size wx wr ∧ Sl wr 2 e20 (els ear) ∧ Sl wr 2 e21 (els ben)) → Code.wp Tryz.prog R (bodyPost Tryz.prog Tryz.f19 (CompRes w)) ⟨#[c0, c1, c2, c3, c4, c5, .pointer (some ⟨gR, 0, none⟩), .pointer (some ⟨gP, 0, none⟩), .pointer (some ⟨gY, 0, none⟩), c9, Qa,Qb, .pointer (some ⟨gS, 0, none⟩), .pointer (some ⟨gN, 0, none⟩), Qc,Qd,Qe,Qf, .slice Am m.length cm, Qg, e20, e21, Ju,Jv,Jw,Qh,Qi,Qj,Qk,Ql,Qm,Qn,Qo,Qp,Qq,Qr,Qs,Qt,Qu,Qv,Qw,Qx,Qy,Qz,QA,QB,QC,QD,QE,QF,QG,QH,QI,QJ,QK,QL,QM,QN,QO,QP,QQ,QR,QS,QT,QU,QV,QW,QX,QY,QZ,Jx,Jy,Jz,JA,JB,JC,JD,JE,JF,JG,JH,JI,JJ,JK,JL,JM,JN,JO,JP,JQ,JR,JS,JT,JU,JV,JW,JX,JY,JZ,J0,J1,J2,J3,J4,Q0,Q1,Q2,Q3,Q4,Q5,Q6,Q7,Q8,Q9,Q_,Ua,Ub,Uc,Ud,Ue,Uf,Ug,Uh,Ui,Uj,Uk,Ul,Um,Un,Uo,Up,Uq,Ur,Us,Ut,Uu,Uv,Uw,Ux,Uy,Uz,UA,UB,UC,UD,UE,UF,UG,UH,UI,UJ,UK,UL,UM,UN,UO,UP,UQ,UR,US,UT,UU,UV,UW,UX,UY,UZ,U0,U1,U2,U3,U4,U5,U6,U7,U8,U9,U_,Va,Vb,Vc,Vd,Ve,Vf,Vg,Vh,Vi,Vj,Vk,Vl,Vm,Vn,Vo,Vp,Vq,Vr,Vs,Vt,Vu,Vv,Vw,Vx,Vy,Vz,VA,VB,VC,VD,VE,VF,VG,VH,VI,VJ,VK,VL,VM,VN,VO,VP,VQ,VR,VS,VT,VU,VV,VW,VX,VY,VZ,V0,V1,V2,V3,V4,V5,V6,V7,V8,V9,V_,Xa,Xb,Xc,Xd,Xe,Xf,Xg,Xh,Xi,Xj,Xk,Xl,Xm,Xn,Xo,Xp,Xq,Xr,Xs,Xt,Xu,Xv,Xw,Xx,Xy,Xz,XA,XB,XC,XD,XE,XF,XG,XH,XI,XJ,XK,XL,XM,XN,XO,XP,XQ,XR,XS,XT,XU,XV,XW,XX,XY,XZ,X0,X1,X2,X3,X4,X5,X6,X7,X8,X9,X_,Ya,Yb,Yc,Yd,Ye,Yf,Yg,Yh,Yi,Yj,Yk,Yl,Ym,Yn,Yo,Yp,Yq,Ys,Yt,Yu,Yv,Yw,Yx,Yy,Yz,YA,YB,YC,YD,YE,YF,YG,YH,YI,YJ,YK,YL,YM,YN,YO,YP,YQ,YR,YS,YT,YU,YV,YW,YX,YY,YZ,Y0,Y1,Y2,Y3,Y4,Y5,Y6,Y7,Y8,Y9,Y_,Za,Zb,Zc,Zd,Ze,Zf,Zg,Zh,Zi,Zj,Zk,Zl,Zm,Zn,Zo,Zp,Zq,Zr,Zs,Zt,Zu,Zv,Zw,Zx,Zy,Zz,ZA,ZB,ZC,ZD,ZE,ZF,ZG,ZH,ZI,ZJ,ZK,ZL,ZM,ZN,ZO,ZP,ZQ,ZR,ZS,ZT], []⟩ wr) :
  Code.wp Tryz.prog (Code.seq (st 6) (R)) (bodyPost Tryz.prog Tryz.f19 (CompRes w)) ⟨#[c0, c1, c2, c3, c4, c5, .pointer (some ⟨gR, 0, none⟩), .pointer (some ⟨gP, 0, none⟩), .pointer (some ⟨gY, 0, none⟩), c9, Qa,Qb, .pointer (some ⟨gS, 0, none⟩), .pointer (some ⟨gN, 0, none⟩), Qc,Qd,Qe,Qf, .slice Am m.length cm, Qg, .slice none 0 0, .slice none 0 0, ZU,ZV,ZW,Qh,Qi,Qj,Qk,Ql,Qm,Qn,Qo,Qp,Qq,Qr,Qs,Qt,Qu,Qv,Qw,Qx,Qy,Qz,QA,QB,QC,QD,QE,QF,QG,QH,QI,QJ,QK,QL,QM,QN,QO,QP,QQ,QR,QS,QT,QU,QV,QW,QX,QY,QZ,ZX,ZY,ZZ,Z0,Z1,Z2,Z3,Z4,Z5,Z6,Z7,Z8,Z9,Z_,Ja,Jb,Jc,Jd,Je,Jf,Jg,Jh,Ji,Jj,Jk,Jl,Jm,Jn,Jo,Jp,Jq,Jr,Js,Jt,Q0,Q1,Q2,Q3,Q4,Q5,Q6,Q7,Q8,Q9,Q_,Ua,Ub,Uc,Ud,Ue,Uf,Ug,Uh,Ui,Uj,Uk,Ul,Um,Un,Uo,Up,Uq,Ur,Us,Ut,Uu,Uv,Uw,Ux,Uy,Uz,UA,UB,UC,UD,UE,UF,UG,UH,UI,UJ,UK,UL,UM,UN,UO,UP,UQ,UR,US,UT,UU,UV,UW,UX,UY,UZ,U0,U1,U2,U3,U4,U5,U6,U7,U8,U9,U_,Va,Vb,Vc,Vd,Ve,Vf,Vg,Vh,Vi,Vj,Vk,Vl,Vm,Vn,Vo,Vp,Vq,Vr,Vs,Vt,Vu,Vv,Vw,Vx,Vy,Vz,VA,VB,VC,VD,VE,VF,VG,VH,VI,VJ,VK,VL,VM,VN,VO,VP,VQ,VR,VS,VT,VU,VV,VW,VX,VY,VZ,V0,V1,V2,V3,V4,V5,V6,V7,V8,V9,V_,Xa,Xb,Xc,Xd,Xe,Xf,Xg,Xh,Xi,Xj,Xk,Xl,Xm,Xn,Xo,Xp,Xq,Xr,Xs,Xt,Xu,Xv,Xw,Xx,Xy,Xz,XA,XB,XC,XD,XE,XF,XG,XH,XI,XJ,XK,XL,XM,XN,XO,XP,XQ,XR,XS,XT,XU,XV,XW,XX,XY,XZ,X0,X1,X2,X3,X4,X5,X6,X7,X8,X9,X_,Ya,Yb,Yc,Yd,Ye,Yf,Yg,Yh,Yi,Yj,Yk,Yl,Ym,Yn,Yo,Yp,Yq,Ys,Yt,Yu,Yv,Yw,Yx,Yy,Yz,YA,YB,YC,YD,YE,YF,YG,YH,YI,YJ,YK,YL,YM,YN,YO,YP,YQ,YR,YS,YT,YU,YV,YW,YX,YY,YZ,Y0,Y1,Y2,Y3,Y4,Y5,Y6,Y7,Y8,Y9,Y_,Za,Zb,Zc,Zd,Ze,Zf,Zg,Zh,Zi,Zj,Zk,Zl,Zm,Zn,Zo,Zp,Zq,Zr,Zs,Zt,Zu,Zv,Zw,Zx,Zy,Zz,ZA,ZB,ZC,ZD,ZE,ZF,ZG,ZH,ZI,ZJ,ZK,ZL,ZM,ZN,ZO,ZP,ZQ,ZR,ZS,ZT], []⟩ wx := by
 have HX := Lib.hid hexit
 clear hexit
 have HF := Lib.hid fun (z : World) (hz : Below w.heap.size w z) (c : ByteArray) (h : ∃ q ∈ r.ws, q.code = c) => (Find_ok r.ws c r.wv z (HI.out.sr.ws.below hz) (by have : r.ws.length ≤ 4 := HI.out.or.ws.len; omega) h).mono (fun e w' hh => (show ∃ (code : ByteArray) (kind : Int) (tax ins att : Bool) (acc : Int), e = .returned (.tuple #[.agg #[.string code, .int .i64 kind, .bool tax, .bool ins, .bool att, .int .i64 acc], .bool true]) ∧ Below z.heap.size z w' by
  obtain ⟨⟨code, kind, tax, ins, att, acc⟩, _, _, e1, e2⟩ := hh
  exact ⟨code, kind, tax, ins, att, acc, e1, e2⟩))
 have hcm : m.length ≤ cm ∧ cm ≤ 9223372036854775807 := by
  obtain ⟨_, _, hv, q1, q2, _⟩ := HM.out
  injection hv with e1 e2 e3
  rw [els_len] at q1
  unfold maxLen at q2
  omega
 have HS0 : Hid (SpSt wx.heap.size wx m 0 (.slice none 0 0) (.slice none 0 0) [] [] wx) := ⟨List.nil_sublist _, List.nil_sublist _, Own.nil _ _ _ _, Own.nil _ _ _ _, fun g h => (by cases h), Below.refl _ _, Nat.le_refl _⟩
 go_wp2_with fail
 conv => arg 2; whnf
 go_wp2_with fail
 go_loopw [20, 21, 22] (fun a b i wr => ∃ (j : Nat) (ear ben : List Ln), j ≤ m.length ∧ i = .int .i64 j ∧ Hid (SpSt wx.heap.size wx m j a b ear ben wr)) (fun _ _ i _ => m.length - (intOf i).toNat)
 case atStart => exact ⟨0, [], [], by omega, rfl, HS0⟩
 case round =>
  clear HS0
  obtain ⟨j, ear, ben, hj, rfl, HS⟩ := hrel
  obtain ⟨wo, rfl⟩ : ∃ wo : World, wo = wr := ⟨_, rfl⟩
  have HBX := Lib.hid (below_after HR.out.b HS.out.bl HR.out.b.size)
  by_cases hlt : j < m.length
  ·have i1 : (j : Int) < (m.length : Int) := by omega
   have i0 : (0 : Int) ≤ (j : Int) := by omega
   obtain ⟨bk, off, rfl, hcc⟩ := (HM.out.below HS.out.bl).cells (by rw [els_len]; omega)
   have hbk := hcc.1
   have HCE := Lib.hid fun (z : World) (hz : Below wo.heap.size wo z) => (hcc.below hz hcc.1).el hlt
   have hco := HMC.out _ (List.getElem_mem hlt)
   obtain ⟨cd, hcd⟩ : ∃ cd, (m[j]).code = cd := ⟨_, rfl⟩
   obtain ⟨am, ham⟩ : ∃ am, (m[j]).amt = am := ⟨_, rfl⟩
   have HEL : Hid (els [m[j]] = [[.string cd, .int .i64 am]]) := by rw [Hid, ← hcd, ← ham]; rfl
   rw [hcd] at hco
   rw [hcd, ham] at HCE
   have HKS : Hid (∀ w', Below wo.heap.size wo w' → w'.cell? ⟨gR, 0, none⟩ = some r.wv ∧ w'.cell? ⟨bk, off + j * 2, none⟩ = some (.string cd) ∧ Below wo.heap.size wo w') := fun w' hb => by
    have r := Row.below HR.out.R (below_after HS.out.bl hb HS.out.bs) (Row.lt HR.out.R)
    exact ⟨Row.cell r 0, (HCE.out w' hb).1, hb⟩
   have HAL : Hid (∀ y o, Below wo.heap.size wo y → Below wo.heap.size wo (y.alloc o)) := fun y o h => h.alloc h.size o
   have HDR : Hid (∀ y, Below wo.heap.size wo y → Below wo.heap.size wo y.drew) := fun y h => Below.drew h
   have HSET : Hid (∀ y g i u, wo.heap.size ≤ g → Below wo.heap.size wo y → Below wo.heap.size wo (World.setCell y ⟨g, i, none⟩ u)) := fun y g i u hg h => h.setCell hg u
   have hgR : gR < wo.heap.size := Nat.lt_of_lt_of_le (Row.lt HR.out.R) HS.out.bl.size
   have HFC := Lib.hid fun (z : World) (hz : Below wo.heap.size wo z) => HF.out z (below_after HBX.out hz HBX.out.size) cd hco
   clear hcc hco hcd ham
   go_wp2_with fail
   go_cut [23] (fun q wx2 => ∃ (g : Nat) (kd : Int), q = .pointer (some ⟨g, 0, none⟩) ∧ Hid (Below wo.heap.size wo wx2 ∧ wx2.cell? ⟨g, 1, none⟩ = some (.int .i64 kd) ∧ g < wx2.heap.size))
   case first =>
    go_region_held3 (fun w' => w'.cell? ⟨gR, 0, none⟩ = some r.wv ∧ w'.cell? ⟨bk, off + j * 2, none⟩ = some (.string cd) ∧ Below wo.heap.size wo w') (with_reducible refine HKS.out _ ?_; ((repeat (first | with_reducible assumption | with_reducible exact Below.refl _ _ | with_reducible refine HAL.out _ _ ?_ | with_reducible refine HDR.out _ ?_ | with_reducible refine HSET.out _ _ _ _ (by first | omega | (simp; omega)) ?_)))) (first | ((with_reducible refine (HFC.out wo.drew (HDR.out _ (Below.refl _ _))).mono ?_); rintro e w8 ⟨code, kind, tax, ins, att, acc, rfl, k8⟩; have hb8 := below_after (show Below wo.heap.size wo wo.drew from Below.drew (Below.refl _ _)) k8 (Nat.le_refl _); have hz8 := hb8.size; clear k8) | ((with_reducible refine (HFC.out ((wo.alloc (.cells #[.string ⟨#[]⟩, .int .i64 0, .bool false, .bool false, .bool false, .int .i64 0] 120)).drew) (HDR.out _ (HAL.out _ _ (Below.refl _ _)))).mono ?_); rintro e w8 ⟨code, kind, tax, ins, att, acc, rfl, k8⟩; have hb8 := below_after (HDR.out _ (HAL.out _ _ (Below.refl _ _))) k8 (Below.size (HDR.out _ (HAL.out _ _ (Below.refl _ _)))); have hz8 := hb8.size; have hq8 := Row.below (Row.drew (Row.newM (w := wo) (t := 120) (cs := #[.string ⟨#[]⟩, .int .i64 0, .bool false, .bool false, .bool false, .int .i64 0]) rfl)) k8 (by simp); obtain ⟨v0, v1, v2, v3, v4, v5, f0, f1, f2, f3, f4, f5, lq⟩ := rowW hq8; have HQ8 := Lib.hid hq8; clear k8 hq8))
    all_goals
     go_wp2_with fail
     go_meet
     first
      | exact ⟨_, kind, rfl, Lib.hid ⟨HAL.out _ _ hb8, Row.cell (Row.newM rfl) 1, Row.lt (Row.newM rfl)⟩⟩
      | exact ⟨_, kind, rfl, Lib.hid ⟨(((((hb8.setCell (Nat.le_refl _) _).setCell (Nat.le_refl _) _).setCell (Nat.le_refl _) _).setCell (Nat.le_refl _) _).setCell (Nat.le_refl _) _).setCell (Nat.le_refl _) _, Row.cell ((((((HQ8.out.set 0 _).set 1 _).set 2 _).set 3 _).set 4 _).set 5 _) 1, Row.lt ((((((HQ8.out.set 0 _).set 1 _).set 2 _).set 3 _).set 4 _).set 5 _)⟩⟩
   case rest =>
    obtain ⟨g, kd, rfl, HC⟩ := hcut
    obtain ⟨w3, hw3⟩ : ∃ w3 : World, w3 = wc := ⟨_, rfl⟩
    subst hw3
    have HS3 := Lib.hid (HS.out.kept HC.out.1)
    have cg1 := HC.out.2.1
    have lg := HC.out.2.2
    obtain ⟨y0, y1⟩ := HCE.out w3 HC.out.1
    have hbk3 := Nat.lt_of_lt_of_le hbk HC.out.1.size
    have hle1 := HS.out.s1.length_le
    have hle2 := HS.out.s2.length_le
    rw [List.length_take] at hle1 hle2
    have HSO : Hid (Sl (w3.alloc (.cells #[.string cd, .int .i64 am] 112)) 2 (.slice (some ⟨w3.heap.size, 0, none⟩) 1 1) (els [m[j]])) := by
     rw [HEL.out]; exact Lib.hid (Sl.one (c := #[.string cd, .int .i64 am]) rfl rfl)
    have HN1 : Hid ((els ear).length + (els [m[j]]).length ≤ maxLen ∧ ((els ear).length + (els [m[j]]).length) * 24 ≤ 140737488355328) := by
     rw [Hid, els_len, els_len, List.length_singleton]; unfold maxLen; omega
    have HN2 : Hid ((els ben).length + (els [m[j]]).length ≤ maxLen ∧ ((els ben).length + (els [m[j]]).length) * 24 ≤ 140737488355328) := by
     rw [Hid, els_len, els_len, List.length_singleton]; unfold maxLen; omega
    have HSZ : Hid (wx.heap.size ≤ (w3.alloc (.cells #[.string cd, .int .i64 am] 112)).heap.size) := by
     have := HS3.out.bs
     rw [Hid, World.size_alloc]; omega
    clear HKS HFC HCE HC HEL hgR hle1 hle2
    cases e1 : (kd == 1)
    ·go_wp2_with (at_builtin; refine wpList_append_sl rfl (.tmp 97) (.tmp 102) rfl rowEl wx.heap.size _ _ (els ben) (els [m[j]]) rfl ((HS3.out.o2).alloc _) rfl HSO.out (els_wide _) HN2.out.1 HN2.out.2 HSZ.out ?_; intro v9 w9 hown9 hg9 hv9; have HQ := Lib.hid ((((HS3.out.kept ((Below.refl _ _).alloc (Nat.le_refl _) _)).swap).add hlt hown9 hg9 hv9).swap); clear hown9 hg9 hv9)
     go_wp2_with fail
     go_roundw
     case rel => exact ⟨j + 1, _, _, by omega, by go_num, HQ.out⟩
     case measure => simp [intOf]; omega
    ·go_wp2_with (at_builtin; refine wpList_append_sl rfl (.tmp 90) (.tmp 95) rfl rowEl wx.heap.size _ _ (els ear) (els [m[j]]) rfl ((HS3.out.o1).alloc _) rfl HSO.out (els_wide _) HN1.out.1 HN1.out.2 HSZ.out ?_; intro v9 w9 hown9 hg9 hv9; have HQ := Lib.hid ((((HS3.out.kept ((Below.refl _ _).alloc (Nat.le_refl _) _))).add hlt hown9 hg9 hv9)); clear hown9 hg9 hv9)
     go_wp2_with fail
     go_roundw
     case rel => exact ⟨j + 1, _, _, by omega, by go_num, HQ.out⟩
     case measure => simp [intOf]; omega
  ·obtain rfl : j = m.length := by omega
   have h1 := HS.out.s1
   have h2 := HS.out.s2
   rw [List.take_length] at h1 h2
   have HE := Lib.hid (And.intro HS.out.bl (And.intro (HS.out.o1.sl (by omega)) (HS.out.o2.sl (by omega))))
   have H1 := Lib.hid h1
   have H2 := Lib.hid h2
   clear h1 h2 HS
   go_wp2_with fail
   exact HX.out _ _ _ _ _ _ _ _ _ _ _ _ _ _ _ _ _ _ _ _ _ _ _ _ _ _ _ _ _ _ _ _ _ _ _ _ _ _ _ ear ben _ H1.out H2.out HE
end Go.Proofs.YtogdefomigiepaaGreatDoor
