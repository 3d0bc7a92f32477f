/- The law AuthorityLatest: it returns true. -/
import Derived.Test.YtnkephafpebfkaaDoorFAS
import Derived.Test.YtnkephafpebfkaaDoorAuL
import Derived.Test.YtnkephafpebfkaaDoorFaw
import Derived.Test.YtnkephafpebfkaaDoorPrt
import Derived.Test.YtnkephafpebfkaaDoorGen1
namespace Go.Proofs.YtnkephafpebfkaaDoor
open Go.RowKit Go.Shelf

/-- where the loops stand -/
structure AlS (w : World) (B M : Nat) (xv : Value) (xs : List (Ret × Value)) (fs : List Ret) (wr : World) : Prop where
  auth : ∃ es, AuthS wr B M es ∧ es.map (·.1) = fs
  xs : RetsAt wr xv xs
  below : Below w.heap.size w wr
  high : w.heap.size ≤ M
theorem AlS.same {w wr w' : World} {B M : Nat} {xv : Value} {xs : List (Ret × Value)} {fs : List Ret} (h : AlS w B M xv xs fs wr) (hb : Below wr.heap.size wr w') : AlS w B M xv xs fs w' := by
  obtain ⟨es, h1, h2⟩ := h.auth
  exact ⟨⟨es, h1.below hb, h2⟩, h.xs.below hb, below_after h.below hb h.below.size, h.high⟩
theorem AlS.submit {w wr : World} {B M : Nat} {xv : Value} {xs : List (Ret × Value)} {fs : List Ret} (h : AlS w B M xv xs fs wr) (hT : Tabs w) (hE : Errs w) (s : ByteArray) (x : Ret) (hs : s.data.toList = encT x) {a : Int} {gs : List Ret} (h1 : subE fs (encT x) = a) (h2 : subA fs (encT x) = gs) :
    Calls Tryd.prog 17 #[.pointer (some ⟨B, 0, none⟩), .string s] wr fun e w' => e = .returned (.int .i64 a) ∧ AlS w B M xv xs gs w' := by
  obtain ⟨es, ha, he⟩ := h.auth
  refine (Submit_any B M es s wr ha (hT.below h.below) (hE.below h.below)).mono ?_
  rintro e w' ⟨es', rfl, hb, he', hg⟩
  rw [he, hs] at he' ⊢
  rw [h1]
  exact ⟨rfl, ⟨es', hb, he'.trans h2⟩, h.xs.far hg (no_cells ha.map), below_map h.below hg h.high, h.high⟩
/-- the text of a return -/
def bsR (r : Ret) : ByteArray := ⟨(encT r).toArray⟩
theorem bsR_list (r : Ret) : (bsR r).data.toList = encT r := by simp [bsR]
theorem encode_ok (r : Ret) (v : Value) (w : World) (hv : Sl w 3 v (lns r.l)) (hT : Tabs w) (hr : retB r = true) :
    Calls Tryd.prog 7 #[.agg (r.vals v)] w fun e w' => e = .returned (.tuple #[.string (bsR r), .int .i64 0]) ∧ Below w.heap.size w w' := by
  have := EncodeR_any r v w hv hT
  rw [(enc_dec hr).2.2] at this
  exact this
set_option maxRecDepth 100000 in
set_option maxHeartbeats 8000000 in
theorem AuthorityLatest_any (v : Value) (zs : List Int) (u : Value) (ys : List Int) (w : World) (hT : Tabs w) (hE : Errs w) (hv : Sl w 1 v (ints zs)) (hu : Sl w 1 u (ints ys)) :
    Calls Tryd.prog 5 #[v, u] w fun e w' => e = .returned (.bool true) ∧ Below w.heap.size w w' := by
  have HT := Lib.hid hT
  have HER := Lib.hid hE
  have HU := Lib.hid hu
  have HNW := Lib.hid (new_any v zs w hv)
  obtain ⟨A0, c0, rfl, -⟩ := hv
  obtain ⟨A1, c1, rfl, hy1, hy2, -⟩ := hu
  rw [ints_len ys] at HU hy1 ⊢
  unfold maxLen at hy2
  clear hT hE
  by_cases hlen : 20 < ys.length
  · have hd : decide ((20 : Int) < (ys.length : Int)) = true := decide_eq_true (by omega)
    go_enter Tryd.func5, Tryd.ntmps5
    go_wp2_with fail
    refine (awake_any w HT.out HER.out).mono ?_
    rintro e w1 ⟨rfl, hb1⟩
    go_wp2
    go_ret
    exact ⟨rfl, hb1⟩
  have hd : decide ((20 : Int) < (ys.length : Int)) = false := decide_eq_false (by omega)
  go_enter Tryd.func5, Tryd.ntmps5
  go_wp2_with fail
  refine HNW.out.mono ?_
  rintro e w1 ⟨rfl, hd1, hb1⟩
  clear HNW
  go_wp2_with fail
  refine (Returns_any w.heap.size 0 6 w1 hd1 (by omega) (by omega)).mono ?_
  rintro e w2 ⟨xv, xs, d2, rfl, hgood, hxl, hown2, -, -, hg2⟩
  have hB2 := below_map hb1 hg2 (Nat.le_refl _)
  have hX2 := hown2.at
  clear hd1 hb1 hg2 hown2
  go_wp2_with fail
  refine (NewA_any w2).mono ?_
  rintro e w3 ⟨B, M, rfl, ha3, hb3, hM, hMB⟩
  have HQ := eq_nil_auth B
  have hA3 : Hid (AlS w B M xv xs [] w3) := ⟨⟨[], ha3, rfl⟩, hX2.below hb3, below_after hB2 hb3 hB2.size, by have := hB2.size; omega⟩
  obtain ⟨Ax, cx, rfl⟩ : ∃ Ax cx, xv = .slice Ax xs.length cx := by
    obtain ⟨Ax, cx, h, _⟩ := hX2.sl
    rw [rets_len] at h
    exact ⟨Ax, cx, h⟩
  have hcx : xs.length ≤ cx := by
    obtain ⟨A', cap', hv, k1, _⟩ := hX2.sl
    injection hv with e1 e2 e3
    subst e3
    rwa [rets_len] at k1
  have HGD := Lib.hid hgood
  obtain ⟨L, hLL⟩ : ∃ L : List Ret, xs.map (·.1) = L := ⟨_, rfl⟩
  have HLE : Hid (L.length = xs.length) := by rw [Hid, ← hLL, List.length_map]
  have HLX : Hid (∀ j (h : j < L.length) (h' : j < xs.length), L[j] = (xs[j]).1) := fun j h h' => by subst hLL; simp
  have HLL := Lib.hid hLL
  rw [hLL] at HGD
  clear hb3 hM hMB hX2 hB2 ha3 hgood hLL
  go_wp2_with fail
  go_loopw [7] (fun t wr => ∃ k : Nat, ∃ fs : List Ret, k ≤ xs.length ∧ t = .int .i64 k ∧ Hid (Knows fs (L.take k) ∧ AlS w B M (.slice Ax xs.length cx) xs fs wr)) (fun t _ => xs.length - (intOf t).toNat)
  case atStart => exact ⟨0, [], by omega, rfl, Knows.nil, hA3.out⟩
  case round =>
    clear hA3
    obtain ⟨k, fs, hk, rfl, HS⟩ := hrel
    obtain ⟨wo, rfl⟩ : ∃ wo : World, wo = wr := ⟨_, rfl⟩
    by_cases hlt : k < xs.length
    · have i1 : (k : Int) < (xs.length : Int) := by omega
      have hkL : k < L.length := by rw [HLE.out]; exact hlt
      obtain ⟨s1, s2, s3, s4⟩ := HS.out.1.step HGD.out hkL
      have hA := HS.out.2
      obtain ⟨bk, off, rfl, hcs⟩ := hA.xs.sl.cells (by rw [rets_len]; omega)
      obtain ⟨q0, q1, q2⟩ := hcs.ret hlt
      have hrb := (HGD.out k hkL).1
      have hlnx := hA.xs.ln _ (List.getElem_mem hlt)
      rw [HLX.out k hkL hlt] at s1 s2 s3 s4 hrb
      obtain ⟨x, hx⟩ : ∃ x, xs[k] = x := ⟨_, rfl⟩
      rw [hx] at q0 q1 q2 s1 s2 s3 s4 hrb hlnx
      obtain ⟨x, xvv⟩ := x
      simp only at q0 q1 q2 s1 s2 s3 s4 hrb hlnx
      obtain ⟨Ay, ny, cy, rfl⟩ := hlnx.is
      have HEN : Hid (Calls Tryd.prog 7 #[.agg #[.int .i64 x.p, .int .i64 x.v, .slice Ay ny cy]] wo fun e w' => e = .returned (.tuple #[.string (bsR x), .int .i64 0]) ∧ Below wo.heap.size wo w') := encode_ok x _ wo hlnx (HT.out.below hA.below) hrb
      have HS3 := Lib.hid s3
      have HS4 := Lib.hid s4
      have HS2 := Lib.hid (And.intro s1 s2)
      have HS5 := Lib.hid (s4 k hkL (Nat.le_refl _))
      rw [HLX.out k hkL hlt, hx] at HS5
      have HA := Lib.hid hA
      have hbk := hcs.1
      clear s1 s2 s3 s4 hcs HS hx hlnx hA hrb
      go_wp2_with fail
      clear q0 q1 q2
      refine HEN.out.mono ?_
      rintro e w4 ⟨rfl, hb4⟩
      have hA4 := HA.out.same hb4
      clear HEN HA hb4
      obtain ⟨tx, htx⟩ : ∃ tx, bsR x = tx := ⟨_, rfl⟩
      have HTX : Hid (tx.data.toList = encT x) := by rw [Hid, ← htx, bsR_list]
      rw [htx]
      clear htx
      go_wp2_with fail
      refine (hA4.submit HT.out HER.out tx x HTX.out HS2.out.1 HS2.out.2).mono ?_
      rintro e w5 ⟨rfl, hA5⟩
      clear hA4
      go_wp2_with fail
      refine (hA5.submit HT.out HER.out tx x HTX.out HS5.out.1 HS5.out.2).mono ?_
      rintro e w6 ⟨rfl, hA6⟩
      clear hA5 HS5 HS2
      by_cases hky : k < ys.length
      rotate_left
      · have i2 : ¬ (k : Int) < (ys.length : Int) := by omega
        have i2d : decide ((k : Int) < (ys.length : Int)) = false := decide_eq_false i2
        have HEND : Hid (Knows (putR fs x) (L.take (k + 1)) ∧ AlS w B M (.slice (some ⟨bk, off, none⟩) xs.length cx) xs (putR fs x) w6) := ⟨HS3.out, hA6⟩
        clear hA6 HS3 HS4
        go_wp2
        go_roundw
        case rel => exact ⟨k + 1, _, by omega, by go_num, HEND.out⟩
        case measure => simp [intOf]; omega
      · have i2 : (k : Int) < (ys.length : Int) := by omega
        have i2d : decide ((k : Int) < (ys.length : Int)) = true := decide_eq_true i2
        obtain ⟨by_, oy, rfl, hcy⟩ := (HU.out.below hA6.below).cells (by rw [ints_len]; omega)
        have y0 : w6.cell? ⟨by_, oy + k, none⟩ = some (.int .i64 ys[k]) := by
          have := hcy.2 k [.int .i64 ys[k]] (by simp [ints, hky]) 0 _ rfl
          simpa using this
        have hbyl := hcy.1
        obtain ⟨z, hz⟩ : ∃ z, ys[k] = z := ⟨_, rfl⟩
        rw [hz] at y0
        clear hz hcy
        have ew : IntKind.i64.wrap ((k : Int) + 1) = (k : Int) + 1 := IntWalk.i64_in _ (by omega)
        go_wp2_with fail
        refine (Mod_any z ((k : Int) + 1) _ (by omega) (by omega)).mono ?_
        rintro e w7 ⟨rfl, rfl⟩
        clear y0
        have hz0 := Int.emod_nonneg z (show ((k : Int) + 1) ≠ 0 by omega)
        have hz1 := Int.emod_lt_of_pos z (show (0 : Int) < (k : Int) + 1 by omega)
        obtain ⟨j, hj⟩ : ∃ j : Nat, z % ((k : Int) + 1) = j := ⟨(z % ((k : Int) + 1)).toNat, by omega⟩
        rw [hj] at hz0 hz1 ⊢
        have hjk : j ≤ k := by omega
        have hjx : j < xs.length := by omega
        have hjL : j < L.length := by rw [HLE.out]; exact hjx
        have i3 : (j : Int) < (xs.length : Int) := by omega
        have HSJ := Lib.hid (HS4.out j hjL hjk)
        obtain ⟨bk2, off2, hbo, hcs2⟩ := hA6.xs.sl.cells (by rw [rets_len]; omega)
        injection hbo with hbo
        injection hbo with hb1 hb2
        subst hb1 hb2
        obtain ⟨q0, q1, q2⟩ := hcs2.ret hjx
        have hlnj := hA6.xs.ln _ (List.getElem_mem hjx)
        have hrb := (HGD.out j hjL).1
        rw [HLX.out j hjL hjx] at HSJ hrb
        have hbk2 := hcs2.1
        obtain ⟨y, hy⟩ : ∃ y, xs[j] = y := ⟨_, rfl⟩
        rw [hy] at q0 q1 q2 hrb hlnj HSJ
        obtain ⟨y, yvv⟩ := y
        simp only at q0 q1 q2 hrb hlnj HSJ
        obtain ⟨Az, nz, cz, rfl⟩ := hlnj.is
        have HEN : Hid (Calls Tryd.prog 7 #[.agg #[.int .i64 y.p, .int .i64 y.v, .slice Az nz cz]] w6 fun e w' => e = .returned (.tuple #[.string (bsR y), .int .i64 0]) ∧ Below w6.heap.size w6 w') := encode_ok y _ w6 hlnj (HT.out.below hA6.below) hrb
        have HA6 := Lib.hid hA6
        clear hA6 hcs2 hj hy hlnj hrb HS4 hz0 hz1
        go_wp2_with fail
        clear q0 q1 q2
        refine HEN.out.mono ?_
        rintro e w8 ⟨rfl, hb8⟩
        have hA8 := HA6.out.same hb8
        clear HEN HA6 hb8
        obtain ⟨ty, hty⟩ : ∃ ty, bsR y = ty := ⟨_, rfl⟩
        have HTY : Hid (ty.data.toList = encT y) := by rw [Hid, ← hty, bsR_list]
        rw [hty]
        clear hty
        go_wp2_with fail
        refine (hA8.submit HT.out HER.out ty y HTY.out HSJ.out.1 HSJ.out.2).mono ?_
        rintro e w9 ⟨rfl, hA9⟩
        have HEND : Hid (Knows (putR fs x) (L.take (k + 1)) ∧ AlS w B M (.slice (some ⟨bk, off, none⟩) xs.length cx) xs (putR fs x) w9) := ⟨HS3.out, hA9⟩
        clear hA8 hA9 HS3 HSJ
        go_wp2
        go_roundw
        case rel => exact ⟨k + 1, _, by omega, by go_num, HEND.out⟩
        case measure => simp [intOf]; omega
    · have hkk : k = xs.length := by omega
      subst hkk
      have HKN : Hid (Knows fs L) := by
        have := HS.out.1
        rwa [List.take_of_length_le (by rw [HLE.out]; exact Nat.le_refl _)] at this
      have HA := Lib.hid HS.out.2
      clear HS
      have hll256 : ∀ q ∈ xs, q.1.l.length ≤ 256 := fun q hq => by
        have := (HGD.out.mem (r := q.1) (by rw [← HLL.out]; exact List.mem_map.2 ⟨q, hq, rfl⟩)).2.2
        omega
      have HL256 := Lib.hid hll256
      clear hll256
      go_wp2_with fail
      go_loopw [12] (fun t wr => ∃ p : Int, (0 ≤ p ∧ p ≤ 3) ∧ t = .int .i64 p ∧ Hid (AlS w B M (.slice Ax xs.length cx) xs fs wr)) (fun t _ => (3 - intOf t).toNat)
      case atStart => exact ⟨0, ⟨by omega, by omega⟩, rfl, HA.out⟩
      case round =>
        clear HA
        obtain ⟨p, ⟨p0, p1⟩, rfl, HA⟩ := hrel
        obtain ⟨wi, rfl⟩ : ∃ wi : World, wi = wr := ⟨_, rfl⟩
        by_cases hp : p < 3
        · have dp : decide (p < 3) = true := decide_eq_true hp
          obtain ⟨es, ha, he⟩ := HA.out.auth
          go_wp2_with fail
          refine (LatestA_any B M es p wi ha).mono ?_
          rw [he, HKN.out.lat, HKN.out.has]
          rintro e w4 ⟨v4, rfl, hown4, hb4⟩
          have hll : (latP L p).l.length ≤ 3 := by rw [← linP_lat]; exact HGD.out.lin p
          obtain ⟨lt, hlt⟩ : ∃ lt, latP L p = lt := ⟨_, rfl⟩
          obtain ⟨hs, hhs⟩ : ∃ hs, hasP L p = hs := ⟨_, rfl⟩
          rw [hlt] at hown4 hll ⊢
          rw [hhs]
          have hA4 := HA.out.same hb4
          obtain ⟨A4, c4, rfl⟩ := hown4.form
          rw [lns_len] at hown4 ⊢
          have hgv : lt.vals (.slice A4 lt.l.length c4) = #[.int .i64 lt.p, .int .i64 lt.v, .slice A4 lt.l.length c4] := rfl
          rw [hgv]
          have hS4 := hown4.sl (by omega)
          have hal := (Below.refl w4.heap.size w4).alloc (Nat.le_refl _) (.cells #[.int .i64 lt.p, .int .i64 lt.v, .slice A4 lt.l.length c4] 25)
          have hX5 := Row.new w4 25 #[.int .i64 lt.p, .int .i64 lt.v, .slice A4 lt.l.length c4]
          have hA5 := hA4.same hal
          have hS5 := hS4.below hal
          clear hgv ha he hb4 hown4 hA4 hS4 hal HA
          go_wp2_with fail
          obtain ⟨w5, hw5⟩ : ∃ w5, w4.alloc (.cells #[.int .i64 lt.p, .int .i64 lt.v, .slice A4 lt.l.length c4] 25) = w5 := ⟨_, rfl⟩
          rw [hw5] at hX5 hA5 hS5 ⊢
          obtain ⟨m5, hm5⟩ : ∃ m, w4.heap.size = m := ⟨_, rfl⟩
          rw [hm5] at hX5 ⊢
          clear hw5 hm5
          refine (Latest_any xs _ p w5 hA5.xs HL256.out).mono ?_
          rw [HLL.out, hlt, hhs]
          rintro e w6 ⟨v6, rfl, hown6, hb6⟩
          have hA6 := hA5.same hb6
          have hX6 := hX5.below hb6 hX5.lt
          have hS6 := hS5.below hb6
          obtain ⟨A6, c6, rfl⟩ := hown6.form
          rw [lns_len] at hown6 ⊢
          have hgv : lt.vals (.slice A6 lt.l.length c6) = #[.int .i64 lt.p, .int .i64 lt.v, .slice A6 lt.l.length c6] := rfl
          rw [hgv]
          have hP6 := hown6.sl (by omega)
          have hal := (Below.refl w6.heap.size w6).alloc (Nat.le_refl _) (.cells #[.int .i64 lt.p, .int .i64 lt.v, .slice A6 lt.l.length c6] 25)
          have hY7 := Row.new w6 25 #[.int .i64 lt.p, .int .i64 lt.v, .slice A6 lt.l.length c6]
          have hA7 := hA6.same hal
          have hX7 := hX6.below hal hX6.lt
          have hS7 := hS6.below hal
          have hP7 := hP6.below hal
          obtain ⟨w7, hw7⟩ : ∃ w7, w6.alloc (.cells #[.int .i64 lt.p, .int .i64 lt.v, .slice A6 lt.l.length c6] 25) = w7 := ⟨_, rfl⟩
          rw [hw7] at hY7 hA7 hX7 hS7 hP7
          have HSM : Hid (Calls Tryd.prog 13 #[.agg #[.int .i64 lt.p, .int .i64 lt.v, .slice A4 lt.l.length c4], .agg #[.int .i64 lt.p, .int .i64 lt.v, .slice A6 lt.l.length c6]] w7 (SameP w7 true)) := by
            have := SameR_any lt lt (.slice A4 lt.l.length c4) (.slice A6 lt.l.length c6) w7 hS7 hP7 (by omega) (by omega)
            rw [decide_eq_true rfl] at this
            exact this
          clear hgv hb6 hown6 hA5 hA6 hX5 hX6 hS5 hS6 hP6 hal hlt hhs
          obtain ⟨⟨x0, x1, x2, xl⟩, -⟩ := row3 hX7
          obtain ⟨⟨y0, y1, y2, yl⟩, -⟩ := row3 hY7
          have hsr : (hs != hs) = false := by simp
          go_wp2_with fail
          refine HSM.out.mono ?_
          rintro e w8 ⟨rfl, hb8⟩
          have HEND := Lib.hid (hA7.same hb8)
          clear hw7 x0 x1 x2 xl y0 y1 y2 yl hA7 hX7 hY7 hS7 hP7 hb8 HSM
          go_wp2
          go_roundw
          case rel => exact ⟨p + 1, ⟨by omega, by omega⟩, by go_num, HEND.out⟩
          case measure => simp [intOf]; omega
        · have dp : decide (p < 3) = false := decide_eq_false hp
          have hB := HA.out.below
          go_wp2_with fail
          refine (awake_any wi (HT.out.below hB) (HER.out.below hB)).mono ?_
          rintro e w4 ⟨rfl, hb4⟩
          have hB4 := below_after hB hb4 hB.size
          go_wp2
          go_ret
          exact ⟨rfl, hB4⟩
end Go.Proofs.YtnkephafpebfkaaDoor
