/- payrollref38.Next. -/
import Derived.Test.YtnkephafpebfkaaGreatDoorRLt
import Derived.Test.YtnkephafpebfkaaGreatDoorRSm
import Derived.Test.YtnkephafpebfkaaGreatDoorStp
import Derived.Deep.RegionLaw
import Derived.Deep.CutBlock
import Derived.Deep.DeepCutAuto
namespace Go.Proofs.YtnkephafpebfkaaGreatDoor
open Go.RowKit

/-- the next return of a period, if its lines are not those of the last one -/
def nextR (l : List Ret) (p : Int) (x : List Ln) : Ret := ⟨p, verP l p + 1, x⟩
/-- the call returns the next return with lines of its own, or nothing -/
def RetNx (l : List Ret) (p : Int) (x : List Ln) (w : World) (e : Ending) (w' : World) : Prop :=
  Below w.heap.size w w' ∧ ((linP l p ≠ x ∧ ∃ v, e = .returned (.tuple #[.agg ((nextR l p x).vals v), .bool true]) ∧ Own w' w.heap.size 56 3 v (lns x)) ∨
    (linP l p = x ∧ e = .returned (.tuple #[.agg #[.int .i64 0, .int .i64 0, .slice none 0 0], .bool false])))
set_option maxRecDepth 100000 in
set_option maxHeartbeats 4000000 in
theorem Next38_any (ps : List (Ret × Value)) (v vx : Value) (p : Int) (x : List Ln) (w : World) (hv : RetsAt w v ps) (hl : ∀ q ∈ ps, q.1.l.length ≤ 256) (hx : Sl w 3 vx (lns x)) (hxl : x.length ≤ 256) (hver : 0 ≤ verP (ps.map (·.1)) p ∧ verP (ps.map (·.1)) p ≤ 65536) (hlp : (linP (ps.map (·.1)) p).length ≤ 256) :
    Calls Tryz.prog 52 #[v, .int .i64 p, vx] w (RetNx (ps.map (·.1)) p x w) := by
  have HV := Lib.hid hv
  have HX := Lib.hid hx
  have HL := Lib.hid hl
  obtain ⟨Ax, cx, rfl⟩ : ∃ Ax cx, vx = .slice Ax x.length cx := by
    obtain ⟨Ax, cx, h, _⟩ := hx
    rw [lns_len] at h
    exact ⟨Ax, cx, h⟩
  have HVL := Lib.hid (verP_lat (ps.map (·.1)) p)
  have HLL := Lib.hid (linP_lat (ps.map (·.1)) p)
  have HNX : Hid (nextR (ps.map (·.1)) p x = ⟨p, verP (ps.map (·.1)) p + 1, x⟩) := rfl
  have hr0 := Row.new w 25 #[.int .i64 0, .int .i64 0, .slice none 0 0]
  have hB0 := (Below.refl w.heap.size w).alloc (Nat.le_refl _) (.cells #[.int .i64 0, .int .i64 0, .slice none 0 0] 25)
  go_enter Tryz.func52, Tryz.ntmps52
  go_wp2_with fail
  obtain ⟨w0, hw0⟩ : ∃ w0, w.alloc (.cells #[.int .i64 0, .int .i64 0, .slice none 0 0] 25) = w0 := ⟨_, rfl⟩
  rw [hw0] at hr0 hB0 ⊢
  obtain ⟨r, hr⟩ : ∃ r, w.heap.size = r := ⟨_, rfl⟩
  rw [hr] at hr0 ⊢
  have hwr : w.heap.size ≤ r := by omega
  clear hw0 hr hv hx hl
  refine (Latest_any ps v p w0 (HV.out.below hB0) HL.out).mono ?_
  rintro e w1 ⟨v1, rfl, hown1, hb1⟩
  have hB1 := below_after hB0 hb1 hB0.size
  have hr1 := hr0.below hb1 hr0.lt
  obtain ⟨lt, hlt⟩ : ∃ lt, latP (ps.map (·.1)) p = lt := ⟨_, rfl⟩
  obtain ⟨hs, hhs⟩ : ∃ hs, hasP (ps.map (·.1)) p = hs := ⟨_, rfl⟩
  rw [hlt] at HVL HLL hown1 ⊢
  rw [hhs]
  have hlv : lt.v = verP (ps.map (·.1)) p := HVL.out.symm
  have hll : linP (ps.map (·.1)) p = lt.l := HLL.out
  rw [hll] at hlp
  rw [← hlv] at hver HNX
  obtain ⟨k0, k1⟩ := hver
  have HLL2 := Lib.hid hll
  obtain ⟨A1, c1, rfl⟩ := hown1.form
  rw [lns_len] at hown1 ⊢
  have hgv : lt.vals (.slice A1 lt.l.length c1) = #[.int .i64 lt.p, .int .i64 lt.v, .slice A1 lt.l.length c1] := rfl
  rw [hgv]
  have hr0l := hr0.lt
  have hs1 := hB1.size
  have hs01 := hb1.size
  clear hgv hB0 hr0 hb1 hlt hhs hlv HVL HLL hll
  have hal := (Below.refl w1.heap.size w1).alloc (Nat.le_refl _) (.cells #[.int .i64 lt.p, .int .i64 lt.v, .slice A1 lt.l.length c1] 25)
  have hx1 := Row.new w1 25 #[.int .i64 lt.p, .int .i64 lt.v, .slice A1 lt.l.length c1]
  have hr2 := hr1.below hal hr1.lt
  have hB2 := below_after hB1 hal hB1.size
  have hSl2 := ((hown1.sl (by omega)).below hal)
  obtain ⟨w2, hw2⟩ : ∃ w2, w1.alloc (.cells #[.int .i64 lt.p, .int .i64 lt.v, .slice A1 lt.l.length c1] 25) = w2 := ⟨_, rfl⟩
  rw [hw2] at hx1 hr2 hB2 hSl2
  have HC := Lib.hid (sameLn_any (.slice A1 lt.l.length c1) (.slice Ax x.length cx) lt.l x w2 hSl2 (HX.out.below hB2) (by omega) (by omega))
  obtain ⟨⟨y0, y1, y2, yl⟩, -⟩ := row3 hx1
  clear hown1 hal hr1 hB1 hSl2
  go_wp2_with fail
  refine HC.out.mono ?_
  rintro e w3 ⟨rfl, hb3⟩
  have hB3 := below_after hB2 hb3 hB2.size
  have hr3 := hr2.below hb3 hr2.lt
  have hx3 := hx1.below hb3 hx1.lt
  obtain ⟨m, hm⟩ : ∃ m, w1.heap.size = m := ⟨_, rfl⟩
  rw [hm] at hx3 ⊢
  have hs3 := hB3.size
  clear hw2 hm hx1 hr2 hB2 hb3 HC y0 y1 y2 yl
  obtain ⟨⟨a0, a1, a2, al⟩, ⟨f0, f1, f2⟩⟩ := row3 hr3
  obtain ⟨⟨b0, b1, b2, bl⟩, -⟩ := row3 hx3
  by_cases hsm : lt.l = x
  · have HQ := Lib.hid (Below.set3 hB3 hwr (.int .i64 0) (.int .i64 0) (.slice none 0 0))
    have HZ := Lib.hid (row3 (Row.set3 hr3 (.int .i64 0) (.int .i64 0) (.slice none 0 0))).1
    have HE : Hid (linP (ps.map (·.1)) p = x) := HLL2.out.trans hsm
    rw [decide_eq_true hsm]
    clear hsm hr3 hx3 hB3
    go_wp2
    obtain ⟨z0, z1, z2, _⟩ := HZ.out
    refine bodyPost_ret (v := .tuple #[.agg #[.int .i64 0, .int .i64 0, .slice none 0 0], .bool false]) (by simp only [results, Tryz.results52, go_sem]; simp [z0, z1, z2, go_sem]) rfl ?_
    exact ⟨HQ.out, .inr ⟨HE.out, rfl⟩⟩
  · have HE : Hid (linP (ps.map (·.1)) p ≠ x) := fun h => hsm (HLL2.out.symm.trans h)
    rw [decide_eq_false hsm]
    have HXS := Lib.hid (HX.out.below hB3)
    have ew : IntKind.i64.wrap (lt.v + 1) = lt.v + 1 := IntWalk.i64_in _ (by omega)
    clear hsm
    obtain ⟨n, d, ll⟩ := lt
    simp only at *
    go_wp2_with fail
    have HR3 := Lib.hid (And.intro hr3 (And.intro hB3 hx3))
    have HZZ : Hid (∀ w4 A4 n4 c4, Below w3.heap.size w3 w4 → Own w4 w3.heap.size 56 3 (.slice A4 n4 c4) (lns x) →
        Row (((w4.setCell ⟨r, 0, none⟩ (.int .i64 p)).setCell ⟨r, 1, none⟩ (.int .i64 (d + 1))).setCell ⟨r, 2, none⟩ (.slice A4 n4 c4)) r 25 #[.int .i64 p, .int .i64 (d + 1), .slice A4 n4 c4] ∧
        Below w.heap.size w (((w4.setCell ⟨r, 0, none⟩ (.int .i64 p)).setCell ⟨r, 1, none⟩ (.int .i64 (d + 1))).setCell ⟨r, 2, none⟩ (.slice A4 n4 c4)) ∧
        Own (((w4.setCell ⟨r, 0, none⟩ (.int .i64 p)).setCell ⟨r, 1, none⟩ (.int .i64 (d + 1))).setCell ⟨r, 2, none⟩ (.slice A4 n4 c4)) w.heap.size 56 3 (.slice A4 n4 c4) (lns x)) := fun w4 A4 n4 c4 hb ho => by
      have hne : Value.ownBlock (.slice A4 n4 c4) ≠ some r := fun e => by have := (ho.1.lt r e).1; have := hr3.lt; omega
      exact ⟨Row.set3 (hr3.below hb hr3.lt) _ _ _, Below.set3 (below_after hB3 hb hB3.size) hwr _ _ _, (own_set3 ho hne _ _ _).more hB3.size⟩
    clear hr3 hx3 hB3 a0 a1 a2 f0 f1 f2
    go_cut [7] (fun s3 wx => s3 = .bool true ∧ ∃ A4 n4 c4, Row wx r 25 #[.int .i64 p, .int .i64 (d + 1), .slice A4 n4 c4] ∧ Below w.heap.size w wx ∧ Own wx w.heap.size 56 3 (.slice A4 n4 c4) (lns x))
    case first =>
      have hxl3 : x.length ≤ 256 := hxl
      have HB1 := Lib.hid b1
      go_region_law (refine step_append_sl rfl (.tmp 25) (.tmp 26) rfl rowLn w3.heap.size _ _ [] (lns x) rfl (by first | exact (own_lit0 w3 56 3 w3.heap.size (Nat.le_refl _)).drew | exact own_lit0 w3.drew 56 3 w3.heap.size (Nat.le_refl _)) rfl (by first | exact HXS.out.below (below_a1 _ _)) (lns_wide x) (by simp only [lns_len, List.length_nil]; unfold maxLen; omega) (by simp only [lns_len, List.length_nil]; omega) (by simp) ?_; intro v7 w7 hown7 hg7 hv7; (have hb7 : Below w3.heap.size w3 w7 := (by exact Own.grown (own_lit0 w3 56 3 w3.heap.size (Nat.le_refl _)).drew (below_a1 _ _) hg7 (by simp))); obtain ⟨A4, n4, c4, rfl⟩ := hown7.slc; have q1 := (hb7.cell (p := ⟨m, 1, none⟩) bl).trans HB1.out; have H7 := Lib.hid (HZZ.out w7 A4 n4 c4 hb7 hown7); have hr7 := HR3.out.1.below hb7 HR3.out.1.lt; obtain ⟨⟨a0, a1, a2, al⟩, ⟨f0, f1, f2⟩⟩ := row3 hr7; clear hr7 hg7 hv7 hown7)
      all_goals (go_wp2_with fail; go_meet; exact ⟨rfl, A4, n4, c4, H7.out.1, H7.out.2.1, H7.out.2.2⟩)
    case rest =>
      obtain ⟨rfl, A4, n4, c4, q1, q2, q3⟩ := hcut
      have HZ := Lib.hid (row3 q1).1
      go_wp2
      obtain ⟨z0, z1, z2, _⟩ := HZ.out
      refine bodyPost_ret (v := .tuple #[.agg #[.int .i64 p, .int .i64 (d + 1), .slice A4 n4 c4], .bool true]) (by simp only [results, Tryz.results52, go_sem]; simp [z0, z1, z2, go_sem]) rfl ?_
      exact ⟨q2, .inl ⟨HE.out, _, by rw [HNX.out]; rfl, q3⟩⟩
end Go.Proofs.YtnkephafpebfkaaGreatDoor
