/- The law PayslipForms: it returns true. -/
import Derived.Test.YtljhdkdabiemmaaDoorAwk34
import Derived.Test.YtljhdkdabiemmaaDoorDeck3
import Derived.Test.YtljhdkdabiemmaaDoorGen1
import Derived.Test.YtljhdkdabiemmaaDoorPut
import Derived.Deep.CutBlock
import Derived.Deep.DeepCutAuto
import Derived.RegionTactic
namespace Go.Proofs.YtljhdkdabiemmaaDoor
open Go.RowKit

/-- the numbers of a new array -/
theorem cellsAt_newL (w : World) (t : TypeId) (c : Array Value) (xs : List Int) (h : c.toList = xs.map (.int .i64)) : CellsAt (w.alloc (.cells c t)) 1 w.heap.size 0 (ints xs) := by
  refine ⟨by simp, fun i e hi j u hu => ?_⟩
  rw [World.cell?_alloc_new]
  simp only [ints, List.getElem?_map, Option.map_eq_some_iff] at hi
  obtain ⟨z, hz, rfl⟩ := hi
  match j, hu with
  | 0, hu =>
    simp only [List.getElem?_cons_zero, Option.some.injEq] at hu
    subst hu
    have : c.toList[i]? = some (.int .i64 z) := by rw [h]; simp [hz]
    simpa using this

set_option maxRecDepth 100000 in
set_option maxHeartbeats 3200000 in
theorem PayslipForms_any (x : Ln) (v : Value) (zs : List Int) (k : Int) (w : World) (hT : Tabs w) (hW : Words w) (hv : Sl w 1 v (ints zs)) :
    Calls Tryd.prog 4 #[.agg #[.int .i64 x.kind, .string x.code, .int .i64 x.amt], v, .int .i64 k] w fun e w' => e = .returned (.bool true) ∧ Below w.heap.size w w' := by
  have HT := Lib.hid hT
  have HW := Lib.hid hW
  have HV := Lib.hid hv
  clear hT hW hv
  by_cases hc : x.code.size ≤ 60
  rotate_left
  · have d1 : decide ((60 : Int) < (x.code.size : Int)) = true := decide_eq_true (by omega)
    have hb0 : Below w.heap.size w (w.alloc (Obj.cells #[Value.int IntKind.i64 x.kind, Value.string x.code, Value.int IntKind.i64 x.amt] 25)) := (Below.refl _ _).alloc (Nat.le_refl _) _
    go_enter Tryd.func4, Tryd.ntmps4
    go_wp2_with fail
    refine (awake34_any _ (HT.out.below hb0) (HW.out.below hb0)).mono ?_
    rintro e w6 ⟨rfl, hb6⟩
    go_wp2
    go_ret
    exact ⟨rfl, below_after hb0 hb6 hb0.size⟩
  have d1 : decide ((60 : Int) < (x.code.size : Int)) = false := decide_eq_false (by omega)
  go_enter Tryd.func4, Tryd.ntmps4
  go_wp2_with fail
  obtain ⟨w0, hw0⟩ : ∃ w0, w0 = w.alloc (Obj.cells #[Value.int IntKind.i64 x.kind, Value.string x.code, Value.int IntKind.i64 x.amt] 25) := ⟨_, rfl⟩
  rw [← hw0]
  have hb0 : Below w.heap.size w w0 := by rw [hw0]; exact (Below.refl _ _).alloc (Nat.le_refl _) _
  have hR0 : Box w0 w.heap.size x := by rw [hw0]; exact Row.new _ _ _
  have hs0 : w.heap.size < w0.heap.size := by rw [hw0]; simp
  clear hw0 d1 hc
  refine (new_any v zs w0 (HV.out.below hb0)).mono ?_
  rintro e w2 ⟨rfl, hd2, hb2⟩
  obtain ⟨D, hDe⟩ : ∃ D, D = w0.heap.size := ⟨_, rfl⟩
  rw [← hDe] at hd2 ⊢
  have hDlo : w.heap.size < D := by omega
  have hB2 := below_after hb0 hb2 (Nat.le_of_lt hs0)
  have hR2 := hR0.below hb2 (by omega)
  clear HV hb0 hb2 hDe hR0
  have hs2 := hB2.size
  have hDlt := hd2.lt
  go_wp2_with fail
  refine (Line_any D 0 w2 hd2 (by omega)).mono ?_
  rintro e w3 ⟨y, hy1, hy2, rfl, d3, hd3, hK3, hg3⟩
  have hB3 := hB2.grown hg3 hs2 (fun g hg => by cases hg; exact Nat.le_of_lt hDlo)
  have hR3 : Box w3 w.heap.size x := Row.keep hR2 hg3 (fun e => by injection e with e; omega)
  have hs3 := hB3.size
  have hs23 := hg3.size
  clear hB2 hg3 hd2 hR2
  go_upto_region 5 with (fail)
  obtain ⟨w4, hw4⟩ : ∃ w4, w4 = w3.alloc (Obj.cells #[Value.int IntKind.i64 y.kind, Value.string y.code, Value.int IntKind.i64 y.amt] 25) := ⟨_, rfl⟩
  rw [← hw4]
  have hb4 : Below w3.heap.size w3 w4 := by rw [hw4]; exact (Below.refl _ _).alloc (Nat.le_refl _) _
  have hY4 : Box w4 w3.heap.size y := by rw [hw4]; exact Row.new _ _ _
  have hs4 : w3.heap.size < w4.heap.size := by rw [hw4]; simp
  have hB4 := below_after hB3 hb4 hs3
  have hR4 := hR3.below hb4 hR3.cells.2.2.2.2
  have hK4 := hK3.below hb4
  clear hw4 hB3 hR3 hK3 hb4
  obtain ⟨G, hG⟩ : ∃ G, G = w3.heap.size := ⟨_, rfl⟩
  rw [← hG] at hY4 hs4 ⊢
  have hGD : D < G := by have := hs23; omega
  clear hG
  go_cut [9, 10] (fun s9 s10 wx => ∃ g9 g10 : Nat, s9 = .pointer (some ⟨g9, 0, none⟩) ∧ s10 = .pointer (some ⟨g10, 0, none⟩) ∧ g9 ≠ g10 ∧ w4.heap.size ≤ g9 ∧ w4.heap.size ≤ g10 ∧ Box wx g9 y ∧ Box wx g10 y ∧ Below w4.heap.size w4 wx)
  case first =>
    obtain ⟨c0, c1, c2, -, -⟩ := hY4.cells
    have ne1 : G ≠ w4.heap.size := by omega
    have k0 : ∀ o, (w4.alloc o).cell? ⟨G, 0, none⟩ = _ := fun o => (World.cell?_alloc_lt w4 o ⟨G, 0, none⟩ hs4).trans c0
    have kk0 : ∀ o o', ((w4.alloc o).alloc o').cell? ⟨G, 0, none⟩ = _ := fun o o' => (World.cell?_alloc_lt (w4.alloc o) o' ⟨G, 0, none⟩ (by simp; omega)).trans (k0 o)
    have k1 : ∀ o, (w4.alloc o).cell? ⟨G, 1, none⟩ = _ := fun o => (World.cell?_alloc_lt w4 o ⟨G, 1, none⟩ hs4).trans c1
    have kk1 : ∀ o o', ((w4.alloc o).alloc o').cell? ⟨G, 1, none⟩ = _ := fun o o' => (World.cell?_alloc_lt (w4.alloc o) o' ⟨G, 1, none⟩ (by simp; omega)).trans (k1 o)
    have k2 : ∀ o, (w4.alloc o).cell? ⟨G, 2, none⟩ = _ := fun o => (World.cell?_alloc_lt w4 o ⟨G, 2, none⟩ hs4).trans c2
    have kk2 : ∀ o o', ((w4.alloc o).alloc o').cell? ⟨G, 2, none⟩ = _ := fun o o' => (World.cell?_alloc_lt (w4.alloc o) o' ⟨G, 2, none⟩ (by simp; omega)).trans (k2 o)
    have BX1 : Hid (Box ((w4.alloc (Obj.cells #[Value.int IntKind.i64 y.kind, Value.string y.code, Value.int IntKind.i64 y.amt] 25)).alloc (Obj.cells #[Value.int IntKind.i64 y.kind, Value.string y.code, Value.int IntKind.i64 y.amt] 25)).drew w4.heap.size y) := Row.alloc (Row.new w4 _ _) _
    have BX2 : Hid (Box ((w4.alloc (Obj.cells #[Value.int IntKind.i64 y.kind, Value.string y.code, Value.int IntKind.i64 y.amt] 25)).alloc (Obj.cells #[Value.int IntKind.i64 y.kind, Value.string y.code, Value.int IntKind.i64 y.amt] 25)).drew (w4.heap.size + 1) y) := by
      have h := Row.new (w4.alloc (Obj.cells #[Value.int IntKind.i64 y.kind, Value.string y.code, Value.int IntKind.i64 y.amt] 25)) 25 #[Value.int IntKind.i64 y.kind, Value.string y.code, Value.int IntKind.i64 y.amt]
      rw [show (w4.alloc (Obj.cells #[Value.int IntKind.i64 y.kind, Value.string y.code, Value.int IntKind.i64 y.amt] 25)).heap.size = w4.heap.size + 1 by simp] at h
      exact h
    have BB : Hid (Below w4.heap.size w4 ((w4.alloc (Obj.cells #[Value.int IntKind.i64 y.kind, Value.string y.code, Value.int IntKind.i64 y.amt] 25)).alloc (Obj.cells #[Value.int IntKind.i64 y.kind, Value.string y.code, Value.int IntKind.i64 y.amt] 25)).drew) := (((Below.refl _ _).alloc (Nat.le_refl _) _).alloc (by simp) _).drew
    go_region
    all_goals
      go_wp2_with fail
      go_meet
      first
        | exact ⟨_, _, rfl, rfl, by omega, by omega, by omega, BX1.out, BX2.out, BB.out⟩
        | exact ⟨_, _, rfl, rfl, by omega, by omega, by omega, BX2.out, BX1.out, BB.out⟩
  case rest =>
    obtain ⟨g9, g10, rfl, rfl, hne, hl9, hl10, hX9, hX10, hb5⟩ := hcut
    obtain ⟨w5, hw5⟩ : ∃ w5 : World, w5 = wc := ⟨_, rfl⟩
    subst hw5
    have hB5 := below_after hB4 hb5 hB4.size
    have hY5 := hY4.below hb5 hs4
    have hR5 := hR4.below hb5 hR4.cells.2.2.2.2
    have hK5 := hK4.below hb5
    have hk9 := hX9.cells.2.2.2.2
    clear hB4 hY4 hR4 hK4 hb5
    go_wp2_with fail
    refine (Mod_any k 13 w5 (by omega) (by omega)).mono ?_
    rintro e w6 ⟨rfl, rfl⟩
    have hm1 := Int.emod_nonneg k (show (13 : Int) ≠ 0 by omega)
    have hm2 := Int.emod_lt_of_pos k (show (0 : Int) < 13 by omega)
    obtain ⟨M, hM⟩ : ∃ M, M = k % 13 := ⟨_, rfl⟩
    rw [← hM] at hm1 hm2 ⊢
    clear hM
    have q0 := hX9.cells.1
    have f0 : w5.frozen? ⟨g9, 0, none⟩ = false := Row.frozen hX9 0
    go_wp2_with fail
    obtain ⟨w7, hw7⟩ : ∃ w7, w7 = w5.setCell ⟨g9, 0, none⟩ (.int .i64 (M - 1)) := ⟨_, rfl⟩
    rw [← hw7]
    have hz7 : w7.heap.size = w5.heap.size := by rw [hw7]; simp
    have hX7 : Box w7 g9 ⟨M - 1, y.code, y.amt⟩ := by rw [hw7]; exact Row.set hX9 0 _
    have hZ7 : Box w7 g10 y := by rw [hw7]; exact Row.far hX10 (fun e => hne e.symm) _
    have hY7 : Box w7 G y := by rw [hw7]; exact Row.far hY5 (by show G ≠ g9; omega) _
    have hR7 : Box w7 w.heap.size x := by rw [hw7]; exact Row.far hR5 (by show w.heap.size ≠ g9; omega) _
    have hB7 : Below w.heap.size w w7 := by rw [hw7]; exact hB5.setCell (by show w.heap.size ≤ g9; omega) _
    have hK7 : Deck w7 D d3 := by rw [hw7]; exact hK5.keep (grown_set _ _ _ _) (fun g hg => by injection hg with hg; omega)
    have hca := cellsAt_newL w7 3 #[.int .i64 0, .int .i64 1000000000000, .int .i64 1000000000001, .int .i64 (-1000000000000), .int .i64 (-1000000000001)] [0, 1000000000000, 1000000000001, -1000000000000, -1000000000001] rfl
    rw [hz7] at hca
    have hHZ := Lib.hid hz7
    clear hw7 hX9 hX10 hY5 hR5 hB5 hK5 q0 f0 hz7
    refine (Pick_any D d3 w5.heap.size 5 [0, 1000000000000, 1000000000001, -1000000000000, -1000000000001] _ (hK7.below ((Below.refl _ _).alloc (Nat.le_refl _) _)) (by omega) (by simp) (by simp) (by omega) hca).mono ?_
    rintro e w8 ⟨m, -, rfl, -, hg8⟩
    have hX8 : Box w8 g9 ⟨M - 1, y.code, y.amt⟩ := Row.keep (Row.alloc hX7 _) hg8 (fun e => by injection e with e; omega)
    have hZ8 : Box w8 g10 y := Row.keep (Row.alloc hZ7 _) hg8 (fun e => by injection e with e; omega)
    have hY8 : Box w8 G y := Row.keep (Row.alloc hY7 _) hg8 (fun e => by injection e with e; omega)
    have hR8 : Box w8 w.heap.size x := Row.keep (Row.alloc hR7 _) hg8 (fun e => by injection e with e; omega)
    have hB8 : Below w.heap.size w w8 := (hB7.alloc hB7.size _).grown hg8 (Nat.le_trans hB7.size (by simp)) (fun g hg => by injection hg with hg; omega)
    clear hX7 hZ7 hY7 hR7 hB7 hK7 hca hHZ hg8
    obtain ⟨-, -, z2, zf, -⟩ := hZ8.cells
    go_upto_region 8 with (fail)
    obtain ⟨w9, hw9⟩ : ∃ w9, w9 = w8.setCell ⟨g10, 2, none⟩ (.int .i64 m) := ⟨_, rfl⟩
    rw [← hw9]
    have hX9 : Box w9 g9 ⟨M - 1, y.code, y.amt⟩ := by rw [hw9]; exact Row.far hX8 hne _
    have hZ9 : Box w9 g10 ⟨y.kind, y.code, m⟩ := by rw [hw9]; exact hZ8.add m
    have hY9 : Box w9 G y := by rw [hw9]; exact Row.far hY8 (by show G ≠ g10; omega) _
    have hR9 : Box w9 w.heap.size x := by rw [hw9]; exact Row.far hR8 (by show w.heap.size ≠ g10; omega) _
    have hB9 : Below w.heap.size w w9 := by rw [hw9]; exact hB8.setCell (by show w.heap.size ≤ g10; omega) _
    have hs9 := hB9.size
    clear hw9 hX8 hZ8 hY8 hR8 hB8 z2 zf
    obtain ⟨a0, a1, a2, -, al⟩ := hX9.cells
    obtain ⟨b0, b1, b2, -, bl⟩ := hZ9.cells
    obtain ⟨c0, c1, c2, -, cl⟩ := hY9.cells
    obtain ⟨r0, r1, r2, -, rl⟩ := hR9.cells
    have a0 := ext_cell al a0
    have a1 := ext_cell al a1
    have a2 := ext_cell al a2
    have b0 := ext_cell bl b0
    have b1 := ext_cell bl b1
    have b2 := ext_cell bl b2
    have c0 := ext_cell cl c0
    have c1 := ext_cell cl c1
    have c2 := ext_cell cl c2
    have r0 := ext_cell rl r0
    have r1 := ext_cell rl r1
    have r2 := ext_cell rl r2
    clear hX9 hZ9 hY9 hR9
    have F1 := Lib.hid (fun q : Ext w9 => Form_any x q.val)
    have F2 := Lib.hid (fun q : Ext w9 => refForm_any x q.val)
    have F3 := Lib.hid (fun q : Ext w9 => (show Calls Tryd.prog 15 #[.agg #[.int .i64 y.kind, .string y.code, .int .i64 y.amt]] q.val fun e w' => e = .returned (.bool true) ∧ Below q.val.heap.size q.val w' by rw [← hy1]; exact Form_any y q.val))
    have F4 := Lib.hid (fun q : Ext w9 => Form_any ⟨M - 1, y.code, y.amt⟩ q.val)
    have F5 := Lib.hid (fun q : Ext w9 => refForm_any ⟨M - 1, y.code, y.amt⟩ q.val)
    have F6 := Lib.hid (fun q : Ext w9 => Form_any ⟨y.kind, y.code, m⟩ q.val)
    have F7 := Lib.hid (fun q : Ext w9 => refForm_any ⟨y.kind, y.code, m⟩ q.val)
    have F8 := Lib.hid (fun q : Ext w9 => awake34_any q.val ((HT.out.below hB9).below q.property) ((HW.out.below hB9).below q.property))
    have HB9 := Lib.hid hB9
    clear hB9 hy1 hy2
    refine region_ext (by kernel_rfl) (by kernel_rfl) ?_
    repeat (go_big_quiet_step ((first | (go_at_call 15; first | (with_reducible exact ext_call (F1.out _)) | (with_reducible exact ext_call (F3.out _)) | (with_reducible exact ext_call (F4.out _)) | (with_reducible exact ext_call (F6.out _))) | (go_at_call 16; first | (with_reducible exact ext_call (F2.out _)) | (with_reducible exact ext_call (F5.out _)) | (with_reducible exact ext_call (F7.out _))) | (go_at_call 11; exact ext_call (F8.out _)))))
    refine wpQuiet_nil ?_
    rintro _ ⟨q, rfl⟩
    go_wp2
    go_ret
    exact ⟨rfl, HB9.out.trans (q.property.mono hs9)⟩
end Go.Proofs.YtljhdkdabiemmaaDoor
