/- The law BookUndoes: it returns true. -/
import Derived.Test.YtlchelgibilacaaRef3
import Derived.Test.YtlchelgibilacaaDeck4
import Derived.Test.YtlchelgibilacaaAwk
import Derived.Test.YtlchelgibilacaaExt
namespace Go.Proofs.Ytlchelgibilacaa
open Go.RowKit

/-- the numbers of a new array -/
theorem cellsAt_new (w : World) (t : TypeId) (c : Array Value) (xs : List Int) (h : c.toList = xs.map (.int .i64)) : CellsAt (w.alloc (.cells c t)) 1 w.heap.size 0 (ints xs) := by
  refine ⟨by simp, fun i e hi j u hu => ?_⟩
  rw [World.cell?_alloc_new]
  simp only [ints, List.getElem?_map, Option.map_eq_some_iff] at hi
  obtain ⟨z, hz, rfl⟩ := hi
  match j, hu with
  | 0, hu =>
    simp only [List.getElem?_cons_zero, Option.some.injEq] at hu
    subst hu
    have : c.toList[i]? = some (.int .i64 z) := by rw [h]; simp [hz]
    simpa using this

set_option maxRecDepth 100000 in
set_option maxHeartbeats 1600000 in
theorem BookUndoes_any (v : Value) (zs : List Int) (u : Value) (l : List Pst) (r s : Int) (w : World) (hv : Sl w 1 v (ints zs)) (hu : Sl w 6 u (psts l)) :
    Calls Try.prog 7 #[v, u, .int .i64 r, .int .i64 s] w fun e w' => e = .returned (.bool true) ∧ Below w.heap.size w w' := by
  go_enter Try.func7, Try.ntmps7
  go_wp2_with fail
  refine (short_any u l w hu).mono ?_
  rintro e w1 ⟨rfl, hb1⟩
  have hs1 := hb1.size
  cases hsh : shortB l
  · go_wp2_with fail
    refine (awake_any _).mono ?_
    rintro e w6 ⟨rfl, hb6⟩
    go_wp2
    go_ret
    exact ⟨rfl, below_after hb1 hb6 hs1⟩
  have HV := Lib.hid (hv.below hb1)
  have HU := Lib.hid hu
  clear hv hu hsh
  go_wp2_with fail
  refine (new_any v zs w1 HV.out).mono ?_
  rintro e w2 ⟨rfl, hd2, hb2⟩
  obtain ⟨D, hDe⟩ : ∃ D, D = w1.heap.size := ⟨_, rfl⟩
  rw [← hDe] at hd2 ⊢
  have hDlo : w.heap.size ≤ D := by omega
  have hB2 := below_after hb1 hb2 hs1
  clear HV hb1 hb2 hDe
  have hs2 := hB2.size
  have hDlt := hd2.lt
  go_wp2_with fail
  refine (DBook_any D 0 4 w2 hd2 (by omega) (by omega)).mono ?_
  rintro e w3 ⟨x, b, R, d3, rfl, hgood, hR, hlen, hown3, hd3, hdd3, hg3⟩
  have hB3 := hB2.grown hg3 hs2 (fun g hg => by cases hg; exact hDlo)
  have hs3 := hB3.size
  have hs23 := hg3.size
  clear hB2 hg3 hd2 hgood hR
  go_wp2_with fail
  refine (Next_any D d3 _ w3 hd3 (by omega) (by omega) (by omega)).mono ?_
  rintro e w4 ⟨n, _, rfl, hd4, hg4⟩
  have hB4 := hB3.grown hg4 hs3 (fun g hg => by cases hg; exact hDlo)
  have hs4 := hB4.size
  have hs34 := hg4.size
  have hown4 := hown3.keepD hg4 hDlt
  clear hB3 hg4 hd3 hown3
  go_wp2_with fail
  refine (Pick_any D (d3 + 1) w4.heap.size 6 [9, 12, 3, 0, 256, 257] _ (hd4.below ((Below.refl _ _).alloc (Nat.le_refl _) _)) (by omega) (by simp) (by simp) (by omega) (cellsAt_new _ _ _ _ rfl)).mono ?_
  rintro e w5 ⟨m, _, rfl, hd5, hg5⟩
  have hB5 := (hB4.alloc hs4 _).grown hg5 (by simp; omega) (fun g hg => by cases hg; exact hDlo)
  have hs5 := hB5.size
  have hs45 := hg5.size
  have hown5 := (hown4.alloc _).keepD hg5 hDlt
  have HS5 := Lib.hid (hown5.sl (by omega))
  clear hB4 hg5 hd4 hown4 hown5 hd5 hs45
  go_wp2_with fail
  refine (Undo_any x b n m w5 HS5.out).mono ?_
  rintro e w6 ⟨p, rfl, hown6, hb6⟩
  go_wp2_with fail
  refine (refUndo_any x b n m w6 (HS5.out.below hb6)).mono ?_
  rintro e w7 ⟨q, rfl, hown7, hb7⟩
  have hB7 := below_after (below_after hB5 hb6 hs5) hb7 (Nat.le_trans hs5 hb6.size)
  have hs7 := hB7.size
  have HP := Lib.hid ((hown6.sl (by omega)).below hb7)
  have HQ := Lib.hid (hown7.sl (by omega))
  clear HS5 hB5 hown6 hown7 hb6 hb7
  go_wp2_with fail
  refine (Undo_any u l r s w7 (HU.out.below hB7)).mono ?_
  rintro e w8 ⟨p2, rfl, hown8, hb8⟩
  have hB8 := below_after hB7 hb8 hs7
  have hs8 := hB8.size
  go_wp2_with fail
  refine (refUndo_any u l r s w8 (HU.out.below hB8)).mono ?_
  rintro e w9 ⟨q2, rfl, hown9, hb9⟩
  have hB9 := below_after hB8 hb9 hs8
  have hs9 := hB9.size
  have HP2 := Lib.hid ((hown8.sl (by omega)).below hb9)
  have HQ2 := Lib.hid (hown9.sl (by omega))
  have HP' := Lib.hid ((HP.out.below hb8).below hb9)
  have HQ' := Lib.hid ((HQ.out.below hb8).below hb9)
  clear HP HQ hB7 hB8 hown8 hown9 hb8 hb9
  obtain ⟨E1, hE1⟩ : ∃ E, E = undoE b n m := ⟨_, rfl⟩
  obtain ⟨E2, hE2⟩ : ∃ E, E = undoE l r s := ⟨_, rfl⟩
  rw [← hE1, ← hE2]
  clear hE1 hE2
  go_wp2_with fail
  refine (Same_any p q _ w9 HP'.out HQ'.out).mono ?_
  rintro e w10 ⟨rfl, hb10⟩
  have hB10 := below_after hB9 hb10 hs9
  have hs10 := hB10.size
  go_wp2_with fail
  refine (Same_any p2 q2 _ w10 (HP2.out.below hb10) (HQ2.out.below hb10)).mono ?_
  rintro e w11 ⟨rfl, hb11⟩
  have hB11 := below_after hB10 hb11 hs10
  have hs11 := hB11.size
  go_wp2_with fail
  refine (awake_any _).mono ?_
  rintro e w12 ⟨rfl, hb12⟩
  go_wp2
  go_ret
  exact ⟨rfl, below_after hB11 hb12 hs11⟩

end Go.Proofs.Ytlchelgibilacaa
