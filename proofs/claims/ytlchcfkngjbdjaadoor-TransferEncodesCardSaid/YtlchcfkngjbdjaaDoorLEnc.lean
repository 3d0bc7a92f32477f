/- The law TransferEncodes: it returns true. -/
import Derived.Test.YtlchcfkngjbdjaaDoorLRet
import Derived.Test.YtlchcfkngjbdjaaDoorTRf3
import Derived.Test.YtlchcfkngjbdjaaDoorGen1
import Derived.Deep.CutBlock
import Derived.Deep.DeepCutAuto
namespace Go.Proofs.YtlchcfkngjbdjaaDoor
open Go.RowKit Go.Shelf

def at4 (a b c d : Int) (k : Nat) : Int := match k with | 0 => a | 1 => b | 2 => c | _ => d
theorem row4_new (W : World) (t : TypeId) (a b c d : Int) {k : Nat} (hk : k < 4) : (W.alloc (.cells #[.int .i64 a, .int .i64 b, .int .i64 c, .int .i64 d] t)).cell? ⟨W.heap.size, k, none⟩ = some (.int .i64 (at4 a b c d k)) := by
  rw [World.cell?_alloc_new]
  match k, hk with
  | 0, _ => rfl
  | 1, _ => rfl
  | 2, _ => rfl
  | 3, _ => rfl
/-- where the switch ends: a box with some file, its payments readable -/
def EnM (w0 : World) (m : Nat) (wx : World) : Prop :=
  ∃ X : Fil, ∃ u, Row wx m 25 #[.int .i64 X.n, .int .i64 X.d, u] ∧ Sl wx 2 u (pays X.l) ∧ Below w0.heap.size w0 wx

/-- a box with a file whose payments are the call's own -/
structure EnB (w0 : World) (B1 D g m : Nat) (n d : Int) (rw : Array Value) (v : Value) (l : List Pay) (wr : World) : Prop where
  own : Own wr B1 27 2 v (pays l)
  box : Row wr m 25 #[.int .i64 n, .int .i64 d, v]
  raw : Row wr g 25 rw
  below : Below w0.heap.size w0 wr
  apart : v.ownBlock ≠ some m
  ord : w0.heap.size ≤ g ∧ g < D ∧ D < B1 ∧ B1 ≤ m
theorem EnB.same {w0 wr w' : World} {B1 D g m : Nat} {n d : Int} {rw : Array Value} {v : Value} {l : List Pay} (h : EnB w0 B1 D g m n d rw v l wr) (hb : Below wr.heap.size wr w') : EnB w0 B1 D g m n d rw v l w' :=
  ⟨h.own.kept hb, h.box.below hb h.box.lt, h.raw.below hb h.raw.lt, below_after h.below hb h.below.size, h.apart, h.ord⟩
theorem EnB.pick {w0 wr w' : World} {B1 D g m : Nat} {n d : Int} {rw : Array Value} {v : Value} {l : List Pay} (h : EnB w0 B1 D g m n d rw v l wr) (hg : wr.grownBy w' (some D)) : EnB w0 B1 D g m n d rw v l w' := by
  obtain ⟨o1, o2, o3, o4⟩ := h.ord
  refine ⟨h.own.keepG hg ?_, h.box.keep hg (by intro e; injection e; omega), h.raw.keep hg (by intro e; injection e; omega), below_map h.below hg (by omega), h.apart, h.ord⟩
  rcases hv : v.ownBlock with _ | j
  · exact .inl rfl
  · refine .inr fun e => ?_
    have := (h.own.1.lt j hv).1
    injection e; omega
theorem EnB.boxed {w0 wr : World} {B1 D g m : Nat} {n d : Int} {rw : Array Value} {v : Value} {l : List Pay} (h : EnB w0 B1 D g m n d rw v l wr) : wr.cell? ⟨m, 2, none⟩ = some v ∧ wr.frozen? ⟨m, 2, none⟩ = false ∧ m < wr.heap.size := ⟨(row3 h.box).1.2.2.1, (row3 h.box).2.2.2, h.box.lt⟩
theorem EnB.app {w0 W : World} {B1 D g m : Nat} {n d : Int} {rw : Array Value} {v : Value} {l : List Pay} (h : EnB w0 B1 D g m n d rw v l W) (p : Pay) {v7 : Value} {w7 : World}
    (hown7 : Own w7 B1 27 2 v7 (pays l ++ [p.vals])) (hg7 : W.grownBy w7 v.ownBlock) (hv7 : v7.ownBlock = v.ownBlock ∨ v7.ownBlock = some W.heap.size) :
    (EnM w0 m (w7.setCell ⟨m, 2, none⟩ v7) ∧ Row (w7.setCell ⟨m, 2, none⟩ v7) g 25 rw) ∧ w7.cell? ⟨m, 2, none⟩ = some v ∧ w7.frozen? ⟨m, 2, none⟩ = false ∧ m < w7.heap.size := by
  obtain ⟨o1, o2, o3, o4⟩ := h.ord
  have hml := h.box.lt
  have hlow : ∀ k, v.ownBlock = some k → B1 ≤ k := fun k hk => (h.own.1.lt k hk).1
  have hb7 := h.box.keep hg7 (fun e => h.apart e.symm)
  have hr7 := h.raw.keep hg7 (fun e => by have := hlow _ e.symm; omega)
  have hB7 : Below w0.heap.size w0 w7 := h.below.grown hg7 h.below.size (fun k hk => by have := hlow k hk; omega)
  have hne : v7.ownBlock ≠ some m := by
    rcases hv7 with e | e
    · rw [e]; exact h.apart
    · rw [e]; intro hh; injection hh with hh; omega
  refine ⟨⟨⟨⟨n, d, l ++ [p]⟩, v7, hb7.set 2 v7, ?_, hB7.setCell (p := ⟨m, 2, none⟩) (by simp only; omega) _⟩, hr7.far (p := ⟨m, 2, none⟩) (by simp only; omega) _⟩, (row3 hb7).1.2.2.1, (row3 hb7).2.2.2, hb7.lt⟩
  have := hown7.keepG (grown_set w7 m 2 v7) (.inr hne)
  show Sl _ 2 v7 (pays (l ++ [p]))
  rw [pays_append]
  exact this.sl (by omega)

set_option maxRecDepth 100000 in
set_option maxHeartbeats 4000000 in
theorem TransferEncodes_any (v : Value) (zs : List Int) (R : Fil) (ru : Value) (field bY : Int) (w : World) (hT : Tabs w) (hE : Errs w) (hv : Sl w 1 v (ints zs)) (hr : Sl w 2 ru (pays R.l)) :
    Calls Tryd.prog 4 #[v, .agg (R.vals ru), .int .i64 field, .int .i64 bY] w fun e w' => e = .returned (.bool true) ∧ Below w.heap.size w w' := by
  have HT := Lib.hid hT
  have HER := Lib.hid hE
  have hrv : R.vals ru = #[.int .i64 R.n, .int .i64 R.d, ru] := rfl
  rw [hrv]
  have HR := Lib.hid hr
  have HV := Lib.hid hv
  obtain ⟨A0, c0, rfl, -⟩ := hv
  obtain ⟨A1, c1, rfl, hr1, hr2, -⟩ := hr
  rw [pays_len] at hr1 HR
  unfold maxLen at hr2
  clear hT hE hrv
  have hW := Row.new w 25 #[.int .i64 R.n, .int .i64 R.d, .slice A1 (pays R.l).length c1]
  have hB := (Below.refl w.heap.size w).alloc (Nat.le_refl _) (.cells #[.int .i64 R.n, .int .i64 R.d, .slice A1 (pays R.l).length c1] 25)
  rw [pays_len] at hW hB ⊢
  obtain ⟨w0, hw0⟩ : ∃ w0, w.alloc (.cells #[.int .i64 R.n, .int .i64 R.d, .slice A1 R.l.length c1] 25) = w0 := ⟨_, rfl⟩
  rw [hw0] at hW hB
  obtain ⟨g, hg⟩ : ∃ g, w.heap.size = g := ⟨_, rfl⟩
  rw [hg] at hW
  have hgw0 : w.heap.size ≤ g := Nat.le_of_eq hg
  obtain ⟨⟨x0, x1, x2, xl⟩, -⟩ := row3 hW
  by_cases h60 : 60 < R.l.length
  · go_enter Tryd.func4, Tryd.ntmps4
    go_wp2_with fail
    clear hw0 hg x0 x1 x2 xl
    refine (awake_any w0 (HT.out.below hB) (HER.out.below hB)).mono ?_
    rintro e w9 ⟨rfl, hb9⟩
    have hB11 := below_after hB hb9 hB.size
    clear hb9 hB
    go_wp2
    go_ret
    exact ⟨rfl, hB11⟩
  have HN := Lib.hid (new_any _ zs w0 (HV.out.below hB))
  go_enter Tryd.func4, Tryd.ntmps4
  go_wp2_with fail
  clear hw0 hg x0 x1 x2 xl
  refine HN.out.mono ?_
  rintro e w1 ⟨rfl, hd1, hb1⟩
  have hB1 := below_after hB hb1 hB.size
  have hW1 := hW.below hb1 hW.lt
  have hgD := hW.lt
  have hDw := hB.size
  obtain ⟨D, hD⟩ : ∃ D, w0.heap.size = D := ⟨_, rfl⟩
  rw [hD] at hd1 hgD hDw ⊢
  clear HN hW hb1 hB hD
  go_wp2_with fail
  refine (File_any D 0 w1 hd1 (by omega)).mono ?_
  rintro e w2 ⟨f, v2, rfl, hG, hown2, dr2, hdr2, hd2, hg2⟩
  have hB2 := below_map hB1 hg2 hDw
  have hW2 := hW1.keep hg2 (by intro e; injection e; omega)
  obtain ⟨A2, c2, rfl⟩ := hown2.form
  rw [pays_len] at hown2 ⊢
  have hgv : f.vals (.slice A2 f.l.length c2) = #[.int .i64 f.n, .int .i64 f.d, .slice A2 f.l.length c2] := rfl
  rw [hgv]
  have hown3 := hown2.more hB1.size
  have hal := (Below.refl w2.heap.size w2).alloc (Nat.le_refl _) (.cells #[.int .i64 f.n, .int .i64 f.d, .slice A2 f.l.length c2] 25)
  have hX := Row.new w2 25 #[.int .i64 f.n, .int .i64 f.d, .slice A2 f.l.length c2]
  have hO := hown2.alloc (.cells #[.int .i64 f.n, .int .i64 f.d, .slice A2 f.l.length c2] 25)
  have hD3 := hd2.below hal
  have hB3 := below_after hB2 hal hB2.size
  have hW3 := hW2.below hal hW2.lt
  have hap : (Value.slice A2 f.l.length c2).ownBlock ≠ some w2.heap.size := fun e => by have := (hown2.1.lt _ e).2; omega
  have hlt2 := hg2.size
  have hs1 := hB1.size
  have hs2 := hB2.size
  have hd1l := hd1.lt
  obtain ⟨W3, hW3e⟩ : ∃ W3, w2.alloc (.cells #[.int .i64 f.n, .int .i64 f.d, .slice A2 f.l.length c2] 25) = W3 := ⟨_, rfl⟩
  obtain ⟨m, hm⟩ : ∃ m, w2.heap.size = m := ⟨_, rfl⟩
  rw [hW3e] at hX hO hD3 hB3 hW3
  rw [hm] at hX hap
  have hmw : w.heap.size ≤ m := by omega
  have hmD : D < m := by omega
  have hgm : g ≠ m := by have := hW2.lt; omega
  obtain ⟨B1, hB1e⟩ : ∃ B1, w1.heap.size = B1 := ⟨_, rfl⟩
  rw [hB1e] at hO
  have hBm : B1 ≤ m := by omega
  have hDB : D < B1 := by omega
  have hwB : w.heap.size ≤ B1 := by omega
  clear hgv hal hg2 hown2 hown3 hB1 hB2 hW1 hW2 hd1 hd2 hlt2 hs1 hs2 hd1l hB1e
  go_wp2_with fail
  clear hW3e hm
  refine (Mod_any _ _ _ (by omega) (by omega)).mono ?_
  rintro e w4 ⟨rfl, rfl⟩
  obtain ⟨k, hk⟩ : ∃ k : Nat, (k : Int) = bY % 4 := ⟨(bY % 4).toNat, by omega⟩
  have hk4 : k < 4 := by omega
  rw [← hk]
  clear hk
  go_wp2_with fail
  refine (Mod_any _ _ _ (by omega) (by omega)).mono ?_
  rintro e w4 ⟨rfl, rfl⟩
  obtain ⟨q, hq⟩ : ∃ q : Int, field % 5 = q := ⟨_, rfl⟩
  have hq1 : 0 ≤ q := by omega
  have hq2 : q < 5 := by omega
  rw [hq]
  clear hq
  go_upto_block 0 with (fail)
  go_cut [10] (fun s wx => s = .pointer (some ⟨m, 0, none⟩) ∧ EnM w m wx ∧ Row wx g 25 #[.int .i64 R.n, .int .i64 R.d, .slice A1 R.l.length c1])
  case first =>
    obtain ⟨⟨x0, x1, x2, xl⟩, ⟨f0, f1, f2⟩⟩ := row3 hX
    have hki : (k : Int) < 4 := by omega
    by_cases h0 : q = 0
    · subst h0
      have c4 := row4_new W3 3 0 1 256 257 hk4
      obtain ⟨z, hz⟩ : ∃ z, at4 0 1 256 257 k = z := ⟨_, rfl⟩
      rw [hz] at c4
      have R1 := (hX.set 0 (.int .i64 z)).alloc (.cells #[.int .i64 0, .int .i64 1, .int .i64 256, .int .i64 257] 3)
      have R2 := ((hO.keepG (grown_set _ m 0 (.int .i64 z)) (.inr hap)).alloc (.cells #[.int .i64 0, .int .i64 1, .int .i64 256, .int .i64 257] 3)).sl (by omega)
      have R3 := (hB3.setCell (p := ⟨m, 0, none⟩) hmw (.int .i64 z)).alloc (hB3.setCell (p := ⟨m, 0, none⟩) hmw (.int .i64 z)).size (.cells #[.int .i64 0, .int .i64 1, .int .i64 256, .int .i64 257] 3)
      have R4 := (hW3.far (p := ⟨m, 0, none⟩) hgm (.int .i64 z)).alloc (.cells #[.int .i64 0, .int .i64 1, .int .i64 256, .int .i64 257] 3)
      have HZ := Lib.hid (And.intro R1 (And.intro R2 (And.intro R3 R4)))
      clear R1 R2 R3 R4 hz hO hB3 hW3 hD3 hX hap
      go_wp2_with fail
      go_meet
      exact ⟨rfl, ⟨⟨z, f.d, f.l⟩, _, HZ.out.1, HZ.out.2.1, HZ.out.2.2.1⟩, HZ.out.2.2.2⟩
    have d0 : (q == 0) = false := by simpa using h0
    by_cases h1 : q = 1
    · subst h1
      have c4 := row4_new W3 3 (-1) 0 84005 84006 hk4
      obtain ⟨z, hz⟩ : ∃ z, at4 (-1) 0 84005 84006 k = z := ⟨_, rfl⟩
      rw [hz] at c4
      have R1 := (hX.set 1 (.int .i64 z)).alloc (.cells #[.int .i64 (-1), .int .i64 0, .int .i64 84005, .int .i64 84006] 3)
      have R2 := ((hO.keepG (grown_set _ m 1 (.int .i64 z)) (.inr hap)).alloc (.cells #[.int .i64 (-1), .int .i64 0, .int .i64 84005, .int .i64 84006] 3)).sl (by omega)
      have R3 := (hB3.setCell (p := ⟨m, 1, none⟩) hmw (.int .i64 z)).alloc (hB3.setCell (p := ⟨m, 1, none⟩) hmw (.int .i64 z)).size (.cells #[.int .i64 (-1), .int .i64 0, .int .i64 84005, .int .i64 84006] 3)
      have R4 := (hW3.far (p := ⟨m, 1, none⟩) hgm (.int .i64 z)).alloc (.cells #[.int .i64 (-1), .int .i64 0, .int .i64 84005, .int .i64 84006] 3)
      have HZ := Lib.hid (And.intro R1 (And.intro R2 (And.intro R3 R4)))
      clear R1 R2 R3 R4 hz hO hB3 hW3 hD3 hX hap
      go_wp2_with fail
      go_meet
      exact ⟨rfl, ⟨⟨f.n, z, f.l⟩, _, HZ.out.1, HZ.out.2.1, HZ.out.2.2.1⟩, HZ.out.2.2.2⟩
    have d1 : (q == 1) = false := by simpa using h1
    by_cases h2 : q = 2
    · subst h2
      have HS3 : Hid (EnB w B1 D g m f.n f.d #[.int .i64 R.n, .int .i64 R.d, .slice A1 R.l.length c1] (.slice A2 f.l.length c2) f.l W3) := EnB.mk hO hX hW3 hB3 hap ⟨hgw0, hgD, hDB, hBm⟩
      have HDK := Lib.hid hD3
      have HA1 : Hid (∀ o, Below W3.heap.size W3 (W3.alloc o).drew) := fun o => ((Below.refl _ _).alloc (Nat.le_refl _) _).drew
      have HA2 : Hid (∀ o o', Below W3.heap.size W3 ((W3.alloc o).alloc o').drew) := fun o o' => (((Below.refl _ _).alloc (Nat.le_refl _) _).alloc (by simp) _).drew
      have HCA : Hid (CellsAt (W3.alloc (.cells #[.int .i64 0, .int .i64 1, .int .i64 1000000000000, .int .i64 1000000000001] 3)).drew 1 W3.heap.size 0 (ints [0, 1, 1000000000000, 1000000000001])) := by
        have := cellsAt_ints W3 3 #[.int .i64 0, .int .i64 1, .int .i64 1000000000000, .int .i64 1000000000001] [0, 1, 1000000000000, 1000000000001] rfl
        exact this.below (below_a0 _) this.1
      have HCB : Hid (CellsAt ((W3.alloc (.cells #[.int .i64 0, .int .i64 1, .int .i64 2147483647, .int .i64 2147483648] 3)).alloc (.cells #[.int .i64 0, .int .i64 1, .int .i64 1000000000000, .int .i64 1000000000001] 3)).drew 1 (W3.heap.size + 1) 0 (ints [0, 1, 1000000000000, 1000000000001])) := by
        have := cellsAt_ints (W3.alloc (.cells #[.int .i64 0, .int .i64 1, .int .i64 2147483647, .int .i64 2147483648] 3)) 3 #[.int .i64 0, .int .i64 1, .int .i64 1000000000000, .int .i64 1000000000001] [0, 1, 1000000000000, 1000000000001] rfl
        rw [World.size_alloc] at this
        exact this.below (below_a0 _) this.1
      have HCC : Hid (CellsAt ((W3.alloc (.cells #[.int .i64 0, .int .i64 1, .int .i64 1000000000000, .int .i64 1000000000001] 3)).alloc (.cells #[.int .i64 0, .int .i64 1, .int .i64 2147483647, .int .i64 2147483648] 3)).drew 1 W3.heap.size 0 (ints [0, 1, 1000000000000, 1000000000001])) := by
        have := cellsAt_ints W3 3 #[.int .i64 0, .int .i64 1, .int .i64 1000000000000, .int .i64 1000000000001] [0, 1, 1000000000000, 1000000000001] rfl
        exact this.below (((Below.refl _ _).alloc (Nat.le_refl _) _).drew) this.1
      have g1 : (W3.alloc (.cells #[.int .i64 0, .int .i64 1, .int .i64 2147483647, .int .i64 2147483648] 3)).cell? ⟨W3.heap.size, k, none⟩ = some (.int .i64 (at4 0 1 2147483647 2147483648 k)) := row4_new W3 3 0 1 2147483647 2147483648 hk4
      have g2 : ((W3.alloc (.cells #[.int .i64 0, .int .i64 1, .int .i64 2147483647, .int .i64 2147483648] 3)).alloc (.cells #[.int .i64 0, .int .i64 1, .int .i64 1000000000000, .int .i64 1000000000001] 3)).cell? ⟨W3.heap.size, k, none⟩ = some (.int .i64 (at4 0 1 2147483647 2147483648 k)) := (World.cell?_alloc_lt _ _ _ (by simp)).trans g1
      have g3 : ((W3.alloc (.cells #[.int .i64 0, .int .i64 1, .int .i64 1000000000000, .int .i64 1000000000001] 3)).alloc (.cells #[.int .i64 0, .int .i64 1, .int .i64 2147483647, .int .i64 2147483648] 3)).cell? ⟨W3.heap.size + 1, k, none⟩ = some (.int .i64 (at4 0 1 2147483647 2147483648 k)) := by
        have := row4_new (W3.alloc (.cells #[.int .i64 0, .int .i64 1, .int .i64 1000000000000, .int .i64 1000000000001] 3)) 3 0 1 2147483647 2147483648 hk4
        rwa [World.size_alloc] at this
      have hl4 : f.l.length ≤ 4 := hG.2.2.1
      have hDl := hD3.lt
      have hmW := hX.lt
      have HPA : Hid (Calls Tryd.prog 13 #[.pointer (some ⟨D, 0, none⟩), .slice (some ⟨W3.heap.size, 0, none⟩) 4 4] (W3.alloc (.cells #[.int .i64 0, .int .i64 1, .int .i64 1000000000000, .int .i64 1000000000001] 3)).drew (PickPost (W3.alloc (.cells #[.int .i64 0, .int .i64 1, .int .i64 1000000000000, .int .i64 1000000000001] 3)).drew D dr2 [0, 1, 1000000000000, 1000000000001])) := Pick_any D dr2 (W3.heap.size) 4 [0, 1, 1000000000000, 1000000000001] _ (HDK.out.below (HA1.out (.cells #[.int .i64 0, .int .i64 1, .int .i64 1000000000000, .int .i64 1000000000001] 3))) (by omega) (by simp) (by simp) (by omega) HCA.out
      have HPB : Hid (Calls Tryd.prog 13 #[.pointer (some ⟨D, 0, none⟩), .slice (some ⟨W3.heap.size + 1, 0, none⟩) 4 4] ((W3.alloc (.cells #[.int .i64 0, .int .i64 1, .int .i64 2147483647, .int .i64 2147483648] 3)).alloc (.cells #[.int .i64 0, .int .i64 1, .int .i64 1000000000000, .int .i64 1000000000001] 3)).drew (PickPost ((W3.alloc (.cells #[.int .i64 0, .int .i64 1, .int .i64 2147483647, .int .i64 2147483648] 3)).alloc (.cells #[.int .i64 0, .int .i64 1, .int .i64 1000000000000, .int .i64 1000000000001] 3)).drew D dr2 [0, 1, 1000000000000, 1000000000001])) := Pick_any D dr2 (W3.heap.size + 1) 4 [0, 1, 1000000000000, 1000000000001] _ (HDK.out.below (HA2.out (.cells #[.int .i64 0, .int .i64 1, .int .i64 2147483647, .int .i64 2147483648] 3) (.cells #[.int .i64 0, .int .i64 1, .int .i64 1000000000000, .int .i64 1000000000001] 3))) (by omega) (by simp) (by simp) (by omega) HCB.out
      have HPC : Hid (Calls Tryd.prog 13 #[.pointer (some ⟨D, 0, none⟩), .slice (some ⟨W3.heap.size, 0, none⟩) 4 4] ((W3.alloc (.cells #[.int .i64 0, .int .i64 1, .int .i64 1000000000000, .int .i64 1000000000001] 3)).alloc (.cells #[.int .i64 0, .int .i64 1, .int .i64 2147483647, .int .i64 2147483648] 3)).drew (PickPost ((W3.alloc (.cells #[.int .i64 0, .int .i64 1, .int .i64 1000000000000, .int .i64 1000000000001] 3)).alloc (.cells #[.int .i64 0, .int .i64 1, .int .i64 2147483647, .int .i64 2147483648] 3)).drew D dr2 [0, 1, 1000000000000, 1000000000001])) := Pick_any D dr2 (W3.heap.size) 4 [0, 1, 1000000000000, 1000000000001] _ (HDK.out.below (HA2.out (.cells #[.int .i64 0, .int .i64 1, .int .i64 1000000000000, .int .i64 1000000000001] 3) (.cells #[.int .i64 0, .int .i64 1, .int .i64 2147483647, .int .i64 2147483648] 3))) (by omega) (by simp) (by simp) (by omega) HCC.out
      clear hO hX hW3 hB3 hap hD3 hG
      go_wp2_with fail
      go_region_law (first | (refine step_append_sl rfl (.tmp 50) (.tmp 59) rfl rowPay B1 _ _ (pays f.l) [Pay.vals ⟨at4 0 1 2147483647 2147483648 k, r⟩] rfl ((H8.out.same ((Below.refl _ _).alloc (Nat.le_refl _) _)).own) rfl (Sl.one rfl rfl) (pay_wide _) (by simp only [pays_len, List.length_cons, List.length_nil]; unfold maxLen; omega) (by simp only [pays_len, List.length_cons, List.length_nil]; omega) (by have h81 := H8.out.box.lt; have h82 := H8.out.ord; simp only [World.size_alloc]; omega) ?_; intro v7 w7 hown7 hg7 hv7; obtain ⟨g7, c7, rfl, hc7⟩ := hown7.form1 (by simp); simp only [List.length_append, pays_len, List.length_cons, List.length_nil, Nat.zero_add] at hown7 hg7 hv7 hc7 ⊢; have H7 := Lib.hid ((H8.out.same ((Below.refl _ _).alloc (Nat.le_refl _) _)).app ⟨at4 0 1 2147483647 2147483648 k, r⟩ hown7 hg7 hv7); have y2 := H7.out.2.1; have y3 := H7.out.2.2.1; have y4 := H7.out.2.2.2; clear hown7 hg7 hv7) | (refine step_append_sl rfl (.tmp 50) (.tmp 59) rfl rowPay B1 _ _ (pays f.l) [Pay.vals ⟨at4 0 1 2147483647 2147483648 k, r⟩] rfl (((H8.out.same ((Below.refl _ _).alloc (Nat.le_refl _) (.cells #[.int .i64 0, .int .i64 1, .int .i64 2147483647, .int .i64 2147483648] 3))).same ((Below.refl _ _).alloc (Nat.le_refl _) _)).own) rfl (Sl.one (World.size_alloc _ _) rfl) (pay_wide _) (by simp only [pays_len, List.length_cons, List.length_nil]; unfold maxLen; omega) (by simp only [pays_len, List.length_cons, List.length_nil]; omega) (by have h81 := H8.out.box.lt; have h82 := H8.out.ord; simp only [World.size_alloc]; omega) ?_; intro v7 w7 hown7 hg7 hv7; obtain ⟨g7, c7, rfl, hc7⟩ := hown7.form1 (by simp); simp only [List.length_append, pays_len, List.length_cons, List.length_nil, Nat.zero_add] at hown7 hg7 hv7 hc7 ⊢; have H7 := Lib.hid (((H8.out.same ((Below.refl _ _).alloc (Nat.le_refl _) (.cells #[.int .i64 0, .int .i64 1, .int .i64 2147483647, .int .i64 2147483648] 3))).same ((Below.refl _ _).alloc (Nat.le_refl _) _)).app ⟨at4 0 1 2147483647 2147483648 k, r⟩ hown7 hg7 hv7); have y2 := H7.out.2.1; have y3 := H7.out.2.2.1; have y4 := H7.out.2.2.2; clear hown7 hg7 hv7) | (go_simp; (with_reducible refine HPA.out.mono ?_); rintro e w8 ⟨r, -, rfl, -, hg8⟩; have H8 := Lib.hid ((HS3.out.same (HA1.out (.cells #[.int .i64 0, .int .i64 1, .int .i64 1000000000000, .int .i64 1000000000001] 3))).pick hg8); obtain ⟨c8, f8, m8⟩ := H8.out.boxed; have e4 := row4_new w8 3 0 1 2147483647 2147483648 hk4; clear hg8) | (go_simp; (with_reducible refine HPB.out.mono ?_); rintro e w8 ⟨r, -, rfl, -, hg8⟩; have H8 := Lib.hid ((HS3.out.same (HA2.out (.cells #[.int .i64 0, .int .i64 1, .int .i64 2147483647, .int .i64 2147483648] 3) (.cells #[.int .i64 0, .int .i64 1, .int .i64 1000000000000, .int .i64 1000000000001] 3))).pick hg8); obtain ⟨c8, f8, m8⟩ := H8.out.boxed; have e4 := (World.cell?_of_block (a := ⟨W3.heap.size, k, none⟩) (hg8.block W3.heap.size (by first | (simp; done) | (simp; omega)) (by intro e; injection e; omega))).trans g2; clear hg8) | (go_simp; (with_reducible refine HPC.out.mono ?_); rintro e w8 ⟨r, -, rfl, -, hg8⟩; have H8 := Lib.hid ((HS3.out.same (HA2.out (.cells #[.int .i64 0, .int .i64 1, .int .i64 1000000000000, .int .i64 1000000000001] 3) (.cells #[.int .i64 0, .int .i64 1, .int .i64 2147483647, .int .i64 2147483648] 3))).pick hg8); obtain ⟨c8, f8, m8⟩ := H8.out.boxed; have e4 := (World.cell?_of_block (a := ⟨W3.heap.size + 1, k, none⟩) (hg8.block (W3.heap.size + 1) (by first | (simp; done) | (simp; omega)) (by intro e; injection e; omega))).trans g3; clear hg8))
      all_goals (clear x0 x1 x2 f0 f1 f2 g1 g2 g3 e4 c8 f8 m8 y2 y3 y4; go_wp2_with fail; go_meet; exact ⟨rfl, H7.out.1⟩)
    have d2 : (q == 2) = false := by simpa using h2
    have HO := Lib.hid (hO.sl (by omega))
    go_wp2_with fail
    go_meet
    exact ⟨rfl, ⟨f, _, hX, HO.out, hB3⟩, hW3⟩
  case rest =>
    clear hX hO hD3 hB3 hW3 hap hG
    obtain ⟨rfl, ⟨X, u, hX4, hS4, hB4⟩, hW4⟩ := hcut
    obtain ⟨w4, hw4⟩ : ∃ w4 : World, w4 = wc := ⟨_, rfl⟩
    subst hw4
    obtain ⟨tx, txe⟩ : ∃ tx : ByteArray, bsOf (encT X) = tx := ⟨_, rfl⟩
    obtain ⟨ex, exe⟩ : ∃ ex : Int, encE X = ex := ⟨_, rfl⟩
    obtain ⟨tr, tre⟩ : ∃ tr : ByteArray, bsOf (encT R) = tr := ⟨_, rfl⟩
    obtain ⟨er, ere⟩ : ∃ er : Int, encE R = er := ⟨_, rfl⟩
    have HQ := Lib.hid (And.intro txe (And.intro exe (And.intro tre ere)))
    clear txe exe tre ere
    obtain ⟨⟨x0, x1, x2, xl⟩, -⟩ := row3 hX4
    obtain ⟨⟨y0, y1, y2, yl⟩, -⟩ := row3 hW4
    have HC5 : Hid (Calls Tryd.prog 7 #[.agg #[.int .i64 X.n, .int .i64 X.d, u]] w4 fun e w' => e = .returned (.tuple #[.string tx, .int .i64 ex]) ∧ Below w4.heap.size w4 w') := by
      obtain ⟨txe, exe, tre, ere⟩ := HQ.out
      have := Encode_any X u w4 hS4 (HT.out.below hB4)
      rw [← txe, ← exe]
      exact this
    go_wp2_with fail
    clear x0 x1 x2 xl y0 y1 y2 yl
    refine HC5.out.mono ?_
    rintro e w5 ⟨rfl, hb5⟩
    have hB5 := below_after hB4 hb5 hB4.size
    have hX5 := hX4.below hb5 hX4.lt
    have hW5 := hW4.below hb5 hW4.lt
    have hS5 := hS4.below hb5
    clear hb5 hB4 hX4 hW4 hS4 HC5
    obtain ⟨⟨x0, x1, x2, xl⟩, -⟩ := row3 hX5
    obtain ⟨⟨y0, y1, y2, yl⟩, -⟩ := row3 hW5
    have HC6 : Hid (Calls Tryd.prog 14 #[.agg #[.int .i64 X.n, .int .i64 X.d, u]] w5 fun e w' => e = .returned (.tuple #[.string tx, .int .i64 ex]) ∧ Below w5.heap.size w5 w') := by
      obtain ⟨txe, exe, tre, ere⟩ := HQ.out
      have := refEncode_any X u w5 hS5
      rw [← txe, ← exe]
      exact this
    go_wp2_with fail
    clear x0 x1 x2 xl y0 y1 y2 yl
    refine HC6.out.mono ?_
    rintro e w6 ⟨rfl, hb6⟩
    have hB6 := below_after hB5 hb6 hB5.size
    have hX6 := hX5.below hb6 hX5.lt
    have hW6 := hW5.below hb6 hW5.lt
    have hS6 := hS5.below hb6
    clear hb6 hB5 hX5 hW5 hS5 HC6
    obtain ⟨⟨x0, x1, x2, xl⟩, -⟩ := row3 hX6
    obtain ⟨⟨y0, y1, y2, yl⟩, -⟩ := row3 hW6
    have HC7 : Hid (Calls Tryd.prog 7 #[.agg #[.int .i64 R.n, .int .i64 R.d, .slice A1 R.l.length c1]] w6 fun e w' => e = .returned (.tuple #[.string tr, .int .i64 er]) ∧ Below w6.heap.size w6 w') := by
      obtain ⟨txe, exe, tre, ere⟩ := HQ.out
      have := Encode_any R (.slice A1 R.l.length c1) w6 (HR.out.below hB6) (HT.out.below hB6)
      rw [← tre, ← ere]
      exact this
    go_wp2_with fail
    clear x0 x1 x2 xl y0 y1 y2 yl
    refine HC7.out.mono ?_
    rintro e w7 ⟨rfl, hb7⟩
    have hB7 := below_after hB6 hb7 hB6.size
    have hX7 := hX6.below hb7 hX6.lt
    have hW7 := hW6.below hb7 hW6.lt
    have hS7 := hS6.below hb7
    clear hb7 hB6 hX6 hW6 hS6 HC7
    obtain ⟨⟨x0, x1, x2, xl⟩, -⟩ := row3 hX7
    obtain ⟨⟨y0, y1, y2, yl⟩, -⟩ := row3 hW7
    have HC8 : Hid (Calls Tryd.prog 14 #[.agg #[.int .i64 R.n, .int .i64 R.d, .slice A1 R.l.length c1]] w7 fun e w' => e = .returned (.tuple #[.string tr, .int .i64 er]) ∧ Below w7.heap.size w7 w') := by
      obtain ⟨txe, exe, tre, ere⟩ := HQ.out
      have := refEncode_any R (.slice A1 R.l.length c1) w7 (HR.out.below hB7)
      rw [← tre, ← ere]
      exact this
    go_wp2_with fail
    clear x0 x1 x2 xl y0 y1 y2 yl
    refine HC8.out.mono ?_
    rintro e w8 ⟨rfl, hb8⟩
    have hB8 := below_after hB7 hb8 hB7.size
    have hX8 := hX7.below hb8 hX7.lt
    have hW8 := hW7.below hb8 hW7.lt
    have hS8 := hS7.below hb8
    clear hb8 hB7 hX7 hW7 hS7 HC8
    obtain ⟨bx, hbx⟩ : ∃ b, filB X = b := ⟨_, rfl⟩
    obtain ⟨br, hbr⟩ : ∃ b, filB R = b := ⟨_, rfl⟩
    have HV1 : Hid (∀ y : Ext w8, Calls Tryd.prog 9 #[.agg #[.int .i64 X.n, .int .i64 X.d, u]] y.val fun e w' => e = .returned (.bool bx) ∧ Below y.val.heap.size y.val w') := fun y => by
      rw [← hbx]; exact Valid_any X u y.val (hS8.below y.property)
    have HV2 : Hid (∀ y : Ext w8, Calls Tryd.prog 15 #[.agg #[.int .i64 X.n, .int .i64 X.d, u]] y.val fun e w' => e = .returned (.bool bx) ∧ Below y.val.heap.size y.val w') := fun y => by
      rw [← hbx]; exact refValidF_any X u y.val (hS8.below y.property)
    have HV3 : Hid (∀ y : Ext w8, Calls Tryd.prog 9 #[.agg #[.int .i64 R.n, .int .i64 R.d, .slice A1 R.l.length c1]] y.val fun e w' => e = .returned (.bool br) ∧ Below y.val.heap.size y.val w') := fun y => by
      rw [← hbr]; exact Valid_any R (.slice A1 R.l.length c1) y.val ((HR.out.below hB8).below y.property)
    have HV4 : Hid (∀ y : Ext w8, Calls Tryd.prog 15 #[.agg #[.int .i64 R.n, .int .i64 R.d, .slice A1 R.l.length c1]] y.val fun e w' => e = .returned (.bool br) ∧ Below y.val.heap.size y.val w') := fun y => by
      rw [← hbr]; exact refValidF_any R (.slice A1 R.l.length c1) y.val ((HR.out.below hB8).below y.property)
    have HV5 : Hid (∀ y : Ext w8, Calls Tryd.prog 10 #[] y.val fun e w' => e = .returned (.bool true) ∧ Below y.val.heap.size y.val w') := fun y => by
      have hy := below_after hB8 y.property hB8.size
      exact awake_any y.val (HT.out.below hy) (HER.out.below hy)
    have HFI : Hid (∀ y : Ext w8, Below w.heap.size w y.val) := fun y => below_after hB8 y.property hB8.size
    obtain ⟨⟨x0, x1, x2, xl⟩, -⟩ := row3 hX8
    obtain ⟨⟨y0, y1, y2, yl⟩, -⟩ := row3 hW8
    have p0 := ext_cell xl x0
    have p1 := ext_cell xl x1
    have p2 := ext_cell xl x2
    have q0 := ext_cell yl y0
    have q1 := ext_cell yl y1
    have q2 := ext_cell yl y2
    clear hbx hbr x0 x1 x2 y0 y1 y2 hX8 hW8 hS8 hB8
    go_wp2_with fail
    refine region_ext (by kernel_rfl) (by kernel_rfl) ?_
    repeat (go_big_quiet_step (first | (go_at_call_of 9 (u); exact ext_call (HV1.out _)) | (go_at_call_of 15 (u); exact ext_call (HV2.out _)) | (go_at_call_of 9 (A1); exact ext_call (HV3.out _)) | (go_at_call_of 15 (A1); exact ext_call (HV4.out _)) | (go_at_call 10; exact ext_call (HV5.out _))))
    refine wpQuiet_nil ?_
    rintro _ ⟨y, rfl⟩
    go_wp2
    go_ret
    exact ⟨rfl, HFI.out y⟩
end Go.Proofs.YtlchcfkngjbdjaaDoor
