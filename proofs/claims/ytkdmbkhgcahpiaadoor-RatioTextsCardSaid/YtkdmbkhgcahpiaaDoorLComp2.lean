/- Contract of payrollgen.Tape.Fraction; the law RatioComputes: it returns true. -/
import Derived.Test.YtkdmbkhgcahpiaaDoorLComp
namespace Go.Proofs.YtkdmbkhgcahpiaaDoor
open Go.RowKit

/-- the call draws a fraction, which may be wrong -/
def FracPost (w : World) (D : Nat) (e : Ending) (w' : World) : Prop :=
  ∃ n d : Int, (-9223372036854775808 ≤ n ∧ n ≤ 9223372036854775807) ∧ (-9223372036854775808 ≤ d ∧ d ≤ 9223372036854775807) ∧ e = .returned (.agg #[.int .i64 n, .int .i64 d]) ∧ Tape w' D ∧ w.grownBy w' (some D)
theorem frac_end {w wz : World} {D g : Nat} (ht : Tape wz D) (hg : w.grownBy wz (some D)) (hD : D < w.heap.size) (hg2 : w.heap.size < g) (x y u v : Value) :
    Tape ((((wz.setCell ⟨g, 0, none⟩ x).setCell ⟨g, 1, none⟩ y).setCell ⟨w.heap.size, 0, none⟩ u).setCell ⟨w.heap.size, 1, none⟩ v) D ∧ w.grownBy ((((wz.setCell ⟨g, 0, none⟩ x).setCell ⟨g, 1, none⟩ y).setCell ⟨w.heap.size, 0, none⟩ u).setCell ⟨w.heap.size, 1, none⟩ v) (some D) := by
  have k1 := gb_set hg (p := ⟨g, 0, none⟩) (.inr (Nat.le_of_lt hg2)) x
  have k2 := gb_set k1 (p := ⟨g, 1, none⟩) (.inr (Nat.le_of_lt hg2)) y
  have k3 := gb_set k2 (p := ⟨w.heap.size, 0, none⟩) (.inr (Nat.le_refl _)) u
  have k4 := gb_set k3 (p := ⟨w.heap.size, 1, none⟩) (.inr (Nat.le_refl _)) v
  have g0 : wz.grownBy wz (some g) := World.grownBy.refl _ _
  have t1 := ht.keep (gb_set (gb_set g0 (p := ⟨g, 0, none⟩) (.inl rfl) x) (p := ⟨g, 1, none⟩) (.inl rfl) y) (fun k hk => by injection hk with hk; omega)
  have h0 : ((wz.setCell ⟨g, 0, none⟩ x).setCell ⟨g, 1, none⟩ y).grownBy ((wz.setCell ⟨g, 0, none⟩ x).setCell ⟨g, 1, none⟩ y) (some w.heap.size) := World.grownBy.refl _ _
  exact ⟨t1.keep (gb_set (gb_set h0 (p := ⟨w.heap.size, 0, none⟩) (.inl rfl) u) (p := ⟨w.heap.size, 1, none⟩) (.inl rfl) v) (fun k hk => by injection hk with hk; omega), k4⟩
theorem frac_end2 {w wz : World} {D g : Nat} (ht : Tape wz D) (hg : w.grownBy wz (some D)) (hD : D < w.heap.size) (hg2 : w.heap.size < g) (y u v : Value) :
    Tape (((wz.setCell ⟨g, 1, none⟩ y).setCell ⟨w.heap.size, 0, none⟩ u).setCell ⟨w.heap.size, 1, none⟩ v) D ∧ w.grownBy (((wz.setCell ⟨g, 1, none⟩ y).setCell ⟨w.heap.size, 0, none⟩ u).setCell ⟨w.heap.size, 1, none⟩ v) (some D) := by
  have k2 := gb_set hg (p := ⟨g, 1, none⟩) (.inr (Nat.le_of_lt hg2)) y
  have k3 := gb_set k2 (p := ⟨w.heap.size, 0, none⟩) (.inr (Nat.le_refl _)) u
  have k4 := gb_set k3 (p := ⟨w.heap.size, 1, none⟩) (.inr (Nat.le_refl _)) v
  have g0 : wz.grownBy wz (some g) := World.grownBy.refl _ _
  have t1 := ht.keep (gb_set g0 (p := ⟨g, 1, none⟩) (.inl rfl) y) (fun k hk => by injection hk with hk; omega)
  have h0 : (wz.setCell ⟨g, 1, none⟩ y).grownBy (wz.setCell ⟨g, 1, none⟩ y) (some w.heap.size) := World.grownBy.refl _ _
  exact ⟨t1.keep (gb_set (gb_set h0 (p := ⟨w.heap.size, 0, none⟩) (.inl rfl) u) (p := ⟨w.heap.size, 1, none⟩) (.inl rfl) v) (fun k hk => by injection hk with hk; omega), k4⟩
theorem frac_end1 {w wz : World} {D : Nat} (ht : Tape wz D) (hg : w.grownBy wz (some D)) (hD : D < w.heap.size) (u v : Value) :
    Tape ((wz.setCell ⟨w.heap.size, 0, none⟩ u).setCell ⟨w.heap.size, 1, none⟩ v) D ∧ w.grownBy ((wz.setCell ⟨w.heap.size, 0, none⟩ u).setCell ⟨w.heap.size, 1, none⟩ v) (some D) := by
  have k3 := gb_set hg (p := ⟨w.heap.size, 0, none⟩) (.inr (Nat.le_refl _)) u
  have k4 := gb_set k3 (p := ⟨w.heap.size, 1, none⟩) (.inr (Nat.le_refl _)) v
  have h0 : wz.grownBy wz (some w.heap.size) := World.grownBy.refl _ _
  exact ⟨ht.keep (gb_set (gb_set h0 (p := ⟨w.heap.size, 0, none⟩) (.inl rfl) u) (p := ⟨w.heap.size, 1, none⟩) (.inl rfl) v) (fun k hk => by injection hk with hk; omega), k4⟩

set_option maxRecDepth 100000 in
set_option maxHeartbeats 3200000 in
theorem Frac_any (D : Nat) (w : World) (hd : Tape w D) :
    Calls Tryd.prog 20 #[.pointer (some ⟨D, 0, none⟩)] w (FracPost w D) := by
  have hDl := hd.lt
  have hg0 : w.grownBy (w.alloc (.cells #[.int .i64 0, .int .i64 0] 23)) (some D) := gb_alloc (World.grownBy.refl _ _) _
  have ht0 := hd.below ((Below.refl _ _).alloc (Nat.le_refl _) (.cells #[.int .i64 0, .int .i64 0] 23))
  have rR0 := Row.new w 23 #[.int .i64 0, .int .i64 0]
  go_enter Tryd.func20, Tryd.ntmps20
  go_wp2_with fail
  generalize w.alloc (Obj.cells #[Value.int .i64 0, Value.int .i64 0] 23) = w0 at hg0 ht0 rR0 ⊢
  refine (TRat_any D _ ht0).mono ?_
  rintro e w1 ⟨n, d, hv, rfl, ht1, hh⟩
  have hg1 := gb_trans hg0 hh
  have rR1 := rR0.keepD hh (by omega)
  obtain ⟨i1, i2, i3, i4, -⟩ := vld_iff.1 hv
  clear hh ht0 hg0 rR0 hv
  go_wp2_with fail
  have hal : Below w1.heap.size w1 (w1.alloc (.cells #[.int .i64 n, .int .i64 d] 23)) := (Below.refl _ _).alloc (Nat.le_refl _) _
  have rC2 := Row.new w1 23 #[.int .i64 n, .int .i64 d]
  have hgc : w.heap.size < w1.heap.size := rR1.lt
  have rR2 := rR1.below hal rR1.lt
  have ht2 := ht1.below hal
  have hg2 := gb_below hg1 hal
  clear hal rR1 ht1 hg1
  generalize w1.alloc (Obj.cells #[Value.int .i64 n, Value.int .i64 d] 23) = w2 at rC2 rR2 ht2 hg2 ⊢
  generalize w1.heap.size = g at rC2 hgc ⊢
  refine (Draw_any D 10 _ ht2 (by omega) (by omega)).mono ?_
  rintro e w3 ⟨r, ⟨r1, r2⟩, rfl, ht3, hh⟩
  have hg3 := gb_trans hg2 hh
  have rR3 := rR2.keepD hh (by omega)
  have rC3 := rC2.keepD hh (by omega)
  clear hh ht2 hg2 rR2 rC2
  obtain ⟨c0, c1, f0, f1⟩ := pair_cells rR3
  obtain ⟨d0, d1, e0, e1⟩ := pair_cells rC3
  have hne : ¬ g = w.heap.size := by omega
  have hne2 : ¬ w.heap.size = g := by omega
  by_cases h8 : r = 8
  · subst h8
    go_wp2_with fail
    refine bodyPost_ret (v := .agg #[.int .i64 (2 * n), .int .i64 (2 * d)]) (by simp [results, Tryd.results20, go_sem, c0, c1, hne, hne2]) rfl ⟨_, _, by omega, by omega, rfl, ?_, ?_⟩
    · exact (frac_end ht3 hg3 hDl hgc _ _ _ _).1
    · exact (frac_end ht3 hg3 hDl hgc _ _ _ _).2
  have n8 : (r == 8) = false := by simpa using h8
  by_cases h9 : r = 9
  · subst h9
    clear c0 c1 f0 f1 d0 d1 e0 e1
    go_wp2_with fail
    have hal : Below w3.heap.size w3 (w3.alloc (.cells #[.int .i64 0, .int .i64 (-1), .int .i64 1000001] 3)) := (Below.refl _ _).alloc (Nat.le_refl _) _
    have hlg := rC3.lt
    refine (Choice_any D w3.heap.size 3 [0, -1, 1000001] _ (ht3.below hal) (by simp) (by simp) ht3.lt (cellsAt_ints _ _ _ _ rfl)).mono ?_
    rintro e w4 ⟨p, pm, rfl, ht4, hh⟩
    have hg4 := gb_trans (gb_below hg3 hal) hh
    have rR4 := (rR3.below hal rR3.lt).keepD hh (by omega)
    have rC4 := (rC3.below hal rC3.lt).keepD hh (by omega)
    have pb : -1 ≤ p ∧ p ≤ 1000001 := by simp at pm; omega
    clear hh ht3 hg3 rR3 rC3 hal pm
    obtain ⟨c0, c1, f0, f1⟩ := pair_cells rR4
    obtain ⟨d0, d1, e0, e1⟩ := pair_cells rC4
    go_wp2_with fail
    refine bodyPost_ret (v := .agg #[.int .i64 n, .int .i64 p]) (by simp [results, Tryd.results20, go_sem, c0, c1, hne, hne2]) rfl ⟨_, _, by omega, by omega, rfl, ?_, ?_⟩
    · exact (frac_end2 ht4 hg4 hDl hgc _ _ _).1
    · exact (frac_end2 ht4 hg4 hDl hgc _ _ _).2
  have n9 : (r == 9) = false := by simpa using h9
  clear h8 h9
  go_wp2_with fail
  refine bodyPost_ret (v := .agg #[.int .i64 n, .int .i64 d]) (by simp [results, Tryd.results20, go_sem, c0, c1, hne, hne2]) rfl ⟨_, _, by omega, by omega, rfl, ?_, ?_⟩
  · exact (frac_end1 ht3 hg3 hDl _ _).1
  · exact (frac_end1 ht3 hg3 hDl _ _).2

set_option maxRecDepth 100000 in
set_option maxHeartbeats 3200000 in
theorem RatioComputes_any (v : Value) (zs : List Int) (a b c d : Int) (w : World) (hT : Tabs w) (hE : Errs w) (hv : Sl w 1 v (ints zs)) (_ha : -9223372036854775808 ≤ a ∧ a ≤ 9223372036854775807) (_hb : -9223372036854775808 ≤ b ∧ b ≤ 9223372036854775807) (_hc : -9223372036854775808 ≤ c ∧ c ≤ 9223372036854775807) (_hd : -9223372036854775808 ≤ d ∧ d ≤ 9223372036854775807) :
    Calls Tryd.prog 8 #[v, .agg #[.int .i64 a, .int .i64 b], .agg #[.int .i64 c, .int .i64 d]] w fun e w' => e = .returned (.bool true) ∧ Below w.heap.size w w' := by
  have HT := Lib.hid hT
  have HE := Lib.hid hE
  have HV := Lib.hid hv
  clear hT hE hv _ha _hb _hc _hd
  go_enter Tryd.func8, Tryd.ntmps8
  go_wp2_with fail
  obtain ⟨A0, B0, hB0⟩ := rows2 w 23 #[.int .i64 a, .int .i64 b] #[.int .i64 c, .int .i64 d]
  generalize ((w.alloc (Obj.cells #[Value.int .i64 a, Value.int .i64 b] 23)).alloc (Obj.cells #[Value.int .i64 c, Value.int .i64 d] 23)) = w0 at A0 B0 hB0 ⊢
  have hs0 := hB0.size
  have lA := A0.lt
  have lB := B0.lt
  refine (tapeNew_any v zs w0 (HV.out.below hB0)).mono ?_
  rintro e w1 ⟨rfl, ht1, hb1⟩
  obtain ⟨D, hD⟩ : ∃ D, D = w0.heap.size := ⟨_, rfl⟩
  rw [← hD] at ht1 lA lB hs0 ⊢
  have A1 := A0.below hb1 A0.lt
  have B1 := B0.below hb1 B0.lt
  have hB1 := below_after hB0 hb1 hB0.size
  clear hb1 A0 B0 hB0 hD HV
  go_wp2_with fail
  go_loopw [8] (fun i wr => ∃ k : Nat, k ≤ 6 ∧ i = .int .i64 k ∧ Tape wr D ∧ Row wr w.heap.size 23 #[.int .i64 a, .int .i64 b] ∧ Row wr (w.heap.size + 1) 23 #[.int .i64 c, .int .i64 d] ∧ Below w.heap.size w wr) (fun i _ => 6 - (intOf i).toNat)
  case atStart => exact ⟨0, by omega, rfl, ht1, A1, B1, hB1⟩
  case round =>
    obtain ⟨k, hk, rfl, ht, hA, hBx, hB⟩ := hrel
    clear ht1 A1 B1 hB1
    by_cases hlt : k < 6
    · have hsr := hB.size
      go_wp2_with fail
      refine (Frac_any D _ ht).mono ?_
      rintro e w2 ⟨n1, m1, _, _, rfl, ht2, hh⟩
      have hA2 := hA.keepD hh (by omega)
      have hBx2 := hBx.keepD hh (by omega)
      have hB2 := hB.grown hh hsr (fun g hg => by cases hg; omega)
      have hs2 := hB2.size
      clear hh ht hA hBx hB
      go_wp2_with fail
      refine (Frac_any D _ ht2).mono ?_
      rintro e w3 ⟨n2, m2, _, _, rfl, ht3, hh⟩
      have hA3 := hA2.keepD hh (by omega)
      have hBx3 := hBx2.keepD hh (by omega)
      have hB3 := hB2.grown hh hs2 (fun g hg => by cases hg; omega)
      clear hh ht2 hA2 hBx2 hB2
      go_wp2_with fail
      refine (agrees_any n1 m1 n2 m2 _).mono ?_
      rintro e w4 ⟨rfl, hb4⟩
      have hA4 := hA3.below hb4 hA3.lt
      have hBx4 := hBx3.below hb4 hBx3.lt
      have ht4 := ht3.below hb4
      have hB4 := below_after hB3 hb4 hB3.size
      clear hb4 hA3 hBx3 ht3 hB3
      go_wp2_with fail
      go_roundw
      case rel => exact ⟨k + 1, by omega, by go_num, ht4, hA4, hBx4, hB4⟩
      case measure => simp [intOf]; omega
    · obtain rfl : k = 6 := by omega
      obtain ⟨a0, a1, _, _⟩ := pair_cells hA
      obtain ⟨b0, b1, _, _⟩ := pair_cells hBx
      have hsr := hB.size
      go_wp2_with fail
      refine (agrees_any a b c d _).mono ?_
      rintro e w2 ⟨rfl, hb2⟩
      have hA2 := hA.below hb2 hA.lt
      have hBx2 := hBx.below hb2 hBx.lt
      have hB2 := below_after hB hb2 hsr
      clear hb2 hA hBx hB a0 a1 b0 b1
      obtain ⟨a0, a1, _, _⟩ := pair_cells hA2
      obtain ⟨b0, b1, _, _⟩ := pair_cells hBx2
      go_wp2_with fail
      refine (agrees_any c d a b _).mono ?_
      rintro e w3 ⟨rfl, hb3⟩
      have hB3 := below_after hB2 hb3 hB2.size
      clear a0 a1 b0 b1 hb3 hB2 hA2 hBx2
      go_wp2_with fail
      refine (sane_any _ (HT.out.below hB3) (HE.out.below hB3)).mono ?_
      rintro e w4 ⟨rfl, hb4⟩
      go_wp2
      go_ret
      exact ⟨rfl, below_after hB3 hb4 hB3.size⟩
end Go.Proofs.YtkdmbkhgcahpiaaDoor
