/- payrolllaw6.merges and the law TimelineMerges: they return true. -/
import Derived.Test.YtnmbaeahnfbfiaaRfM
import Derived.Test.YtnmbaeahnfbfiaaChgN
import Derived.Test.YtnmbaeahnfbfiaaChgO
import Derived.Test.YtnmbaeahnfbfiaaLPast
namespace Go.Proofs.Ytnmbaeahnfbfiaa
open Go.RowKit

theorem mrgC_len (a b : List Chg) : (mrgC a b).length ≤ 4096 := by
  unfold mrgC
  split
  · rename_i h
    unfold mrgE at h
    split at h
    · split at h
      · split at h
        · cases h
        · omega
      · rename_i h1; exact absurd h h1
    · rename_i h1; exact absurd h h1
  · simp

set_option maxRecDepth 100000 in
set_option maxHeartbeats 4000000 in
theorem merges_any (va vb : Value) (a b : List Chg) (w : World) (ha : Sl w 4 va (chgs a)) (hb : Sl w 4 vb (chgs b)) :
    Calls Try.prog 8 #[va, vb] w fun e w' => e = .returned (.bool true) ∧ Below w.heap.size w w' := by
  have A0 := Lib.hid ha
  have B0 := Lib.hid hb
  clear ha hb
  obtain ⟨M, hM⟩ : ∃ M, mrgC a b = M := ⟨_, rfl⟩
  obtain ⟨E, hE⟩ : ∃ E, mrgE a b = E := ⟨_, rfl⟩
  have hMl := mrgC_len a b
  rw [hM] at hMl
  have HQ : Hid (mrgC a b = M ∧ mrgE a b = E) := ⟨hM, hE⟩
  clear hM hE
  go_enter Try.func8, Try.ntmps8
  go_wp2_with fail
  refine (Merge_any _ _ a b _ A0.out B0.out).mono ?_
  rw [HQ.out.1, HQ.out.2]
  rintro e w1 ⟨m1, rfl, om1, hb1⟩
  have A1 := Lib.hid (A0.out.below hb1)
  have B1 := Lib.hid (B0.out.below hb1)
  have M1 := Lib.hid (om1.sl (by omega))
  have G1 := Lib.hid hb1
  clear A0 B0 om1 hb1
  go_wp2_with fail
  refine (refMerge_any _ _ a b _ A1.out B1.out).mono ?_
  rw [HQ.out.1, HQ.out.2]
  rintro e w2 ⟨m2, rfl, om2, hb2⟩
  have M2 := Lib.hid (M1.out.below hb2)
  have N2 := Lib.hid (om2.sl (by omega))
  have G2 := Lib.hid (G1.out.trans (hb2.mono G1.out.size))
  clear A1 B1 M1 G1 om2 hb2
  go_wp2_with fail
  refine (same_any _ _ M M _ M2.out N2.out hMl hMl).mono ?_
  rintro e w3 ⟨rfl, hb3⟩
  have G3 := Lib.hid (G2.out.trans (hb3.mono G2.out.size))
  have hd : decide (M = M) = true := by simp
  rw [hd]
  clear hb3 hd
  go_wp2
  go_ret
  exact ⟨rfl, G3.out⟩

def LmR (w1 : World) (D : Nat) (i : Value) (wr : World) : Prop := ∃ k : Nat, k ≤ 3 ∧ i = .int .i64 k ∧ Tape wr D ∧ w1.grownBy wr (some D)
set_option maxRecDepth 100000 in
set_option maxHeartbeats 4000000 in
theorem TMerges_any (v : Value) (zs : List Int) (va : Value) (a : List Chg) (vb : Value) (b : List Chg) (w : World) (hv : Sl w 1 v (ints zs)) (ha : Sl w 4 va (chgs a)) (hb : Sl w 4 vb (chgs b)) :
    Calls Try.prog 3 #[v, va, vb] w fun e w' => e = .returned (.bool true) ∧ Below w.heap.size w w' := by
  have HV := Lib.hid hv
  have HA := Lib.hid ha
  have HB := Lib.hid hb
  have fa : ∃ P c, va = .slice P a.length c := by obtain ⟨P, c, h, _⟩ := ha; rw [chgs_len] at h; exact ⟨P, c, h⟩
  have fb : ∃ P c, vb = .slice P b.length c := by obtain ⟨P, c, h, _⟩ := hb; rw [chgs_len] at h; exact ⟨P, c, h⟩
  obtain ⟨A1, c1, rfl⟩ := fa
  obtain ⟨A2, c2, rfl⟩ := fb
  clear hv ha hb
  go_enter Try.func3, Try.ntmps3
  go_wp2_with fail
  refine (tapeNew_any v zs w HV.out).mono ?_
  rintro e w1 ⟨rfl, ht1, hb1⟩
  clear HV
  obtain ⟨D, hD⟩ : ∃ D, w.heap.size = D := ⟨_, rfl⟩
  rw [hD] at ht1
  have HD := Lib.hid hD
  have hD1 := ht1.lt
  clear hD
  rw [HD.out]
  have HT1 := Lib.hid ht1
  clear ht1
  go_wp2_with fail
  go_loopw [8] (fun i wr => LmR w1 D i wr) (fun i _ => 3 - (intOf i).toNat)
  case atStart => exact ⟨0, by omega, rfl, HT1.out, World.grownBy.refl _ _⟩
  case round =>
    obtain ⟨k, hk, rfl, ht, hg⟩ := hrel
    obtain ⟨wo, rfl⟩ : ∃ wo : World, wo = wr := ⟨_, rfl⟩
    have hzo := hg.size
    by_cases hlt : k < 3
    · go_wp2_with fail
      refine (TChg_any D 6 true wo ht (by omega) (by omega)).mono ?_
      rintro e w2 ⟨cs, x, rfl, hll, hm, s2⟩
      clear hm ht
      go_wp2_with fail
      refine (TChg_any D 6 true w2 s2.tape (by omega) (by omega)).mono ?_
      rintro e w3 ⟨cs2, x2, rfl, hll2, hm2, s3⟩
      clear hm2
      have o3 := Lib.hid (s2.own.keepG s3.grown (s2.own.ne_low s2.low))
      have g3 := Lib.hid (gb_trans s2.grown s3.grown)
      clear s2
      go_wp2_with fail
      refine (merges_any _ _ cs cs2 _ (o3.out.sl (by omega)) (s3.own.sl (by omega))).mono ?_
      rintro e w7 ⟨rfl, hb7⟩
      have s7 := s3.below hb7
      have g7 := gb_below g3.out hb7
      clear s3 hb7
      go_wp2
      go_roundw
      case rel => exact ⟨k + 1, by omega, by go_num, s7.tape, gb_trans hg g7⟩
      case measure => simp [intOf]; omega
    · have hB := Lib.hid (hb1.grown hg hb1.size (fun g hg => by cases hg; rw [HD.out]; exact Nat.le_refl _))
      clear hg ht
      by_cases h40 : 40 < a.length
      · have d40 : decide ((40 : Int) < (a.length : Int)) = true := decide_eq_true (by omega)
        go_wp2
        go_ret
        exact ⟨rfl, hB.out⟩
      · have d40 : decide ((40 : Int) < (a.length : Int)) = false := decide_eq_false (by omega)
        by_cases h41 : 40 < b.length
        · have d41 : decide ((40 : Int) < (b.length : Int)) = true := decide_eq_true (by omega)
          go_wp2
          go_ret
          exact ⟨rfl, hB.out⟩
        · have d41 : decide ((40 : Int) < (b.length : Int)) = false := decide_eq_false (by omega)
          go_wp2_with fail
          refine (merges_any _ _ a b _ (HA.out.below hB.out) (HB.out.below hB.out)).mono ?_
          rintro e w7 ⟨rfl, hb7⟩
          have B7 := hB.out.trans (hb7.mono hB.out.size)
          clear hB hb7
          go_wp2_with fail
          refine (sane_any _).mono ?_
          rintro e w8 ⟨rfl, hb8⟩
          have B8 := B7.trans (hb8.mono B7.size)
          go_wp2
          go_ret
          exact ⟨rfl, B8⟩
end Go.Proofs.Ytnmbaeahnfbfiaa
