/- Contracts of package period: Count, month, Span, Of. -/
import Derived.Test.YtaafihdegnaokaaDoorPrd2
namespace Go.Proofs.YtaafihdegnaokaaDoor
open Go.RowKit

set_option maxHeartbeats 1000000 in
theorem Count_any (k a : Int) (w : World) (hT : LenT w) :
    Calls Tryd.prog 34 #[.agg #[.int .i64 k, .int .i64 a]] w fun e w' => e = .returned (.int .i64 (cntV k a)) ∧ Below w.heap.size w w' := by
  have HV := Lib.hid (fun w => pValid_any k a w)
  have hbA := (Below.refl w.heap.size w).alloc (Nat.le_refl _) (.cells #[.int .i64 k, .int .i64 a] 34)
  cases hb : calB k a
  · have L : Hid (cntV k a = 0) := by unfold Hid cntV; rw [hb]; rfl
    have n1 : (calE k a != 0) = true := by rw [calE_ne, hb]; rfl
    clear hb
    go_enter Tryd.func34, Tryd.ntmps34
    go_wp2_with (go_at_call 22; refine (HV.out _).mono ?_; rintro e w1 ⟨rfl, hb1⟩)
    go_ret
    exact ⟨by rw [L.out]; rfl, hbA.trans (hb1.mono (by simp))⟩
  · have L : Hid (cntV k a = cntP k a) := by unfold Hid cntV; rw [hb]; rfl
    have n1 : (calE k a != 0) = false := by rw [calE_ne, hb]; rfl
    have hc := (calB_iff k a).1 hb
    obtain ⟨n, hp, hn⟩ := per_last hc
    have hcp := cnt_pos hc
    have HO := Lib.hid (fun w h => of_any k a 84005 n w h hc (by omega) (by omega) hp)
    have s1 : IntKind.i64.wrap ((n : Int) + 1) = cntP k a := by rw [hn]; exact IntWalk.i64_in _ (by omega)
    clear hb hp hn hc
    go_enter Tryd.func34, Tryd.ntmps34
    go_wp2_with (first | (go_at_call 22; refine (HV.out _).mono ?_; rintro e w1 ⟨rfl, hb1⟩; have hB1 := hbA.trans (hb1.mono (by simp)); have R1 := (Row.new w 34 #[.int .i64 k, .int .i64 a]).below hb1 (by simp); have c0 : w1.cell? ⟨w.heap.size, 0, none⟩ = some (.int .i64 k) := R1.cell 0; have c1 : w1.cell? ⟨w.heap.size, 1, none⟩ = some (.int .i64 a) := R1.cell 1; have l1 := R1.lt; clear R1 hb1) | (go_at_call 23; refine (HO.out _ (hT.below hB1)).mono ?_; rintro e w2 ⟨rfl, hb2⟩; have hB2 := hB1.trans (hb2.mono hB1.size)))
    go_ret
    exact ⟨by rw [L.out]; rfl, hB2⟩
set_option maxHeartbeats 1000000 in
theorem month_any (n : Nat) (w : World) (hT : LenT w) (hn : n < 2760) :
    Calls Tryd.prog 35 #[.int .i64 n] w fun e w' => e = .returned (.agg #[.int .i64 (fm n), .int .i64 (fm n + lm n - 1)]) ∧ Below w.heap.size w w' := by
  have HF := Lib.hid (fun w h => First_any n w h hn)
  have HL := Lib.hid (fun w h => Length_any n w h hn)
  have h0 := fm_mono 0 n
  have h1 := fm_mono n (2760 - n)
  rw [fm_0, Nat.zero_add] at h0
  rw [show n + (2760 - n) = 2760 by omega, fm_2760] at h1
  have h2 := lm_pos n
  have s1 : IntKind.i64.wrap (fm n + lm n) = fm n + lm n := IntWalk.i64_in _ (by omega)
  have s2 : IntKind.i64.wrap (fm n + lm n - 1) = fm n + lm n - 1 := IntWalk.i64_in _ (by omega)
  clear h0 h1 h2
  go_enter Tryd.func35, Tryd.ntmps35
  go_wp2_with (first | (go_at_call 54; refine (HF.out _ (by repeat (first | assumption | apply LenT.drew | apply LenT.alloc))).mono ?_; rintro e w1 ⟨rfl, q1, rfl⟩) | (go_at_call 55; refine (HL.out _ (by repeat (first | assumption | apply LenT.drew | apply LenT.alloc))).mono ?_; rintro e w2 ⟨rfl, q2, rfl⟩))
  exact bodyPost_ret (v := .agg #[.int .i64 (fm n), .int .i64 (fm n + lm n - 1)]) (by simp [results, Tryd.results35, go_sem]) rfl ⟨rfl, by repeat (first | exact Below.refl _ _ | refine Below.draws ?_ _ | refine Below.alloc ?_ (Nat.le_refl _) _ | refine Below.setCell ?_ (by simp) _)⟩
set_option maxHeartbeats 1000000 in
theorem Of_any (k a d : Int) (w : World) (hT : LenT w) :
    Calls Tryd.prog 16 #[.agg #[.int .i64 k, .int .i64 a], .int .i64 d] w fun e w' => e = .returned (.tuple #[.int .i64 (ofV k a d), .int .i64 (ofE k a d)]) ∧ Below w.heap.size w w' := by
  have HV := Lib.hid (fun w => pValid_any k a w)
  have hbA := (Below.refl w.heap.size w).alloc (Nat.le_refl _) (.cells #[.int .i64 k, .int .i64 a] 34)
  cases hb : calB k a
  · obtain ⟨L1, L2⟩ := of_no1 d hb
    have LL := Lib.hid (And.intro L1 L2)
    have n1 : (calE k a != 0) = true := by rw [calE_ne, hb]; rfl
    have n2 : Hid (calE k a = 2) := calE_no hb
    clear hb L1 L2
    go_enter Tryd.func16, Tryd.ntmps16
    go_wp2_with (go_at_call 22; refine (HV.out _).mono ?_; rintro e w1 ⟨rfl, hb1⟩)
    exact bodyPost_ret (v := .tuple #[.int .i64 0, .int .i64 (calE k a)]) (by simp [results, Tryd.results16, go_sem]) rfl ⟨by rw [LL.out.1, LL.out.2, n2.out], hbA.trans (hb1.mono (by simp))⟩
  have n1 : (calE k a != 0) = false := by rw [calE_ne, hb]; rfl
  by_cases h0 : d < 0
  · have LL := Lib.hid (of_no2 (k := k) (a := a) (d := d) (.inl h0))
    have g0 : decide (d < 0) = true := decide_eq_true h0
    clear hb
    go_enter Tryd.func16, Tryd.ntmps16
    go_wp2_with (go_at_call 22; refine (HV.out _).mono ?_; rintro e w1 ⟨rfl, hb1⟩)
    exact bodyPost_ret (v := .tuple #[.int .i64 0, .int .i64 2]) (by simp [results, Tryd.results16, go_sem]) rfl ⟨by rw [LL.out.1, LL.out.2], hbA.trans (hb1.mono (by simp))⟩
  by_cases h1 : 84005 < d
  · have LL := Lib.hid (of_no2 (k := k) (a := a) (d := d) (.inr h1))
    have g0 : decide (d < 0) = false := decide_eq_false h0
    have g1 : decide (84005 < d) = true := decide_eq_true h1
    clear hb
    go_enter Tryd.func16, Tryd.ntmps16
    go_wp2_with (go_at_call 22; refine (HV.out _).mono ?_; rintro e w1 ⟨rfl, hb1⟩)
    exact bodyPost_ret (v := .tuple #[.int .i64 0, .int .i64 2]) (by simp [results, Tryd.results16, go_sem]) rfl ⟨by rw [LL.out.1, LL.out.2], hbA.trans (hb1.mono (by simp))⟩
  have hc := (calB_iff k a).1 hb
  obtain ⟨n, hn, hp⟩ := per_ex hc (d := d) (by omega) (by omega)
  have LL := Lib.hid (of_yes hc (by omega) (by omega) hp)
  have HO := Lib.hid (fun w h => of_any k a d n w h hc (by omega) (by omega) hp)
  have g0 : decide (d < 0) = false := decide_eq_false h0
  have g1 : decide (84005 < d) = false := decide_eq_false h1
  clear hb hc hp
  go_enter Tryd.func16, Tryd.ntmps16
  go_wp2_with (first | (go_at_call 22; refine (HV.out _).mono ?_; rintro e w1 ⟨rfl, hb1⟩; have hB1 := hbA.trans (hb1.mono (by simp)); have R1 := (Row.new w 34 #[.int .i64 k, .int .i64 a]).below hb1 (by simp); have c0 : w1.cell? ⟨w.heap.size, 0, none⟩ = some (.int .i64 k) := R1.cell 0; have c1 : w1.cell? ⟨w.heap.size, 1, none⟩ = some (.int .i64 a) := R1.cell 1; have l1 := R1.lt; clear R1 hb1) | (go_at_call 23; refine (HO.out _ (hT.below hB1)).mono ?_; rintro e w2 ⟨rfl, hb2⟩; have hB2 := hB1.trans (hb2.mono hB1.size)))
  exact bodyPost_ret (v := .tuple #[.int .i64 n, .int .i64 0]) (by simp [results, Tryd.results16, go_sem]) rfl ⟨by rw [LL.out.1, LL.out.2], hB2⟩
end Go.Proofs.YtaafihdegnaokaaDoor
