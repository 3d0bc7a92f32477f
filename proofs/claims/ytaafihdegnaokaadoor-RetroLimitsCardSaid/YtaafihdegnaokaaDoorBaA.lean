/- Contracts and plain facts that the laws of this seat share, part 1. -/
import Derived.Test.YtaafihdegnaokaaDoorCalS
import Derived.Test.YtaafihdegnaokaaDoorGb
import Derived.RegionTactic
import Derived.LoopTactic
import Derived.Deep.QuietTactic
import Derived.BigQuiet
import Derived.Test.YtaafihdegnaokaaDoorCal
import Derived.Test.YtaafihdegnaokaaDoorCal2
import Derived.Test.YtaafihdegnaokaaDoorKit
import Derived.Test.YtaafihdegnaokaaDoorPrd3
import Derived.Test.YtaafihdegnaokaaDoorRtrT
import Derived.Test.YtaafihdegnaokaaDoorRtM
import Derived.Test.YtaafihdegnaokaaDoorSet1
import Derived.Test.YtaafihdegnaokaaDoorChgB
import Derived.Test.YtaafihdegnaokaaDoorShelfR
import Derived.Sort.Walk0
import Derived.Test.YtaafihdegnaokaaDoorChgI
import Derived.OwnWalk
import Derived.Test.YtaafihdegnaokaaDoorRows
import Derived.Test.YtaafihdegnaokaaDoorSlice
import Derived.Test.YtaafihdegnaokaaDoorRow
import Derived.Deep.RegionLaw
import Derived.Deep.AppendLies
import Derived.Deep.Slices
import Derived.ProofKit
import Derived.Test.YtaafihdegnaokaaDoorProg
import Derived.Test.YtaafihdegnaokaaDoorChgX
import Derived.Test.YtaafihdegnaokaaDoorTie
import Derived.LaidMore
import Derived.OpenShut
import Derived.Stop.Joined
import Derived.Stop.LaidErr
import Derived.Lib.LaidTab
import Derived.Lay
/- Contracts of the reference's days: lengths, before, raw. -/
namespace Go.Proofs.YtaafihdegnaokaaDoor
open Go.RowKit

/-- the step of a leap day's count -/
theorem mlen_feb (y : Int) : mlen y 2 = if leapB y then 29 else 28 := by simp [mlen]
end Go.Proofs.YtaafihdegnaokaaDoor
/- Contracts of the reference's days: raw, InYears, InDays, Date. -/
namespace Go.Proofs.YtaafihdegnaokaaDoor
open Go.RowKit

end Go.Proofs.YtaafihdegnaokaaDoor
/- Contracts of the reference's days: Day, Month, First, Length. -/
namespace Go.Proofs.YtaafihdegnaokaaDoor
open Go.RowKit

end Go.Proofs.YtaafihdegnaokaaDoor
/- A region that draws its order, whose operations read what was there and call functions that only lay new memory: walked in the order of its text, in every world that extends the one at its start. -/
namespace Go.Proofs.YtaafihdegnaokaaDoor
open Go.RowKit

/-- the worlds that extend w -/
structure Ext (w : World) where
  val : World
  property : Below w.heap.size w val
instance (w : World) : Inhabited (Ext w) := ⟨⟨w, Below.refl _ _⟩⟩
theorem region_ext {P : Program} {id : Nat} {Q : Exit → Act → World → Prop} {a : Act} {w : World} {l : List Oper} (hm : P.follows .mixedOrders = true) (hB : Region.lexB .any l.toArray = true)
    (h : wpQuiet P l.toArray (fun w' => ∃ x : Ext w, w' = x.val) (fun a' => ∀ w', (∃ x : Ext w, w' = x.val) → Q .normal a' w') l a) : (Code.region id l.toArray true).wp P Q a w :=
  wp_region_quiet (C := fun w' => ∃ x : Ext w, w' = x.val) hm hB ⟨⟨_, (Below.refl _ w).drew⟩, rfl⟩ (by simpa using h)
theorem ext_call {P : Program} {w : World} {x : Ext w} {f : FuncId} {args : Array Value} {v : Value} (h : Calls P f args x.val fun e w' => e = .returned v ∧ Below x.val.heap.size x.val w') :
    Calls P f args x.val fun e w'' => e = .returned v ∧ ∃ y : Ext w, w'' = y.val :=
  h.mono fun _ w' ⟨he, hb⟩ => ⟨he, ⟨w', x.property.trans (hb.mono x.property.size)⟩, rfl⟩
theorem ext_quiet {P : Program} {w : World} {x : Ext w} {f : FuncId} {args : Array Value} {v : Value} (h : Calls P f args x.val fun e w' => e = .returned v ∧ x.val = w') :
    Calls P f args x.val fun e w'' => e = .returned v ∧ ∃ y : Ext w, w'' = y.val :=
  h.mono fun _ _w' ⟨he, hb⟩ => ⟨he, x, hb.symm⟩
theorem ext_cell {w : World} {b o : Nat} {v : Value} (hb : b < w.heap.size) (h : w.cell? ⟨b, o, none⟩ = some v) (x : Ext w) : x.val.cell? ⟨b, o, none⟩ = some v := (x.property.cell (p := ⟨b, o, none⟩) hb).trans h

end Go.Proofs.YtaafihdegnaokaaDoor
/- Contracts of the reference's pay calendars: length, Valid, of, Of, Count. -/
namespace Go.Proofs.YtaafihdegnaokaaDoor
open Go.RowKit

end Go.Proofs.YtaafihdegnaokaaDoor
/- Contracts of package period: Span. -/
namespace Go.Proofs.YtaafihdegnaokaaDoor
open Go.RowKit

/-- two rows laid at the call's start -/
structure Two (w w1 : World) (S T : TypeId) (a b c d : Value) : Prop where
  r1 : Row w1 w.heap.size S #[a, b]
  r2 : Row w1 (w.heap.size + 1) T #[c, d]
  bl : Below w.heap.size w w1
theorem Two.new (w : World) (S T : TypeId) (a b c d : Value) : Two w ((w.alloc (.cells #[a, b] S)).alloc (.cells #[c, d] T)) S T a b c d :=
  ⟨(Row.new w S #[a, b]).alloc _, by have := Row.new (w.alloc (.cells #[a, b] S)) T #[c, d]; simpa using this, ((Below.refl _ _).alloc (Nat.le_refl _) _).alloc (by simp) _⟩
theorem Two.below {w w1 w2 : World} {S T : TypeId} {a b c d : Value} (h : Two w w1 S T a b c d) (hb : Below w1.heap.size w1 w2) : Two w w2 S T a b c d :=
  ⟨h.r1.below hb h.r1.lt, h.r2.below hb h.r2.lt, h.bl.trans (hb.mono h.bl.size)⟩
theorem Two.facts {w w1 : World} {S T : TypeId} {a b c d : Value} (h : Two w w1 S T a b c d) :
    (w1.cell? ⟨w.heap.size, 0, none⟩ = some a ∧ w1.cell? ⟨w.heap.size, 1, none⟩ = some b) ∧ (w1.cell? ⟨w.heap.size + 1, 0, none⟩ = some c ∧ w1.cell? ⟨w.heap.size + 1, 1, none⟩ = some d) ∧
      (w1.frozen? ⟨w.heap.size + 1, 0, none⟩ = false ∧ w1.frozen? ⟨w.heap.size + 1, 1, none⟩ = false) ∧ w.heap.size + 1 < w1.heap.size :=
  ⟨⟨h.r1.cell 0, h.r1.cell 1⟩, ⟨h.r2.cell 0, h.r2.cell 1⟩, ⟨h.r2.frozen 0, h.r2.frozen 1⟩, h.r2.lt⟩
theorem Two.set {w w1 : World} {S T : TypeId} {a b c d : Value} (h : Two w w1 S T a b c d) (u v : Value) : Below w.heap.size w ((w1.setCell ⟨w.heap.size + 1, 0, none⟩ u).setCell ⟨w.heap.size + 1, 1, none⟩ v) :=
  (h.bl.setCell (by simp) _).setCell (by simp) _
set_option maxHeartbeats 2000000 in
theorem Span_no (k a n : Int) (w : World) (hT : LenT w) (h : ¬ (CalOk k a ∧ 0 ≤ n ∧ n < cntP k a)) :
    Calls Tryd.prog 21 #[.agg #[.int .i64 k, .int .i64 a], .int .i64 n] w fun e w' => e = .returned (.tuple #[.agg #[.int .i64 (spLo k a n), .int .i64 (spHi k a n)], .int .i64 (spE k a n)]) ∧ Below w.heap.size w w' := by
  have HV := Lib.hid (fun w => pValid_any k a w)
  have HC := Lib.hid (fun w h => Count_any k a w h)
  have LL := Lib.hid (spE_two h)
  have HW := Lib.hid (Two.new w 34 25 (.int .i64 k) (.int .i64 a) (.int .i64 0) (.int .i64 0))
  cases hb : calB k a
  · have n1 : (calE k a != 0) = true := by rw [calE_ne, hb]; rfl
    have n2 : Hid (calE k a = 2) := calE_no hb
    clear hb h
    go_enter Tryd.func21, Tryd.ntmps21
    go_wp2_with (go_at_call 22; refine (HV.out _).mono ?_; rintro e w1 ⟨rfl, hb1⟩; have T1 := HW.out.below hb1; obtain ⟨⟨c0, c1⟩, ⟨d0, d1⟩, ⟨f0, f1⟩, l1⟩ := T1.facts; have HT1 := Lib.hid T1; clear T1 hb1)
    exact bodyPost_ret (v := .tuple #[.agg #[.int .i64 0, .int .i64 0], .int .i64 (calE k a)]) (by simp [results, Tryd.results21, go_sem, d0, d1, l1]) rfl ⟨by rw [LL.out.1, LL.out.2.1, LL.out.2.2, n2.out], HT1.out.set _ _⟩
  have n1 : (calE k a != 0) = false := by rw [calE_ne, hb]; rfl
  have hc := (calB_iff k a).1 hb
  have hcv : cntV k a = cntP k a := by unfold cntV; rw [hb]; rfl
  by_cases h0 : n < 0
  · have g0 : decide (n < 0) = true := decide_eq_true h0
    clear hb h hc hcv
    go_enter Tryd.func21, Tryd.ntmps21
    go_wp2_with (go_at_call 22; refine (HV.out _).mono ?_; rintro e w1 ⟨rfl, hb1⟩; have T1 := HW.out.below hb1; obtain ⟨⟨c0, c1⟩, ⟨d0, d1⟩, ⟨f0, f1⟩, l1⟩ := T1.facts; have HT1 := Lib.hid T1; clear T1 hb1)
    exact bodyPost_ret (v := .tuple #[.agg #[.int .i64 0, .int .i64 0], .int .i64 2]) (by simp [results, Tryd.results21, go_sem, d0, d1, l1]) rfl ⟨by rw [LL.out.1, LL.out.2.1, LL.out.2.2], HT1.out.set _ _⟩
  · have g0 : decide (n < 0) = false := decide_eq_false h0
    have g1 : decide (cntV k a ≤ n) = true := decide_eq_true (by rw [hcv]; rcases Int.lt_or_le n (cntP k a) with q | q; · exact absurd ⟨hc, by omega, q⟩ h
                                                                 · exact q)
    clear hb h hc hcv
    go_enter Tryd.func21, Tryd.ntmps21
    go_wp2_with (first | (go_at_call 22; refine (HV.out _).mono ?_; rintro e w1 ⟨rfl, hb1⟩; have T1 := HW.out.below hb1; obtain ⟨⟨c0, c1⟩, ⟨d0, d1⟩, ⟨f0, f1⟩, l1⟩ := T1.facts; have HT1 := Lib.hid T1; clear T1 hb1 d0 d1 f0 f1) | (go_at_call 34; refine (HC.out _ (hT.below HT1.out.bl)).mono ?_; rintro e w2 ⟨rfl, hb2⟩; have T2 := HT1.out.below hb2; clear c0 c1; obtain ⟨⟨c0, c1⟩, ⟨d0, d1⟩, ⟨f0, f1⟩, l2⟩ := T2.facts; have HT2 := Lib.hid T2; clear T2 hb2))
    exact bodyPost_ret (v := .tuple #[.agg #[.int .i64 0, .int .i64 0], .int .i64 2]) (by simp [results, Tryd.results21, go_sem, d0, d1, l2]) rfl ⟨by rw [LL.out.1, LL.out.2.1, LL.out.2.2], HT2.out.set _ _⟩
end Go.Proofs.YtaafihdegnaokaaDoor
/- Contracts of package period: Span. -/
namespace Go.Proofs.YtaafihdegnaokaaDoor
open Go.RowKit

/-- the span that has been returned -/
def SpP (k a n : Int) (w : World) (e : Ending) (w' : World) : Prop := e = .returned (.tuple #[.agg #[.int .i64 (spLo k a n), .int .i64 (spHi k a n)], .int .i64 (spE k a n)]) ∧ Below w.heap.size w w'
set_option maxHeartbeats 4000000 in
theorem Span_ok (k a : Int) (N : Nat) (w : World) (hT : LenT w) (hc : CalOk k a) (hN : (N : Int) < cntP k a) :
    Calls Tryd.prog 21 #[.agg #[.int .i64 k, .int .i64 a], .int .i64 N] w (SpP k a N w) := by
  have HV := Lib.hid (fun w => pValid_any k a w)
  have HC := Lib.hid (fun w h => Count_any k a w h)
  have HW := Lib.hid (Two.new w 34 25 (.int .i64 k) (.int .i64 a) (.int .i64 0) (.int .i64 0))
  have hb := (calB_iff k a).2 hc
  have n1 : (calE k a != 0) = false := by rw [calE_ne, hb]; rfl
  have hcv : cntV k a = cntP k a := by unfold cntV; rw [hb]; rfl
  obtain ⟨L0, L1, L2⟩ := sp_ok hc hN
  have g0 : decide ((N : Int) < 0) = false := decide_eq_false (by omega)
  have g1 : decide (cntV k a ≤ (N : Int)) = false := decide_eq_false (by rw [hcv]; omega)
  have hcp := cnt_pos hc
  have k0 := hc.k0
  have k1 := hc.k1
  by_cases q0 : k = 0
  · subst q0
    have hN' : N < 2760 := by have : cntP 0 a = 2760 := rfl; omega
    obtain ⟨e1, e2⟩ := span_mon a hN'
    have HM := Lib.hid (fun w h => month_any N w h hN')
    have LL : Hid (spLo 0 a N = fm N ∧ spHi 0 a N = fm N + lm N - 1 ∧ spE 0 a N = 0) := ⟨L1.trans e1, L2.trans e2, L0⟩
    clear hb hcv L0 L1 L2 e1 e2 hcp hc k0 k1 hN hN'
    go_enter Tryd.func21, Tryd.ntmps21
    go_wp2_with (first | (go_at_call 22; refine (HV.out _).mono ?_; rintro e w1 ⟨rfl, hb1⟩; have T1 := HW.out.below hb1; obtain ⟨⟨c0, c1⟩, ⟨d0, d1⟩, ⟨f0, f1⟩, l1⟩ := T1.facts; have HT1 := Lib.hid T1; clear T1 hb1 d0 d1 f0 f1) | (go_at_call 34; refine (HC.out _ (hT.below HT1.out.bl)).mono ?_; rintro e w2 ⟨rfl, hb2⟩; have T2 := HT1.out.below hb2; clear c0 c1; obtain ⟨⟨c0, c1⟩, ⟨d0, d1⟩, ⟨f0, f1⟩, l2⟩ := T2.facts; have HT2 := Lib.hid T2; clear T2 hb2 d0 d1 f0 f1) | (go_at_call 35; refine (HM.out _ (hT.below HT2.out.bl)).mono ?_; rintro e w3 ⟨rfl, hb3⟩; have T3 := HT2.out.below hb3; clear c0 c1; obtain ⟨⟨c0, c1⟩, ⟨d0, d1⟩, ⟨f0, f1⟩, l3⟩ := T3.facts; have HT3 := Lib.hid T3; clear T3 hb3))
    exact bodyPost_ret (v := .tuple #[.agg #[.int .i64 (fm N), .int .i64 (fm N + lm N - 1)], .int .i64 0]) (by simp [results, Tryd.results21, go_sem, d0, d1, l3]) rfl ⟨by rw [LL.out.1, LL.out.2.1, LL.out.2.2], HT3.out.set _ _⟩
  by_cases q1 : k = 1
  · subst q1
    have hN' : N < 5520 := by have : cntP 1 a = 5520 := rfl; omega
    have hh : N / 2 < 2760 := by omega
    have HM : Hid (∀ w, LenT w → Calls Tryd.prog 35 #[.int .i64 ((N : Int) / 2)] w fun e w' => e = .returned (.agg #[.int .i64 (fm (N / 2)), .int .i64 (fm (N / 2) + lm (N / 2) - 1)]) ∧ Below w.heap.size w w') := fun w h => by
      have := month_any (N / 2) w h hh
      rw [show (((N / 2 : Nat)) : Int) = (N : Int) / 2 by omega] at this
      exact this
    have b0 := fm_mono 0 (N / 2)
    have b1 := fm_mono (N / 2) (2760 - N / 2)
    rw [fm_0, Nat.zero_add] at b0
    rw [show N / 2 + (2760 - N / 2) = 2760 by omega, fm_2760] at b1
    have s1 : IntKind.i64.wrap (fm (N / 2) + 15) = fm (N / 2) + 15 := IntWalk.i64_in _ (by omega)
    have s2 : IntKind.i64.wrap (fm (N / 2) + 15 - 1) = fm (N / 2) + 15 - 1 := IntWalk.i64_in _ (by omega)
    rcases span_half a hN' with ⟨e, e1, e2⟩ | ⟨e, e1, e2⟩
    · have g2 : ((N : Int) % 2 == 0) = true := by simp; omega
      have LL : Hid (spLo 1 a N = fm (N / 2) ∧ spHi 1 a N = fm (N / 2) + 15 - 1 ∧ spE 1 a N = 0) := ⟨L1.trans e1, L2.trans e2, L0⟩
      clear hb hcv L0 L1 L2 e1 e2 hcp hc k0 k1 hN hN' q0 e b0 b1
      obtain ⟨F, hF⟩ : ∃ F, fm (N / 2) = F := ⟨_, rfl⟩
      obtain ⟨M, hM⟩ : ∃ M, lm (N / 2) = M := ⟨_, rfl⟩
      rw [hF] at LL HM s1 s2
      rw [hM] at HM
      clear hF hM
      go_enter Tryd.func21, Tryd.ntmps21
      go_wp2_with (first | (go_at_call 22; refine (HV.out _).mono ?_; rintro e w1 ⟨rfl, hb1⟩; have T1 := HW.out.below hb1; obtain ⟨⟨c0, c1⟩, ⟨d0, d1⟩, ⟨f0, f1⟩, l1⟩ := T1.facts; have HT1 := Lib.hid T1; clear T1 hb1 d0 d1 f0 f1) | (go_at_call 34; refine (HC.out _ (hT.below HT1.out.bl)).mono ?_; rintro e w2 ⟨rfl, hb2⟩; have T2 := HT1.out.below hb2; clear c0 c1; obtain ⟨⟨c0, c1⟩, ⟨d0, d1⟩, ⟨f0, f1⟩, l2⟩ := T2.facts; have HT2 := Lib.hid T2; clear T2 hb2 d0 d1 f0 f1) | (go_at_call 35; refine (HM.out _ (hT.below HT2.out.bl)).mono ?_; rintro e w3 ⟨rfl, hb3⟩; have T3 := HT2.out.below hb3; clear c0 c1; obtain ⟨⟨c0, c1⟩, ⟨d0, d1⟩, ⟨f0, f1⟩, l3⟩ := T3.facts; have HT3 := Lib.hid T3; clear T3 hb3))
      exact bodyPost_ret (v := .tuple #[.agg #[.int .i64 F, .int .i64 (F + 15 - 1)], .int .i64 0]) (by simp [results, Tryd.results21, go_sem, d0, d1, l3]) rfl ⟨by rw [LL.out.1, LL.out.2.1, LL.out.2.2], (HT3.out.set _ _).alloc (HT3.out.set _ _).size _⟩
    · have g2 : ((N : Int) % 2 == 0) = false := by simp; omega
      have LL : Hid (spLo 1 a N = fm (N / 2) + 15 ∧ spHi 1 a N = fm (N / 2) + lm (N / 2) - 1 ∧ spE 1 a N = 0) := ⟨L1.trans e1, L2.trans e2, L0⟩
      clear hb hcv L0 L1 L2 e1 e2 hcp hc k0 k1 hN hN' q0 e b0 b1
      obtain ⟨F, hF⟩ : ∃ F, fm (N / 2) = F := ⟨_, rfl⟩
      obtain ⟨M, hM⟩ : ∃ M, lm (N / 2) = M := ⟨_, rfl⟩
      rw [hF] at LL HM s1 s2
      rw [hM] at LL HM
      clear hF hM
      go_enter Tryd.func21, Tryd.ntmps21
      go_wp2_with (first | (go_at_call 22; refine (HV.out _).mono ?_; rintro e w1 ⟨rfl, hb1⟩; have T1 := HW.out.below hb1; obtain ⟨⟨c0, c1⟩, ⟨d0, d1⟩, ⟨f0, f1⟩, l1⟩ := T1.facts; have HT1 := Lib.hid T1; clear T1 hb1 d0 d1 f0 f1) | (go_at_call 34; refine (HC.out _ (hT.below HT1.out.bl)).mono ?_; rintro e w2 ⟨rfl, hb2⟩; have T2 := HT1.out.below hb2; clear c0 c1; obtain ⟨⟨c0, c1⟩, ⟨d0, d1⟩, ⟨f0, f1⟩, l2⟩ := T2.facts; have HT2 := Lib.hid T2; clear T2 hb2 d0 d1 f0 f1) | (go_at_call 35; refine (HM.out _ (hT.below HT2.out.bl)).mono ?_; rintro e w3 ⟨rfl, hb3⟩; have T3 := HT2.out.below hb3; clear c0 c1; obtain ⟨⟨c0, c1⟩, ⟨d0, d1⟩, ⟨f0, f1⟩, l3⟩ := T3.facts; have HT3 := Lib.hid T3; clear T3 hb3))
      exact bodyPost_ret (v := .tuple #[.agg #[.int .i64 (F + 15), .int .i64 (F + M - 1)], .int .i64 0]) (by simp [results, Tryd.results21, go_sem, d0, d1, l3]) rfl ⟨by rw [LL.out.1, LL.out.2.1, LL.out.2.2], (HT3.out.set _ _).alloc (HT3.out.set _ _).size _⟩
  obtain ⟨e1, e2⟩ := span_days q0 q1 (a := a) N
  have HK := Lib.hid (fun w => weeks_any k a w hc (by omega))
  have b1 := perS_le hc
  have b2 := perL_pos k
  have m0 : (k == 0) = false := by simpa using q0
  have m1 : (k == 1) = false := by simpa using q1
  have hmul : 0 ≤ (N : Int) * perL k ∧ (N : Int) * perL k ≤ 13000 * 14 := by
    constructor
    · exact Int.mul_nonneg (by omega) (by omega)
    · exact Int.mul_le_mul (by omega) (by omega) (by omega) (by omega)
  have LL : Hid (spLo k a N = max (N * perL k - perS k a) 0 ∧ spHi k a N = min (N * perL k - perS k a + perL k - 1) 84005 ∧ spE k a N = 0) := ⟨L1.trans e1, L2.trans e2, L0⟩
  have s1 : IntKind.i64.wrap ((N : Int) * perL k) = (N : Int) * perL k := IntWalk.i64_in _ (by omega)
  have s2 : IntKind.i64.wrap ((N : Int) * perL k - perS k a) = (N : Int) * perL k - perS k a := IntWalk.i64_in _ (by omega)
  have s3 : IntKind.i64.wrap ((N : Int) * perL k - perS k a + perL k) = (N : Int) * perL k - perS k a + perL k := IntWalk.i64_in _ (by omega)
  have s4 : IntKind.i64.wrap ((N : Int) * perL k - perS k a + perL k - 1) = (N : Int) * perL k - perS k a + perL k - 1 := IntWalk.i64_in _ (by omega)
  clear hb hcv L0 L1 L2 e1 e2 hcp hc k0 k1 hN q0 q1 b1 b2 hmul
  obtain ⟨X, hX⟩ : ∃ X, (N : Int) * perL k - perS k a = X := ⟨_, rfl⟩
  rw [hX] at LL s2 s3 s4
  go_enter Tryd.func21, Tryd.ntmps21
  go_wp2_with (first | (go_at_call 22; refine (HV.out _).mono ?_; rintro e w1 ⟨rfl, hb1⟩; have T1 := HW.out.below hb1; obtain ⟨⟨c0, c1⟩, ⟨d0, d1⟩, ⟨f0, f1⟩, l1⟩ := T1.facts; have HT1 := Lib.hid T1; clear T1 hb1 d0 d1 f0 f1) | (go_at_call 34; refine (HC.out _ (hT.below HT1.out.bl)).mono ?_; rintro e w2 ⟨rfl, hb2⟩; have T2 := HT1.out.below hb2; clear c0 c1; obtain ⟨⟨c0, c1⟩, ⟨d0, d1⟩, ⟨f0, f1⟩, l2⟩ := T2.facts; have HT2 := Lib.hid T2; clear T2 hb2 d0 d1 f0 f1) | (go_at_call 36; refine (HK.out _).mono ?_; rintro e w3 ⟨rfl, hb3⟩; have T3 := HT2.out.below hb3; clear c0 c1; obtain ⟨⟨c0, c1⟩, ⟨d0, d1⟩, ⟨f0, f1⟩, l3⟩ := T3.facts; have HT3 := Lib.hid T3; clear T3 hb3))
  all_goals exact bodyPost_ret (v := .tuple #[.agg #[.int .i64 (max X 0), .int .i64 (min (X + perL k - 1) 84005)], .int .i64 0]) (by simp [results, Tryd.results21, go_sem, d0, d1, l3] <;> omega) rfl ⟨by rw [LL.out.1, LL.out.2.1, LL.out.2.2], HT3.out.set _ _⟩
theorem Span_any (k a n : Int) (w : World) (hT : LenT w) :
    Calls Tryd.prog 21 #[.agg #[.int .i64 k, .int .i64 a], .int .i64 n] w (SpP k a n w) := by
  by_cases h : CalOk k a ∧ 0 ≤ n ∧ n < cntP k a
  · obtain ⟨h1, h2, h3⟩ := h
    obtain ⟨N, rfl⟩ := Int.eq_ofNat_of_zero_le h2
    exact Span_ok k a N w hT h1 h3
  · exact Span_no k a n w hT h
end Go.Proofs.YtaafihdegnaokaaDoor
/- Contracts of the reference's pay calendars: Span. -/
namespace Go.Proofs.YtaafihdegnaokaaDoor
open Go.RowKit

end Go.Proofs.YtaafihdegnaokaaDoor
/- Contracts: retro.Start, and the reference's year and Start. -/
namespace Go.Proofs.YtaafihdegnaokaaDoor
open Go.RowKit

/-- a pay calendar in its box, laid at the call's start -/
structure CBox (w w1 : World) (k a : Int) : Prop where
  row : Row w1 w.heap.size 34 #[.int .i64 k, .int .i64 a]
  bl : Below w.heap.size w w1
theorem CBox.new (w : World) (k a : Int) : CBox w (w.alloc (.cells #[.int .i64 k, .int .i64 a] 34)) k a := ⟨Row.new _ _ _, (Below.refl _ _).alloc (Nat.le_refl _) _⟩
theorem CBox.below {w w1 w2 : World} {k a : Int} (h : CBox w w1 k a) (hb : Below w1.heap.size w1 w2) : CBox w w2 k a := ⟨h.row.below hb h.row.lt, h.bl.trans (hb.mono h.bl.size)⟩
theorem CBox.alloc {w w1 : World} {k a : Int} (h : CBox w w1 k a) (o : Obj) : CBox w (w1.alloc o) k a := h.below ((Below.refl _ _).alloc (Nat.le_refl _) _)
theorem CBox.drew {w w1 : World} {k a : Int} (h : CBox w w1 k a) (q : Nat) : CBox w (w1.drewN q) k a := h.below (Below.draws (Below.refl _ _) q)
theorem CBox.facts {w w1 : World} {k a : Int} (h : CBox w w1 k a) : (w1.cell? ⟨w.heap.size, 0, none⟩ = some (.int .i64 k) ∧ w1.cell? ⟨w.heap.size, 1, none⟩ = some (.int .i64 a)) ∧ w.heap.size < w1.heap.size := ⟨⟨h.row.cell 0, h.row.cell 1⟩, h.row.lt⟩
/-- a period's last day, its year and that year's first day -/
theorem hi_date {k a : Int} {N : Nat} (hc : CalOk k a) (hN : (N : Int) < cntP k a) : ∃ y m t, IsDate (hiP k a N) y m t ∧ yr (hiP k a N) = y := by
  have h := span_ok hc hN
  obtain ⟨y, m, t, hd⟩ := date_ex (d := hiP k a N) (by omega) h.2.2
  exact ⟨y, m, t, hd, yr_eq hd.lt⟩
theorem year_first {d y : Int} {m : Nat} {t : Int} (h : IsDate d y m t) : 0 ≤ bg y ∧ bg y ≤ 84005 := by
  have := h.bounds
  omega
theorem st_ok {k a : Int} {N : Nat} (hc : CalOk k a) (hN : (N : Int) < cntP k a) {y : Int} (hy : yr (hiP k a N) = y) : stV k a N = ofV k a (bg y) := by
  obtain ⟨e1, _, e3⟩ := sp_ok hc hN
  unfold stV
  rw [if_pos e1, e3, hy]
theorem st_no {k a n : Int} (h : spE k a n = 2) : stV k a n = 0 := by unfold stV; rw [if_neg (by rw [h]; decide)]
set_option maxHeartbeats 2000000 in
theorem Start_any (k a n : Int) (w : World) (hT : LenT w) :
    Calls Tryd.prog 20 #[.agg #[.int .i64 k, .int .i64 a], .int .i64 n] w fun e w' => e = .returned (.tuple #[.int .i64 (stV k a n), .int .i64 (spE k a n)]) ∧ Below w.heap.size w w' := by
  have HS := Lib.hid (fun w h => Span_any k a n w h)
  have HC := Lib.hid (CBox.new w k a)
  by_cases h : CalOk k a ∧ 0 ≤ n ∧ n < cntP k a
  · obtain ⟨hc, h2, hN⟩ := h
    obtain ⟨N, rfl⟩ := Int.eq_ofNat_of_zero_le h2
    obtain ⟨e1, e2, e3⟩ := sp_ok hc hN
    obtain ⟨y, m, t, hd, hy⟩ := hi_date hc hN
    have hyb := year_first hd
    have hv := st_ok hc hN hy
    obtain ⟨a0, _, hp⟩ := per_ex hc hyb.1 hyb.2
    obtain ⟨v1, v2⟩ := of_yes hc hyb.1 hyb.2 hp
    unfold SpP at HS
    rw [e1, e2, e3] at HS
    have HD := Lib.hid (fun w h => Date_any (hiP k a N) y t m w h hd)
    have HY : Hid (∀ w, LenT w → Calls Tryd.prog 33 #[.int .i64 y, .int .i64 1, .int .i64 1] w (Qt w (.tuple #[.int .i64 (bg y), .bool true]))) := fun w h => by
      have := Day_any y 1 1 0 (by simp) w h hd.y0 hd.y1 (by omega) (by omega) (by have := mlen_pos y 1; omega)
      rw [show bg y + cumN y 0 + (1 - 1) = bg y by simp [cumN]] at this
      exact this
    have HO := Lib.hid (fun w h => Of_any k a (bg y) w h)
    rw [v2] at HO
    have LL : Hid (stV k a (N : Int) = ofV k a (bg y) ∧ spE k a (N : Int) = 0) := ⟨hv, e1⟩
    clear e1 e2 e3 hd hy hyb hv hp v1 v2 hc h2 hN
    obtain ⟨L, hL⟩ : ∃ L, loP k a N = L := ⟨_, rfl⟩
    obtain ⟨G, hG⟩ : ∃ G, hiP k a N = G := ⟨_, rfl⟩
    obtain ⟨B, hB⟩ : ∃ B, bg y = B := ⟨_, rfl⟩
    obtain ⟨V, hV⟩ : ∃ V, ofV k a B = V := ⟨_, rfl⟩
    rw [hL, hG] at HS
    rw [hG] at HD
    rw [hB] at HY
    rw [hB, hV] at HO LL
    clear hL hG hB hV
    go_enter Tryd.func20, Tryd.ntmps20
    go_wp2_with (first | (go_at_call 21; refine (HS.out _ (hT.below HC.out.bl)).mono ?_; rintro e w1 ⟨rfl, hb1⟩; have HC1 := Lib.hid (HC.out.below hb1); clear hb1; obtain ⟨⟨c0, c1⟩, l1⟩ := HC1.out.facts) | (go_at_call 32; refine (HD.out _ (hT.below (HC1.out.alloc _).bl)).mono ?_; rintro e w2 ⟨rfl, q, rfl⟩) | (go_at_call 33; refine (HY.out _ (hT.below ((HC1.out.alloc _).drew _).bl)).mono ?_; rintro e w3 ⟨rfl, q1, rfl⟩; rw [World.drewN_drewN]) | (go_at_call 16; refine (HO.out _ (hT.below ((HC1.out.alloc _).drew _).bl)).mono ?_; rintro e w4 ⟨rfl, hb4⟩; have hB4 := (((HC1.out.alloc _).drew _).below hb4).bl))
    exact bodyPost_ret (v := .tuple #[.int .i64 V, .int .i64 0]) (by simp [results, Tryd.results20, go_sem]) rfl ⟨by rw [LL.out.1, LL.out.2], hB4⟩
  · obtain ⟨e1, e2, e3⟩ := spE_two h
    have hv := st_no e1
    unfold SpP at HS
    rw [e1, e2, e3] at HS
    have LL : Hid (stV k a n = 0 ∧ spE k a n = 2) := ⟨hv, e1⟩
    clear e1 e2 e3 hv h
    go_enter Tryd.func20, Tryd.ntmps20
    go_wp2_with (go_at_call 21; refine (HS.out _ (hT.below HC.out.bl)).mono ?_; rintro e w1 ⟨rfl, hb1⟩; have HC1 := Lib.hid (HC.out.below hb1); clear hb1; obtain ⟨⟨c0, c1⟩, l1⟩ := HC1.out.facts)
    exact bodyPost_ret (v := .tuple #[.int .i64 0, .int .i64 2]) (by simp [results, Tryd.results20, go_sem]) rfl ⟨by rw [LL.out.1, LL.out.2], (HC1.out.alloc _).bl⟩
end Go.Proofs.YtaafihdegnaokaaDoor
/- Contracts: retro.days, retro.Affected. -/
namespace Go.Proofs.YtaafihdegnaokaaDoor
open Go.RowKit

def dyLo (k a f c : Int) : Int := if dyE k a f c = 0 then spLo k a f else 0
def dyHi (k a f c : Int) : Int := if dyE k a f c = 0 then spHi k a c else 0
theorem dy_err1 {k a f c : Int} (h : ¬ spE k a f = 0) : dyE k a f c = 2 ∧ dyLo k a f c = 0 ∧ dyHi k a f c = 0 := by
  have e : dyE k a f c = 2 := by unfold dyE; rw [if_pos h]
  exact ⟨e, by unfold dyLo; rw [if_neg (by rw [e]; decide)], by unfold dyHi; rw [if_neg (by rw [e]; decide)]⟩
theorem dy_err2 {k a f c : Int} (h : spE k a f = 0) (h2 : ¬ spE k a c = 0) : dyE k a f c = 2 ∧ dyLo k a f c = 0 ∧ dyHi k a f c = 0 := by
  have e : dyE k a f c = 2 := by unfold dyE; rw [if_neg (by simp [h]), if_pos h2]
  exact ⟨e, by unfold dyLo; rw [if_neg (by rw [e]; decide)], by unfold dyHi; rw [if_neg (by rw [e]; decide)]⟩
theorem dy_err3 {k a f c : Int} (h : spE k a f = 0) (h2 : spE k a c = 0) (h3 : c < f) : dyE k a f c = 1 ∧ dyLo k a f c = 0 ∧ dyHi k a f c = 0 := by
  have e : dyE k a f c = 1 := by unfold dyE; rw [if_neg (by simp [h]), if_neg (by simp [h2]), if_pos h3]
  exact ⟨e, by unfold dyLo; rw [if_neg (by rw [e]; decide)], by unfold dyHi; rw [if_neg (by rw [e]; decide)]⟩
theorem dy_good {k a f c : Int} (h : spE k a f = 0) (h2 : spE k a c = 0) (h3 : ¬ c < f) : dyE k a f c = 0 ∧ dyLo k a f c = spLo k a f ∧ dyHi k a f c = spHi k a c := by
  have e : dyE k a f c = 0 := by unfold dyE; rw [if_neg (by simp [h]), if_neg (by simp [h2]), if_neg h3]
  exact ⟨e, by unfold dyLo; rw [if_pos e], by unfold dyHi; rw [if_pos e]⟩
theorem sp_two {k a n : Int} (h : ¬ spE k a n = 0) : spE k a n = 2 := by unfold spE at *; split at h <;> simp_all
set_option maxHeartbeats 4000000 in
theorem days_any (k a f c : Int) (w : World) (hT : LenT w) :
    Calls Tryd.prog 15 #[.agg #[.int .i64 k, .int .i64 a], .int .i64 f, .int .i64 c] w fun e w' => e = .returned (.tuple #[.agg #[.int .i64 (dyLo k a f c), .int .i64 (dyHi k a f c)], .int .i64 (dyE k a f c)]) ∧ Below w.heap.size w w' := by
  have HS1 := Lib.hid (fun w h => Span_any k a f w h)
  have HS2 := Lib.hid (fun w h => Span_any k a c w h)
  unfold SpP at HS1 HS2
  have HW := Lib.hid (Two.new w 34 25 (.int .i64 k) (.int .i64 a) (.int .i64 0) (.int .i64 0))
  by_cases h1 : spE k a f = 0
  rotate_left
  · have LL := Lib.hid (dy_err1 (c := c) h1)
    rw [sp_two h1] at HS1
    obtain ⟨L1, hL1⟩ : ∃ x, spLo k a f = x := ⟨_, rfl⟩
    obtain ⟨G1, hG1⟩ : ∃ x, spHi k a f = x := ⟨_, rfl⟩
    rw [hL1, hG1] at HS1
    clear h1 hL1 hG1
    go_enter Tryd.func15, Tryd.ntmps15
    go_wp2_with (go_at_call 21; refine (HS1.out _ (hT.below HW.out.bl)).mono ?_; rintro e w1 ⟨rfl, hb1⟩; have T1 := HW.out.below hb1; obtain ⟨⟨c0, c1⟩, ⟨d0, d1⟩, ⟨f0, f1⟩, l1⟩ := T1.facts; have HT1 := Lib.hid T1; clear T1 hb1)
    exact bodyPost_ret (v := .tuple #[.agg #[.int .i64 0, .int .i64 0], .int .i64 2]) (by simp [results, Tryd.results15, go_sem, d0, d1, l1]) rfl ⟨by rw [LL.out.1, LL.out.2.1, LL.out.2.2], (HT1.out.set _ _).alloc (HT1.out.set _ _).size _⟩
  have A1 := Lib.hid h1
  rw [h1] at HS1
  obtain ⟨L1, hL1⟩ : ∃ x, spLo k a f = x := ⟨_, rfl⟩
  obtain ⟨G1, hG1⟩ : ∃ x, spHi k a f = x := ⟨_, rfl⟩
  rw [hL1, hG1] at HS1
  have HL1 := Lib.hid hL1
  clear h1 hL1 hG1
  by_cases h2 : spE k a c = 0
  rotate_left
  · have LL := Lib.hid (dy_err2 A1.out h2)
    rw [sp_two h2] at HS2
    obtain ⟨L2, hL2⟩ : ∃ x, spLo k a c = x := ⟨_, rfl⟩
    obtain ⟨G2, hG2⟩ : ∃ x, spHi k a c = x := ⟨_, rfl⟩
    rw [hL2, hG2] at HS2
    clear h2 hL2 hG2
    go_enter Tryd.func15, Tryd.ntmps15
    go_wp2_with fail
    refine (HS1.out _ (hT.below HW.out.bl)).mono ?_
    rintro e w1 ⟨rfl, hb1⟩
    have T1 := HW.out.below hb1
    obtain ⟨⟨c0, c1⟩, ⟨d0, d1⟩, ⟨f0, f1⟩, l1⟩ := T1.facts
    have l0 : w.heap.size < w1.heap.size := by omega
    have HT1 := Lib.hid (T1.below ((Below.refl _ _).alloc (Nat.le_refl _) (.cells #[.int .i64 L1, .int .i64 G1] 25)))
    clear T1 hb1
    go_wp2_with fail
    refine (HS2.out _ (hT.below HT1.out.bl)).mono ?_
    rintro e w2 ⟨rfl, hb2⟩
    have T2 := HT1.out.below hb2
    clear c0 c1 d0 d1 f0 f1 l1
    obtain ⟨⟨c0, c1⟩, ⟨d0, d1⟩, ⟨f0, f1⟩, l1⟩ := T2.facts
    have HT2 := Lib.hid T2
    clear T2 hb2
    go_wp2_with fail
    exact bodyPost_ret (v := .tuple #[.agg #[.int .i64 0, .int .i64 0], .int .i64 2]) (by simp [results, Tryd.results15, go_sem, d0, d1, l1]) rfl ⟨by rw [LL.out.1, LL.out.2.1, LL.out.2.2], (HT2.out.set _ _).alloc (HT2.out.set _ _).size _⟩
  have A2 := Lib.hid h2
  rw [h2] at HS2
  obtain ⟨L2, hL2⟩ : ∃ x, spLo k a c = x := ⟨_, rfl⟩
  obtain ⟨G2, hG2⟩ : ∃ x, spHi k a c = x := ⟨_, rfl⟩
  rw [hL2, hG2] at HS2
  have HL2 := Lib.hid hG2
  clear h2 hL2 hG2
  by_cases h3 : c < f
  · have LL := Lib.hid (dy_err3 A1.out A2.out h3)
    have g3 : decide (c < f) = true := decide_eq_true h3
    clear h3
    go_enter Tryd.func15, Tryd.ntmps15
    go_wp2_with fail
    refine (HS1.out _ (hT.below HW.out.bl)).mono ?_
    rintro e w1 ⟨rfl, hb1⟩
    have T1 := HW.out.below hb1
    obtain ⟨⟨c0, c1⟩, ⟨d0, d1⟩, ⟨f0, f1⟩, l1⟩ := T1.facts
    have l0 : w.heap.size < w1.heap.size := by omega
    have HT1 := Lib.hid (T1.below ((Below.refl _ _).alloc (Nat.le_refl _) (.cells #[.int .i64 L1, .int .i64 G1] 25)))
    clear T1 hb1
    go_wp2_with fail
    refine (HS2.out _ (hT.below HT1.out.bl)).mono ?_
    rintro e w2 ⟨rfl, hb2⟩
    have T2 := HT1.out.below hb2
    clear c0 c1 d0 d1 f0 f1 l1
    obtain ⟨⟨c0, c1⟩, ⟨d0, d1⟩, ⟨f0, f1⟩, l1⟩ := T2.facts
    have HT2 := Lib.hid T2
    clear T2 hb2
    go_wp2_with fail
    exact bodyPost_ret (v := .tuple #[.agg #[.int .i64 0, .int .i64 0], .int .i64 1]) (by simp [results, Tryd.results15, go_sem, d0, d1, l1]) rfl ⟨by rw [LL.out.1, LL.out.2.1, LL.out.2.2], (HT2.out.set _ _).alloc (HT2.out.set _ _).size _⟩
  · have LL := Lib.hid (dy_good A1.out A2.out h3)
    have g3 : decide (c < f) = false := decide_eq_false h3
    clear h3
    go_enter Tryd.func15, Tryd.ntmps15
    go_wp2_with fail
    refine (HS1.out _ (hT.below HW.out.bl)).mono ?_
    rintro e w1 ⟨rfl, hb1⟩
    have T1 := HW.out.below hb1
    obtain ⟨⟨c0, c1⟩, ⟨d0, d1⟩, ⟨f0, f1⟩, l1⟩ := T1.facts
    have l0 : w.heap.size < w1.heap.size := by omega
    have HT1 := Lib.hid (T1.below ((Below.refl _ _).alloc (Nat.le_refl _) (.cells #[.int .i64 L1, .int .i64 G1] 25)))
    have HR1 := Lib.hid (Row.new w1 25 #[.int .i64 L1, .int .i64 G1])
    have hsz := HT1.out.bl.size
    clear T1 hb1
    go_wp2_with fail
    refine (HS2.out _ (hT.below HT1.out.bl)).mono ?_
    rintro e w2 ⟨rfl, hb2⟩
    have T2 := HT1.out.below hb2
    have R2 := HR1.out.below hb2 HR1.out.lt
    have l2 := R2.lt
    have r0 : w2.cell? ⟨w1.heap.size, 0, none⟩ = some (.int .i64 L1) := R2.cell 0
    have r1 : w2.cell? ⟨w1.heap.size, 1, none⟩ = some (.int .i64 G1) := R2.cell 1
    have l3 := l1
    clear c0 c1 d0 d1 f0 f1 l1
    obtain ⟨⟨c0, c1⟩, ⟨d0, d1⟩, ⟨f0, f1⟩, l1⟩ := T2.facts
    have HT2 := Lib.hid T2
    clear T2 hb2 R2
    go_wp2_with fail
    exact bodyPost_ret (v := .tuple #[.agg #[.int .i64 L1, .int .i64 G2], .int .i64 0]) (by simp [results, Tryd.results15, go_sem, d0, d1, l1]) rfl ⟨by rw [LL.out.1, LL.out.2.1, LL.out.2.2, HL1.out, HL2.out], (HT2.out.set _ _).alloc (HT2.out.set _ _).size _⟩
end Go.Proofs.YtaafihdegnaokaaDoor
/- Contracts: retro.Affected. -/
namespace Go.Proofs.YtaafihdegnaokaaDoor
open Go.RowKit

def AffP (k a : Int) (R : List (Int × Int)) (f c : Int) (w : World) (e : Ending) (w' : World) : Prop :=
  e = .returned (.tuple #[.int .i64 ((affO k a R f c).getD 0 : Nat), .bool (affO k a R f c).isSome, .int .i64 (affE k a R f c)]) ∧ Below w.heap.size w w'
theorem aff_err {k a f c : Int} {R : List (Int × Int)} {E : Int} (h : affE k a R f c = E) (hE : E ≠ 0) : (((affO k a R f c).getD 0 : Nat) : Int) = 0 ∧ (affO k a R f c).isSome = false ∧ affE k a R f c = E := by
  rw [affO_err (by rw [h]; exact hE)]
  exact ⟨rfl, rfl, h⟩
theorem affE_days {k a f c : Int} (R : List (Int × Int)) (h : dyE k a f c ≠ 0) : affE k a R f c = dyE k a f c := by unfold affE; rw [if_pos h]
theorem affE_len {k a f c : Int} {R : List (Int × Int)} (h : dyE k a f c = 0) (h1 : 1024 < R.length) : affE k a R f c = 3 := by unfold affE; rw [if_neg (by simp [h]), if_pos h1]
theorem affE_bad {k a f c : Int} {R : List (Int × Int)} (h : dyE k a f c = 0) (h1 : ¬ 1024 < R.length) {i : Nat} (hi : i < R.length) (hb : okR R[i] = false) : affE k a R f c = 2 := by
  unfold affE
  rw [if_neg (by simp [h]), if_neg h1, if_neg]
  intro hh
  have := List.all_eq_true.1 hh _ (List.getElem_mem hi)
  rw [hb] at this; cases this
theorem affE_good {k a f c : Int} {R : List (Int × Int)} (h : dyE k a f c = 0) (h1 : ¬ 1024 < R.length) (hb : ∀ i (hi : i < R.length), okR R[i] = true) : affE k a R f c = 0 := by
  unfold affE
  rw [if_neg (by simp [h]), if_neg h1, if_pos]
  rw [List.all_eq_true]
  intro r hr
  obtain ⟨i, hi, rfl⟩ := List.mem_iff_getElem.1 hr
  exact hb i hi
/-- what the second loop has found, at its end -/
theorem aff_end {k a f c : Int} {R : List (Int × Int)} (h : affE k a R f c = 0) {o : Option Int} (hl : LdI R R.length (dyLo k a f c) (dyHi k a f c) o) :
    (o = none → affO k a R f c = none) ∧ ∀ d, o = some d → ∃ n : Nat, affO k a R f c = some n ∧ ofV k a d = n ∧ ofE k a d = 0 := by
  obtain ⟨hd, _, hR⟩ := affE_ok h
  have hR1 : ∀ r ∈ R, r.1 ≤ r.2 := fun r hr => (hR r hr).1
  unfold dyLo dyHi at hl
  rw [if_pos hd, if_pos hd] at hl
  constructor
  · rintro rfl
    have h2 := ld_none hl
    obtain ⟨G, C, rfl, rfl, g2, g3, hc, _, _, e2, _, _, e6⟩ := dy_days hd
    rw [e2, e6] at h2
    exact affO_none (fun m h3 h4 => aff_no hc hR1 g3 h2 m (by omega) (by omega)) (by omega)
  · rintro d rfl
    have h2 := ld_some hl
    obtain ⟨n, hp, hv, he, hf, hcn⟩ := per_between hd h2.lo h2.hi
    obtain ⟨G, C, rfl, rfl, g2, g3, hc, _, _, e2, _, _, e6⟩ := dy_days hd
    rw [e2, e6] at h2
    have := aff_yes hc hR1 g2 g3 h2 hp
    exact ⟨n, affO_some h hf hcn this.2.2.1 fun m hm1 hm2 => this.2.2.2 m (by omega) hm2, hv, he⟩
theorem CellsAt.pr {w : World} {b off : Nat} {R : List (Int × Int)} (h : CellsAt w 2 b off (prs R)) {i : Nat} (hi : i < R.length) :
    w.cell? ⟨b, off + i * 2, none⟩ = some (.int .i64 (R[i]).1) ∧ w.cell? ⟨b, off + i * 2 + 1, none⟩ = some (.int .i64 (R[i]).2) :=
  ⟨h.2 i _ (prs_at hi) 0 _ rfl, h.2 i _ (prs_at hi) 1 _ rfl⟩
/-- where the loops stand: the calendar, the days, the ranges -/
structure AfS (w wr : World) (k a : Int) (g : Nat) (lo hi : Int) (v : Value) (R : List (Int × Int)) : Prop where
  box : CBox w wr k a
  row : Row wr g 25 #[.int .i64 lo, .int .i64 hi]
  sl : Sl wr 2 v (prs R)
theorem AfS.below {w w1 w2 : World} {k a lo hi : Int} {g : Nat} {v : Value} {R : List (Int × Int)} (h : AfS w w1 k a g lo hi v R) (hb : Below w1.heap.size w1 w2) : AfS w w2 k a g lo hi v R := ⟨h.box.below hb, h.row.below hb h.row.lt, h.sl.below hb⟩
theorem AfS.alloc {w w1 : World} {k a lo hi : Int} {g : Nat} {v : Value} {R : List (Int × Int)} (h : AfS w w1 k a g lo hi v R) (o : Obj) : AfS w (w1.alloc o) k a g lo hi v R := h.below ((Below.refl _ _).alloc (Nat.le_refl _) _)
theorem AfS.facts {w w1 : World} {k a lo hi : Int} {g : Nat} {v : Value} {R : List (Int × Int)} (h : AfS w w1 k a g lo hi v R) : (w1.cell? ⟨w.heap.size, 0, none⟩ = some (.int .i64 k) ∧ w1.cell? ⟨w.heap.size, 1, none⟩ = some (.int .i64 a)) ∧ w.heap.size < w1.heap.size ∧ (w1.cell? ⟨g, 0, none⟩ = some (.int .i64 lo) ∧ w1.cell? ⟨g, 1, none⟩ = some (.int .i64 hi)) ∧ g < w1.heap.size :=
  ⟨h.box.facts.1, h.box.facts.2, ⟨h.row.cell 0, h.row.cell 1⟩, h.row.lt⟩
set_option maxRecDepth 100000 in
set_option maxHeartbeats 4000000 in
theorem Affected_any (k a : Int) (v : Value) (R : List (Int × Int)) (f c : Int) (w : World) (hT : LenT w) (hv : Sl w 2 v (prs R)) :
    Calls Tryd.prog 6 #[.agg #[.int .i64 k, .int .i64 a], v, .int .i64 f, .int .i64 c] w (AffP k a R f c w) := by
  have HC := Lib.hid (CBox.new w k a)
  have HT := Lib.hid hT
  have HD := Lib.hid (fun w h => days_any k a f c w h)
  have HV := Lib.hid hv
  obtain ⟨A, cap, rfl, -⟩ := hv
  rw [prs_len] at HV ⊢
  clear hT
  by_cases h0 : dyE k a f c = 0
  rotate_left
  · have LL := Lib.hid (aff_err (affE_days R h0) h0)
    obtain ⟨E, hE⟩ : ∃ E, dyE k a f c = E := ⟨_, rfl⟩
    obtain ⟨L, hL⟩ : ∃ E, dyLo k a f c = E := ⟨_, rfl⟩
    obtain ⟨G, hG⟩ : ∃ E, dyHi k a f c = E := ⟨_, rfl⟩
    rw [hE, hL, hG] at HD
    rw [hE] at LL h0
    have n1 : (E != 0) = true := by simpa using h0
    clear hE hL hG h0
    go_enter Tryd.func6, Tryd.ntmps6
    go_wp2_with (go_at_call 15; refine (HD.out _ (HT.out.below HC.out.bl)).mono ?_; rintro e w1 ⟨rfl, hb1⟩; have HC1 := Lib.hid (HC.out.below hb1); clear hb1)
    exact bodyPost_ret (v := .tuple #[.int .i64 0, .bool false, .int .i64 E]) (by simp [results, Tryd.results6, go_sem]) rfl ⟨by rw [LL.out.1, LL.out.2.1, LL.out.2.2], (HC1.out.alloc _).bl⟩
  have H0 := Lib.hid h0
  rw [h0] at HD
  by_cases hl : 1024 < R.length
  · have LL := Lib.hid (aff_err (affE_len h0 hl) (by decide))
    obtain ⟨L, hL⟩ : ∃ E, dyLo k a f c = E := ⟨_, rfl⟩
    obtain ⟨G, hG⟩ : ∃ E, dyHi k a f c = E := ⟨_, rfl⟩
    rw [hL, hG] at HD
    have g1 : decide ((1024 : Int) < (R.length : Int)) = true := decide_eq_true (by omega)
    clear hL hG h0 hl
    go_enter Tryd.func6, Tryd.ntmps6
    go_wp2_with (go_at_call 15; refine (HD.out _ (HT.out.below HC.out.bl)).mono ?_; rintro e w1 ⟨rfl, hb1⟩; have HC1 := Lib.hid (HC.out.below hb1); clear hb1)
    exact bodyPost_ret (v := .tuple #[.int .i64 0, .bool false, .int .i64 3]) (by simp [results, Tryd.results6, go_sem]) rfl ⟨by rw [LL.out.1, LL.out.2.1, LL.out.2.2], (HC1.out.alloc _).bl⟩
  have HBAD : Hid (∀ i (hi : i < R.length), okR R[i] = false → ((((affO k a R f c).getD 0 : Nat) : Int) = 0 ∧ (affO k a R f c).isSome = false ∧ affE k a R f c = 2)) := fun i hi hb => aff_err (affE_bad h0 hl hi hb) (by decide)
  have HGOOD : Hid ((∀ i (hi : i < R.length), okR R[i] = true) → affE k a R f c = 0) := fun hb => affE_good h0 hl hb
  have HEND : Hid (affE k a R f c = 0 → ∀ o, LdI R R.length (dyLo k a f c) (dyHi k a f c) o → (o = none → affO k a R f c = none) ∧ ∀ d, o = some d → ∃ n : Nat, affO k a R f c = some n ∧ ofV k a d = n ∧ ofE k a d = 0) := fun h o hl => aff_end h hl
  obtain ⟨lo, hlo⟩ : ∃ E, dyLo k a f c = E := ⟨_, rfl⟩
  obtain ⟨hi, hhi⟩ : ∃ E, dyHi k a f c = E := ⟨_, rfl⟩
  rw [hlo, hhi] at HD HEND
  have g1 : decide ((1024 : Int) < (R.length : Int)) = false := decide_eq_false (by omega)
  have hl' : R.length ≤ 1024 := by omega
  clear hlo hhi h0 hl H0
  go_enter Tryd.func6, Tryd.ntmps6
  go_wp2_with fail
  refine (HD.out _ (HT.out.below HC.out.bl)).mono ?_
  rintro e w1 ⟨rfl, hb1⟩
  have HC1 := HC.out.below hb1
  have HS1 : Hid (AfS w (w1.alloc (.cells #[.int .i64 lo, .int .i64 hi] 25)) k a w1.heap.size lo hi (.slice A R.length cap) R) := ⟨HC1.alloc _, Row.new _ _ _, (HV.out.below HC1.bl).below ((Below.refl _ _).alloc (Nat.le_refl _) _)⟩
  clear hb1 HC1
  go_wp2_with fail
  obtain ⟨g, hg⟩ : ∃ g, w1.heap.size = g := ⟨_, rfl⟩
  rw [hg] at HS1 ⊢
  clear hg
  go_loopw [36] (fun t wr => ∃ i : Nat, i ≤ R.length ∧ t = .int .i64 i ∧ Hid (AfS w wr k a g lo hi (.slice A R.length cap) R ∧ ∀ j (hj : j < R.length), j < i → okR R[j] = true)) (fun t _ => R.length - (intOf t).toNat)
  case atStart => exact ⟨0, by omega, rfl, HS1.out, fun j _ h => by omega⟩
  case round =>
    clear HS1
    obtain ⟨i, hi', rfl, HI⟩ := hrel
    obtain ⟨wo, rfl⟩ : ∃ wo : World, wo = wr := ⟨_, rfl⟩
    by_cases hlt : i < R.length
    · obtain ⟨b, off, rfl, hcl⟩ := HI.out.1.sl.cells (by rw [prs_len]; omega)
      obtain ⟨c0, c1⟩ := hcl.pr hlt
      have hbl := hcl.1
      have HQ : Hid (okR R[i] = true → ∀ j (hj : j < R.length), j < i + 1 → okR R[j] = true) := fun hk j hj h => by
        rcases Nat.lt_or_ge j i with h' | h'
        · exact HI.out.2 j hj h'
        · have : j = i := by omega
          subst this; exact hk
      have HB := Lib.hid (HBAD.out i hlt)
      obtain ⟨x, hx⟩ : ∃ x, (R[i]'hlt).1 = x := ⟨_, rfl⟩
      obtain ⟨y, hy⟩ : ∃ x, (R[i]'hlt).2 = x := ⟨_, rfl⟩
      have HO : Hid (okR R[i] = (decide (x ≤ y) && (decide (0 ≤ x) && decide (y ≤ 84005)))) := by unfold Hid okR; rw [hx, hy]
      rw [hx] at c0
      rw [hy] at c1
      have hS2 := Lib.hid (HI.out.1.alloc (.cells #[.int .i64 x, .int .i64 y] 25))
      clear hcl hx hy
      have hcase : (x ≤ y ∧ 0 ≤ x ∧ y ≤ 84005) ∨ y < x ∨ (x ≤ y ∧ x < 0) ∨ (x ≤ y ∧ 0 ≤ x ∧ 84005 < y) := by omega
      rcases hcase with ⟨h1, h2, h3⟩ | h1 | ⟨h1, h2⟩ | ⟨h1, h2, h3⟩
      · have q1 : decide (y < x) = false := decide_eq_false (by omega)
        have q2 : decide (x < 0) = false := decide_eq_false (by omega)
        have q3 : decide (84005 < y) = false := decide_eq_false (by omega)
        have HN := Lib.hid (HQ.out (by rw [HO.out, decide_eq_true h1, decide_eq_true h2, decide_eq_true h3]; rfl))
        clear h1 h2 h3 HI HQ
        go_wp2_with fail
        go_roundw
        case rel => exact ⟨i + 1, by omega, by go_num, hS2.out, HN.out⟩
        case measure => simp [intOf]; omega
      · have q1 : decide (y < x) = true := decide_eq_true (by omega)
        have LL := Lib.hid (HB.out (by rw [HO.out, decide_eq_false (by omega)]; rfl))
        clear h1 HI HQ
        go_wp2_with fail
        exact bodyPost_ret (v := .tuple #[.int .i64 0, .bool false, .int .i64 2]) (by simp [results, Tryd.results6, go_sem]) rfl ⟨by rw [LL.out.1, LL.out.2.1, LL.out.2.2], hS2.out.box.bl⟩
      · have q1 : decide (y < x) = false := decide_eq_false (by omega)
        have q2 : decide (x < 0) = true := decide_eq_true (by omega)
        have LL := Lib.hid (HB.out (by rw [HO.out, decide_eq_false (show ¬ 0 ≤ x by omega)]; simp))
        clear h1 h2 HI HQ
        go_wp2_with fail
        exact bodyPost_ret (v := .tuple #[.int .i64 0, .bool false, .int .i64 2]) (by simp [results, Tryd.results6, go_sem]) rfl ⟨by rw [LL.out.1, LL.out.2.1, LL.out.2.2], hS2.out.box.bl⟩
      · have q1 : decide (y < x) = false := decide_eq_false (by omega)
        have q2 : decide (x < 0) = false := decide_eq_false (by omega)
        have q3 : decide (84005 < y) = true := decide_eq_true (by omega)
        have LL := Lib.hid (HB.out (by rw [HO.out, decide_eq_false (show ¬ y ≤ 84005 by omega)]; simp))
        clear h1 h2 h3 HI HQ
        go_wp2_with fail
        exact bodyPost_ret (v := .tuple #[.int .i64 0, .bool false, .int .i64 2]) (by simp [results, Tryd.results6, go_sem]) rfl ⟨by rw [LL.out.1, LL.out.2.1, LL.out.2.2], hS2.out.box.bl⟩
    · obtain rfl : i = R.length := by omega
      have HE := Lib.hid (HGOOD.out fun j hj => HI.out.2 j hj hj)
      have HE2 := Lib.hid (HEND.out HE.out)
      have HX := Lib.hid HI.out.1
      clear HI HGOOD HBAD HEND
      go_wp2_with fail
      go_loopw [15, 16, 58] (fun p q t wr => ∃ (i : Nat) (o : Option Int), i ≤ R.length ∧ t = .int .i64 i ∧ p = .int .i64 (o.getD 0) ∧ q = .bool o.isSome ∧ Hid (AfS w wr k a g lo hi (.slice A R.length cap) R ∧ LdI R i lo hi o)) (fun _ _ t _ => R.length - (intOf t).toNat)
      case atStart => exact ⟨0, none, by omega, rfl, rfl, rfl, HX.out, ld_start R lo hi⟩
      case round =>
        clear HX
        obtain ⟨i, o, hi', rfl, rfl, rfl, HI⟩ := hrel
        obtain ⟨wo, rfl⟩ : ∃ wo : World, wo = wr := ⟨_, rfl⟩
        by_cases hlt : i < R.length
        · obtain ⟨b, off, rfl, hcl⟩ := HI.out.1.sl.cells (by rw [prs_len]; omega)
          obtain ⟨c0, c1⟩ := hcl.pr hlt
          have hbl := hcl.1
          obtain ⟨-, -, ⟨d0, d1⟩, dl⟩ := HI.out.1.facts
          have HOUT := Lib.hid (fun h => ld_out HI.out.2 hlt h)
          have HNEW := Lib.hid (fun (ho : o = none) h => ld_new (by rw [← ho]; exact HI.out.2) hlt h)
          have HLESS := Lib.hid (fun d (ho : o = some d) h => ld_less (by rw [← ho]; exact HI.out.2) hlt h)
          have HMORE := Lib.hid (fun d (ho : o = some d) h => ld_more (by rw [← ho]; exact HI.out.2) hlt h)
          obtain ⟨x, hx⟩ : ∃ x, (R[i]'hlt).1 = x := ⟨_, rfl⟩
          obtain ⟨y, hy⟩ : ∃ x, (R[i]'hlt).2 = x := ⟨_, rfl⟩
          rw [hx] at c0 HOUT HNEW HLESS HMORE
          rw [hy] at c1 HOUT HNEW HLESS
          have hS2 := Lib.hid (HI.out.1.alloc (.cells #[.int .i64 x, .int .i64 y] 25))
          obtain ⟨D, hD⟩ : ∃ D, max x lo = D := ⟨_, rfl⟩
          obtain ⟨M, hM⟩ : ∃ D, min y hi = D := ⟨_, rfl⟩
          rw [hD, hM] at HOUT HNEW HLESS
          rw [hD] at HMORE
          clear hcl hx hy HI
          by_cases h1 : D ≤ M
          · have q1 : decide (D ≤ M) = true := decide_eq_true h1
            cases ho : o with
            | none =>
              have HN := Lib.hid (HNEW.out ho h1)
              clear h1 HOUT HNEW HLESS HMORE ho
              simp only [Option.isSome_none, Option.getD_none]
              go_wp2_with fail
              go_roundw
              case rel => exact ⟨i + 1, some D, by omega, by go_num, rfl, rfl, hS2.out, HN.out⟩
              case measure => simp [intOf]; omega
            | some d =>
              simp only [Option.isSome_some, Option.getD_some]
              by_cases h2 : D < d
              · have HN := Lib.hid (HLESS.out d ho h1 h2)
                have q2 : decide (D < d) = true := decide_eq_true h2
                clear h1 h2 HOUT HNEW HLESS HMORE ho
                go_wp2_with fail
                go_roundw
                case rel => exact ⟨i + 1, some D, by omega, by go_num, rfl, rfl, hS2.out, HN.out⟩
                case measure => simp [intOf]; omega
              · have HN := Lib.hid (HMORE.out d ho h2)
                have q2 : decide (D < d) = false := decide_eq_false h2
                clear h1 h2 HOUT HNEW HLESS HMORE ho
                go_wp2_with fail
                go_roundw
                case rel => exact ⟨i + 1, some d, by omega, by go_num, rfl, rfl, hS2.out, HN.out⟩
                case measure => simp [intOf]; omega
          · have q1 : decide (D ≤ M) = false := decide_eq_false h1
            have HN := Lib.hid (HOUT.out h1)
            clear h1 HOUT HNEW HLESS HMORE
            go_wp2_with fail
            go_roundw
            case rel => exact ⟨i + 1, o, by omega, by go_num, rfl, rfl, hS2.out, HN.out⟩
            case measure => simp [intOf]; omega
        · obtain rfl : i = R.length := by omega
          have HF := Lib.hid (HE2.out o HI.out.2)
          have HX := Lib.hid HI.out.1.box
          obtain ⟨⟨c0, c1⟩, l1⟩ := HI.out.1.box.facts
          clear HI HE2
          cases ho : o with
          | none =>
            have LL : Hid ((((affO k a R f c).getD 0 : Nat) : Int) = 0 ∧ (affO k a R f c).isSome = false ∧ affE k a R f c = 0) := by rw [Hid, HF.out.1 ho, HE.out]; exact ⟨rfl, rfl, rfl⟩
            simp only [Option.isSome_none, Option.getD_none]
            clear HF HE ho
            go_wp2_with fail
            exact bodyPost_ret (v := .tuple #[.int .i64 0, .bool false, .int .i64 0]) (by simp [results, Tryd.results6, go_sem]) rfl ⟨by rw [LL.out.1, LL.out.2.1, LL.out.2.2], HX.out.bl⟩
          | some d =>
            obtain ⟨n, hn, hv, he⟩ := HF.out.2 d ho
            have LL : Hid ((((affO k a R f c).getD 0 : Nat) : Int) = n ∧ (affO k a R f c).isSome = true ∧ affE k a R f c = 0) := by rw [Hid, hn, HE.out]; exact ⟨rfl, rfl, rfl⟩
            have HOF := Lib.hid (fun w h => Of_any k a d w h)
            rw [hv, he] at HOF
            simp only [Option.isSome_some, Option.getD_some]
            clear HF HE ho hn hv he
            go_wp2_with (go_at_call 16; refine (HOF.out _ (HT.out.below HX.out.bl)).mono ?_; rintro e w4 ⟨rfl, hb4⟩; have HB4 := Lib.hid (HX.out.below hb4).bl; clear hb4)
            exact bodyPost_ret (v := .tuple #[.int .i64 n, .bool true, .int .i64 0]) (by simp [results, Tryd.results6, go_sem]) rfl ⟨by rw [LL.out.1, LL.out.2.1, LL.out.2.2], HB4.out⟩
end Go.Proofs.YtaafihdegnaokaaDoor
/- Contracts: slices.SortFunc at ranges, retro.join. -/
namespace Go.Proofs.YtaafihdegnaokaaDoor
open Go.RowKit Go.Sort Go.Shelf

/-- one range comes before another one -/
def ltR (a b : Int × Int) : Prop := a.1 < b.1 ∨ a.1 = b.1 ∧ a.2 < b.2
instance (a b : Int × Int) : Decidable (ltR a b) := by unfold ltR; infer_instance
def cmpR (a b : Int × Int) : Int := if ltR a b then -1 else if ltR b a then 1 else 0
theorem ltR_irr (a : Int × Int) : ¬ ltR a a := by unfold ltR; omega
theorem cmpR_neg {a b : Int × Int} : cmpR a b < 0 ↔ ltR a b := by
  unfold cmpR
  split
  · simp [*]
  · split <;> simp [*]
theorem ltOf_rng (a b : Int × Int) : ltOf cmpR a b = decide (ltR a b) := by
  unfold ltOf
  rw [Bool.eq_iff_iff, decide_eq_true_eq, decide_eq_true_eq]
  exact cmpR_neg
theorem swoR : SWO (ltOf cmpR) where
  irrefl x := by rw [ltOf_rng]; exact decide_eq_false (ltR_irr x)
  trans x y z h1 h2 := by
    rw [ltOf_rng, decide_eq_true_eq] at *
    unfold ltR at *; omega
  ntrans x y z h1 h2 := by
    rw [ltOf_rng, decide_eq_false_iff_not] at *
    unfold ltR at *; omega
theorem rng_len (x : Int × Int) : (prV x).length = 2 := rfl
theorem rng_one (x : Int × Int) : ∀ v ∈ prV x, v.oneCell' = true := by simp [prV, Value.oneCell']
theorem orL_rng (a b : Int × Int) : orL [cmpI a.1 b.1, cmpI a.2 b.2] = cmpR a b := by
  have key : ∀ x y : Int, cmpI x y = if x < y then -1 else if y < x then 1 else 0 := fun _ _ => rfl
  simp only [orL, key, cmpR, ltR]
  repeat' split
  all_goals first | rfl | omega
set_option maxRecDepth 100000 in
set_option maxHeartbeats 1000000 in
theorem cmpR_any (a b : Int × Int) (w : World) : Calls Tryd.prog 29 #[.agg #[.int .i64 a.1, .int .i64 a.2], .agg #[.int .i64 b.1, .int .i64 b.2]] w fun e w' => e = .returned (.int .i64 (cmpR a b)) ∧ ∃ q os, w' = grow (w.drewN q) os := by
  rw [← orL_rng]
  go_enter Tryd.func29, Tryd.ntmps29
  go_wp2
  refine region_tail 10 (by kernel_rfl) (by kernel_rfl) ?_
  simp only [List.take_succ_cons, List.take_zero, List.drop_succ_cons, List.drop_zero]
  repeat still_step
  still_call ((cmpI_any _ _ _).mono fun _ _ h => ⟨h.1, h.2.symm⟩)
  repeat still_step
  still_call ((cmpI_any _ _ _).mono fun _ _ h => ⟨h.1, h.2.symm⟩)
  refine wpStill_nil ?_
  go_wp2_with (go_at_call 30; refine (orL_any [cmpI a.1 b.1, cmpI a.2 b.2] _ _ _ (by simp) ?_).mono ?_; (intro k hk; rcases k with _ | _ | k; (simp [go_sem]); (simp [go_sem]); (simp at hk; omega)); rintro e w' ⟨rfl, rfl⟩)
  go_ret
  exact ⟨rfl, 1, _, by rw [alloc_eq_grow, alloc_eq_grow, alloc_eq_grow, grow_grow, grow_grow]; rfl⟩
/-- what the sort leaves -/
def SortRP (w : World) (base : Nat) (v : Value) (l : List (Int × Int)) (e : Ending) (w' : World) : Prop :=
  e = .returned (.tuple #[]) ∧ ∃ l', l'.Perm l ∧ l'.Pairwise (fun a b => ¬ ltR b a) ∧ Own w' base 25 2 v (prs l') ∧ w.grownBy w' v.ownBlock
theorem sortRng_any (v : Value) (l : List (Int × Int)) (base : Nat) (w : World) (hown : Own w base 25 2 v (prs l)) (hlen : l.length ≤ 1099511627776) :
    Calls Tryd.prog 28 #[v, .func (.func 29) #[] #[]] w (SortRP w base v l) := by
  have hl : (prs l).length = l.length := prs_len l
  rcases hown.1.2 with ⟨rfl, h0⟩ | ⟨g, cap, cur, rfl, hb, hg, hrest⟩
  · have hl0 : l = [] := List.eq_nil_of_length_eq_zero (by omega)
    subst hl0
    exact (AnyF.slices_SortFunc_none Tryd.sortRng none 0 _ w).mono fun e w' ⟨he, hw⟩ => by
      subst hw
      exact ⟨he, [], .refl _, .nil, hown, World.grownBy.refl _ _⟩
  · rw [hl] at hown ⊢
    obtain ⟨hH, hlt⟩ := own_holds (enc := prV) (k := 2) (by omega) rng_len rng_one hown
    have eg : ∀ args w, (callFunc 29 args).run Tryd.prog w = .ok (.enter 29 args) w := enters_of Tryd.func29 (by kernel_rfl) rfl
    have hcmp : CmpLays Tryd.prog 29 #[] prV 2 cmpR g 0 l.toArray.size w := fun _ _ _ _ x y => cmpR_any x y _
    have hcon := AnyQ.slices_SortFunc Tryd.sortRng 2 Tryd.isAgg25 Tryd.sizeOf25 prV rng_len rng_one cmpR swoR 29 #[] g 0 cap l.toArray w eg hcmp hH hlt (by simp; omega)
    refine Calls.mono (R := _) hcon fun e w' hh => ?_
    obtain ⟨he, d, n, os, hp, hs, hw⟩ := hh
    subst hw
    have hd : d.size = l.length := by simpa using hp.1
    have hk := own_sorted (enc := prV) (k := 2) (by omega) rng_len rng_one hown d hd n os
    refine ⟨he, d.toList, ?_, ?_, hk.1, hk.2⟩
    · have := hp.2.2
      simp only [List.size_toArray] at this
      rw [show d.extract 0 l.length = d by rw [← hd]; simp, show l.toArray.extract 0 l.length = l.toArray by simp] at this
      simpa using this
    · rw [List.pairwise_iff_getElem]
      intro i j hi hj hij
      have := hs i j (Nat.zero_le _) hij (by simp at hj ⊢; omega)
      rw [ltOf_rng, decide_eq_false_iff_not] at this
      simp only [Array.length_toList] at hi hj
      rw [getElem!_pos d j hj, getElem!_pos d i hi] at this
      simpa using this
/- joining, step by step -/
theorem joinT_none (r : Int × Int) : joinT [] r = [r] := rfl
theorem getLast_at {J : List (Int × Int)} {j : Nat} (hj : J.length = j + 1) : J.getLast? = some (J[j]'(by omega)) := by
  rw [List.getLast?_eq_getElem?]
  have hl : J.length - 1 = j := by omega
  rw [hl, List.getElem?_eq_getElem (by omega)]
theorem joinT_apart {J : List (Int × Int)} {r : Int × Int} {j : Nat} (hj : J.length = j + 1) (h : ¬ r.1 ≤ (J[j]'(by omega)).2 + 1) : joinT J r = J ++ [r] := by
  unfold joinT
  rw [getLast_at hj]
  simp only
  rw [if_neg h]
theorem joinT_touch {J : List (Int × Int)} {r : Int × Int} {j : Nat} (hj : J.length = j + 1) (h : r.1 ≤ (J[j]'(by omega)).2 + 1) : joinT J r = J.set j ((J[j]'(by omega)).1, max (J[j]'(by omega)).2 r.2) := by
  unfold joinT
  rw [getLast_at hj]
  simp only
  rw [if_pos h]
  apply List.ext_getElem?
  intro t
  have hl : J.length - 1 = j := by omega
  rw [List.getElem?_set, List.getElem?_append, List.length_dropLast, hl]
  by_cases h1 : t < j
  · rw [if_pos h1, if_neg (by omega), List.getElem?_dropLast, hl, if_pos h1]
  · rw [if_neg h1]
    by_cases h2 : j = t
    · subst h2
      rw [if_pos rfl, if_pos (by omega), Nat.sub_self]; rfl
    · rw [if_neg h2, List.getElem?_eq_none (by simp; omega), List.getElem?_eq_none (by omega)]
theorem joinL_step {S : List (Int × Int)} {k : Nat} (hk : k < S.length) : joinL (S.take (k + 1)) = joinT (joinL (S.take k)) S[k] := by
  unfold joinL
  rw [List.take_succ_eq_append_getElem hk, List.foldl_append]; rfl
theorem joinT_len (J : List (Int × Int)) (r : Int × Int) : (joinT J r).length ≤ J.length + 1 := by
  rcases Nat.eq_zero_or_pos J.length with h | h
  · rw [List.eq_nil_of_length_eq_zero h]; simp [joinT]
  · obtain ⟨j, hj⟩ : ∃ j, J.length = j + 1 := ⟨J.length - 1, by omega⟩
    by_cases ht : r.1 ≤ (J[j]'(by omega)).2 + 1
    · rw [joinT_touch hj ht, List.length_set]; omega
    · rw [joinT_apart hj ht, List.length_append]; simp
theorem joinL_len {S : List (Int × Int)} : ∀ {k : Nat}, k ≤ S.length → (joinL (S.take k)).length ≤ k
  | 0, _ => by simp [joinL]
  | k + 1, h => by
    rw [joinL_step (by omega)]
    have := joinT_len (joinL (S.take k)) (S[k]'(by omega))
    have := joinL_len (S := S) (k := k) (by omega)
    omega
theorem joinT_hi {J : List (Int × Int)} {r : Int × Int} (hJ : ∀ p ∈ J, 0 ≤ p.2 ∧ p.2 ≤ 84005) (hr : 0 ≤ r.2 ∧ r.2 ≤ 84005) : ∀ p ∈ joinT J r, 0 ≤ p.2 ∧ p.2 ≤ 84005 := fun p hp => by
  rcases Nat.eq_zero_or_pos J.length with h | h
  · rw [List.eq_nil_of_length_eq_zero h, joinT_none] at hp
    rw [List.mem_singleton.1 hp]; exact hr
  · obtain ⟨j, hj⟩ : ∃ j, J.length = j + 1 := ⟨J.length - 1, by omega⟩
    by_cases ht : r.1 ≤ (J[j]'(by omega)).2 + 1
    · rw [joinT_touch hj ht] at hp
      rcases List.mem_or_eq_of_mem_set hp with h2 | h2
      · exact hJ p h2
      · have := hJ _ (List.getElem_mem (show j < J.length by omega))
        rw [h2]; simp only; omega
    · rw [joinT_apart hj ht] at hp
      rcases List.mem_append.1 hp with h2 | h2
      · exact hJ p h2
      · rw [List.mem_singleton.1 h2]; exact hr
theorem joinL_hi {S : List (Int × Int)} (hS : ∀ p ∈ S, 0 ≤ p.2 ∧ p.2 ≤ 84005) : ∀ {k : Nat}, k ≤ S.length → ∀ p ∈ joinL (S.take k), 0 ≤ p.2 ∧ p.2 ≤ 84005
  | 0, _ => fun p hp => by simp [joinL] at hp
  | k + 1, h => by
    rw [joinL_step (by omega)]
    exact joinT_hi (joinL_hi hS (k := k) (by omega)) (hS _ (List.getElem_mem (show k < S.length by omega)))
theorem prs_set {J : List (Int × Int)} {j : Nat} (hj : j < J.length) (x : Int) : prs (J.set j ((J[j]).1, x)) = (prs J).set j ((prV J[j]).set 1 (.int .i64 x)) := by
  simp only [prs, List.map_set]; rfl
theorem pr_wide (a b : Int) : Wide 2 [[.int .i64 a, .int .i64 b]] := rng_wide a b
def JoinP (w : World) (v : Value) (L : List (Int × Int)) (e : Ending) (w' : World) : Prop :=
  ∃ x J, e = .returned x ∧ Own w' w.heap.size 25 2 x (prs J) ∧ Canon J ∧ (∀ d, Cov J d ↔ Cov L d) ∧ w.grownBy w' v.ownBlock
def JnR (w5 : World) (S : List (Int × Int)) (r i : Value) (wr : World) : Prop :=
  ∃ k : Nat, k ≤ S.length ∧ i = .int .i64 k ∧ Own wr w5.heap.size 25 2 r (prs (joinL (S.take k))) ∧ Below w5.heap.size w5 wr
theorem sorted_start {S : List (Int × Int)} (h : S.Pairwise fun a b => ¬ ltR b a) : S.Pairwise fun a b => a.1 ≤ b.1 := h.imp fun {a b} hab => by unfold ltR at hab; omega
set_option maxRecDepth 100000 in
set_option maxHeartbeats 4000000 in
theorem join_any (v : Value) (L : List (Int × Int)) (base : Nat) (w : World) (hown : Own w base 25 2 v (prs L)) (hlen : L.length ≤ 6000000) (hL : ∀ r ∈ L, 0 ≤ r.1 ∧ r.1 ≤ r.2 ∧ r.2 ≤ 84005) :
    Calls Tryd.prog 19 #[v] w (JoinP w v L) := by
  have HSR := Lib.hid (sortRng_any v L base w hown (by omega))
  have hf := hown.form
  rw [prs_len] at hf
  obtain ⟨A, cap, rfl⟩ := hf
  have HL := Lib.hid hL
  clear hL
  go_enter Tryd.func19, Tryd.ntmps19
  go_wp2_with fail
  refine HSR.out.mono ?_
  rintro e w5 ⟨rfl, S, hp, hs, hown5, hg5⟩
  have hSl : S.length = L.length := hp.length_eq
  have HG5 := Lib.hid hg5
  have HS : Hid ((∀ p ∈ S, 0 ≤ p.1 ∧ p.1 ≤ p.2 ∧ p.2 ≤ 84005) ∧ S.Pairwise (fun a b => a.1 ≤ b.1) ∧ ∀ d, Cov S d ↔ Cov L d) := ⟨fun p hp' => HL.out p (hp.mem_iff.1 hp'), sorted_start hs, fun d => cov_perm hp d⟩
  have HX := Lib.hid (hown5.sl (by omega))
  rw [← hSl] at HX HG5 hlen ⊢
  have hlen' : S.length ≤ 6000000 := hlen
  clear hSl hp hs hown5 hg5 hown HSR HL hlen
  go_wp2_with fail
  go_loopw [3, 11] (fun r i wr => JnR w5 S r i wr) (fun _ i _ => S.length - (intOf i).toNat)
  case atStart => exact ⟨0, by omega, rfl, Own.nil _ _ _ _, Below.refl _ _⟩
  case round =>
    obtain ⟨k, hk, rfl, hown, hbl⟩ := hrel
    obtain ⟨wo, rfl⟩ : ∃ wo : World, wo = wr := ⟨_, rfl⟩
    have hbs := hbl.size
    by_cases hlt : k < S.length
    · obtain ⟨bk, off, rfl, hc0⟩ := (HX.out.below hbl).cells (by rw [prs_len]; omega)
      obtain ⟨c0, c1⟩ := hc0.pr hlt
      have hbw := hc0.1
      have HST := Lib.hid (joinL_step hlt)
      have hJl := joinL_len (S := S) hk
      have hhi := joinL_hi (fun p hp => ⟨by have := HS.out.1 p hp; omega, (HS.out.1 p hp).2.2⟩) hk
      have hsk := HS.out.1 _ (List.getElem_mem hlt)
      obtain ⟨x, hx⟩ : ∃ x, (S[k]'hlt).1 = x := ⟨_, rfl⟩
      obtain ⟨y, hy⟩ : ∃ x, (S[k]'hlt).2 = x := ⟨_, rfl⟩
      have hxy : S[k]'hlt = (x, y) := Prod.ext hx hy
      rw [hxy] at HST
      rw [hx] at c0
      rw [hy] at c1
      rw [hx, hy] at hsk
      obtain ⟨J, hJ⟩ : ∃ J, joinL (S.take k) = J := ⟨_, rfl⟩
      rw [hJ] at HST hJl hhi hown
      clear hc0 hx hy hxy hJ
      obtain ⟨sk0, sk1, sk2⟩ := hsk
      rcases Nat.eq_zero_or_pos J.length with h0 | h0
      · obtain rfl : J = [] := List.eq_nil_of_length_eq_zero h0
        have HQ : Hid (prs (joinL (S.take (k + 1))) = prs [] ++ [[.int .i64 x, .int .i64 y]]) := by rw [Hid, HST.out, joinT_none]; rfl
        obtain ⟨A7, cap7, rfl⟩ := hown.form
        rw [prs_len] at hown ⊢
        simp only [List.length_nil] at hown ⊢
        clear h0 hhi HST hJl
        have HO5 : Hid (∀ q, Own ((wo.alloc (.cells #[.int .i64 x, .int .i64 y] 25)).drewN q) w5.heap.size 25 2 _ (prs [])) := fun q => (hown.alloc _).kept (Below.draws (Below.refl _ _) q)
        go_wp2_with fail
        go_quiet (fail)
        go_wp2_with (at_builtin; (refine wpList_append_sl rfl (.tmp 45) (.tmp 47) rfl rowRng w5.heap.size _ _ _ [[.int .i64 x, .int .i64 y]] rfl ((HO5.out _).alloc _) rfl (Sl.one (World.size_alloc _ _) rfl) (pr_wide x y) (by rw [prs_len]; unfold maxLen; simp <;> omega) (by rw [prs_len]; simp <;> omega) (by simp <;> omega) ?_); intro v3 w3 hown3 hg3 _; have hb3 := Own.grown ((HO5.out _).alloc _) ((Below.draws (hbl.alloc hbs _) _).alloc (by simp <;> omega) _) hg3 (by simp <;> omega); rw [← HQ.out] at hown3)
        go_roundw
        case rel => exact ⟨k + 1, by omega, by go_num, hown3, hb3⟩
        case measure => simp [intOf]; omega
      · obtain ⟨j, hj⟩ : ∃ j, J.length = j + 1 := ⟨J.length - 1, by omega⟩
        obtain ⟨g, cap7, rfl, hcap⟩ := hown.some_form (by rw [prs_len]; exact h0)
        rw [prs_len, hj] at hown hcap ⊢
        have hjl : j < J.length := by omega
        have HJ := Lib.hid hj
        have hj1 : j + 1 ≤ 6000000 := by omega
        have hjbd := hhi _ (List.getElem_mem hjl)
        have c5 := hown.cellE (by omega) (prs_at hjl) (j := 1) rfl
        have f5 := hown.frozenE (j * 2 + 1)
        have hz5 := (hown.lt rfl).2
        obtain ⟨pe, hpe⟩ : ∃ pe, (J[j]).2 = pe := ⟨_, rfl⟩
        rw [hpe] at hjbd c5
        obtain ⟨hp0, hp1⟩ := hjbd
        have i5 : (j : Int) < (j : Int) + 1 := by omega
        have s1 : IntKind.i64.wrap ((j : Int) + 1 - 1) = (j : Int) := by rw [show (j : Int) + 1 - 1 = (j : Int) by omega]; exact IntWalk.i64_in _ (by omega)
        have s3 : IntKind.i64.wrap (j : Int) = (j : Int) := IntWalk.i64_in _ (by omega)
        have s2 : IntKind.i64.wrap (pe + 1) = pe + 1 := IntWalk.i64_in _ (by omega)
        have g0 : decide ((0 : Int) < (j : Int) + 1) = true := decide_eq_true (by omega)
        have g0n : decide (0 < j + 1) = true := decide_eq_true (by omega)
        by_cases ht : x ≤ pe + 1
        · have HQ : Hid (prs (joinL (S.take (k + 1))) = (prs J).set j ((prV J[j]).set 1 (.int .i64 (max pe y)))) := by
            rw [Hid, HST.out, joinT_touch hj (by rw [hpe]; exact ht), prs_set hjl, hpe]
          have q1 : decide (x ≤ pe + 1) = true := decide_eq_true ht
          obtain ⟨D, hD⟩ : ∃ D, max pe y = D := ⟨_, rfl⟩
          rw [hD] at HQ
          have HOW : Hid (∀ q, (Own (((wo.alloc (.cells #[.int .i64 x, .int .i64 y] 25)).drewN q).setCell ⟨g, j * 2 + 1, none⟩ (.int .i64 D)) w5.heap.size 25 2 (.slice (some ⟨g, 0, none⟩) (j + 1) cap7) ((prs J).set j ((prV J[j]).set 1 (.int .i64 D)))) ∧ Below w5.heap.size w5 (((wo.alloc (.cells #[.int .i64 x, .int .i64 y] 25)).drewN q).setCell ⟨g, j * 2 + 1, none⟩ (.int .i64 D))) := fun q => by
            have h1 := (hown.alloc (.cells #[.int .i64 x, .int .i64 y] 25)).kept (Below.draws (Below.refl _ _) q)
            have h2 := h1.set1 (by omega) j (prs_at hjl) 1 (by omega) (.int .i64 D) rfl
            exact ⟨h2.1, h1.grown (Below.draws (hbl.alloc hbs _) q) h2.2 (by simp; omega)⟩
          clear hpe ht hhi HST hJl hj
          go_wp2_with fail
          go_quiet (fail)
          go_wp2_with fail
          refine region_tail 14 (by kernel_rfl) (by kernel_rfl) ?_
          simp only [List.take_succ_cons, List.take_zero, List.drop_succ_cons, List.drop_zero]
          repeat still_step
          refine wpStill_nil ?_
          go_wp2
          go_roundw
          case rel => exact ⟨k + 1, by omega, by go_num, by rw [HQ.out]; exact (HOW.out _).1, (HOW.out _).2⟩
          case measure => simp [intOf]; omega
        · have HQ : Hid (prs (joinL (S.take (k + 1))) = prs J ++ [[.int .i64 x, .int .i64 y]]) := by
            rw [Hid, HST.out, joinT_apart hj (by rw [hpe]; exact ht), prs_append]; rfl
          have q1 : decide (x ≤ pe + 1) = false := decide_eq_false ht
          have HO5 : Hid (∀ q, Own ((wo.alloc (.cells #[.int .i64 x, .int .i64 y] 25)).drewN q) w5.heap.size 25 2 _ (prs J)) := fun q => (hown.alloc _).kept (Below.draws (Below.refl _ _) q)
          clear hpe ht hhi HST hJl hj
          go_wp2_with fail
          go_quiet (fail)
          go_wp2_with (at_builtin; (refine wpList_append_sl rfl (.tmp 45) (.tmp 47) rfl rowRng w5.heap.size _ _ _ [[.int .i64 x, .int .i64 y]] rfl ((HO5.out _).alloc _) rfl (Sl.one (World.size_alloc _ _) rfl) (pr_wide x y) (by rw [prs_len, HJ.out]; unfold maxLen; simp <;> omega) (by rw [prs_len, HJ.out]; simp <;> omega) (by simp <;> omega) ?_); intro v3 w3 hown3 hg3 _; have hb3 := Own.grown ((HO5.out _).alloc _) ((Below.draws (hbl.alloc hbs _) _).alloc (by simp <;> omega) _) hg3 (by simp <;> omega); rw [← HQ.out] at hown3)
          go_roundw
          case rel => exact ⟨k + 1, by omega, by go_num, hown3, hb3⟩
          case measure => simp [intOf]; omega
    · obtain rfl : k = S.length := by omega
      rw [List.take_length] at hown
      obtain ⟨k1, k2⟩ := join_ok (fun r hr => (HS.out.1 r hr).2.1) HS.out.2.1
      have HF : Hid (∃ J, Own wo w.heap.size 25 2 _ (prs J) ∧ Canon J ∧ (∀ d, Cov J d ↔ Cov L d) ∧ w.grownBy wo (Value.slice A S.length cap).ownBlock) := ⟨_, hown.more HG5.out.size, k1, fun d => (k2 d).trans (HS.out.2.2 d), gb_below HG5.out hbl⟩
      clear hown hbl k1 k2
      go_wp2
      go_ret
      obtain ⟨J, h1, h2, h3, h4⟩ := HF.out
      exact ⟨_, J, rfl, h1, h2, h3, by cases A <;> exact h4⟩
end Go.Proofs.YtaafihdegnaokaaDoor
/- Contracts: retro.Changed. -/
namespace Go.Proofs.YtaafihdegnaokaaDoor
open Go.RowKit

theorem ch_none {xs : List (List Chg)} {a b f t E : Int} (h : chE xs f t = E) (hE : E ≠ 0) : chO xs a b f t = [] ∧ chE xs f t = E := ⟨by unfold chO; rw [if_neg (by rw [h]; exact hE)], h⟩
theorem ch_err3 {xs : List (List Chg)} {a b f t : Int} (h : 64 < xs.length) : chO xs a b f t = [] ∧ chE xs f t = 3 := ch_none (by unfold chE; rw [if_pos h]) (by decide)
theorem ch_err2 {xs : List (List Chg)} {a b f t : Int} (h : ¬ 64 < xs.length) (h2 : ¬ (0 ≤ f ∧ f ≤ 84005 ∧ 0 ≤ t ∧ t ≤ 84005)) : chO xs a b f t = [] ∧ chE xs f t = 2 := ch_none (by unfold chE; rw [if_neg h, if_pos h2]) (by decide)
theorem ch_err1 {xs : List (List Chg)} {a b f t : Int} (h : ¬ 64 < xs.length) (h2 : 0 ≤ f ∧ f ≤ 84005 ∧ 0 ≤ t ∧ t ≤ 84005) (h3 : t < f) : chO xs a b f t = [] ∧ chE xs f t = 1 := ch_none (by unfold chE; rw [if_neg h, if_neg (fun h' => h' h2), if_pos h3]) (by decide)
theorem ch_first {xs : List (List Chg)} {f t : Int} (h : ¬ 64 < xs.length) (h2 : 0 ≤ f ∧ f ≤ 84005 ∧ 0 ≤ t ∧ t ≤ 84005) (h3 : ¬ t < f) : chE xs f t = firstE xs := by unfold chE; rw [if_neg h, if_neg (fun h' => h' h2), if_neg h3]
theorem ch_bad {xs : List (Value × List Chg)} {a b f t : Int} (h : ¬ 64 < xs.length) (h2 : 0 ≤ f ∧ f ≤ 84005 ∧ 0 ≤ t ∧ t ≤ 84005) (h3 : ¬ t < f) {i : Nat} (hi : i < xs.length) (hj : ∀ j (hj : j < xs.length), j < i → validE (xs[j]).2 = 0) (hv : ¬ validE (xs[i]).2 = 0) :
    chO (xs.map (·.2)) a b f t = [] ∧ chE (xs.map (·.2)) f t = validE (xs[i]).2 := by
  refine ch_none ?_ hv
  rw [ch_first (by rw [List.length_map]; exact h) h2 h3]
  have hl : i < (xs.map (·.2)).length := by rw [List.length_map]; exact hi
  have := firstE_take (xs := xs.map (·.2)) hl (fun j h' => by rw [List.getElem_map]; exact hj j (by omega) h') (by rw [List.getElem_map]; exact hv)
  rw [this, List.getElem_map]
theorem ch_good {xs : List (Value × List Chg)} {a b f t : Int} (h : ¬ 64 < xs.length) (h2 : 0 ≤ f ∧ f ≤ 84005 ∧ 0 ≤ t ∧ t ≤ 84005) (h3 : ¬ t < f) (hv : ∀ i (hi : i < xs.length), validE (xs[i]).2 = 0) :
    chE (xs.map (·.2)) f t = 0 ∧ ∀ J, Canon J → (∀ d, Cov J d ↔ Cov (allD (xs.map (·.2)) a b f t) d) → chO (xs.map (·.2)) a b f t = J := by
  have h0 : chE (xs.map (·.2)) f t = 0 := by
    rw [ch_first (by rw [List.length_map]; exact h) h2 h3, firstE_zero]
    intro l hl
    obtain ⟨x, hx, rfl⟩ := List.mem_map.1 hl
    obtain ⟨i, hi, rfl⟩ := List.mem_iff_getElem.1 hx
    exact hv i hi
  refine ⟨h0, fun J hJ hc => ?_⟩
  unfold chO
  rw [if_pos h0]
  exact (chgJ_unique (by omega) hJ hc).symm
/-- the ranges of the first timelines -/
def allK (xs : List (Value × List Chg)) (a b f t : Int) (k : Nat) : List (Int × Int) := allD ((xs.take k).map (·.2)) a b f t
theorem allK_step {xs : List (Value × List Chg)} {a b f t : Int} {k : Nat} (hk : k < xs.length) : allK xs a b f t (k + 1) = allK xs a b f t k ++ rngD (xs[k]).2 a b f t := by
  unfold allK allD
  rw [List.take_succ_eq_append_getElem hk, List.map_append, List.flatMap_append]
  simp
theorem allK_end (xs : List (Value × List Chg)) (a b f t : Int) : allK xs a b f t xs.length = allD (xs.map (·.2)) a b f t := by unfold allK; rw [List.take_length]
theorem rngD_len (l : List Chg) {a b f t : Int} (h : 0 ≤ f ∧ t ≤ 84005) : (rngD l a b f t).length ≤ 84006 := by
  unfold rngD
  rw [List.length_map]
  have := runs_len (difV (inC l a) (inC l b)) f (t + 1 - f).toNat
  rw [difR]; omega
theorem allK_len {xs : List (Value × List Chg)} {a b f t : Int} (h : 0 ≤ f ∧ t ≤ 84005) : ∀ {k : Nat}, k ≤ xs.length → (allK xs a b f t k).length ≤ k * 84006
  | 0, _ => by simp [allK, allD]
  | k + 1, hk => by
    rw [allK_step (by omega), List.length_append]
    have := allK_len (xs := xs) (a := a) (b := b) h (k := k) (by omega)
    have := rngD_len (xs[k]'(by omega)).2 (a := a) (b := b) h
    omega
theorem prs_wide (R : List (Int × Int)) : Wide 2 (prs R) := fun x hx => by
  obtain ⟨p, _, rfl⟩ := List.mem_map.1 hx
  exact ⟨rfl, by simp [prV, Value.oneCell']⟩
theorem rngs_prs (l : List Chg) {a b f t : Int} (h : checkE l f t = 0) : rngs (diffC l a b f t) = prs (rngD l a b f t) := by
  unfold diffC
  rw [if_pos h]
  simp [rngs, prs, rngD, Pc.rng, prP, prV]
theorem check_ok {l : List Chg} {f t : Int} (h2 : 0 ≤ f ∧ f ≤ 84005 ∧ 0 ≤ t ∧ t ≤ 84005) (h3 : ¬ t < f) : checkE l f t = validE l := by
  unfold checkE
  by_cases h : validE l = 0
  · rw [if_pos h, if_pos h2, if_neg h3, h]
  · rw [if_neg h]
theorem Tls.at {w : World} {v : Value} {xs : List (Value × List Chg)} {A : Option Addr} {cap : Nat} (h : Tls w v xs) (hv : v = .slice A xs.length cap) {i : Nat} (hi : i < xs.length) :
    ∃ b off, A = some ⟨b, off, none⟩ ∧ b < w.heap.size ∧ w.cell? ⟨b, off + i, none⟩ = some (xs[i]).1 ∧ Sl w 4 (xs[i]).1 (chgs (xs[i]).2) := by
  subst hv
  obtain ⟨b, off, rfl, hc⟩ := h.sl.cells (by rw [List.length_map]; omega)
  refine ⟨b, off, rfl, hc.1, ?_, h.each _ (List.getElem_mem hi)⟩
  have := hc.2 i [(xs[i]).1] (by rw [List.getElem?_map, List.getElem?_eq_getElem hi]; rfl) 0 (xs[i]).1 rfl
  simpa using this
set_option maxRecDepth 100000 in
set_option maxHeartbeats 4000000 in
theorem Changed_any (v : Value) (xs : List (Value × List Chg)) (a b f t : Int) (w : World) (hv : Tls w v xs) :
    Calls Tryd.prog 8 #[v, .int .i64 a, .int .i64 b, .int .i64 f, .int .i64 t] w (RetOwn2 w 25 2 (prs (chO (xs.map (·.2)) a b f t)) (chE (xs.map (·.2)) f t)) := by
  have HV := Lib.hid hv
  obtain ⟨A, cap, hvv, -⟩ := hv.sl
  rw [List.length_map] at hvv
  clear hv
  subst hvv
  by_cases h1 : 64 < xs.length
  · have LL := Lib.hid (ch_err3 (a := a) (b := b) (f := f) (t := t) (xs := xs.map (·.2)) (by rw [List.length_map]; exact h1))
    have g1 : decide ((64 : Int) < (xs.length : Int)) = true := decide_eq_true (by omega)
    clear h1
    go_enter Tryd.func8, Tryd.ntmps8
    go_wp2_with fail
    exact bodyPost_ret (v := .tuple #[.slice none 0 0, .int .i64 3]) (by simp [results, Tryd.results8, go_sem]) rfl (by rw [RetOwn2, LL.out.1, LL.out.2]; exact ⟨_, rfl, Own.nil _ _ _ _, Below.refl _ _⟩)
  have g1 : decide ((64 : Int) < (xs.length : Int)) = false := decide_eq_false (by omega)
  by_cases h2 : 0 ≤ f ∧ f ≤ 84005 ∧ 0 ≤ t ∧ t ≤ 84005
  rotate_left
  · have LL := Lib.hid (ch_err2 (a := a) (b := b) (xs := xs.map (·.2)) (by rw [List.length_map]; exact h1) h2)
    have hcase : f < 0 ∨ (0 ≤ f ∧ 84005 < f) ∨ (0 ≤ f ∧ f ≤ 84005 ∧ t < 0) ∨ (0 ≤ f ∧ f ≤ 84005 ∧ 0 ≤ t ∧ 84005 < t) := by omega
    clear h1 h2
    rcases hcase with h3 | ⟨h3, h4⟩ | ⟨h3, h4, h5⟩ | ⟨h3, h4, h5, h6⟩
    · have q0 : decide (f < 0) = true := decide_eq_true (by omega)
      clear h3
      go_enter Tryd.func8, Tryd.ntmps8
      go_wp2_with fail
      exact bodyPost_ret (v := .tuple #[.slice none 0 0, .int .i64 2]) (by simp [results, Tryd.results8, go_sem]) rfl (by rw [RetOwn2, LL.out.1, LL.out.2]; exact ⟨_, rfl, Own.nil _ _ _ _, Below.refl _ _⟩)
    · have q0 : decide (f < 0) = false := decide_eq_false (by omega)
      have q1 : decide (84005 < f) = true := decide_eq_true (by omega)
      clear h3 h4
      go_enter Tryd.func8, Tryd.ntmps8
      go_wp2_with fail
      exact bodyPost_ret (v := .tuple #[.slice none 0 0, .int .i64 2]) (by simp [results, Tryd.results8, go_sem]) rfl (by rw [RetOwn2, LL.out.1, LL.out.2]; exact ⟨_, rfl, Own.nil _ _ _ _, Below.refl _ _⟩)
    · have q0 : decide (f < 0) = false := decide_eq_false (by omega)
      have q1 : decide (84005 < f) = false := decide_eq_false (by omega)
      have q2 : decide (t < 0) = true := decide_eq_true (by omega)
      clear h3 h4 h5
      go_enter Tryd.func8, Tryd.ntmps8
      go_wp2_with fail
      exact bodyPost_ret (v := .tuple #[.slice none 0 0, .int .i64 2]) (by simp [results, Tryd.results8, go_sem]) rfl (by rw [RetOwn2, LL.out.1, LL.out.2]; exact ⟨_, rfl, Own.nil _ _ _ _, Below.refl _ _⟩)
    · have q0 : decide (f < 0) = false := decide_eq_false (by omega)
      have q1 : decide (84005 < f) = false := decide_eq_false (by omega)
      have q2 : decide (t < 0) = false := decide_eq_false (by omega)
      have q3 : decide (84005 < t) = true := decide_eq_true (by omega)
      clear h3 h4 h5 h6
      go_enter Tryd.func8, Tryd.ntmps8
      go_wp2_with fail
      exact bodyPost_ret (v := .tuple #[.slice none 0 0, .int .i64 2]) (by simp [results, Tryd.results8, go_sem]) rfl (by rw [RetOwn2, LL.out.1, LL.out.2]; exact ⟨_, rfl, Own.nil _ _ _ _, Below.refl _ _⟩)
  obtain ⟨r0, r1, r2, r3⟩ := h2
  have q0 : decide (f < 0) = false := decide_eq_false (by omega)
  have q1 : decide (84005 < f) = false := decide_eq_false (by omega)
  have q2 : decide (t < 0) = false := decide_eq_false (by omega)
  have q3 : decide (84005 < t) = false := decide_eq_false (by omega)
  by_cases h3 : t < f
  · have LL := Lib.hid (ch_err1 (a := a) (b := b) (xs := xs.map (·.2)) (by rw [List.length_map]; exact h1) ⟨r0, r1, r2, r3⟩ h3)
    have q4 : decide (t < f) = true := decide_eq_true h3
    clear h1 h3
    go_enter Tryd.func8, Tryd.ntmps8
    go_wp2_with fail
    exact bodyPost_ret (v := .tuple #[.slice none 0 0, .int .i64 1]) (by simp [results, Tryd.results8, go_sem]) rfl (by rw [RetOwn2, LL.out.1, LL.out.2]; exact ⟨_, rfl, Own.nil _ _ _ _, Below.refl _ _⟩)
  have q4 : decide (t < f) = false := decide_eq_false h3
  have HBAD := Lib.hid (fun i (hi : i < xs.length) hj hv => ch_bad (a := a) (b := b) h1 ⟨r0, r1, r2, r3⟩ h3 hi hj hv)
  have HGOOD := Lib.hid (fun hv => ch_good (a := a) (b := b) (xs := xs) h1 ⟨r0, r1, r2, r3⟩ h3 hv)
  have HCK := Lib.hid (fun l : List Chg => check_ok (l := l) ⟨r0, r1, r2, r3⟩ h3)
  have hlen : xs.length ≤ 64 := by omega
  have HFT : Hid (f ≤ t) := by unfold Hid; omega
  clear h1 h3
  go_enter Tryd.func8, Tryd.ntmps8
  go_wp2_with fail
  go_loopw [42] (fun i wr => ∃ k : Nat, k ≤ xs.length ∧ i = .int .i64 k ∧ Hid (Below w.heap.size w wr ∧ ∀ j (hj : j < xs.length), j < k → validE (xs[j]).2 = 0)) (fun i _ => xs.length - (intOf i).toNat)
  case atStart => exact ⟨0, by omega, rfl, Below.refl _ _, fun j _ h => by omega⟩
  case round =>
    obtain ⟨k, hk, rfl, HI⟩ := hrel
    obtain ⟨wo, rfl⟩ : ∃ wo : World, wo = wr := ⟨_, rfl⟩
    by_cases hlt : k < xs.length
    · obtain ⟨bk, off, hA, hbl, c0, hsl⟩ := (HV.out.below HI.out.1).at rfl hlt
      subst hA
      have HB := Lib.hid (HBAD.out k hlt HI.out.2)
      have HNX : Hid (validE (xs[k]).2 = 0 → ∀ j (hj : j < xs.length), j < k + 1 → validE (xs[j]).2 = 0) := fun hk' j hj h => by
        rcases Nat.lt_or_ge j k with h' | h'
        · exact HI.out.2 j hj h'
        · have : j = k := by omega
          subst this; exact hk'
      have HVA := Lib.hid (valid_any _ _ wo hsl)
      obtain ⟨y, hy⟩ : ∃ y, (xs[k]'hlt).1 = y := ⟨_, rfl⟩
      obtain ⟨l, hl⟩ : ∃ y, (xs[k]'hlt).2 = y := ⟨_, rfl⟩
      rw [hy] at c0 hsl HVA
      rw [hl] at hsl HVA HB HNX
      obtain ⟨Ay, cy, rfl, -⟩ := hsl
      have HBL := Lib.hid HI.out.1
      clear hy hl HI
      by_cases h0 : validE l = 0
      · have HN := Lib.hid (HNX.out h0)
        rw [h0] at HVA
        clear h0 HB HNX
        go_wp2_with (go_at_call 17; refine HVA.out.mono ?_; rintro e w3 ⟨rfl, hb3⟩; have HB3 := Lib.hid (below_after HBL.out hb3 HBL.out.size); clear hb3)
        go_roundw
        case rel => exact ⟨k + 1, by omega, by go_num, HB3.out, HN.out⟩
        case measure => simp [intOf]; omega
      · have LL := Lib.hid (HB.out h0)
        obtain ⟨E, hE⟩ : ∃ E, validE l = E := ⟨_, rfl⟩
        rw [hE] at HVA LL h0
        have n1 : (E != 0) = true := by simpa using h0
        clear h0 HB HNX hE
        go_wp2_with (go_at_call 17; refine HVA.out.mono ?_; rintro e w3 ⟨rfl, hb3⟩; have HB3 := Lib.hid (below_after HBL.out hb3 HBL.out.size); clear hb3)
        exact bodyPost_ret (v := .tuple #[.slice none 0 0, .int .i64 E]) (by simp [results, Tryd.results8, go_sem]) rfl (by rw [RetOwn2, LL.out.1, LL.out.2]; exact ⟨_, rfl, Own.nil _ _ _ _, HB3.out⟩)
    · obtain rfl : k = xs.length := by omega
      have HVAL := Lib.hid (fun j hj => HI.out.2 j hj hj)
      have HG := Lib.hid (HGOOD.out HVAL.out)
      have HBL := Lib.hid HI.out.1
      clear HI HGOOD HBAD
      go_wp2_with fail
      go_loopw [15, 54] (fun r i wr => ∃ k : Nat, k ≤ xs.length ∧ i = .int .i64 k ∧ Hid (Own wr w.heap.size 25 2 r (prs (allK xs a b f t k)) ∧ Below w.heap.size w wr)) (fun _ i _ => xs.length - (intOf i).toNat)
      case atStart => exact ⟨0, by omega, rfl, (show Own _ _ _ _ _ (prs []) from Own.nil _ _ _ _), HBL.out⟩
      case round =>
        clear HBL
        obtain ⟨k, hk, rfl, HI⟩ := hrel
        obtain ⟨wo, rfl⟩ : ∃ wo : World, wo = wr := ⟨_, rfl⟩
        by_cases hlt : k < xs.length
        · obtain ⟨bk, off, hA, hbl, c0, hsl⟩ := (HV.out.below HI.out.2).at rfl hlt
          subst hA
          have hck : checkE (xs[k]'hlt).2 f t = 0 := by rw [HCK.out]; exact HVAL.out k hlt
          have HDI := Lib.hid (Diff_any _ _ a b f t wo hsl)
          rw [hck, rngs_prs _ hck] at HDI
          have hl1 := allK_len (xs := xs) (a := a) (b := b) ⟨r0, r3⟩ hk
          have hl2 := rngD_len (xs[k]'hlt).2 (a := a) (b := b) ⟨r0, r3⟩
          have HQ : Hid (prs (allK xs a b f t (k + 1)) = prs (allK xs a b f t k) ++ prs (rngD (xs[k]'hlt).2 a b f t)) := by rw [Hid, allK_step hlt, prs_append]
          obtain ⟨R, hR⟩ : ∃ R, allK xs a b f t k = R := ⟨_, rfl⟩
          obtain ⟨D, hD⟩ : ∃ R, rngD (xs[k]'hlt).2 a b f t = R := ⟨_, rfl⟩
          rw [hR] at HI hl1 HQ
          rw [hD] at HDI hl2 HQ
          obtain ⟨y, hy⟩ : ∃ y, (xs[k]'hlt).1 = y := ⟨_, rfl⟩
          rw [hy] at c0 hsl HDI
          obtain ⟨Ay, cy, rfl, -⟩ := hsl
          have hRl : R.length ≤ 5376384 := by omega
          have HO := Lib.hid HI.out.1
          have HBL := Lib.hid HI.out.2
          obtain ⟨Ar, cr, rfl⟩ := HO.out.form
          rw [prs_len] at HO
          have hbs := HBL.out.size
          clear hR hD hy hl1 hck HI
          unfold RetOwn2 at HDI
          simp only [prs_len]
          go_wp2_with fail
          refine HDI.out.mono ?_
          rintro e w3 ⟨z, rfl, hown3, hb3⟩
          have HB3 := Lib.hid (below_after HBL.out hb3 hbs)
          have hO3 := HO.out.kept hb3
          have hS3 := hown3.sl (by omega)
          obtain ⟨Az, cz, rfl⟩ := hown3.form
          rw [prs_len] at hS3 ⊢
          have hbs3 := HB3.out.size
          clear hb3 hown3 HO
          go_wp2_with (at_builtin; (refine wpList_append_sl rfl (.tmp 70) (.tmp 71) rfl rowRng w.heap.size _ _ _ (prs D) rfl hO3 rfl hS3 (prs_wide D) (by rw [prs_len, prs_len]; unfold maxLen; omega) (by rw [prs_len, prs_len]; omega) (by omega) ?_); intro v5 w5 hown5 hg5 _; have hb5 := Own.grown hO3 HB3.out hg5 hbs3; rw [← HQ.out] at hown5)
          go_roundw
          case rel => exact ⟨k + 1, by omega, by go_num, hown5, hb5⟩
          case measure => simp [intOf]; omega
        · obtain rfl : k = xs.length := by omega
          have hl1 := allK_len (xs := xs) (a := a) (b := b) ⟨r0, r3⟩ (Nat.le_refl xs.length)
          rw [allK_end] at hl1 HI
          have hLl : (allD (xs.map (·.2)) a b f t).length ≤ 6000000 := by omega
          have HJ := Lib.hid (join_any _ (allD (xs.map (·.2)) a b f t) w.heap.size wo HI.out.1 hLl (fun r hr => by have := all_in HFT.out hr; omega))
          have HO := Lib.hid HI.out.1
          have HBL := Lib.hid HI.out.2
          obtain ⟨Ar, cr, rfl⟩ := HO.out.form
          rw [prs_len] at HJ HO
          simp only [prs_len]
          clear HI hl1 hLl
          go_wp2_with (go_at_call 19; refine HJ.out.mono ?_; rintro e w6 ⟨x, J, rfl, hown6, hc6, hv6, hg6⟩; have HF : Hid (Own w6 w.heap.size 25 2 x (prs J) ∧ Below w.heap.size w w6 ∧ chO (xs.map (·.2)) a b f t = J) := ⟨hown6.more HBL.out.size, Own.grown HO.out HBL.out hg6 HBL.out.size, HG.out.2 J hc6 hv6⟩; clear hown6 hc6 hv6 hg6)
          exact bodyPost_ret (v := .tuple #[x, .int .i64 0]) (by simp [results, Tryd.results8, go_sem]) rfl (by rw [RetOwn2, HG.out.1, HF.out.2.2]; exact ⟨_, rfl, HF.out.1, HF.out.2.1⟩)
end Go.Proofs.YtaafihdegnaokaaDoor
/- Contracts: retro.Plan. -/
namespace Go.Proofs.YtaafihdegnaokaaDoor
open Go.RowKit

/-- i periods from b on -/
def plL (b : Int) (i : Nat) : List Int := (List.range i).map fun (j : Nat) => b + (j : Int)
theorem plL_len (b : Int) (i : Nat) : (plL b i).length = i := by simp [plL]
theorem plL_step (b : Int) (i : Nat) : plL b (i + 1) = plL b i ++ [b + (i : Int)] := by simp [plL, List.range_succ]
theorem pl_err {k a : Int} {xs : List (List Chg)} {n m f c E : Int} (h : plE k a xs f c = E) (hE : E ≠ 0) : plO k a xs n m f c = [] ∧ plE k a xs f c = E := ⟨by unfold plO; rw [if_neg (by rw [h]; exact hE)], h⟩
theorem plE_days {k a : Int} (xs : List (List Chg)) {f c : Int} (h : dyE k a f c ≠ 0) : plE k a xs f c = dyE k a f c := by unfold plE; rw [if_pos h]
theorem plE_chg {k a : Int} (xs : List (List Chg)) {f c : Int} (h : dyE k a f c = 0) : plE k a xs f c = chE xs (spLo k a f) (spHi k a c) := by unfold plE; rw [if_neg (by simp [h])]
theorem pl_good {k a : Int} {xs : List (List Chg)} {n m f c : Int} (h : plE k a xs f c = 0) {b : Int} (hb : plB k a xs n m f c = b) : plO k a xs n m f c = plL b (c + 1 - b).toNat ∧ plE k a xs f c = 0 := ⟨by unfold plO plL; rw [if_pos h, hb], h⟩
theorem plB_nil {k a : Int} {xs : List (List Chg)} {n m f c : Int} (h : chgJ xs n m (spLo k a f) (spHi k a c) = []) : plB k a xs n m f c = c := by unfold plB; rw [h]
theorem plB_cons {k a : Int} {xs : List (List Chg)} {n m f c : Int} {p : Int × Int} {J : List (Int × Int)} (h : chgJ xs n m (spLo k a f) (spHi k a c) = p :: J) : plB k a xs n m f c = ofV k a p.1 := by unfold plB; rw [h]
set_option maxRecDepth 100000 in
set_option maxHeartbeats 4000000 in
theorem Plan_any (k a : Int) (v : Value) (xs : List (Value × List Chg)) (n m f c : Int) (w : World) (hT : LenT w) (hv : Tls w v xs) :
    Calls Tryd.prog 9 #[.agg #[.int .i64 k, .int .i64 a], v, .int .i64 n, .int .i64 m, .int .i64 f, .int .i64 c] w (RetOwn2 w 3 1 (ints (plO k a (xs.map (·.2)) n m f c)) (plE k a (xs.map (·.2)) f c)) := by
  have HC := Lib.hid (CBox.new w k a)
  have HT := Lib.hid hT
  have HV := Lib.hid hv
  have HD := Lib.hid (fun w h => days_any k a f c w h)
  obtain ⟨A, cap, hvv, -⟩ := hv.sl
  rw [List.length_map] at hvv
  clear hT hv
  subst hvv
  by_cases h0 : dyE k a f c = 0
  rotate_left
  · have LL := Lib.hid (pl_err (n := n) (m := m) (plE_days (xs.map (·.2)) h0) h0)
    obtain ⟨E, hE⟩ : ∃ E, dyE k a f c = E := ⟨_, rfl⟩
    obtain ⟨L, hL⟩ : ∃ E, dyLo k a f c = E := ⟨_, rfl⟩
    obtain ⟨G, hG⟩ : ∃ E, dyHi k a f c = E := ⟨_, rfl⟩
    rw [hE, hL, hG] at HD
    rw [hE] at LL h0
    have n1 : (E != 0) = true := by simpa using h0
    clear hE hL hG h0
    go_enter Tryd.func9, Tryd.ntmps9
    go_wp2_with (go_at_call 15; refine (HD.out _ (HT.out.below HC.out.bl)).mono ?_; rintro e w1 ⟨rfl, hb1⟩; have HC1 := Lib.hid (HC.out.below hb1); clear hb1)
    exact bodyPost_ret (v := .tuple #[.slice none 0 0, .int .i64 E]) (by simp [results, Tryd.results9, go_sem]) rfl (by rw [RetOwn2, LL.out.1, LL.out.2]; exact ⟨_, rfl, Own.nil _ _ _ _, (HC1.out.alloc _).bl⟩)
  have HCH := Lib.hid (fun W h => Changed_any (.slice A xs.length cap) xs n m (spLo k a f) (spHi k a c) W h)
  have hlo : dyLo k a f c = spLo k a f := by unfold dyLo; rw [if_pos h0]
  have hhi : dyHi k a f c = spHi k a c := by unfold dyHi; rw [if_pos h0]
  rw [h0, hlo, hhi] at HD
  by_cases hc0 : chE (xs.map (·.2)) (spLo k a f) (spHi k a c) = 0
  rotate_left
  · have LL := Lib.hid (pl_err (n := n) (m := m) (plE_chg (xs.map (·.2)) h0) hc0)
    obtain ⟨E, hE⟩ : ∃ E, chE (xs.map (·.2)) (spLo k a f) (spHi k a c) = E := ⟨_, rfl⟩
    obtain ⟨J, hJ⟩ : ∃ E, chO (xs.map (·.2)) n m (spLo k a f) (spHi k a c) = E := ⟨_, rfl⟩
    obtain ⟨L, hL⟩ : ∃ E, spLo k a f = E := ⟨_, rfl⟩
    obtain ⟨G, hG⟩ : ∃ E, spHi k a c = E := ⟨_, rfl⟩
    rw [hE, hJ] at HCH
    rw [hE] at LL hc0
    rw [hL, hG] at HD HCH
    have n1 : (E != 0) = true := by simpa using hc0
    clear hE hJ hL hG h0 hc0 hlo hhi
    unfold RetOwn2 at HCH
    go_enter Tryd.func9, Tryd.ntmps9
    go_wp2_with fail
    refine (HD.out _ (HT.out.below HC.out.bl)).mono ?_
    rintro e w1 ⟨rfl, hb1⟩
    have HC1 := Lib.hid ((HC.out.below hb1).alloc (.cells #[.int .i64 L, .int .i64 G] 25))
    clear hb1
    go_wp2_with fail
    refine (HCH.out _ (HV.out.below HC1.out.bl)).mono ?_
    rintro e w2 ⟨x, rfl, hown2, hb2⟩
    have HC2 := Lib.hid (HC1.out.below hb2)
    clear hb2 hown2
    go_wp2_with fail
    exact bodyPost_ret (v := .tuple #[.slice none 0 0, .int .i64 E]) (by simp [results, Tryd.results9, go_sem]) rfl (by rw [RetOwn2, LL.out.1, LL.out.2]; exact ⟨_, rfl, Own.nil _ _ _ _, HC2.out.bl⟩)
  have hp0 : plE k a (xs.map (·.2)) f c = 0 := (plE_chg _ h0).trans hc0
  have hchO : chO (xs.map (·.2)) n m (spLo k a f) (spHi k a c) = chgJ (xs.map (·.2)) n m (spLo k a f) (spHi k a c) := by unfold chO; rw [if_pos hc0]
  rw [hc0, hchO] at HCH
  have hcc := dyE_ok h0
  have hcp := cnt_pos hcc.1
  obtain ⟨C, rfl⟩ : ∃ C : Nat, c = C := ⟨c.toNat, by omega⟩
  have hC9 : C ≤ 13000 := by omega
  cases hJ : chgJ (xs.map (·.2)) n m (spLo k a f) (spHi k a (C : Int)) with
  | nil =>
    have LL := Lib.hid (pl_good hp0 (plB_nil hJ))
    have hN : ((C : Int) + 1 - (C : Int)).toNat = 1 := by omega
    rw [hN] at LL
    rw [hJ] at HCH
    obtain ⟨L, hL⟩ : ∃ E, spLo k a f = E := ⟨_, rfl⟩
    obtain ⟨G, hG⟩ : ∃ E, spHi k a (C : Int) = E := ⟨_, rfl⟩
    rw [hL, hG] at HD HCH
    clear hJ hL hG h0 hc0 hlo hhi hp0 hchO hcc hcp hN
    unfold RetOwn2 at HCH
    go_enter Tryd.func9, Tryd.ntmps9
    go_wp2_with fail
    refine (HD.out _ (HT.out.below HC.out.bl)).mono ?_
    rintro e w1 ⟨rfl, hb1⟩
    have HC1 := Lib.hid ((HC.out.below hb1).alloc (.cells #[.int .i64 L, .int .i64 G] 25))
    clear hb1
    go_wp2_with fail
    refine (HCH.out _ (HV.out.below HC1.out.bl)).mono ?_
    rintro e w2 ⟨x, rfl, hown2, hb2⟩
    have HBL := Lib.hid (HC1.out.below hb2).bl
    obtain ⟨Ax, cx, rfl⟩ := hown2.form
    simp only [prs_len, List.length_nil]
    clear hb2 hown2 HC1
    have e1 : IntKind.i64.wrap ((C : Int) - (C : Int)) = (C : Int) - (C : Int) := IntWalk.i64_in _ (by omega)
    have e2 : IntKind.i64.wrap ((C : Int) - (C : Int) + 1) = (1 : Int) := by rw [show (C : Int) - (C : Int) + 1 = (1 : Int) by omega]; exact IntWalk.i64_in _ (by omega)
    have HTI := Lib.hid rowInt
    obtain ⟨ti, tz, hi1, hi2, hi3, hi4, hi5⟩ := rowInt.hi
    have HTZ : Hid (Tryd.prog.info? 3 = some ti ∧ ti.zero = some tz ∧ ti.size = 1 ∧ ti.bytes = 8) := ⟨hi1, hi2, hi3, hi4⟩
    clear hi1 hi2 hi3 hi4 hi5
    go_wp2_with (at_make; refine wpList_make_own _ rfl _ _ 38 rfl w.heap.size 3 ti tz 1 rowInt.ht HTZ.out.1 HTZ.out.2.1 HTZ.out.2.2.1 .i64 .i64 _ 1 rfl rfl (by first | rfl | exact e2) (by rw [HTZ.out.2.2.2]; omega) (by unfold maxLen; omega) (by have := HBL.out.size; omega) ?_; intro w7 hown7 hg7)
    have H7 : Hid (Own w7 w.heap.size 3 1 _ (ints (plL (C : Int) 0)) ∧ Below w.heap.size w w7) := ⟨⟨hown7, Wide.nil 1⟩, HBL.out.grown hg7 HBL.out.size (by simp)⟩
    clear hown7 hg7 HTI HTZ
    go_loopw [21, 22] (fun r t wr => ∃ i : Nat, i ≤ 1 ∧ t = .int .i64 ((C : Int) + (i : Int)) ∧ Hid (Own wr w.heap.size 3 1 r (ints (plL (C : Int) i)) ∧ Below w.heap.size w wr)) (fun _ t _ => ((C : Int) + 1 - intOf t).toNat)
    case atStart => exact ⟨0, by omega, by simp, H7.out⟩
    case round =>
      clear H7
      obtain ⟨i, hi, rfl, HI⟩ := hrel
      obtain ⟨wo, rfl⟩ : ∃ wo : World, wo = wr := ⟨_, rfl⟩
      obtain ⟨Ar, cr, rfl⟩ := HI.out.1.form
      rw [ints_len, plL_len] at HI
      simp only [ints_len, plL_len]
      have hbs := HI.out.2.size
      by_cases hlt : i < 1
      · have g9 : decide ((C : Int) + (i : Int) ≤ (C : Int)) = true := decide_eq_true (by omega)
        have e3 : IntKind.i64.wrap ((C : Int) + (i : Int) + 1) = (C : Int) + ((i + 1 : Nat) : Int) := by rw [show (C : Int) + (i : Int) + 1 = (C : Int) + ((i + 1 : Nat) : Int) by omega]; exact IntWalk.i64_in _ (by omega)
        go_wp2_with (at_builtin; (refine wpList_append_sl rfl (.tmp 77) (.tmp 79) rfl rowInt w.heap.size _ _ _ [[.int .i64 ((C : Int) + (i : Int))]] rfl (HI.out.1.alloc _) rfl (Sl.one rfl rfl) (ints_wide [(C : Int) + (i : Int)]) (by rw [ints_len, plL_len]; unfold maxLen; simp <;> omega) (by rw [ints_len, plL_len]; simp <;> omega) (by simp <;> omega) ?_); intro v3 w3 hown3 hg3 _; have H3 : Hid (Own w3 w.heap.size 3 1 v3 (ints (plL (C : Int) (i + 1))) ∧ Below w.heap.size w w3) := ⟨by rw [plL_step, ints_append]; exact hown3, Own.grown (HI.out.1.alloc _) (HI.out.2.alloc hbs _) hg3 (by simp <;> omega)⟩; clear hown3 hg3)
        go_roundw
        case rel => exact ⟨i + 1, by omega, rfl, H3.out⟩
        case measure => simp [intOf]; omega
      · obtain rfl : 1 = i := by omega
        have g9 : decide ((C : Int) + ((1 : Nat) : Int) ≤ (C : Int)) = false := decide_eq_false (by omega)
        go_wp2_with fail
        exact bodyPost_ret (v := .tuple #[.slice Ar 1 cr, .int .i64 0]) (by simp [results, Tryd.results9, go_sem]) rfl (by rw [RetOwn2, LL.out.1, LL.out.2]; exact ⟨_, rfl, HI.out.1, HI.out.2⟩)
  | cons p J' =>
    obtain ⟨hr0, hr1, hr2⟩ := chgJ_in (xs := xs.map (·.2)) (a := n) (b := m) (dy_range h0).2.1 (p := p) (by rw [hJ]; simp)
    obtain ⟨hA1, n', hA2, hA3, hA4, hA5⟩ := aff_first h0 hr0 hr1 hr2
    have hb := (plB_cons hJ).trans hA3
    have LL := Lib.hid (pl_good hp0 hb)
    obtain ⟨N, hN⟩ : ∃ N : Nat, ((C : Int) + 1 - (n' : Int)).toNat = N := ⟨_, rfl⟩
    rw [hN] at LL
    obtain ⟨b, hbb⟩ : ∃ b : Int, (n' : Int) = b := ⟨_, rfl⟩
    rw [hJ] at HCH
    have HAF := Lib.hid (fun W g cap' h hs => Affected_any k a (.slice (some ⟨g, 0, none⟩) 1 cap') [p] f (C : Int) W h hs)
    unfold AffP at HAF
    rw [hA1, hA2] at HAF
    simp only [Option.getD_some, Option.isSome_some] at HAF
    obtain ⟨L, hL⟩ : ∃ E, spLo k a f = E := ⟨_, rfl⟩
    obtain ⟨G, hG⟩ : ∃ E, spHi k a (C : Int) = E := ⟨_, rfl⟩
    rw [hL, hG] at HD HCH
    rw [hbb] at LL HAF hA5 hN
    clear hJ hL hG h0 hc0 hlo hhi hp0 hchO hcc hcp hA1 hA2 hA3 hb hr0 hr1 hr2
    have hN1 : b + N = (C : Int) + 1 := by omega
    have hb0 : 0 ≤ b := by omega
    clear hN
    unfold RetOwn2 at HCH
    go_enter Tryd.func9, Tryd.ntmps9
    go_wp2_with fail
    refine (HD.out _ (HT.out.below HC.out.bl)).mono ?_
    rintro e w1 ⟨rfl, hb1⟩
    have HC1 := Lib.hid ((HC.out.below hb1).alloc (.cells #[.int .i64 L, .int .i64 G] 25))
    clear hb1
    go_wp2_with fail
    refine (HCH.out _ (HV.out.below HC1.out.bl)).mono ?_
    rintro e w2 ⟨x, rfl, hown2, hb2⟩
    have HC2 := Lib.hid (HC1.out.below hb2)
    obtain ⟨g, cx, rfl, hcx⟩ := hown2.some_form (by simp [prs])
    obtain ⟨M, hM⟩ : ∃ M, (prs (p :: J')).length = M := ⟨_, rfl⟩
    have hM1 : 1 ≤ M := by rw [← hM]; simp [prs]
    have hS := hown2.sl (by omega)
    have hcm : cx ≤ maxLen := by
      obtain ⟨A', c', hv', h1', h2', _⟩ := hS
      injection hv' with q1 q2 q3
      rw [q3]; exact h2'
    rw [hM] at hS hcx ⊢
    have hS1 := hS.take 1 hM1 cx (by omega) hcm
    rw [show (prs (p :: J')).take 1 = prs [p] by simp [prs]] at hS1
    have hS1d : Sl w2.drew 2 (.slice (some ⟨g, 0, none⟩) 1 cx) (prs [p]) := hS1.below ((Below.refl _ _).drew)
    have HAFF := Lib.hid (HAF.out w2.drew g cx (HT.out.below HC2.out.bl.drew) hS1d)
    obtain ⟨⟨c0, c1⟩, l1⟩ := HC2.out.facts
    have q0 : decide ((0 : Int) < (M : Int)) = true := decide_eq_true (by omega)
    have q0n : decide (0 < M) = true := decide_eq_true (by omega)
    have q1 : 1 ≤ cx := by omega
    have q2 : (1 : Int) ≤ (cx : Int) := by omega
    clear hb2 hown2 HC1 hM hS hS1 hS1d hcm HAF
    go_wp2_with fail
    go_region_with ((go_at_call 6; refine HAFF.out.mono ?_; rintro e w3 ⟨rfl, hb3⟩))
    have HBL : Hid (Below w.heap.size w w3) := below_after HC2.out.bl.drew hb3 HC2.out.bl.size
    clear hb3 c0 c1 l1 HC2 HAFF q0 q0n
    have e1 : IntKind.i64.wrap ((C : Int) - b) = (C : Int) - b := IntWalk.i64_in _ (by omega)
    have e2 : IntKind.i64.wrap ((C : Int) - b + 1) = (N : Int) := by rw [show (C : Int) - b + 1 = (N : Int) by omega]; exact IntWalk.i64_in _ (by omega)
    have HTI := Lib.hid rowInt
    obtain ⟨ti, tz, hi1, hi2, hi3, hi4, hi5⟩ := rowInt.hi
    have HTZ : Hid (Tryd.prog.info? 3 = some ti ∧ ti.zero = some tz ∧ ti.size = 1 ∧ ti.bytes = 8) := ⟨hi1, hi2, hi3, hi4⟩
    clear hi1 hi2 hi3 hi4 hi5
    go_wp2_with (at_make; refine wpList_make_own _ rfl _ _ 38 rfl w.heap.size 3 ti tz 1 rowInt.ht HTZ.out.1 HTZ.out.2.1 HTZ.out.2.2.1 .i64 .i64 _ N rfl rfl (by first | rfl | exact e2) (by rw [HTZ.out.2.2.2]; omega) (by unfold maxLen; omega) (by have := HBL.out.size; omega) ?_; intro w7 hown7 hg7)
    have H7 : Hid (Own w7 w.heap.size 3 1 _ (ints (plL b 0)) ∧ Below w.heap.size w w7) := ⟨⟨hown7, Wide.nil 1⟩, HBL.out.grown hg7 HBL.out.size (by simp)⟩
    clear hown7 hg7 HTI HTZ
    go_loopw [21, 22] (fun r t wr => ∃ i : Nat, i ≤ N ∧ t = .int .i64 (b + (i : Int)) ∧ Hid (Own wr w.heap.size 3 1 r (ints (plL b i)) ∧ Below w.heap.size w wr)) (fun _ t _ => (b + N - intOf t).toNat)
    case atStart => exact ⟨0, by omega, by simp, H7.out⟩
    case round =>
      clear H7
      obtain ⟨i, hi, rfl, HI⟩ := hrel
      obtain ⟨wo, rfl⟩ : ∃ wo : World, wo = wr := ⟨_, rfl⟩
      obtain ⟨Ar, cr, rfl⟩ := HI.out.1.form
      rw [ints_len, plL_len] at HI
      simp only [ints_len, plL_len]
      have hbs := HI.out.2.size
      by_cases hlt : i < N
      · have g9 : decide (b + (i : Int) ≤ (C : Int)) = true := decide_eq_true (by omega)
        have e3 : IntKind.i64.wrap (b + (i : Int) + 1) = b + ((i + 1 : Nat) : Int) := by rw [show b + (i : Int) + 1 = b + ((i + 1 : Nat) : Int) by omega]; exact IntWalk.i64_in _ (by omega)
        go_wp2_with (at_builtin; (refine wpList_append_sl rfl (.tmp 77) (.tmp 79) rfl rowInt w.heap.size _ _ _ [[.int .i64 (b + (i : Int))]] rfl (HI.out.1.alloc _) rfl (Sl.one rfl rfl) (ints_wide [b + (i : Int)]) (by rw [ints_len, plL_len]; unfold maxLen; simp <;> omega) (by rw [ints_len, plL_len]; simp <;> omega) (by simp <;> omega) ?_); intro v3 w3 hown3 hg3 _; have H3 : Hid (Own w3 w.heap.size 3 1 v3 (ints (plL b (i + 1))) ∧ Below w.heap.size w w3) := ⟨by rw [plL_step, ints_append]; exact hown3, Own.grown (HI.out.1.alloc _) (HI.out.2.alloc hbs _) hg3 (by simp <;> omega)⟩; clear hown3 hg3)
        go_roundw
        case rel => exact ⟨i + 1, by omega, rfl, H3.out⟩
        case measure => simp [intOf]; omega
      · obtain rfl : N = i := by omega
        have g9 : decide (b + ((N : Nat) : Int) ≤ (C : Int)) = false := decide_eq_false (by omega)
        go_wp2_with fail
        exact bodyPost_ret (v := .tuple #[.slice Ar N cr, .int .i64 0]) (by simp [results, Tryd.results9, go_sem]) rfl (by rw [RetOwn2, LL.out.1, LL.out.2]; exact ⟨_, rfl, HI.out.1, HI.out.2⟩)
end Go.Proofs.YtaafihdegnaokaaDoor
/- Remainders. -/
namespace Go.Proofs.YtaafihdegnaokaaDoor
open Go.RowKit

theorem tmod_lo (v n : Int) (hn : 0 < n) : -n < v.tmod n := by
  have := Int.tmod_lt_of_pos (-v) hn
  rw [Int.neg_tmod] at this; omega
theorem emod_of_tmod (v n : Int) (hn : 0 < n) : v % n = if v.tmod n < 0 then v.tmod n + n else v.tmod n := by
  rw [Int.emod_eq_tmod]
  have h1 := Int.tmod_lt_of_pos v hn
  have h2 := tmod_lo v n hn
  by_cases h0 : 0 ≤ v
  · rw [if_pos (.inl h0)]
    have h3 := Int.tmod_nonneg n h0
    rw [if_neg (by omega)]; omega
  · by_cases hd : n ∣ v
    · rw [if_pos (.inr hd)]
      have h3 : v.tmod n = 0 := Int.tmod_eq_zero_of_dvd hd
      rw [h3]; simp
    · rw [if_neg (by simp [h0, hd])]
      have h3 : v.tmod n ≤ 0 := by
        have := Int.tmod_nonneg n (show 0 ≤ -v by omega)
        rw [Int.neg_tmod] at this; omega
      have h4 : v.tmod n ≠ 0 := fun h => hd (Int.dvd_of_tmod_eq_zero h)
      rw [if_pos (by omega)]
      have : (n.natAbs : Int) = n := by omega
      omega

end Go.Proofs.YtaafihdegnaokaaDoor
/- Contracts of paygen.Deck: New, Next, Pick. What is drawn is said by its range alone. -/
namespace Go.Proofs.YtaafihdegnaokaaDoor
open Go.RowKit

/-- a deck in block D, of which so many numbers have been drawn -/
def Deck (w : World) (D dr : Nat) : Prop :=
  ∃ (A : Option Addr) (n c : Nat) (zs : List Int), w.heap[D]? = some (.cells #[.slice A n c, .int .i64 dr] 57 (0, 0)) ∧ zs.length = n ∧ n ≤ maxLen ∧
    (zs = [] ∨ ∃ b off, A = some ⟨b, off, none⟩ ∧ b < D ∧ ∀ i z, zs[i]? = some z → w.cell? ⟨b, off + i, none⟩ = some (.int .i64 z))
theorem Deck.lt {w : World} {D dr : Nat} (h : Deck w D dr) : D < w.heap.size := by
  obtain ⟨A, n, c, zs, hh, _⟩ := h
  rcases Nat.lt_or_ge D w.heap.size with hlt | hge
  · exact hlt
  · rw [Array.getElem?_eq_none hge] at hh; cases hh
theorem Deck.keep {w w' : World} {D dr : Nat} {row : Option Nat} (h : Deck w D dr) (hg : w.grownBy w' row) (hr : ∀ k, row = some k → D < k) : Deck w' D dr := by
  have hlt := h.lt
  obtain ⟨A, n, c, zs, hh, h1, h2, h3⟩ := h
  refine ⟨A, n, c, zs, (hg.block D hlt fun e => by have := hr D e.symm; omega).trans hh, h1, h2, ?_⟩
  rcases h3 with rfl | ⟨b, off, rfl, hb, hc⟩
  · exact .inl rfl
  · refine .inr ⟨b, off, rfl, hb, fun i z hz => ?_⟩
    exact (World.cell?_of_block (w := w) (a := ⟨b, off + i, none⟩) (hg.block b (by omega) fun e => by have := hr b e.symm; omega)).trans (hc i z hz)
theorem Deck.below {w w' : World} {D dr : Nat} (h : Deck w D dr) (hb : Below w.heap.size w w') : Deck w' D dr :=
  h.keep (row := none) ⟨hb.os, hb.tape, hb.output, hb.size, fun k hk _ => hb.block k hk⟩ (fun k hk => by cases hk)
theorem Deck.step {w : World} {D dr : Nat} (h : Deck w D dr) (q : Nat) : Deck ((w.drewN q).setCell ⟨D, 1, none⟩ (.int .i64 (dr + 1 : Nat))) D (dr + 1) ∧ w.grownBy ((w.drewN q).setCell ⟨D, 1, none⟩ (.int .i64 (dr + 1 : Nat))) (some D) := by
  refine ⟨?_, gb_set (gb_draws (World.grownBy.refl _ _) q) (.inl rfl) _⟩
  obtain ⟨A, n, c, zs, hh, h1, h2, h3⟩ := h
  refine ⟨A, n, c, zs, ?_, h1, h2, ?_⟩
  · simp only [World.setCell]
    rw [Array.getElem?_modify, if_pos rfl]
    show (w.heap[D]?).map _ = _
    rw [hh]; rfl
  · rcases h3 with rfl | ⟨b, off, rfl, hb, hc⟩
    · exact .inl rfl
    · refine .inr ⟨b, off, rfl, hb, fun i z hz => ?_⟩
      rw [World.cell?_setCell_other _ _ _ _ (by intro e; injection e; omega)]
      exact hc i z hz
/-- what a draw below n leaves -/
def NextPost (w : World) (D dr : Nat) (n : Int) (e : Ending) (w' : World) : Prop :=
  ∃ r : Int, (0 ≤ r ∧ r < n) ∧ e = .returned (.int .i64 r) ∧ Deck w' D (dr + 1) ∧ w.grownBy w' (some D)

set_option maxHeartbeats 1000000 in
theorem Next_any (D dr : Nat) (n : Int) (w : World) (hd : Deck w D dr) (hdr : dr ≤ 1099511627776) (hn : 0 < n) (hn2 : n ≤ 1099511627776) :
    Calls Tryd.prog 14 #[.pointer (some ⟨D, 0, none⟩), .int .i64 n] w (NextPost w D dr n) := by
  have hst := Lib.hid (fun q => hd.step q)
  obtain ⟨A, m, c, zs, hh, h1, h2, h3⟩ := hd
  have c0 : w.cell? ⟨D, 0, none⟩ = some (.slice A m c) := cell_of_row w D 0 _ _ _ hh
  have c1 : w.cell? ⟨D, 1, none⟩ = some (.int .i64 dr) := cell_of_row w D 1 _ _ _ hh
  have f1 : w.frozen? ⟨D, 1, none⟩ = false := frozen_of_row w D 1 _ _ hh
  have hz : (n == 0) = false := beq_eq_false_iff_ne.2 (by omega)
  unfold maxLen at h2
  have H1 := Lib.hid h1
  have H3 := Lib.hid h3
  clear hh h1 h3
  by_cases hlt : dr < m
  · rcases H3.out with h | ⟨b, off, rfl, hb, hc⟩
    · have := H1.out; rw [h] at this; simp at this; omega
    · obtain ⟨z, hzz⟩ : ∃ z, zs[dr]? = some z := ⟨_, List.getElem?_eq_getElem (by have := H1.out; omega)⟩
      have cz : w.cell? ⟨b, off + dr, none⟩ = some (.int .i64 z) := hc dr z hzz
      have t1 := Int.tmod_lt_of_pos z hn
      have t2 := tmod_lo z n hn
      have HE := Lib.hid (emod_of_tmod z n hn)
      have HR : Hid (0 ≤ z % n ∧ z % n < n) := ⟨Int.emod_nonneg _ (by omega), Int.emod_lt_of_pos _ hn⟩
      clear H3 hc hzz H1
      by_cases h0 : z.tmod n < 0
      · go_enter Tryd.func14, Tryd.ntmps14
        go_wp2
        go_quiet (fail)
        go_wp2
        go_quiet (fail)
        go_wp2
        go_ret
        exact ⟨_, HR.out, ret_int (by rw [HE.out, if_pos (by omega)]), (hst.out _).1, (hst.out _).2⟩
      · go_enter Tryd.func14, Tryd.ntmps14
        go_wp2
        go_quiet (fail)
        go_wp2
        go_quiet (fail)
        go_wp2
        go_ret
        exact ⟨_, HR.out, ret_int (by rw [HE.out, if_neg (by omega)]), (hst.out _).1, (hst.out _).2⟩
  · have t1 := Int.tmod_lt_of_pos (5 * (dr : Int) + 2) hn
    have HE : Hid ((5 * (dr : Int) + 2).tmod n = (5 * (dr : Int) + 2) % n) := Int.tmod_eq_emod_of_nonneg (by omega)
    have HR : Hid (0 ≤ (5 * (dr : Int) + 2) % n ∧ (5 * (dr : Int) + 2) % n < n) := ⟨Int.emod_nonneg _ (by omega), Int.emod_lt_of_pos _ hn⟩
    have hr1 := HR.out.1
    clear H3 H1 t1
    go_enter Tryd.func14, Tryd.ntmps14
    go_wp2
    go_quiet (fail)
    go_wp2
    go_ret
    exact ⟨_, HR.out, rfl, (hst.out _).1, (hst.out _).2⟩

end Go.Proofs.YtaafihdegnaokaaDoor
/- Contract of paygen.New. -/
namespace Go.Proofs.YtaafihdegnaokaaDoor
open Go.RowKit
theorem new_any (v : Value) (zs : List Int) (w : World) (hv : Sl w 1 v (ints zs)) :
    Calls Tryd.prog 11 #[v] w fun e w' => e = .returned (.pointer (some ⟨w.heap.size, 0, none⟩)) ∧ Deck w' w.heap.size 0 ∧ Below w.heap.size w w' := by
  obtain ⟨A, cap, rfl, h1, h2, _, h3⟩ := hv
  have H3 := Lib.hid h3
  clear h3
  go_enter Tryd.func11, Tryd.ntmps11
  go_wp2
  go_ret
  refine ⟨rfl, ⟨A, zs.length, cap, zs, by rw [← ints_len]; exact heap_alloc_new w _, rfl, by rw [ints_len] at h1; omega, ?_⟩, (Below.refl _ _).alloc (Nat.le_refl _) _⟩
  rcases H3.out with h | ⟨b, off, rfl, hc⟩
  · left
    have := congrArg List.length h
    rw [ints_len] at this
    exact List.eq_nil_of_length_eq_zero this
  · refine .inr ⟨b, off, rfl, hc.1, fun i z hz => ?_⟩
    rw [World.cell?_alloc_lt _ _ _ hc.1]
    have := hc.2 i [.int .i64 z] (by simp [ints, hz]) 0 _ rfl
    rwa [Nat.mul_one, Nat.add_zero] at this

end Go.Proofs.YtaafihdegnaokaaDoor
/- Contracts of package paygen: Mod. -/
namespace Go.Proofs.YtaafihdegnaokaaDoor
open Go.RowKit

theorem Mod_any (v n : Int) (w : World) (hn : 0 < n) (hn2 : n ≤ 1099511627776) :
    Calls Tryd.prog 5 #[.int .i64 v, .int .i64 n] w fun e w' => e = .returned (.int .i64 (v % n)) ∧ w = w' := by
  have h1 := Int.tmod_lt_of_pos v hn
  have h2 := tmod_lo v n hn
  have H := Lib.hid (emod_of_tmod v n hn)
  have hz : (n == 0) = false := beq_eq_false_iff_ne.2 (by omega)
  by_cases h0 : v.tmod n < 0
  · go_enter Tryd.func5, Tryd.ntmps5
    go_wp2
    go_ret
    exact ⟨ret_int (by rw [H.out, if_pos (by omega)]), rfl⟩
  · go_enter Tryd.func5, Tryd.ntmps5
    go_wp2
    go_ret
    exact ⟨ret_int (by rw [H.out, if_neg (by omega)]), rfl⟩

end Go.Proofs.YtaafihdegnaokaaDoor
/- The laws' small functions: months, calendar, ints, ranges, few, awake. -/
namespace Go.Proofs.YtaafihdegnaokaaDoor
open Go.RowKit

theorem months_any (w : World) : Calls Tryd.prog 7 #[] w fun e w' => e = .returned (.agg #[.int .i64 0, .int .i64 0]) ∧ Below w.heap.size w w' := by
  have h0 := Row.new w 34 #[.int .i64 0, .int .i64 0]
  have hb := (Below.refl w.heap.size w).alloc (Nat.le_refl _) (.cells #[.int .i64 0, .int .i64 0] 34)
  go_enter Tryd.func7, Tryd.ntmps7
  go_wp2
  exact bodyPost_ret (v := .agg #[.int .i64 0, .int .i64 0]) (by simp [results, Tryd.results7, go_sem]) rfl ⟨rfl, by repeat (first | exact hb | exact Below.refl _ _ | refine Below.draws ?_ _ | refine Below.setCell ?_ (by simp) _ | refine Below.alloc ?_ (Nat.le_refl _) _)⟩
theorem neG (a b : Int) (w : World) : (binOp .neq 25 (.agg #[.int .i64 a, .int .i64 b]) (.agg #[.int .i64 a, .int .i64 b])).run Tryd.prog w = .ok (.bool false) w := by simp [go_sem]

/-- a pay calendar has been drawn -/
def CalPost (w : World) (D dr : Nat) (e : Ending) (w' : World) : Prop :=
  ∃ (k a : Int) (d : Nat), e = .returned (.agg #[.int .i64 k, .int .i64 a]) ∧ CalOk k a ∧ Deck w' D d ∧ d ≤ dr + 2 ∧ w.grownBy w' (some D)
theorem row2 {w : World} {g : Nat} {t : TypeId} {a b : Value} (h : Row w g t #[a, b]) : (w.cell? ⟨g, 0, none⟩ = some a ∧ w.cell? ⟨g, 1, none⟩ = some b ∧ g < w.heap.size) ∧ w.frozen? ⟨g, 0, none⟩ = false ∧ w.frozen? ⟨g, 1, none⟩ = false := ⟨⟨h.cell 0, h.cell 1, h.lt⟩, h.frozen 0, h.frozen 1⟩
theorem cal_ok {k a : Int} (h0 : 0 ≤ k) (h1 : k ≤ 3) (h : (k = 2 ∧ 0 ≤ a ∧ a < 14) ∨ (k = 3 ∧ 0 ≤ a ∧ a < 7) ∨ a = 0) : CalOk k a := by
  refine ⟨h0, h1, by omega, ?_⟩
  rcases h with ⟨rfl, _, _⟩ | ⟨rfl, _, _⟩ | rfl
  · simp; omega
  · simp; omega
  · split
    · omega
    · split <;> omega
set_option maxRecDepth 100000 in
set_option maxHeartbeats 4000000 in
theorem calendar_any (D dr : Nat) (w : World) (hd : Deck w D dr) (hdr : dr ≤ 900000) :
    Calls Tryd.prog 12 #[.pointer (some ⟨D, 0, none⟩)] w (CalPost w D dr) := by
  have hD := hd.lt
  have hr0 := Row.new w 34 #[.int .i64 0, .int .i64 0]
  have hal := (Below.refl w.heap.size w).alloc (Nat.le_refl _) (.cells #[.int .i64 0, .int .i64 0] 34)
  go_enter Tryd.func12, Tryd.ntmps12
  go_wp2_with fail
  obtain ⟨w0, hw0⟩ : ∃ w0, w.alloc (.cells #[.int .i64 0, .int .i64 0] 34) = w0 := ⟨_, rfl⟩
  rw [hw0] at hr0 hal ⊢
  obtain ⟨r, hr⟩ : ∃ r, w.heap.size = r := ⟨_, rfl⟩
  rw [hr] at hr0 ⊢
  have hwr : w.heap.size ≤ r := by omega
  have hrD : r ≠ D := by omega
  have hd0 : Deck w0 D dr := hd.below hal
  have hg0 : w.grownBy w0 (some D) := gb_below (World.grownBy.refl _ _) hal
  clear hw0 hr hd hal
  refine (Next_any D dr 4 w0 hd0 (by omega) (by omega) (by omega)).mono ?_
  rintro e w1 ⟨k, ⟨k0, k1⟩, rfl, hd1, hg1⟩
  have hr1 := hr0.keep hg1 (fun e => hrD (Option.some.inj e))
  have hG1 := gb_trans hg0 hg1
  by_cases q2 : k = 2
  · subst q2
    go_wp2_with fail
    have hal1 := (Below.refl w1.heap.size w1).alloc (Nat.le_refl _) (.cells #[.int .i64 2, .int .i64 0] 34)
    have hx2 := Row.new w1 34 #[.int .i64 2, .int .i64 0]
    have hr2 := hr1.below hal1 hr1.lt
    have hd2 := hd1.below hal1
    have hG2 := gb_below hG1 hal1
    have hr1l := hr1.lt
    have hw1 := hG1.size
    have hD1 := hd1.lt
    obtain ⟨w2, hw2⟩ : ∃ w2, w1.alloc (.cells #[.int .i64 2, .int .i64 0] 34) = w2 := ⟨_, rfl⟩
    rw [hw2] at hx2 hr2 hd2 hG2 ⊢
    obtain ⟨m, hm⟩ : ∃ m, w1.heap.size = m := ⟨_, rfl⟩
    rw [hm] at hx2 ⊢
    have hmr : ¬ m = r := by omega
    have hrm : ¬ r = m := by omega
    have hmD : m ≠ D := by omega
    have hwm : w.heap.size ≤ m := by omega
    have hmd : D < r := by omega
    clear hr0 hd0 hg0 hd1 hg1 hr1 hG1 hal1 hw2 hm
    refine (Next_any D (dr + 1) 14 w2 hd2 (by omega) (by omega) (by omega)).mono ?_
    rintro e w3 ⟨a, ⟨z0, z1⟩, rfl, hd3, hg3⟩
    have hr3 := hr2.keep hg3 (fun e => hrD (Option.some.inj e))
    have hx3 := hx2.keep hg3 (fun e => hmD (Option.some.inj e))
    have hG3 := gb_trans hG2 hg3
    have hx4 := hx3.set 1 (.int .i64 a)
    have hr4 := hr3.far (p := ⟨m, 1, none⟩) (show r ≠ m from hrm) (.int .i64 a)
    have hG4 := gb_set (p := ⟨m, 1, none⟩) hG3 (.inr hwm) (.int .i64 a)
    have hd4 := hd3.keep (gb_set (p := ⟨m, 1, none⟩) (World.grownBy.refl _ (some m)) (.inl rfl) (.int .i64 a)) (fun g hg => by injection hg; omega)
    have HG := Lib.hid (gb_set (p := ⟨r, 1, none⟩) (gb_set (p := ⟨r, 0, none⟩) hG4 (.inr hwr) (.int .i64 2)) (.inr hwr) (.int .i64 a))
    have HK := Lib.hid (hd4.keep (gb_set (p := ⟨r, 1, none⟩) (gb_set (p := ⟨r, 0, none⟩) (World.grownBy.refl _ (some r)) (.inl rfl) (.int .i64 2)) (.inl rfl) (.int .i64 a)) (fun g hg => by injection hg; omega))
    have HR := Lib.hid (row2 ((hr4.set 0 (.int .i64 2)).set 1 (.int .i64 a))).1
    obtain ⟨⟨a0, a1, al⟩, ⟨b0, b1⟩⟩ := row2 hr3
    obtain ⟨⟨d0, d1, dl⟩, ⟨f0, f1⟩⟩ := row2 hx3
    clear hr2 hx2 hG2 hd2 hr3 hx3 hG3 hd3 hx4 hr4 hG4 hd4 hg3
    go_wp2
    obtain ⟨y0, y1, -⟩ := HR.out
    refine bodyPost_ret (v := .agg #[.int .i64 2, .int .i64 a]) (by simp only [results, Tryd.results12, go_sem]; simp [y0, y1, go_sem]) rfl ?_
    exact ⟨2, a, dr + 1 + 1, rfl, cal_ok (by omega) (by omega) (.inl ⟨rfl, z0, z1⟩), HK.out, by omega, HG.out⟩
  by_cases q3 : k = 3
  · subst q3
    go_wp2_with fail
    have hal1 := (Below.refl w1.heap.size w1).alloc (Nat.le_refl _) (.cells #[.int .i64 3, .int .i64 0] 34)
    have hx2 := Row.new w1 34 #[.int .i64 3, .int .i64 0]
    have hr2 := hr1.below hal1 hr1.lt
    have hd2 := hd1.below hal1
    have hG2 := gb_below hG1 hal1
    have hr1l := hr1.lt
    have hw1 := hG1.size
    have hD1 := hd1.lt
    obtain ⟨w2, hw2⟩ : ∃ w2, w1.alloc (.cells #[.int .i64 3, .int .i64 0] 34) = w2 := ⟨_, rfl⟩
    rw [hw2] at hx2 hr2 hd2 hG2 ⊢
    obtain ⟨m, hm⟩ : ∃ m, w1.heap.size = m := ⟨_, rfl⟩
    rw [hm] at hx2 ⊢
    have hmr : ¬ m = r := by omega
    have hrm : ¬ r = m := by omega
    have hmD : m ≠ D := by omega
    have hwm : w.heap.size ≤ m := by omega
    have hmd : D < r := by omega
    clear hr0 hd0 hg0 hd1 hg1 hr1 hG1 hal1 hw2 hm
    refine (Next_any D (dr + 1) 7 w2 hd2 (by omega) (by omega) (by omega)).mono ?_
    rintro e w3 ⟨a, ⟨z0, z1⟩, rfl, hd3, hg3⟩
    have hr3 := hr2.keep hg3 (fun e => hrD (Option.some.inj e))
    have hx3 := hx2.keep hg3 (fun e => hmD (Option.some.inj e))
    have hG3 := gb_trans hG2 hg3
    have hx4 := hx3.set 1 (.int .i64 a)
    have hr4 := hr3.far (p := ⟨m, 1, none⟩) (show r ≠ m from hrm) (.int .i64 a)
    have hG4 := gb_set (p := ⟨m, 1, none⟩) hG3 (.inr hwm) (.int .i64 a)
    have hd4 := hd3.keep (gb_set (p := ⟨m, 1, none⟩) (World.grownBy.refl _ (some m)) (.inl rfl) (.int .i64 a)) (fun g hg => by injection hg; omega)
    have HG := Lib.hid (gb_set (p := ⟨r, 1, none⟩) (gb_set (p := ⟨r, 0, none⟩) hG4 (.inr hwr) (.int .i64 3)) (.inr hwr) (.int .i64 a))
    have HK := Lib.hid (hd4.keep (gb_set (p := ⟨r, 1, none⟩) (gb_set (p := ⟨r, 0, none⟩) (World.grownBy.refl _ (some r)) (.inl rfl) (.int .i64 3)) (.inl rfl) (.int .i64 a)) (fun g hg => by injection hg; omega))
    have HR := Lib.hid (row2 ((hr4.set 0 (.int .i64 3)).set 1 (.int .i64 a))).1
    obtain ⟨⟨a0, a1, al⟩, ⟨b0, b1⟩⟩ := row2 hr3
    obtain ⟨⟨d0, d1, dl⟩, ⟨f0, f1⟩⟩ := row2 hx3
    clear hr2 hx2 hG2 hd2 hr3 hx3 hG3 hd3 hx4 hr4 hG4 hd4 hg3
    go_wp2
    obtain ⟨y0, y1, -⟩ := HR.out
    refine bodyPost_ret (v := .agg #[.int .i64 3, .int .i64 a]) (by simp only [results, Tryd.results12, go_sem]; simp [y0, y1, go_sem]) rfl ?_
    exact ⟨3, a, dr + 1 + 1, rfl, cal_ok (by omega) (by omega) (.inr (.inl ⟨rfl, z0, z1⟩)), HK.out, by omega, HG.out⟩
  have m2 : (k == 2) = false := by simpa using q2
  have m3 : (k == 3) = false := by simpa using q3
  obtain ⟨⟨a0, a1, al⟩, ⟨b0, b1⟩⟩ := row2 hr1
  have hs1 := gb_set (p := ⟨r, 1, none⟩) (gb_set (p := ⟨r, 0, none⟩) (World.grownBy.refl w1 (some r)) (.inl rfl) (.int .i64 k)) (.inl rfl) (.int .i64 0)
  have HG := Lib.hid (gb_alloc (gb_set (p := ⟨r, 1, none⟩) (gb_set (p := ⟨r, 0, none⟩) hG1 (.inr hwr) (.int .i64 k)) (.inr hwr) (.int .i64 0)) (.cells #[.int .i64 k, .int .i64 0] 34))
  have HK := Lib.hid ((hd1.keep hs1 (fun g hg => by injection hg; omega)).below ((Below.refl _ _).alloc (Nat.le_refl _) (.cells #[.int .i64 k, .int .i64 0] 34)))
  have HR := Lib.hid (row2 (((hr1.set 0 (.int .i64 k)).set 1 (.int .i64 0)).alloc (.cells #[.int .i64 k, .int .i64 0] 34))).1
  have hne : ¬ w1.heap.size = r := by have := hr1.lt; omega
  clear q2 q3 hr1 hd1 hG1 hr0 hd0 hg0 hg1 hs1
  go_wp2_with fail
  obtain ⟨y0, y1, -⟩ := HR.out
  refine bodyPost_ret (v := .agg #[.int .i64 k, .int .i64 0]) (by simp only [results, Tryd.results12, go_sem]; simp [y0, y1, go_sem]) rfl ?_
  exact ⟨k, 0, dr + 1, rfl, cal_ok (by omega) (by omega) (.inr (.inr rfl)), HK.out, by omega, HG.out⟩
end Go.Proofs.YtaafihdegnaokaaDoor
/- payrolllaw36.awake: the example of the chapter. -/
namespace Go.Proofs.YtaafihdegnaokaaDoor
open Go.RowKit

def exL : List Chg := [⟨73, 2, 5, false⟩]
theorem calOk00 : CalOk 0 0 := (calB_iff 0 0).1 (by decide)
theorem ex_sp0 : spE 0 0 0 = 0 ∧ spLo 0 0 0 = 0 := by
  obtain ⟨h1, h2, _⟩ := sp_ok calOk00 (n := 0) (by decide)
  exact ⟨h1, h2.trans (by decide +kernel)⟩
theorem ex_sp4 : spE 0 0 4 = 0 ∧ spHi 0 0 4 = 150 := by
  obtain ⟨h1, _, h3⟩ := sp_ok calOk00 (n := 4) (by decide)
  exact ⟨h1, h3.trans (by decide +kernel)⟩
theorem ex_sp14 : spE 0 0 14 = 0 ∧ spHi 0 0 14 = 454 := by
  obtain ⟨h1, _, h3⟩ := sp_ok calOk00 (n := 14) (by decide)
  exact ⟨h1, h3.trans (by decide +kernel)⟩
theorem ex_dy : dyE 0 0 0 4 = 0 := (dy_good ex_sp0.1 ex_sp4.1 (by decide)).1
theorem ex_ch : chE [exL] 0 150 = 0 := by decide +kernel
theorem ex_all : allD [exL] 1 2 0 150 = [(73, 150)] := by decide +kernel
theorem ex_J : chgJ [exL] 1 2 0 150 = [(73, 150)] :=
  (chgJ_unique (by decide) ⟨fun p hp => by rw [List.mem_singleton.1 hp]; decide, by simp⟩ fun d => by rw [ex_all]).symm
theorem ex_of73 : ofV 0 0 73 = 2 := (of_yes (n := 2) calOk00 (by decide) (by decide) ⟨by decide +kernel, by decide +kernel⟩).1
theorem ex_of365 : ofV 0 0 365 = 12 := (of_yes (n := 12) calOk00 (by decide) (by decide) ⟨by decide +kernel, by decide +kernel⟩).1
theorem ex_plan : plO 0 0 [exL] 1 2 0 4 = [2, 3, 4] ∧ plE 0 0 [exL] 0 4 = 0 := by
  have hp : plE 0 0 [exL] 0 4 = 0 := by
    rw [plE_chg _ ex_dy, ex_sp0.2, ex_sp4.2]
    exact ex_ch
  have hb : plB 0 0 [exL] 1 2 0 4 = 2 := by
    have hJ : chgJ [exL] 1 2 (spLo 0 0 0) (spHi 0 0 4) = (73, 150) :: [] := by rw [ex_sp0.2, ex_sp4.2]; exact ex_J
    rw [plB_cons hJ]
    exact ex_of73
  obtain ⟨h1, h2⟩ := pl_good hp hb
  exact ⟨h1.trans (by decide), h2⟩
theorem ex_start : stV 0 0 14 = 12 ∧ spE 0 0 14 = 0 := by
  refine ⟨?_, ex_sp14.1⟩
  unfold stV
  rw [if_pos ex_sp14.1, ex_sp14.2, yr_eq (y := 1971) ⟨by decide, by decide⟩, show bg 1971 = 365 by decide]
  exact ex_of365
theorem tls_one (w : World) (c : Chg) : Tls ((w.alloc (.cells #[.int .i64 c.f, .int .i64 c.k, .int .i64 c.v, .bool c.d] 28)).alloc (.cells #[.slice (some ⟨w.heap.size, 0, none⟩) 1 1] 29)) (.slice (some ⟨w.heap.size + 1, 0, none⟩) 1 1) [(.slice (some ⟨w.heap.size, 0, none⟩) 1 1, [c])] := by
  have h1 : Sl (w.alloc (.cells #[.int .i64 c.f, .int .i64 c.k, .int .i64 c.v, .bool c.d] 28)) 4 (.slice (some ⟨w.heap.size, 0, none⟩) 1 1) (chgs [c]) := Sl.one rfl rfl
  refine ⟨Sl.one (by simp) rfl, fun x hx => ?_⟩
  rw [List.mem_singleton.1 hx]
  exact h1.below ((Below.refl _ _).alloc (Nat.le_refl _) _)
set_option maxRecDepth 100000 in
set_option maxHeartbeats 4000000 in
theorem awake_any (w : World) (hT : LenT w) : Calls Tryd.prog 10 #[] w fun e w' => e = .returned (.bool true) ∧ Below w.heap.size w w' := by
  have HT := Lib.hid hT
  clear hT
  have HP := Lib.hid (fun W h hl => Plan_any 0 0 (.slice (some ⟨W, 0, none⟩) 1 1) [(.slice (some ⟨W - 1, 0, none⟩) 1 1, exL)] 1 2 0 4 h hl)
  have HS := Lib.hid (fun W h => Start_any 0 0 14 W h)
  rw [ex_start.1, ex_start.2] at HS
  have HPE := Lib.hid ex_plan
  go_enter Tryd.func10, Tryd.ntmps10
  go_wp2_with fail
  refine (months_any _).mono ?_
  rintro e w1 ⟨rfl, hb1⟩
  have HTL := Lib.hid (tls_one w1 ⟨73, 2, 5, false⟩)
  have hal : Below w.heap.size w ((w1.alloc (.cells #[.int .i64 73, .int .i64 2, .int .i64 5, .bool false] 28)).alloc (.cells #[.slice (some ⟨w1.heap.size, 0, none⟩) 1 1] 29)) := (hb1.alloc hb1.size _).alloc (Nat.le_trans hb1.size (by simp)) _
  have HB2 := Lib.hid hal
  clear hb1 hal HP
  go_wp2_with fail
  refine (Plan_any 0 0 _ [(.slice (some ⟨w1.heap.size, 0, none⟩) 1 1, exL)] 1 2 0 4 _ (HT.out.below HB2.out) HTL.out).mono ?_
  unfold RetOwn2
  rw [show List.map (fun x : Value × List Chg => x.2) [(Value.slice (some ⟨w1.heap.size, 0, none⟩) 1 1, exL)] = [exL] from rfl, HPE.out.1, HPE.out.2]
  rintro e w2 ⟨x, rfl, hown2, hb2⟩
  have HB3 := Lib.hid (below_after HB2.out hb2 HB2.out.size)
  have hS2 := hown2.sl (by omega)
  obtain ⟨Ax, cx, rfl⟩ := hown2.form
  simp only [ints_len, List.length_cons, List.length_nil, Nat.zero_add, Nat.reduceAdd] at hS2 ⊢
  have HS2 := Lib.hid hS2
  clear hown2 hb2 hS2 HTL HB2
  go_wp2_with fail
  refine (months_any _).mono ?_
  rintro e w3 ⟨rfl, hb3⟩
  have HB4 := Lib.hid (below_after HB3.out hb3 HB3.out.size)
  have HS3 := Lib.hid (HS2.out.below hb3)
  clear hb3 HB3 HS2
  go_wp2_with fail
  refine (HS.out _ (HT.out.below HB4.out)).mono ?_
  rintro e w4 ⟨rfl, hb4⟩
  have HB5 := Lib.hid (below_after HB4.out hb4 HB4.out.size)
  have hS4 := HS3.out.below hb4
  obtain ⟨b, off, rfl, hcl⟩ := hS4.cells (by simp [ints])
  have c0 := hcl.int (l := [2, 3, 4]) (k := 0) (by simp)
  have c2 := hcl.int (l := [2, 3, 4]) (k := 2) (by simp)
  have hbl := hcl.1
  simp only [List.getElem_cons_zero, List.getElem_cons_succ, Nat.add_zero] at c0 c2
  clear hb4 HB4 HS3 hS4 hcl
  go_wp2
  go_ret
  exact ⟨rfl, HB5.out⟩
end Go.Proofs.YtaafihdegnaokaaDoor
/- Where a law stands: a deck, a drawn pay calendar. -/
namespace Go.Proofs.YtaafihdegnaokaaDoor
open Go.RowKit

theorem below_deck {w0 w w' : World} {M : Nat} (h : Below w0.heap.size w0 w) (hg : w.grownBy w' (some M)) (hM : w0.heap.size ≤ M) : Below w0.heap.size w0 w' :=
  h.grown hg h.size (fun k hk => by injection hk; omega)
theorem Own.off_low {w : World} {base e sz D : Nat} {v : Value} {es : List (List Value)} (h : Own w base e sz v es) (hD : D < base) : v.ownBlock = none ∨ v.ownBlock ≠ some D := by
  cases hv : v.ownBlock with
  | none => exact .inl rfl
  | some g => exact .inr fun e => by have := (h.1.lt g hv).1; injection e with e; omega
/-- where a law stands: a deck in D, a pay calendar in m -/
structure LwS (w : World) (D m : Nat) (k a : Int) (d : Nat) (wr : World) : Prop where
  bl : Below w.heap.size w wr
  deck : Deck wr D d
  row : Row wr m 34 #[.int .i64 k, .int .i64 a]
  low : w.heap.size ≤ D
  ap : D < m
theorem LwS.draw {w w1 w2 : World} {D m d d' : Nat} {k a : Int} (h : LwS w D m k a d w1) (hd : Deck w2 D d') (hg : w1.grownBy w2 (some D)) : LwS w D m k a d' w2 := ⟨below_deck h.bl hg h.low, hd, h.row.keep hg (fun e => by injection e; have := h.ap; omega), h.low, h.ap⟩
theorem LwS.below {w w1 w2 : World} {D m d : Nat} {k a : Int} (h : LwS w D m k a d w1) (hb : Below w1.heap.size w1 w2) : LwS w D m k a d w2 := ⟨below_after h.bl hb h.bl.size, h.deck.below hb, h.row.below hb h.row.lt, h.low, h.ap⟩
theorem LwS.alloc {w w1 : World} {D m d : Nat} {k a : Int} (h : LwS w D m k a d w1) (o : Obj) : LwS w D m k a d (w1.alloc o) := h.below ((Below.refl _ _).alloc (Nat.le_refl _) _)
theorem LwS.grow {w w1 w2 : World} {D m d : Nat} {k a : Int} {row : Option Nat} (h : LwS w D m k a d w1) (hg : w1.grownBy w2 row) (hr : ∀ g, row = some g → m < g) : LwS w D m k a d w2 :=
  ⟨h.bl.grown hg h.bl.size (fun g hk => by have := hr g hk; have := h.ap; have := h.low; omega), h.deck.keep hg (fun g hk => by have := hr g hk; have := h.ap; omega), h.row.keep hg (fun e => by have := hr m e.symm; omega), h.low, h.ap⟩
theorem LwS.facts {w w1 : World} {D m d : Nat} {k a : Int} (h : LwS w D m k a d w1) : w1.cell? ⟨m, 0, none⟩ = some (.int .i64 k) ∧ w1.cell? ⟨m, 1, none⟩ = some (.int .i64 a) ∧ m < w1.heap.size := ⟨h.row.cell 0, h.row.cell 1, h.row.lt⟩
theorem LwS.start {w w1 : World} {D d : Nat} (k a : Int) (hb : Below w.heap.size w w1) (hd : Deck w1 D d) (hl : w.heap.size ≤ D) : LwS w D w1.heap.size k a d (w1.alloc (.cells #[.int .i64 k, .int .i64 a] 34)) :=
  ⟨hb.alloc hb.size _, hd.below ((Below.refl _ _).alloc (Nat.le_refl _) _), Row.new _ _ _, hl, hd.lt⟩
end Go.Proofs.YtaafihdegnaokaaDoor
/- Append inside a region that draws its order: one step; worlds behind allocations in such a region. -/
namespace Go.Proofs.YtaafihdegnaokaaDoor
open Go.RowKit

theorem step_append_sl {P : Program} {w : World} {ops : Array Oper} {o : Oper} {a : Act} {K : Act → World → Prop} {Q : Exit → Act → World → Prop} {E : Prop} (hgd : o.guard = none) (s x : Operand) {t e : TypeId} {sz bytes : Nat}
    (ho : o.op = .call { callee := .builtin .append, args := #[s, x], argTypes := #[t, t] }) (hT : RowTy P t e sz bytes) (base : Nat)
    (v u : Value) (es fs : List (List Value)) (hs : a.eval s = v) (hown : Own w base e sz v es) (hx : a.eval x = u) (hsl : Sl w sz u fs) (hwd : Wide sz fs)
    (h63 : es.length + fs.length ≤ maxLen) (hbytes : (es.length + fs.length) * bytes ≤ 140737488355328) (hbase : base ≤ w.heap.size)
    (h : ∀ v' w', Own w' base e sz v' (es ++ fs) → w.grownBy w' v.ownBlock → (v'.ownBlock = v.ownBlock ∨ v'.ownBlock = some w.heap.size) → K (a.put o.dst v') w') :
    if Region.wanted o (yielded ops a.tmps) = true then Oper.wp P o a w K Q else E := by
  have hw : Region.wanted o (yielded ops a.tmps) = true := by simp [Region.wanted, hgd]
  rw [if_pos hw]
  obtain ⟨v', w', hrun, k1, k2, k3⟩ := run_append_sl (P := P) w hT o.type base v u es fs hown hsl hwd h63 hbytes hbase
  unfold Oper.wp execOp
  simp only [ho, resolve, invoke, builtin, Sem.run_bind, Sem.run_pure, Result.andThen_ok, List.map_toArray, List.map_cons, List.map_nil, hs, hx, hrun]
  exact h v' w' k1 k2 k3
theorem Own.drew {w : World} {base e sz : Nat} {v : Value} {es : List (List Value)} (h : Own w base e sz v es) : Own w.drew base e sz v es := h.kept (Below.refl _ _).drew
theorem own_none (w : World) (e : TypeId) (sz base n : Nat) (hn : w.heap.size = n) (hb : base ≤ n) : Own (w.alloc (.cells #[] e)) base e sz (.slice (some ⟨n, 0, none⟩) 0 0) [] := by
  subst hn
  exact ⟨⟨by simp, .inr ⟨_, 0, #[], rfl, hb, heap_alloc_new w _, Nat.le_refl _, by unfold maxLen; omega, by simp, by simp⟩⟩, Wide.nil sz⟩
theorem below_a0 (w : World) : Below w.heap.size w w.drew := (Below.refl _ _).drew
theorem below_a1 (w : World) (o : Obj) : Below w.heap.size w (w.alloc o).drew := ((Below.refl _ _).alloc (Nat.le_refl _) _).drew
theorem below_a2 (w : World) (o o' : Obj) : Below w.heap.size w ((w.alloc o).alloc o').drew := (((Below.refl _ _).alloc (Nat.le_refl _) _).alloc (by simp) _).drew
theorem Sl.apart {w w' : World} {sz b off n cap : Nat} {row : Option Nat} {es : List (List Value)} (h : Sl w sz (.slice (some ⟨b, off, none⟩) n cap) es) (hg : w.grownBy w' row) (hne : some b ≠ row) : Sl w' sz (.slice (some ⟨b, off, none⟩) n cap) es := by
  obtain ⟨A', cap', hv, h1, h2, h0, hc⟩ := h
  injection hv with hv1 hv2 hv3
  subst hv1 hv2 hv3
  refine ⟨_, _, rfl, h1, h2, h0, ?_⟩
  rcases hc with rfl | ⟨b', off', hA, hc⟩
  · exact .inl rfl
  · injection hA with hA
    injection hA with e1 e2
    subst e1 e2
    exact .inr ⟨_, _, rfl, Nat.lt_of_lt_of_le hc.1 hg.size, fun i e hi j u hj => (World.cell?_of_block (w := w) (a := ⟨b, _, none⟩) (hg.block b hc.1 hne)).trans (hc.2 i e hi j u hj)⟩
theorem apps {w0 w w' : World} {base e sz : Nat} {v : Value} {es : List (List Value)} (hb : Below base w0 w) (h : Own w base e sz v es) (hg : w.grownBy w' v.ownBlock) (hB : base ≤ w.heap.size) : Below base w0 w' := Own.grown h hb hg hB
end Go.Proofs.YtaafihdegnaokaaDoor
/- payrolllaw36.timelines: drawn timelines. -/
namespace Go.Proofs.YtaafihdegnaokaaDoor
open Go.RowKit

def mildT (c : Chg) : Prop := 0 ≤ c.f ∧ c.f < 400 ∧ 0 ≤ c.k ∧ c.k < 6 ∧ 0 ≤ c.v ∧ c.v < 3 ∧ (c.d = true → c.v = 0)
/-- a drawn timeline -/
def GoodT (l : List Chg) : Prop := l.length ≤ 4 ∧ ∀ c ∈ l, mildT c
theorem orL_all : ∀ {l : List Int}, (∀ x ∈ l, x = 0) → orL l = 0
  | [], _ => rfl
  | a :: r, h => by rw [orL, if_pos (h a (by simp))]; exact orL_all fun x hx => h x (by simp [hx])
theorem GoodT.valid {l : List Chg} (h : GoodT l) : validE l = 0 := by
  unfold validE
  rw [if_neg (by have := h.1; omega)]
  refine orL_all fun x hx => ?_
  obtain ⟨c, hc, rfl⟩ := List.mem_map.1 hx
  obtain ⟨h1, h2, h3, h4, h5, h6, h7⟩ := h.2 c hc
  unfold errC
  rw [if_pos (show rngC c from ⟨h1, by omega, h3, by omega, by omega, by omega⟩), if_neg (fun h' => h'.2 (h7 h'.1))]
def tlv (xs : List (Value × List Chg)) : List (List Value) := xs.map fun x => [x.1]
theorem tlv_len (xs : List (Value × List Chg)) : (tlv xs).length = xs.length := by simp [tlv]
theorem tlv_append (a b : List (Value × List Chg)) : tlv (a ++ b) = tlv a ++ tlv b := by simp [tlv]
theorem tlv_one (l : List Chg) (v : Value) (h : ∃ A n c, v = .slice A n c) : Wide 1 (tlv [(v, l)]) := fun x hx => by
  obtain ⟨A, n, c, rfl⟩ := h
  simp only [tlv, List.map_cons, List.map_nil, List.mem_singleton] at hx
  subst hx
  exact ⟨rfl, by simp [Value.oneCell']⟩
theorem rowTls : RowTy Tryd.prog 26 29 1 24 := by
  obtain ⟨i, hi, hz, hs, hb⟩ := info_parts (show (Tryd.prog.info? 29).map (fun i => (i.zero, i.size, i.bytes)) = some (some (.slice none 0 0), 1, 24) by kernel_rfl)
  exact ⟨Tryd.underlying26, ⟨i, _, hi, hz, hs, hb, rfl⟩, by omega⟩
/-- slices of two types lie in two blocks -/
theorem own_types {w : World} {b1 b2 e1 e2 s1 s2 : Nat} {v1 v2 : Value} {l1 l2 : List (List Value)} (h1 : Own w b1 e1 s1 v1 l1) (h2 : Own w b2 e2 s2 v2 l2) (he : e1 ≠ e2) : v1.ownBlock = none ∨ v1.ownBlock ≠ v2.ownBlock := by
  cases hv1 : v1.ownBlock with
  | none => exact .inl rfl
  | some g =>
    refine .inr fun e => ?_
    rcases h1.1.2 with ⟨rfl, _⟩ | ⟨g1, c1, cur1, rfl, _, hg1, _⟩
    · simp [Value.ownBlock] at hv1
    · rcases h2.1.2 with ⟨rfl, _⟩ | ⟨g2, c2, cur2, rfl, _, hg2, _⟩
      · simp [Value.ownBlock] at e
      · simp only [Value.ownBlock, Option.some.injEq] at hv1 e
        subst hv1
        rw [← e, hg1] at hg2
        simp only [Option.some.injEq, Obj.cells.injEq] at hg2
        exact he hg2.2.1
theorem Own.keepD2 {w w' : World} {base e sz D : Nat} {v : Value} {es : List (List Value)} (h : Own w base e sz v es) (hg : w.grownBy w' (Option.some D)) (hD : D < base) : Own w' base e sz v es :=
  h.keepG hg (by
    cases hv : v.ownBlock with
    | none => exact .inl rfl
    | some g => exact .inr fun e => by have := (h.1.lt g hv).1; injection e with e; omega)
/-- timelines of the call's own -/
structure TlsOwn (w : World) (base : Nat) (v : Value) (xs : List (Value × List Chg)) : Prop where
  own : Own w base 29 1 v (tlv xs)
  each : ∀ x ∈ xs, Own w base 28 4 x.1 (chgs x.2)
theorem TlsOwn.at {w : World} {base : Nat} {v : Value} {xs : List (Value × List Chg)} (h : TlsOwn w base v xs) : Tls w v xs := ⟨h.own.sl (by omega), fun x hx => (h.each x hx).sl (by omega)⟩
theorem TlsOwn.kept {w w' : World} {base : Nat} {v : Value} {xs : List (Value × List Chg)} (h : TlsOwn w base v xs) (hb : Below w.heap.size w w') : TlsOwn w' base v xs := ⟨h.own.kept hb, fun x hx => (h.each x hx).kept hb⟩
theorem TlsOwn.keepD {w w' : World} {base D : Nat} {v : Value} {xs : List (Value × List Chg)} (h : TlsOwn w base v xs) (hg : w.grownBy w' (some D)) (hD : D < base) : TlsOwn w' base v xs := ⟨h.own.keepD2 hg hD, fun x hx => (h.each x hx).keepD2 hg hD⟩
theorem TlsOwn.app {w W w' : World} {base : Nat} {v v' vl : Value} {xs : List (Value × List Chg)} {l : List Chg} (h : TlsOwn w base v xs) (hW : Below w.heap.size w W) (hl : Own w base 28 4 vl (chgs l))
    (ho : Own w' base 29 1 v' (tlv xs ++ tlv [(vl, l)])) (hg : W.grownBy w' v.ownBlock) : TlsOwn w' base v' (xs ++ [(vl, l)]) := by
  have h2 := h.kept hW
  refine ⟨by rw [tlv_append]; exact ho, fun x hx => ?_⟩
  rcases List.mem_append.1 hx with hx | hx
  · exact (h2.each x hx).keepG hg (own_types (h2.each x hx) h2.own (by decide))
  · rw [List.mem_singleton.1 hx]
    exact (hl.kept hW).keepG hg (own_types (hl.kept hW) h2.own (by decide))
/-- timelines have been drawn -/
def TlPost (w : World) (D dr : Nat) (e : Ending) (w' : World) : Prop :=
  ∃ (x : Value) (xs : List (Value × List Chg)) (d : Nat), e = .returned x ∧ (∀ y ∈ xs, GoodT y.2) ∧ xs.length ≤ 3 ∧ TlsOwn w' w.heap.size x xs ∧ Deck w' D d ∧ d ≤ dr + 100 ∧ w.grownBy w' (some D)
/-- where the outer loop stands -/
structure TlL (w : World) (D dr K : Nat) (x : Value) (k : Nat) (xs : List (Value × List Chg)) (d : Nat) (wr : World) : Prop where
  kl : k ≤ K
  good : ∀ y ∈ xs, GoodT y.2
  len : xs.length + k ≤ K
  own : TlsOwn wr w.heap.size x xs
  deck : Deck wr D d
  d : d ≤ dr + 1 + 17 * (K - k)
  grown : w.grownBy wr (some D)
set_option maxRecDepth 100000 in
set_option maxHeartbeats 8000000 in
theorem timelines_any (D dr : Nat) (w : World) (hd : Deck w D dr) (hdr : dr ≤ 1000000) :
    Calls Tryd.prog 13 #[.pointer (some ⟨D, 0, none⟩)] w (TlPost w D dr) := by
  have hD := hd.lt
  go_enter Tryd.func13, Tryd.ntmps13
  go_wp2_with fail
  refine (Next_any D dr _ _ hd (by omega) (by omega) (by omega)).mono ?_
  rintro e w1 ⟨r, ⟨hr1, hr2⟩, rfl, hd1, hg1⟩
  obtain ⟨K, rfl⟩ := Int.eq_ofNat_of_zero_le hr1
  have hK : K ≤ 3 := by omega
  have H0 : Hid (TlL w D dr K (.slice none 0 0) K [] (dr + 1) w1) := ⟨Nat.le_refl _, (fun y hy => by cases hy), by simp, ⟨Own.nil _ _ _ _, (fun p hp => by cases hp)⟩, hd1, by omega, hg1⟩
  clear hd hd1 hg1
  go_wp2_with fail
  go_loopw [3, 4] (fun x t wr => ∃ (k : Nat) (xs : List (Value × List Chg)) (d : Nat), t = .int .i64 k ∧ Hid (TlL w D dr K x k xs d wr)) (fun _ t _ => (intOf t).toNat)
  case atStart => exact ⟨K, [], dr + 1, rfl, H0.out⟩
  case round =>
    clear H0
    obtain ⟨k, xs, d, rfl, HL⟩ := hrel
    obtain ⟨wo, rfl⟩ : ∃ wo : World, wo = wr := ⟨_, rfl⟩
    have hk := HL.out.kl
    have hlen := HL.out.len
    by_cases hpos : 0 < k
    rotate_left
    · have dp : decide ((0 : Int) < (k : Int)) = false := decide_eq_false (by omega)
      have hk0 : k = 0 := by omega
      have hdd := HL.out.d
      go_wp2
      go_ret
      exact ⟨_, xs, d, rfl, HL.out.good, by omega, HL.out.own, HL.out.deck, by omega, HL.out.grown⟩
    have dp : decide ((0 : Int) < (k : Int)) = true := decide_eq_true (by omega)
    have hdd := HL.out.d
    have hDo := HL.out.deck.lt
    go_wp2_with fail
    refine (Next_any D d _ _ HL.out.deck (by omega) (by omega) (by omega)).mono ?_
    rintro e wm ⟨r, ⟨hm1, hm2⟩, rfl, hdm, hgm⟩
    obtain ⟨M, rfl⟩ := Int.eq_ofNat_of_zero_le hm1
    have h00 : Hid (([] : List Chg).length + M ≤ 4 ∧ (∀ y ∈ ([] : List Chg), mildT y) ∧ Own wm wo.heap.size 28 4 (.slice none 0 0) (chgs []) ∧ Deck wm D (d + 1) ∧ wo.grownBy wm (some D)) := ⟨by simp; omega, (fun y hy => by cases hy), Own.nil _ _ _ _, hdm, hgm⟩
    clear hdm hgm
    go_wp2_with fail
    go_loopw [5, 6] (fun v t wi => ∃ (m : Nat) (acc : List Chg) (di : Nat), m ≤ M ∧ t = .int .i64 m ∧ di ≤ d + 1 + 4 * (M - m) ∧ Hid (acc.length + m ≤ 4 ∧ (∀ y ∈ acc, mildT y) ∧ Own wi wo.heap.size 28 4 v (chgs acc) ∧ Deck wi D di ∧ wo.grownBy wi (some D))) (fun _ t _ => (intOf t).toNat)
    case atStart => exact ⟨M, [], d + 1, Nat.le_refl _, rfl, by omega, h00.out⟩
    case round =>
      clear h00
      obtain ⟨m, acc, di, hmM, rfl, hdi, HI⟩ := hrel
      obtain ⟨wi, rfl⟩ : ∃ wi : World, wi = wr := ⟨_, rfl⟩
      have hgi := HI.out.2.2.2.2.size
      by_cases hmp : 0 < m
      rotate_left
      · have dq : decide ((0 : Int) < (m : Int)) = false := decide_eq_false (by omega)
        have hm0 : m = 0 := by omega
        have hAL := HI.out.1
        have hgood : GoodT acc := ⟨by omega, HI.out.2.1⟩
        have hgo := HI.out.2.2.2.2
        have HO := Lib.hid (HL.out.own.keepD hgo hD)
        have hlo := HI.out.2.2.1.more (show w.heap.size ≤ wo.heap.size from HL.out.grown.size)
        obtain ⟨Aa, ca, rfl⟩ := hlo.form
        rw [chgs_len] at hlo ⊢
        have HLO := Lib.hid hlo
        have hG := gb_trans HL.out.grown hgo
        have hdk := HI.out.2.2.2.1
        have HGS : Hid (∀ y ∈ xs ++ [((Value.slice Aa acc.length ca), acc)], GoodT y.2) := fun y hy => by
          rcases List.mem_append.1 hy with hy | hy
          · exact HL.out.good y hy
          · rw [List.mem_singleton.1 hy]; exact hgood
        have hb5 : Below wi.heap.size wi (wi.alloc (.cells #[.slice Aa acc.length ca] 29)) := (Below.refl _ _).alloc (Nat.le_refl _) _
        have HONE : Hid (Sl (wi.alloc (.cells #[.slice Aa acc.length ca] 29)) 1 (.slice (some ⟨wi.heap.size, 0, none⟩) 1 1) (tlv [(.slice Aa acc.length ca, acc)])) := Sl.one rfl rfl
        have hwl := HL.out.grown.size
        obtain ⟨Ax, cx, rfl⟩ := HO.out.own.form
        have HX := Lib.hid HL.out.good
        clear HI hlo hgo HL hgood
        simp only [tlv_len]
        rw [tlv_len] at HO
        go_wp2_with (at_builtin; refine wpList_append_sl rfl (.tmp 37) (.tmp 39) rfl rowTls w.heap.size _ _ (tlv xs) (tlv [(.slice Aa acc.length ca, acc)]) rfl (HO.out.own.alloc _) rfl HONE.out (tlv_one _ _ ⟨_, _, _, rfl⟩) (by rw [tlv_len, tlv_len]; unfold maxLen; simp; omega) (by rw [tlv_len, tlv_len]; simp; omega) (by have := hb5.size; omega) ?_; intro v6 w6 hown6 hg6 _)
        have hR6 := HO.out.app hb5 HLO.out hown6 hg6
        have hlt6 := fun g hg => (HO.out.own.1.lt g hg).1
        have hG6 := gb_new (gb_below hG hb5) hg6 hlt6
        have hd6 := (hdk.below hb5).keep hg6 (fun g hg => Nat.lt_of_lt_of_le hD (hlt6 g hg))
        have HEND : Hid (TlL w D dr K v6 (k - 1) (xs ++ [(.slice Aa acc.length ca, acc)]) di w6) := ⟨by omega, HGS.out, by simp; omega, hR6, hd6, by omega, hG6⟩
        clear hR6 hG6 hd6 hown6 hg6 hG hdk HO HLO HONE hlt6 HX HGS hb5
        go_roundw
        case rel => exact ⟨k - 1, _, di, by go_num, HEND.out⟩
        case measure => simp [intOf]; omega
      have dq : decide ((0 : Int) < (m : Int)) = true := decide_eq_true (by omega)
      go_wp2_with fail
      refine (Next_any D di 400 wi HI.out.2.2.2.1 (by omega) (by omega) (by omega)).mono ?_
      rintro e w2 ⟨f, ⟨f0, f1⟩, rfl, hd2, hg2⟩
      go_wp2_with fail
      refine (Next_any D (di + 1) 6 w2 hd2 (by omega) (by omega) (by omega)).mono ?_
      rintro e w2b ⟨k, ⟨k0, k1⟩, rfl, hd2b, hg2b⟩
      go_wp2_with fail
      refine (Next_any D (di + 1 + 1) 3 w2b hd2b (by omega) (by omega) (by omega)).mono ?_
      rintro e w3 ⟨v, ⟨v0, v1⟩, rfl, hd3, hg3⟩
      go_wp2_with fail
      refine (Next_any D (di + 1 + 1 + 1) 6 w3 hd3 (by omega) (by omega) (by omega)).mono ?_
      rintro e w4 ⟨z, -, rfl, hd4, hg4⟩
      have hG4 := gb_trans (gb_trans (gb_trans (gb_trans HI.out.2.2.2.2 hg2) hg2b) hg3) hg4
      have HO4 := Lib.hid ((((HI.out.2.2.1.keepD2 hg2 hDo).keepD2 hg2b hDo).keepD2 hg3 hDo).keepD2 hg4 hDo)
      clear hd2 hg2 hd2b hg2b hd3 hg3 hg4
      by_cases hz : z = 0
      · subst hz
        have HGA : Hid (∀ y ∈ acc ++ [(⟨f, k, 0, true⟩ : Chg)], mildT y) := fun y hy => by
          rcases List.mem_append.1 hy with hy | hy
          · exact HI.out.2.1 y hy
          · rw [List.mem_singleton.1 hy]
            exact ⟨f0, f1, k0, k1, Int.le_refl 0, (show (0 : Int) < 3 by decide), fun _ => rfl⟩
        have HL2 : Hid ((acc ++ [(⟨f, k, 0, true⟩ : Chg)]).length + (m - 1) ≤ 4) := by
          have := HI.out.1
          simp only [Hid, List.length_append, List.length_cons, List.length_nil]; omega
        have HLT := Lib.hid (fun g hg => (HO4.out.1.lt g hg).1)
        have hal1 := HI.out.1
        clear HI
        go_wp2_with (at_builtin; refine wpList_append_sl rfl (.tmp 33) (.tmp 35) rfl rowChg wo.heap.size _ _ (chgs acc) [Chg.vals ⟨f, k, 0, true⟩] rfl ((HO4.out.alloc _).alloc _) rfl (Sl.one (World.size_alloc _ _) rfl) (chgs_wide [⟨f, k, 0, true⟩]) (by rw [chgs_len]; unfold maxLen; simp; omega) (by rw [chgs_len]; simp; omega) (by have := hG4.size; simp only [World.size_alloc]; omega) ?_; intro v6 w6 hown6 hg6 _)
        have hG6 := gb_new (gb_alloc (gb_alloc hG4 _) _) hg6 HLT.out
        have hd6 := ((hd4.below ((Below.refl w4.heap.size w4).alloc (Nat.le_refl _) _)).below ((Below.refl _ _).alloc (Nat.le_refl _) _)).keep hg6 (fun g hg => Nat.lt_of_lt_of_le hDo (HLT.out g hg))
        have HEND : Hid ((acc ++ [(⟨f, k, 0, true⟩ : Chg)]).length + (m - 1) ≤ 4 ∧ (∀ y ∈ acc ++ [(⟨f, k, 0, true⟩ : Chg)], mildT y) ∧ Own w6 wo.heap.size 28 4 v6 (chgs (acc ++ [(⟨f, k, 0, true⟩ : Chg)])) ∧ Deck w6 D (di + 1 + 1 + 1 + 1) ∧ wo.grownBy w6 (some D)) := ⟨HL2.out, HGA.out, by rw [chgs_append]; exact hown6, hd6, hG6⟩
        clear hG6 hd6 hown6 hg6 HL hG4 hd4 HO4 HLT HGA HL2
        go_roundw
        case rel => exact ⟨m - 1, _, di + 1 + 1 + 1 + 1, by omega, by go_num, by omega, HEND.out⟩
        case measure => simp [intOf]; omega
      · have mz : (z == 0) = false := by simpa using hz
        clear hz
        have HGA : Hid (∀ y ∈ acc ++ [(⟨f, k, v, false⟩ : Chg)], mildT y) := fun y hy => by
          rcases List.mem_append.1 hy with hy | hy
          · exact HI.out.2.1 y hy
          · rw [List.mem_singleton.1 hy]
            exact ⟨f0, f1, k0, k1, v0, v1, (fun h => by cases h)⟩
        have HL2 : Hid ((acc ++ [(⟨f, k, v, false⟩ : Chg)]).length + (m - 1) ≤ 4) := by
          have := HI.out.1
          simp only [Hid, List.length_append, List.length_cons, List.length_nil]; omega
        have HLT := Lib.hid (fun g hg => (HO4.out.1.lt g hg).1)
        have hal1 := HI.out.1
        clear HI
        go_wp2_with (at_builtin; refine wpList_append_sl rfl (.tmp 33) (.tmp 35) rfl rowChg wo.heap.size _ _ (chgs acc) [Chg.vals ⟨f, k, v, false⟩] rfl ((HO4.out.alloc _).alloc _) rfl (Sl.one (World.size_alloc _ _) rfl) (chgs_wide [⟨f, k, v, false⟩]) (by rw [chgs_len]; unfold maxLen; simp; omega) (by rw [chgs_len]; simp; omega) (by have := hG4.size; simp only [World.size_alloc]; omega) ?_; intro v6 w6 hown6 hg6 _)
        have hG6 := gb_new (gb_alloc (gb_alloc hG4 _) _) hg6 HLT.out
        have hd6 := ((hd4.below ((Below.refl w4.heap.size w4).alloc (Nat.le_refl _) _)).below ((Below.refl _ _).alloc (Nat.le_refl _) _)).keep hg6 (fun g hg => Nat.lt_of_lt_of_le hDo (HLT.out g hg))
        have HEND : Hid ((acc ++ [(⟨f, k, v, false⟩ : Chg)]).length + (m - 1) ≤ 4 ∧ (∀ y ∈ acc ++ [(⟨f, k, v, false⟩ : Chg)], mildT y) ∧ Own w6 wo.heap.size 28 4 v6 (chgs (acc ++ [(⟨f, k, v, false⟩ : Chg)])) ∧ Deck w6 D (di + 1 + 1 + 1 + 1) ∧ wo.grownBy w6 (some D)) := ⟨HL2.out, HGA.out, by rw [chgs_append]; exact hown6, hd6, hG6⟩
        clear hG6 hd6 hown6 hg6 HL hG4 hd4 HO4 HLT HGA HL2
        go_roundw
        case rel => exact ⟨m - 1, _, di + 1 + 1 + 1 + 1, by omega, by go_num, by omega, HEND.out⟩
        case measure => simp [intOf]; omega
end Go.Proofs.YtaafihdegnaokaaDoor
/- Plain: plans for two steps of knowledge together. -/
namespace Go.Proofs.YtaafihdegnaokaaDoor

theorem cnt_big {k a : Int} (h : CalOk k a) : 2760 ≤ cntP k a := by
  unfold cntP
  split
  · omega
  · split
    · omega
    · have := perS_le h
      rcases perL_cases k with e | e <;> rw [e] at this ⊢ <;> omega
/-- a drawn plan has no error -/
theorem good_dy {k a : Int} (h : CalOk k a) {f C : Nat} (hf : f ≤ C) (hC : C ≤ 100) : dyE k a f C = 0 := by
  have := cnt_big h
  exact (dy_good (sp_ok h (n := f) (by omega)).1 (sp_ok h (n := C) (by omega)).1 (by omega)).1
theorem good_ch {xs : List (Value × List Chg)} (hg : ∀ y ∈ xs, GoodT y.2) (hl : xs.length ≤ 3) {f t : Int} (h0 : 0 ≤ f) (h1 : f ≤ t) (h2 : t ≤ 84005) : chE (xs.map (·.2)) f t = 0 := by
  unfold chE
  rw [if_neg (by rw [List.length_map]; omega), if_neg (fun h => h ⟨h0, by omega, by omega, h2⟩), if_neg (by omega), firstE_zero]
  intro l hl
  obtain ⟨y, hy, rfl⟩ := List.mem_map.1 hl
  exact (hg y hy).valid
theorem good_pl {k a : Int} (h : CalOk k a) {xs : List (Value × List Chg)} (hg : ∀ y ∈ xs, GoodT y.2) (hl : xs.length ≤ 3) {f C : Nat} (hf : f ≤ C) (hC : C ≤ 100) : plE k a (xs.map (·.2)) f C = 0 := by
  have hd := good_dy h hf hC
  rw [plE_chg _ hd]
  have hr := dy_range hd
  exact good_ch hg hl hr.1 hr.2.1 hr.2.2
theorem plB_le {k a : Int} {ls : List (List Chg)} {n m f c : Int} (h : dyE k a f c = 0) : f ≤ plB k a ls n m f c ∧ plB k a ls n m f c ≤ c := by
  have hfc := (dyE_ok h).2.2.1
  cases hJ : chgJ ls n m (spLo k a f) (spHi k a c) with
  | nil => rw [plB_nil hJ]; exact ⟨hfc, Int.le_refl _⟩
  | cons p J =>
    rw [plB_cons hJ]
    have hin := chgJ_in (xs := ls) (a := n) (b := m) (dy_range h).2.1 (p := p) (by rw [hJ]; simp)
    obtain ⟨_, n', _, hv, h5, h6⟩ := aff_first h hin.1 hin.2.1 hin.2.2
    omega
/-- a day that differs bounds the plan's first period -/
theorem plB_day {k a : Int} {ls : List (List Chg)} {n m f c d : Int} (h : dyE k a f c = 0) (h0 : spLo k a f ≤ d) (h1 : d ≤ spHi k a c) (hd : DifAt ls n m d) : plB k a ls n m f c ≤ ofV k a d := by
  have hr := dy_range h
  obtain ⟨hcan, hcov⟩ := chgJ_ok ls n m hr.2.1
  have hc := (hcov d).2 ⟨h0, h1, hd⟩
  cases hJ : chgJ ls n m (spLo k a f) (spHi k a c) with
  | nil => rw [hJ] at hc; exact absurd hc (cov_nil d)
  | cons p J =>
    rw [plB_cons hJ]
    rw [hJ] at hc hcan
    have hin := chgJ_in (xs := ls) (a := n) (b := m) hr.2.1 (p := p) (by rw [hJ]; simp)
    have hpd : p.1 ≤ d := by
      rcases (cov_cons p J d).1 hc with h' | h'
      · exact h'.1
      · have := hcan.above h'; omega
    exact of_mono (dyE_ok h).1 (by omega) hpd (by omega)
theorem plB_cover {k a : Int} {ls : List (List Chg)} {x y z f c : Int} (h : dyE k a f c = 0) : min (plB k a ls x y f c) (plB k a ls y z f c) ≤ plB k a ls x z f c := by
  have hr := dy_range h
  cases hJ : chgJ ls x z (spLo k a f) (spHi k a c) with
  | nil =>
    rw [plB_nil hJ]
    have := plB_le (ls := ls) (n := x) (m := y) h
    omega
  | cons p J =>
    have hin := chgJ_in (xs := ls) (a := x) (b := z) hr.2.1 (p := p) (by rw [hJ]; simp)
    obtain ⟨_, hcov⟩ := chgJ_ok ls x z hr.2.1
    obtain ⟨_, _, l, hl, hne⟩ := (hcov p.1).1 (by rw [hJ]; exact ⟨p, by simp, Int.le_refl _, hin.2.1⟩)
    rw [plB_cons hJ]
    by_cases h1 : valD (inC l x) p.1 = valD (inC l y) p.1
    · have := plB_day (n := y) (m := z) h hin.1 (by omega : p.1 ≤ spHi k a c) ⟨l, hl, fun e => hne (h1.trans e)⟩
      omega
    · have := plB_day (n := x) (m := y) h hin.1 (by omega : p.1 ≤ spHi k a c) ⟨l, hl, h1⟩
      omega
theorem plB_same {k a : Int} {ls : List (List Chg)} {x f c : Int} (h : dyE k a f c = 0) : plB k a ls x x f c = c := by
  obtain ⟨hcan, hcov⟩ := chgJ_ok ls x x (dy_range h).2.1
  cases hJ : chgJ ls x x (spLo k a f) (spHi k a c) with
  | nil => exact plB_nil hJ
  | cons p J =>
    have hin := chgJ_in (xs := ls) (a := x) (b := x) (dy_range h).2.1 (p := p) (by rw [hJ]; simp)
    obtain ⟨_, _, l, _, hne⟩ := (hcov p.1).1 (by rw [hJ]; exact ⟨p, by simp, Int.le_refl _, hin.2.1⟩)
    exact absurd rfl hne
theorem plL_at (b : Int) {N i : Nat} (h : i < (plL b N).length) : (plL b N)[i] = b + (i : Int) := by simp [plL]
end Go.Proofs.YtaafihdegnaokaaDoor
/- Plain: what the limits of retro come to. -/
namespace Go.Proofs.YtaafihdegnaokaaDoor

def lmC : Chg := ⟨40, 1, 1, false⟩
def lmL (j : Nat) : List (List Chg) := List.replicate (j - 1) [] ++ [[lmC]]
theorem lm_sp3 : spE 0 0 3 = 0 ∧ spHi 0 0 3 = 119 := by
  obtain ⟨h1, _, h3⟩ := sp_ok calOk00 (n := 3) (by decide)
  exact ⟨h1, h3.trans (by decide +kernel)⟩
theorem lm_sp2 : spE 0 0 2 = 0 ∧ spHi 0 0 2 = 89 := by
  obtain ⟨h1, _, h3⟩ := sp_ok calOk00 (n := 2) (by decide)
  exact ⟨h1, h3.trans (by decide +kernel)⟩
theorem lm_dy3 : dyE 0 0 0 3 = 0 := (dy_good ex_sp0.1 lm_sp3.1 (by decide)).1
theorem lm_dy2 : dyE 0 0 0 2 = 0 := (dy_good ex_sp0.1 lm_sp2.1 (by decide)).1
theorem lm_per : IsPer 0 0 40 1 := ⟨by decide +kernel, by decide +kernel⟩
theorem lm_of : ofV 0 0 40 = 1 := (of_yes (n := 1) calOk00 (by decide) (by decide) lm_per).1
theorem lm_affE {k : Nat} : affE 0 0 (List.replicate k (40, 50)) 0 3 = if 1024 < k then 3 else 0 := by
  unfold affE
  rw [if_neg (by simp [lm_dy3]), List.length_replicate]
  split
  · rfl
  · rw [if_pos]
    rw [List.all_eq_true]
    intro r hr
    rw [(List.mem_replicate.1 hr).2]
    decide
theorem lm_aff_big {k : Nat} (h : 1024 < k) : affE 0 0 (List.replicate k (40, 50)) 0 3 = 3 ∧ affO 0 0 (List.replicate k (40, 50)) 0 3 = none := by
  have e : affE 0 0 (List.replicate k (40, 50)) 0 3 = 3 := by rw [lm_affE, if_pos h]
  exact ⟨e, affO_err (by rw [e]; decide)⟩
theorem lm_aff {k : Nat} (h0 : 0 < k) (h : ¬ 1024 < k) : affE 0 0 (List.replicate k (40, 50)) 0 3 = 0 ∧ affO 0 0 (List.replicate k (40, 50)) 0 3 = some 1 := by
  have e : affE 0 0 (List.replicate k (40, 50)) 0 3 = 0 := by rw [lm_affE, if_neg h]
  refine ⟨e, affO_some e (by decide) (by decide) ⟨(40, 50), List.mem_replicate.2 ⟨by omega, rfl⟩, by decide +kernel, by decide +kernel⟩ fun m m0 m1 => ?_⟩
  rintro ⟨r, hr, h1, h2⟩
  rw [(List.mem_replicate.1 hr).2] at h1 h2
  obtain rfl : m = 0 := by omega
  exact absurd h1 (by decide +kernel)
theorem lm_all (j : Nat) (t : Int) (h : rngD [lmC] 0 1 0 t = [(40, t)]) (h0 : rngD [] 0 1 0 t = []) : allD (lmL j) 0 1 0 t = [(40, t)] := by
  unfold allD lmL
  rw [List.flatMap_append]
  have key : ∀ n, (List.replicate n ([] : List Chg)).flatMap (fun l => rngD l 0 1 0 t) = [] := by
    intro n
    induction n with
    | zero => rfl
    | succ n ih => rw [List.replicate_succ, List.flatMap_cons, ih, h0]; rfl
  rw [key]
  simpa using h
theorem lm_J (j : Nat) (t : Int) (ht : 40 ≤ t) (h : rngD [lmC] 0 1 0 t = [(40, t)]) (h0 : rngD [] 0 1 0 t = []) : chgJ (lmL j) 0 1 0 t = [(40, t)] :=
  (chgJ_unique (by omega) ⟨fun p hp => by rw [List.mem_singleton.1 hp]; exact ht, by simp⟩ fun d => by rw [lm_all j t h h0]).symm
theorem lm_len {j : Nat} (h : 0 < j) : (lmL j).length = j := by simp [lmL]; omega
theorem lm_chE {j : Nat} (h : 0 < j) {t : Int} (h0 : 0 ≤ t) (h1 : t ≤ 84005) : chE (lmL j) 0 t = if 64 < j then 3 else 0 := by
  unfold chE
  rw [lm_len h]
  split
  · rfl
  · rw [if_neg (by omega), if_neg (by omega), firstE_zero]
    intro l hl
    rcases List.mem_append.1 hl with hl | hl
    · rw [(List.mem_replicate.1 hl).2]; decide
    · rw [List.mem_singleton.1 hl]; decide
theorem lm_ch_big {j : Nat} (h : 64 < j) : chE (lmL j) 0 50 = 3 ∧ chO (lmL j) 0 1 0 50 = [] := by
  have e : chE (lmL j) 0 50 = 3 := by rw [lm_chE (by omega) (by omega) (by omega), if_pos h]
  exact ⟨e, by unfold chO; rw [if_neg (by rw [e]; decide)]⟩
theorem lm_ch {j : Nat} (h0 : 0 < j) (h : ¬ 64 < j) : chE (lmL j) 0 50 = 0 ∧ chO (lmL j) 0 1 0 50 = [(40, 50)] := by
  have e : chE (lmL j) 0 50 = 0 := by rw [lm_chE h0 (by omega) (by omega), if_neg h]
  exact ⟨e, by unfold chO; rw [if_pos e]; exact lm_J j 50 (by decide) (by decide +kernel) (by decide +kernel)⟩
theorem lm_pl_big {j : Nat} (h : 64 < j) : plE 0 0 (lmL j) 0 2 = 3 ∧ plO 0 0 (lmL j) 0 1 0 2 = [] := by
  have e : plE 0 0 (lmL j) 0 2 = 3 := by rw [plE_chg _ lm_dy2, ex_sp0.2, lm_sp2.2, lm_chE (by omega) (by omega) (by omega), if_pos h]
  exact ⟨e, (pl_err e (by decide)).1⟩
theorem lm_pl {j : Nat} (h0 : 0 < j) (h : ¬ 64 < j) : plE 0 0 (lmL j) 0 2 = 0 ∧ plO 0 0 (lmL j) 0 1 0 2 = [1, 2] := by
  have e : plE 0 0 (lmL j) 0 2 = 0 := by rw [plE_chg _ lm_dy2, ex_sp0.2, lm_sp2.2, lm_chE h0 (by omega) (by omega), if_neg h]
  have hb : plB 0 0 (lmL j) 0 1 0 2 = 1 := by
    have hJ : chgJ (lmL j) 0 1 (spLo 0 0 0) (spHi 0 0 2) = (40, 89) :: [] := by rw [ex_sp0.2, lm_sp2.2]; exact lm_J j 89 (by decide) (by decide +kernel) (by decide +kernel)
    rw [plB_cons hJ]
    exact lm_of
  exact ⟨e, (pl_good e hb).1.trans (by decide)⟩
/-- i ranges written, the others empty -/
def limR (k i : Nat) : List (Int × Int) := List.replicate i (40, 50) ++ List.replicate (k - i) (0, 0)
theorem limR_len {k i : Nat} (h : i ≤ k) : (limR k i).length = k := by simp [limR]; omega
theorem limR_step {k i : Nat} (h : i < k) : (limR k i).set i (40, 50) = limR k (i + 1) := by
  unfold limR
  rw [List.set_append_right _ _ (by simp), List.length_replicate, Nat.sub_self, List.replicate_succ', List.append_assoc]
  obtain ⟨n, hn⟩ : ∃ n, k - i = n + 1 := ⟨k - i - 1, by omega⟩
  rw [hn, show k - (i + 1) = n by omega, List.replicate_succ, List.set_cons_zero]; rfl
theorem limR_full (k : Nat) : limR k k = List.replicate k (40, 50) := by simp [limR]
end Go.Proofs.YtaafihdegnaokaaDoor
/- Opening a law's arguments: slices, numbers. -/
namespace Go.Proofs.YtaafihdegnaokaaDoor
open Go.ChangeShapes Go.WideShapes Go.ChangeAt Go.RowKit Go.Deep

section
variable {H : Type} {enc : TypeId × Value → H} {P : Program} {w : World} {base b0 : Nat} {spare : Nat → Bool} {held : Bool} {r : Reach}
/-- a slice whose elements open as f x -/
theorem open_sl {α : Type} [Inhabited α] (f : α → List Value) {t e : TypeId} {sz : Nat} {v : Value} {d : DataW H} {ps : List MemPlace} (ht : P.underlying t = some (.slice e)) (hc : P.cellsOf e = sz) (hsz : 0 < sz)
    (hval : Value.okWide P w r b0 t v) (hd : DataW.Trod enc P w base spare held t v d ps) (hf : ∀ n cs y, DataW.trod enc P w base spare held n e cs = some y → ∃ x, cs = f x) :
    ∃ l : List α, Sl w sz v (l.map f) := by
  obtain ⟨A, len, cap, rfl⟩ := okWide_slice ht hval
  obtain ⟨fuel, hd⟩ := hd
  rcases open_slice ht hd with ⟨h0, _⟩ | ⟨a, len', cap', m, n, D, Pl, h0, hb, hl, hm, hmm, _, hx⟩
  · simp [Value.cells] at h0
    obtain ⟨rfl, rfl, rfl⟩ := h0
    exact ⟨[], Sl.nil _ _⟩
  · simp [Value.cells] at h0
    obtain ⟨rfl, rfl, rfl⟩ := h0
    have hlm : len ≤ m := by rw [hmm]; split <;> omega
    obtain ⟨V, hV⟩ := choose_lt (α := α) (n := len) (p := fun i x => w.cells? base (a.add (i * sz)) sz = some (f x)) (fun i hi => by
      obtain ⟨cs', h1, h2⟩ := hx i (by omega)
      obtain ⟨x, rfl⟩ := hf _ _ _ h2
      rw [hc] at h1
      exact ⟨x, h1⟩)
    refine ⟨(List.range len).map V, some a, cap, by simp, by simpa using hl, hm, (fun h => by cases h), ?_⟩
    by_cases hz : len = 0
    · left; subst hz; rfl
    · right
      have g0 := hV 0 (by omega)
      obtain ⟨_, hl0, hc0⟩ := World.cells?_some g0
      have h00 := hc0 0 hsz
      obtain ⟨u0, hu0⟩ : ∃ u, (f (V 0))[0]? = some u := ⟨_, List.getElem?_eq_getElem (by omega)⟩
      rw [hu0] at h00
      obtain ⟨b, off, spot⟩ := a
      have hspot : spot = none := by simpa [Addr.add] using World.cell?_spot h00
      subst hspot
      refine ⟨b, off, rfl, ?_, fun i x hi j u hj => ?_⟩
      · rcases Nat.lt_or_ge b w.heap.size with hlt | hge
        · exact hlt
        · simp [Addr.add, World.cell?, Array.getElem?_eq_none hge] at h00
      · simp only [List.getElem?_map, Option.map_eq_some_iff] at hi
        obtain ⟨y, ⟨k, hk, rfl⟩, rfl⟩ := hi
        obtain ⟨hi1, hi2⟩ := List.getElem?_eq_some_iff.1 hk
        simp only [List.length_range, List.getElem_range] at hi1 hi2
        subst hi2
        obtain ⟨_, hl1, hc1⟩ := World.cells?_some (hV i hi1)
        have hj1 : j < sz := by have := (List.getElem?_eq_some_iff.1 hj).1; omega
        have := hc1 j hj1
        rw [hj] at this
        rw [← this]
        congr 1
        by_cases q1 : i * sz = 0 <;> by_cases q2 : j = 0 <;> simp [Addr.add, q1, q2] <;> omega
end
section
variable {H : Type} {enc : TypeId × Value → H} {w : World} {base b0 : Nat} {spare : Nat → Bool} {held : Bool} {r : Reach}
set_option maxRecDepth 100000 in
theorem cellsInt : Tryd.prog.cellsOf 3 = 1 := by kernel_rfl
set_option maxRecDepth 100000 in
theorem open_intsL {v : Value} {d : DataW H} {ps : List MemPlace} (hval : Value.okWide Tryd.prog w r b0 38 v) (hd : DataW.Trod enc Tryd.prog w base spare held 38 v d ps) :
    ∃ zs : List Int, Sl w 1 v (ints zs) := by
  refine open_sl (fun z : Int => [.int .i64 z]) Tryd.underlying38 cellsInt (by omega) hval hd fun n cs y h => ?_
  obtain ⟨z, rfl, _⟩ := DataW.trod_int Tryd.underlying3 h
  exact ⟨z, rfl⟩
/-- one field of a struct -/
theorem field_ofL {fs : Array Field} {xs : List (DataW H × List MemPlace)} {m : Nat} {cs : List Value} (hlen : xs.length = fs.size) (hf : ∀ (i : Nat) (f : Field), fs[i]? = some f → DataW.trod enc Tryd.prog w base spare held m f.type ((cs.drop f.offset).take (Tryd.prog.cellsOf f.type)) = xs[i]?)
    (i : Nat) (t : TypeId) (off c : Nat) (h : (fs[i]?).map (fun f => (f.type, f.offset)) = some (t, off)) (hc : Tryd.prog.cellsOf t = c) : ∃ y, DataW.trod enc Tryd.prog w base spare held m t ((cs.drop off).take c) = some y := by
  obtain ⟨f, hi, he⟩ := Option.map_eq_some_iff.1 h
  injection he with h1 h2
  subst h1 h2 hc
  have hl : i < xs.length := by rw [hlen]; exact (Array.getElem?_eq_some_iff.1 hi).1
  exact ⟨xs[i], by rw [hf i f hi, List.getElem?_eq_getElem hl]⟩
end
theorem wf_in {n : Int} (h : (Lit.int .i64 n).wf = true) : -9223372036854775808 ≤ n ∧ n ≤ 9223372036854775807 := by
  simp only [Lit.wf, Bool.and_eq_true, decide_eq_true_eq] at h
  have e1 : IntKind.i64.min = -9223372036854775808 := rfl
  have e2 : IntKind.i64.max = 9223372036854775807 := rfl
  omega
end Go.Proofs.YtaafihdegnaokaaDoor
/- Opening a law's arguments: slices of changes. -/
namespace Go.Proofs.YtaafihdegnaokaaDoor
open Go.ChangeShapes Go.WideShapes Go.ChangeAt Go.RowKit Go.Deep

section
variable {H : Type} {enc : TypeId × Value → H} {w : World} {base b0 : Nat} {spare : Nat → Bool} {held : Bool} {r : Reach}
set_option maxRecDepth 100000 in
theorem cellsChg : Tryd.prog.cellsOf 28 = 4 ∧ Tryd.prog.cellsOf 4 = 1 := ⟨by kernel_rfl, by kernel_rfl⟩
set_option maxRecDepth 100000 in
theorem cells_chg {n : Nat} {cs : List Value} {y : DataW H × List MemPlace} (h : DataW.trod enc Tryd.prog w base spare held n 28 cs = some y) : ∃ x : Chg, cs = x.vals := by
  obtain ⟨xs, m, _, rfl, hl, hlen, hf⟩ := DataW.trod_struct Tryd.underlying28 h
  have hl' : cs.length = 4 := hl.trans cellsChg.1
  match cs, hl' with
  | [c0, c1, c2, c3], _ =>
    obtain ⟨y0, h0⟩ := field_ofL hlen hf 0 3 0 1 rfl cellsInt
    obtain ⟨y1, h1⟩ := field_ofL hlen hf 1 3 1 1 rfl cellsInt
    obtain ⟨y2, h2⟩ := field_ofL hlen hf 2 3 2 1 rfl cellsInt
    obtain ⟨y3, h3⟩ := field_ofL hlen hf 3 4 3 1 rfl cellsChg.2
    obtain ⟨a, e0, _⟩ := DataW.trod_int Tryd.underlying3 h0
    obtain ⟨b, e1, _⟩ := DataW.trod_int Tryd.underlying3 h1
    obtain ⟨c, e2, _⟩ := DataW.trod_int Tryd.underlying3 h2
    obtain ⟨d, e3, _⟩ := DataW.trod_bool Tryd.underlying4 h3
    simp at e0 e1 e2 e3
    subst e0 e1 e2 e3
    exact ⟨⟨a, b, c, d⟩, rfl⟩
set_option maxRecDepth 100000 in
theorem open_chgs {v : Value} {d : DataW H} {ps : List MemPlace} (hval : Value.okWide Tryd.prog w r b0 29 v) (hd : DataW.Trod enc Tryd.prog w base spare held 29 v d ps) :
    ∃ l : List Chg, Sl w 4 v (chgs l) :=
  open_sl Chg.vals Tryd.underlying29 cellsChg.1 (by omega) hval hd fun _n _cs _y h => cells_chg h
end
end Go.Proofs.YtaafihdegnaokaaDoor
/- Opening a law's arguments: slices of slices of changes, ranges, pay calendars. -/
namespace Go.Proofs.YtaafihdegnaokaaDoor
open Go.ChangeShapes Go.WideShapes Go.ChangeAt Go.RowKit Go.Deep

section
variable {H : Type} {enc : TypeId × Value → H} {P : Program} {w : World} {base b0 : Nat} {spare : Nat → Bool} {held : Bool} {r : Reach}
/-- a slice whose elements open as f x with Q x -/
theorem open_slP {α : Type} [Inhabited α] (f : α → List Value) (Q : α → Prop) {t e : TypeId} {sz : Nat} {v : Value} {d : DataW H} {ps : List MemPlace} (ht : P.underlying t = some (.slice e)) (hc : P.cellsOf e = sz) (hsz : 0 < sz)
    (hval : Value.okWide P w r b0 t v) (hd : DataW.Trod enc P w base spare held t v d ps) (hf : ∀ n cs y, DataW.trod enc P w base spare held n e cs = some y → ∃ x, Q x ∧ cs = f x) :
    ∃ l : List α, Sl w sz v (l.map f) ∧ ∀ x ∈ l, Q x := by
  obtain ⟨A, len, cap, rfl⟩ := okWide_slice ht hval
  obtain ⟨fuel, hd⟩ := hd
  rcases open_slice ht hd with ⟨h0, _⟩ | ⟨a, len', cap', m, n, D, Pl, h0, hb, hl, hm, hmm, _, hx⟩
  · simp [Value.cells] at h0
    obtain ⟨rfl, rfl, rfl⟩ := h0
    exact ⟨[], Sl.nil _ _, fun _ h => by cases h⟩
  · simp [Value.cells] at h0
    obtain ⟨rfl, rfl, rfl⟩ := h0
    have hlm : len ≤ m := by rw [hmm]; split <;> omega
    obtain ⟨V, hV⟩ := choose_lt (α := α) (n := len) (p := fun i x => w.cells? base (a.add (i * sz)) sz = some (f x) ∧ Q x) (fun i hi => by
      obtain ⟨cs', h1, h2⟩ := hx i (by omega)
      obtain ⟨x, hq, rfl⟩ := hf _ _ _ h2
      rw [hc] at h1
      exact ⟨x, h1, hq⟩)
    refine ⟨(List.range len).map V, ⟨some a, cap, by simp, by simpa using hl, hm, (fun h => by cases h), ?_⟩, fun x hx => by
      obtain ⟨i, hi, rfl⟩ := List.mem_map.1 hx
      exact (hV i (List.mem_range.1 hi)).2⟩
    by_cases hz : len = 0
    · left; subst hz; rfl
    · right
      have g0 := (hV 0 (by omega)).1
      obtain ⟨_, hl0, hc0⟩ := World.cells?_some g0
      have h00 := hc0 0 hsz
      obtain ⟨u0, hu0⟩ : ∃ u, (f (V 0))[0]? = some u := ⟨_, List.getElem?_eq_getElem (by omega)⟩
      rw [hu0] at h00
      obtain ⟨b, off, spot⟩ := a
      have hspot : spot = none := by simpa [Addr.add] using World.cell?_spot h00
      subst hspot
      refine ⟨b, off, rfl, ?_, fun i x hi j u hj => ?_⟩
      · rcases Nat.lt_or_ge b w.heap.size with hlt | hge
        · exact hlt
        · simp [Addr.add, World.cell?, Array.getElem?_eq_none hge] at h00
      · simp only [List.getElem?_map, Option.map_eq_some_iff] at hi
        obtain ⟨y, ⟨k, hk, rfl⟩, rfl⟩ := hi
        obtain ⟨hi1, hi2⟩ := List.getElem?_eq_some_iff.1 hk
        simp only [List.length_range, List.getElem_range] at hi1 hi2
        subst hi2
        obtain ⟨_, hl1, hc1⟩ := World.cells?_some (hV i hi1).1
        have hj1 : j < sz := by have := (List.getElem?_eq_some_iff.1 hj).1; omega
        have := hc1 j hj1
        rw [hj] at this
        rw [← this]
        congr 1
        by_cases q1 : i * sz = 0 <;> by_cases q2 : j = 0 <;> simp [Addr.add, q1, q2] <;> omega
/-- a slice whose elements open as f x, read off its one cell -/
theorem open_slc {α : Type} [Inhabited α] (f : α → List Value) {t e : TypeId} {sz fuel : Nat} {cs : List Value} {x : DataW H × List MemPlace} (ht : P.underlying t = some (.slice e)) (hc : P.cellsOf e = sz) (hsz : 0 < sz)
    (hd : DataW.trod enc P w base spare held fuel t cs = some x) (hf : ∀ n cs y, DataW.trod enc P w base spare held n e cs = some y → ∃ x, cs = f x) :
    ∃ v, ∃ l : List α, cs = [v] ∧ Sl w sz v (l.map f) := by
  rcases open_slice ht hd with ⟨rfl, _⟩ | ⟨a, len, cap, m, n, D, Pl, rfl, hb, hl, hm, hmm, _, hx⟩
  · exact ⟨_, [], rfl, Sl.nil _ _⟩
  · have hlm : len ≤ m := by rw [hmm]; split <;> omega
    obtain ⟨V, hV⟩ := choose_lt (α := α) (n := len) (p := fun i x => w.cells? base (a.add (i * sz)) sz = some (f x)) (fun i hi => by
      obtain ⟨cs', h1, h2⟩ := hx i (by omega)
      obtain ⟨x, rfl⟩ := hf _ _ _ h2
      rw [hc] at h1
      exact ⟨x, h1⟩)
    refine ⟨_, (List.range len).map V, rfl, some a, cap, by simp, by simpa using hl, hm, (fun h => by cases h), ?_⟩
    by_cases hz : len = 0
    · left; subst hz; rfl
    · right
      have g0 := hV 0 (by omega)
      obtain ⟨_, hl0, hc0⟩ := World.cells?_some g0
      have h00 := hc0 0 hsz
      obtain ⟨u0, hu0⟩ : ∃ u, (f (V 0))[0]? = some u := ⟨_, List.getElem?_eq_getElem (by omega)⟩
      rw [hu0] at h00
      obtain ⟨b, off, spot⟩ := a
      have hspot : spot = none := by simpa [Addr.add] using World.cell?_spot h00
      subst hspot
      refine ⟨b, off, rfl, ?_, fun i x hi j u hj => ?_⟩
      · rcases Nat.lt_or_ge b w.heap.size with hlt | hge
        · exact hlt
        · simp [Addr.add, World.cell?, Array.getElem?_eq_none hge] at h00
      · simp only [List.getElem?_map, Option.map_eq_some_iff] at hi
        obtain ⟨y, ⟨k, hk, rfl⟩, rfl⟩ := hi
        obtain ⟨hi1, hi2⟩ := List.getElem?_eq_some_iff.1 hk
        simp only [List.length_range, List.getElem_range] at hi1 hi2
        subst hi2
        obtain ⟨_, hl1, hc1⟩ := World.cells?_some (hV i hi1)
        have hj1 : j < sz := by have := (List.getElem?_eq_some_iff.1 hj).1; omega
        have := hc1 j hj1
        rw [hj] at this
        rw [← this]
        congr 1
        by_cases q1 : i * sz = 0 <;> by_cases q2 : j = 0 <;> simp [Addr.add, q1, q2] <;> omega
end
section
variable {H : Type} {enc : TypeId × Value → H} {w : World} {base b0 : Nat} {spare : Nat → Bool} {held : Bool} {r : Reach}
set_option maxRecDepth 100000 in
theorem cellsRng : Tryd.prog.cellsOf 25 = 2 := by kernel_rfl
set_option maxRecDepth 100000 in
theorem cellsChgs : Tryd.prog.cellsOf 29 = 1 := by kernel_rfl
set_option maxRecDepth 100000 in
theorem cells_rng {n : Nat} {cs : List Value} {y : DataW H × List MemPlace} (h : DataW.trod enc Tryd.prog w base spare held n 25 cs = some y) : ∃ x : Int × Int, cs = prV x := by
  obtain ⟨xs, m, _, rfl, hl, hlen, hf⟩ := DataW.trod_struct Tryd.underlying25 h
  have hl' : cs.length = 2 := hl.trans cellsRng
  match cs, hl' with
  | [c0, c1], _ =>
    obtain ⟨y0, h0⟩ := field_ofL hlen hf 0 3 0 1 rfl cellsInt
    obtain ⟨y1, h1⟩ := field_ofL hlen hf 1 3 1 1 rfl cellsInt
    obtain ⟨a, e0, _⟩ := DataW.trod_int Tryd.underlying3 h0
    obtain ⟨b, e1, _⟩ := DataW.trod_int Tryd.underlying3 h1
    simp at e0 e1
    subst e0 e1
    exact ⟨⟨a, b⟩, rfl⟩
set_option maxRecDepth 100000 in
theorem open_rngs {v : Value} {d : DataW H} {ps : List MemPlace} (hval : Value.okWide Tryd.prog w r b0 23 v) (hd : DataW.Trod enc Tryd.prog w base spare held 23 v d ps) :
    ∃ l : List (Int × Int), Sl w 2 v (prs l) :=
  open_sl prV Tryd.underlying23 cellsRng (by omega) hval hd fun _n _cs _y h => cells_rng h
set_option maxRecDepth 100000 in
theorem open_tls {v : Value} {d : DataW H} {ps : List MemPlace} (hval : Value.okWide Tryd.prog w r b0 26 v) (hd : DataW.Trod enc Tryd.prog w base spare held 26 v d ps) :
    ∃ xs : List (Value × List Chg), Tls w v xs := by
  obtain ⟨l, h1, h2⟩ := open_slP (fun x : Value × List Chg => [x.1]) (fun x => Sl w 4 x.1 (chgs x.2)) Tryd.underlying26 cellsChgs (by omega) hval hd fun n cs y h => by
    obtain ⟨v, l, rfl, hs⟩ := open_slc Chg.vals Tryd.underlying29 cellsChg.1 (by omega) h fun _ _ _ h => cells_chg h
    exact ⟨(v, l), hs, rfl⟩
  exact ⟨l, h1, h2⟩
set_option maxRecDepth 100000 in
theorem open_cal {v : Value} {d : DataW H} {ps : List MemPlace} (hval : Value.okWide Tryd.prog w r b0 34 v) (hd : DataW.Trod enc Tryd.prog w base spare held 34 v d ps) :
    ∃ a b : Int, v = .agg #[.int .i64 a, .int .i64 b] ∧ (-9223372036854775808 ≤ a ∧ a ≤ 9223372036854775807) ∧ (-9223372036854775808 ≤ b ∧ b ≤ 9223372036854775807) := by
  obtain ⟨cs, rfl, hsz⟩ := okWide_struct Tryd.underlying34 hval
  obtain ⟨n, h⟩ := hd
  obtain ⟨xs, m, _, _, hl, hlen, hf⟩ := DataW.trod_struct Tryd.underlying34 h
  have hc2 : Tryd.prog.cellsOf 34 = 2 := by kernel_rfl
  obtain ⟨l⟩ := cs
  have hl' : l.length = 2 := hl.trans hc2
  match l, hl' with
  | [c0, c1], _ =>
    obtain ⟨y0, h0⟩ := field_ofL hlen hf 0 3 0 1 rfl cellsInt
    obtain ⟨y1, h1⟩ := field_ofL hlen hf 1 3 1 1 rfl cellsInt
    obtain ⟨a, e0, _, wa⟩ := DataW.trod_int Tryd.underlying3 h0
    obtain ⟨b, e1, _, wb⟩ := DataW.trod_int Tryd.underlying3 h1
    simp [Value.cells] at e0 e1
    subst e0 e1
    exact ⟨a, b, rfl, wf_in wa, wf_in wb⟩
end
end Go.Proofs.YtaafihdegnaokaaDoor
/- What the listed variable holds: the table of the months' lengths. -/
namespace Go.Proofs.YtaafihdegnaokaaDoor
open Go.ChangeShapes Go.WideShapes Go.ChangeAt Go.RowKit

/-- the listed variables -/
def laidL : List (String × DataW Unit) := [("payroll/calendar.lengths", Rows.laid_payroll_calendar_lengths)]
set_option maxRecDepth 100000 in
theorem door_met (os : Os) (args : Array Value) : laidMetH Tryd.prog laidL ((World.laidAll Tryd.prog os laidL).forCall (fun _ _ => 0) ⟨#[], args, []⟩).memory := by
  rw [MakeChecks.laidMetH_plain _ _ _ (by kernel_rfl)]; exact laidMet_laidAll _ (by kernel_rfl) (by kernel_rfl)
set_option maxRecDepth 100000 in
theorem door_shaped (os : Os) : (World.laidAll Tryd.prog os laidL).Shaped Tryd.prog := World.shaped_of_ZipB (by kernel_rfl) (by kernel_rfl)
theorem of_laid {W : World} (h : laidMetH Tryd.prog laidL W) : LenT W := by
  rw [MakeChecks.laidMetH_plain _ _ _ (by kernel_rfl)] at h
  have h3 : laidMet Tryd.prog (("payroll/calendar.lengths", Lib.tabData .i64 lenL) :: []) W := h
  exact Lib.tabIs_of_head (g := 0) (by kernel_rfl) (by kernel_rfl) (Tryd.underlying108) Tryd.underlying3 (by kernel_rfl) (by kernel_rfl) h3
end Go.Proofs.YtaafihdegnaokaaDoor
/- The last step of each law: it returned true, and nothing that was there has turned. -/
namespace Go.Proofs.YtaafihdegnaokaaDoor
open Go.ChangeShapes Go.WideShapes Go.ChangeAt Go.RowKit

section
variable {H : Type} {enc : TypeId × Value → H} {P : Program}
/-- all arguments read as they did -/
theorem trodAll_below (hl : laidOutB P = true) {W W' : World} (hb : Below W.heap.size W W') : ∀ (ts : List TypeId) (vs : List Value) (ds : List (DataW H)) (ps : List MemPlace),
    (∀ t ∈ ts, P.readableRec t = true ∧ t < P.types.size) → (∀ x ∈ ps, x.block < W.heap.size) → DataW.TrodAll enc P W 0 (fun _ => true) true ts vs ds ps → DataW.TrodAll enc P W' 0 (fun b => decide (b < W.heap.size)) true ts vs ds ps
  | [], [], [], _, _, _, h => h
  | t :: ts, v :: vs, d :: ds, ps, hr, hlt, h => by
    obtain ⟨p, q, h1, h2, rfl⟩ := h
    refine ⟨p, q, Below.trod hl (hr t (by simp)).1 (hr t (by simp)).2 h1 hb fun x hx => hlt x (by simp [hx]), trodAll_below hl hb ts vs ds q (fun t ht => hr t (by simp [ht])) (fun x hx => hlt x (by simp [hx])) h2, rfl⟩
  | [], _ :: _, _, _, _, _, h => h.elim
  | [], [], _ :: _, _, _, _, h => h.elim
  | _ :: _, [], _, _, _, _, h => h.elim
  | _ :: _, _ :: _, [], _, _, _, h => h.elim

/-- the post of a law: true; each argument as it was -/
theorem law_post {f : Func} {s : ChangeSpec} {T : TypeId} {W W' : World} {args : Array Value} {ds gs : List (DataW H)} {before : List MemPlace}
    (hl : laidOutB P = true) (hvars : s.vars = []) (hres : f.resultTypes = #[T]) (hT : P.underlying T = some .bool) (hrd : ∀ t ∈ f.params.toList, P.readableRec t = true ∧ t < P.types.size)
    (hfn : (s.fn H (ds ++ gs)).results = [.lit (.bool true)] ∧ (s.fn H (ds ++ gs)).args = ds ∧ (s.fn H (ds ++ gs)).vars = [])
    (hW : DataW.Whole enc P f.params.toList s.vars false W args.toList ds gs before) (hb : Below W.heap.size W W') :
    s.post enc P f false true false false W args (.bool true) W' := by
  have hlt : ∀ p ∈ before, p.block < W.heap.size := fun p hp => hW.lt p hp
  have hW' := hW
  obtain ⟨p, q, hA, hV, rfl, _, _⟩ := hW'
  rw [hvars] at hV
  obtain ⟨rfl, rfl⟩ := trodVars_none hV
  rw [List.append_nil] at hlt hW
  refine ⟨ds, [], p, [], p, [], hW, ?_, ?_, ?_, World.keptBut_mono (fun x hx => ⟨hx, .inr (.inl hx)⟩) (hb.frame (· ∈ p)), fun h => by cases h⟩
  · rw [hfn.1, hres]
    exact trodAll_mk1 (shut_bool hT true)
  · rw [hfn.2.1]
    exact trodAll_below hl hb _ _ _ _ hrd hlt hA
  · rw [hfn.2.2, hvars]
    rfl
end

end Go.Proofs.YtaafihdegnaokaaDoor
