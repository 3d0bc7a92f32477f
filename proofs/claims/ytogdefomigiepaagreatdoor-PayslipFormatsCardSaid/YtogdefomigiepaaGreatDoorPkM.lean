/- Contracts and plain facts that the laws of this seat share, part 13. -/
import Derived.Test.YtogdefomigiepaaGreatDoorPkL
import Derived.Test.YtogdefomigiepaaGreatDoorPkK
import Derived.Test.YtogdefomigiepaaGreatDoorPkJ
import Derived.Test.YtogdefomigiepaaGreatDoorPkB
import Derived.Deep.RegionLaw
set_option linter.unusedVariables false
set_option linter.unusedSimpArgs false
/- Contract of payrollref31.Attach. Written by gen_r31a.py. -/
namespace Go.Proofs.YtogdefomigiepaaGreatDoor
open Go.RowKit

set_option maxRecDepth 100000 in
set_option maxHeartbeats 4000000 in
theorem Attach_ok (s : Sh) (hs : ShOk s) (net dp : Int) (hn : 0 ≤ net ∧ net ≤ 1000000000) (hd : 0 ≤ dp ∧ dp ≤ 20) (ds : List Od) (hc : Coded Od.code OdOk litO litO.length ds) (vd : Value) (w : World) (hvd : Sl w 5 vd (ds.map Od.vals)) :
  Calls Tryz.prog 51 #[.agg s.vals.toArray, .int .i64 net, .int .i64 dp, vd] w fun e w' => ∃ (v : Value) (l : List Ln), e = .returned (.tuple #[v, .int .i64 0]) ∧ TkO l ∧ sumA l ≤ net ∧ Sl w' 2 v (els l) ∧ Below w.heap.size w w' := by
 obtain ⟨fx, de, lo, sh, tp⟩ := s
 have H1 := Lib.hid fun y => Shield_ok ⟨fx, de, lo, sh, tp⟩ hs y
 have H2 := Lib.hid fun (y : World) (hy : Below w.heap.size w y) => Orders_ok ds vd y (hvd.below hy) hc
 have H3 := Lib.hid fun y => Lower_ok ⟨fx, de, lo, sh, tp⟩ hs y net dp hn hd
 have H4 := Lib.hid fun y => Protected_ok ⟨fx, de, lo, sh, tp⟩ hs y net dp hn hd
 simp only [Sh.vals] at H1 H3 H4
 have HSV := Lib.hid fun (b : Bool) (left : Int) (l0 : List Ln) (v0 : Value) (y : World) (hy : Below w.heap.size w y) (hv0 : Sl y 2 v0 (els l0)) (hl0 : TkO l0) (h0 : 0 ≤ left ∧ left ≤ 1000000000) (hs0 : sumA l0 ≤ 1000000000) => serve_ok ds hc b left l0 v0 vd y hv0 (hvd.below hy) hl0 h0 hs0
 clear hc hvd hs
 show Calls Tryz.prog 51 #[.agg #[.int .i64 fx, .int .i64 de, .int .i64 lo, .int .i64 sh, .int .i64 tp], .int .i64 net, .int .i64 dp, vd] w _
 go_enter Tryz.func51, Tryz.ntmps51
 go_upto_region 1 with (fail)
 have kk : Below w.heap.size w (w.alloc (.cells #[.int .i64 fx, .int .i64 de, .int .i64 lo, .int .i64 sh, .int .i64 tp] 57)) := (Below.refl _ _).alloc (Nat.le_refl _) _
 have S_1 := Row.new w 57 #[.int .i64 fx, .int .i64 de, .int .i64 lo, .int .i64 sh, .int .i64 tp]
 have hsS : (w.alloc (.cells #[.int .i64 fx, .int .i64 de, .int .i64 lo, .int .i64 sh, .int .i64 tp] 57)).heap.size = w.heap.size + 1 := by simp
 obtain ⟨w1, hw⟩ : ∃ w1, w.alloc (.cells #[.int .i64 fx, .int .i64 de, .int .i64 lo, .int .i64 sh, .int .i64 tp] 57) = w1 := ⟨_, rfl⟩
 rw [hw] at kk S_1 hsS ⊢
 clear hw
 obtain ⟨gS, hg⟩ : ∃ gS, w.heap.size = gS := ⟨_, rfl⟩
 rw [hg] at S_1 hsS ⊢
 have zS : w.heap.size ≤ gS := by omega
 clear hg
 have b1 := Lib.hid kk
 clear kk
 have cS0 : w1.cell? ⟨gS, 0, none⟩ = some (.int .i64 fx) := Row.cell S_1 0
 have cS1 : w1.cell? ⟨gS, 1, none⟩ = some (.int .i64 de) := Row.cell S_1 1
 have cS2 : w1.cell? ⟨gS, 2, none⟩ = some (.int .i64 lo) := Row.cell S_1 2
 have cS3 : w1.cell? ⟨gS, 3, none⟩ = some (.int .i64 sh) := Row.cell S_1 3
 have cS4 : w1.cell? ⟨gS, 4, none⟩ = some (.int .i64 tp) := Row.cell S_1 4
 have lS := Row.lt S_1
 go_wp2_with fail
 refine (H1.out _).mono ?_
 rintro e w2 ⟨rfl, k2⟩
 have S_2 := Row.below S_1 k2 S_1.lt
 have b2 := Lib.hid (below_after b1.out k2 b1.out.size)
 clear S_1 b1 k2
 go_wp2_with fail
 refine (H2.out _ b2.out).mono ?_
 rintro e w3 ⟨rfl, k3⟩
 have S_3 := Row.below S_2 k3 S_2.lt
 have b3 := Lib.hid (below_after b2.out k3 b2.out.size)
 clear S_2 b2 k3
 have cS0 : w3.cell? ⟨gS, 0, none⟩ = some (.int .i64 fx) := Row.cell S_3 0
 have cS1 : w3.cell? ⟨gS, 1, none⟩ = some (.int .i64 de) := Row.cell S_3 1
 have cS2 : w3.cell? ⟨gS, 2, none⟩ = some (.int .i64 lo) := Row.cell S_3 2
 have cS3 : w3.cell? ⟨gS, 3, none⟩ = some (.int .i64 sh) := Row.cell S_3 3
 have cS4 : w3.cell? ⟨gS, 4, none⟩ = some (.int .i64 tp) := Row.cell S_3 4
 have lS := Row.lt S_3
 go_wp2_with fail
 refine (H3.out _).mono ?_
 rintro e w4 ⟨low, hlow, rfl, k4⟩
 have S_4 := Row.below S_3 k4 S_3.lt
 have b4 := Lib.hid (below_after b3.out k4 b3.out.size)
 clear S_3 b3 k4
 have cS0 : w4.cell? ⟨gS, 0, none⟩ = some (.int .i64 fx) := Row.cell S_4 0
 have cS1 : w4.cell? ⟨gS, 1, none⟩ = some (.int .i64 de) := Row.cell S_4 1
 have cS2 : w4.cell? ⟨gS, 2, none⟩ = some (.int .i64 lo) := Row.cell S_4 2
 have cS3 : w4.cell? ⟨gS, 3, none⟩ = some (.int .i64 sh) := Row.cell S_4 3
 have cS4 : w4.cell? ⟨gS, 4, none⟩ = some (.int .i64 tp) := Row.cell S_4 4
 have lS := Row.lt S_4
 go_wp2_with fail
 refine (H4.out _).mono ?_
 rintro e w5 ⟨p, hp, rfl, k5⟩
 have S_5 := Row.below S_4 k5 S_4.lt
 have b5 := Lib.hid (below_after b4.out k5 b4.out.size)
 clear S_4 b4 k5
 clear H1 H2 H3 H4
 have s1 : IntKind.i64.wrap (net - low) = net - low := IntWalk.i64_in _ (by omega)
 have s2 : IntKind.i64.wrap (net - p) = net - p := IntWalk.i64_in _ (by omega)
 have HA := Lib.hid (HSV.out true (net - low) [] (.slice none 0 0) w5 b5.out (Sl.nil _ _) TkO.nil (by omega) (by simp [sumA]))
 go_wp2_with fail
 refine (HA.out).mono ?_
 rintro e w6 ⟨v1, l1, t1, rfl, hk1, ht1, hs1, sl1, k6⟩
 have S_6 := Row.below S_5 k6 S_5.lt
 have b6 := Lib.hid (below_after b5.out k6 b5.out.size)
 clear S_5 b5 k6
 rw [sumA_nil] at hs1
 have s3 : IntKind.i64.wrap (net - p - t1) = net - p - t1 := IntWalk.i64_in _ (by omega)
 have HB := Lib.hid (HSV.out false (max (net - p - t1) 0) l1 v1 w6 b6.out sl1 hk1 (by omega) (by omega))
 clear HA HSV sl1 hk1
 go_wp2_with fail
 refine (HB.out).mono ?_
 rintro e w7 ⟨v2, l2, t2, rfl, hk2, ht2, hs2, sl2, k7⟩
 have S_7 := Row.below S_6 k7 S_6.lt
 have b7 := Lib.hid (below_after b6.out k7 b6.out.size)
 clear S_6 b6 k7
 have HE := Lib.hid (And.intro hk2 (And.intro (show sumA l2 ≤ net by omega) (And.intro sl2 b7.out)))
 clear HB hk2 sl2
 go_wp2_with fail
 go_ret2
 first | exact ⟨_, l2, rfl, HE.out⟩ | exact ⟨_, rfl, l2, HE.out⟩
end Go.Proofs.YtogdefomigiepaaGreatDoor
/- Contracts of the reference where a number is out of its range: Amount, in, check, Lower, Attach, Take. Written by gen_r32e.py. -/
namespace Go.Proofs.YtogdefomigiepaaGreatDoor
open Go.RowKit

theorem Amount_no {n : Int} (w : World) (h : n < -1000000000 ∨ 1000000000 < n) :
  Calls Tryz.prog 50 #[.int .i64 n] w fun e w' => e = .returned (.bool false) ∧ w = w' := by
 rcases h with h | h
 ·have q : decide (-1000000000 ≤ n) = false := decide_eq_false (by omega)
  clear h
  go_enter Tryz.func50, Tryz.ntmps50
  go_wp2
  go_ret
  exact ⟨rfl, rfl⟩
 ·have q1 : decide (-1000000000 ≤ n) = true := decide_eq_true (by omega)
  have q : decide (n ≤ 1000000000) = false := decide_eq_false (by omega)
  clear h
  go_enter Tryz.func50, Tryz.ntmps50
  go_wp2
  go_ret
  exact ⟨rfl, rfl⟩
theorem in27_no {n m : Int} (w : World) (h : 0 ≤ n ∧ m < n) :
  Calls Tryz.prog 85 #[.int .i64 n, .int .i64 m] w fun e w' => e = .returned (.bool false) ∧ w = w' := by
 obtain ⟨h1, h2⟩ := h
 have q : decide (n ≤ m) = false := decide_eq_false (by omega)
 go_enter Tryz.func85, Tryz.ntmps85
 go_wp2
 go_ret
 exact ⟨rfl, rfl⟩
theorem in31_no {n m : Int} (w : World) (h : 0 ≤ n ∧ m < n) :
  Calls Tryz.prog 133 #[.int .i64 n, .int .i64 m] w fun e w' => e = .returned (.bool false) ∧ w = w' := by
 obtain ⟨h1, h2⟩ := h
 have q : decide (n ≤ m) = false := decide_eq_false (by omega)
 go_enter Tryz.func133, Tryz.ntmps133
 go_wp2
 go_ret
 exact ⟨rfl, rfl⟩
set_option maxRecDepth 100000 in
set_option maxHeartbeats 2000000 in
theorem check31_no (s : Sh) (hs : ShOk s) (w : World) (net dp : Int) (hn : 1000000000 < net) :
  Calls Tryz.prog 134 #[.agg s.vals.toArray, .int .i64 net, .int .i64 dp] w fun e w' => e = .returned (.int .i64 2) ∧ Below w.heap.size w w' := by
 obtain ⟨fx, de, lo, sh, tp⟩ := s
 have H1 := Lib.hid fun y => Shield_ok ⟨fx, de, lo, sh, tp⟩ hs y
 simp only [Sh.vals] at H1
 have H2 := Lib.hid fun w => in31_no (n := net) (m := 1000000000) w ⟨by omega, hn⟩
 clear hs
 show Calls Tryz.prog 134 #[.agg #[.int .i64 fx, .int .i64 de, .int .i64 lo, .int .i64 sh, .int .i64 tp], .int .i64 net, .int .i64 dp] w _
 go_enter Tryz.func134, Tryz.ntmps134
 go_upto_region 1 with (fail)
 have kk : Below w.heap.size w (w.alloc (.cells #[.int .i64 fx, .int .i64 de, .int .i64 lo, .int .i64 sh, .int .i64 tp] 57)) := (Below.refl _ _).alloc (Nat.le_refl _) _
 have S_1 := Row.new w 57 #[.int .i64 fx, .int .i64 de, .int .i64 lo, .int .i64 sh, .int .i64 tp]
 have hsS : (w.alloc (.cells #[.int .i64 fx, .int .i64 de, .int .i64 lo, .int .i64 sh, .int .i64 tp] 57)).heap.size = w.heap.size + 1 := by simp
 obtain ⟨w1, hw⟩ : ∃ w1, w.alloc (.cells #[.int .i64 fx, .int .i64 de, .int .i64 lo, .int .i64 sh, .int .i64 tp] 57) = w1 := ⟨_, rfl⟩
 rw [hw] at kk S_1 hsS ⊢
 clear hw
 obtain ⟨gS, hg⟩ : ∃ gS, w.heap.size = gS := ⟨_, rfl⟩
 rw [hg] at S_1 hsS ⊢
 have zS : w.heap.size ≤ gS := by omega
 clear hg
 have b1 := Lib.hid kk
 clear kk
 have cS0 : w1.cell? ⟨gS, 0, none⟩ = some (.int .i64 fx) := Row.cell S_1 0
 have cS1 : w1.cell? ⟨gS, 1, none⟩ = some (.int .i64 de) := Row.cell S_1 1
 have cS2 : w1.cell? ⟨gS, 2, none⟩ = some (.int .i64 lo) := Row.cell S_1 2
 have cS3 : w1.cell? ⟨gS, 3, none⟩ = some (.int .i64 sh) := Row.cell S_1 3
 have cS4 : w1.cell? ⟨gS, 4, none⟩ = some (.int .i64 tp) := Row.cell S_1 4
 have lS := Row.lt S_1
 go_wp2_with fail
 refine (H1.out _).mono ?_
 rintro e w2 ⟨rfl, k2⟩
 have S_2 := Row.below S_1 k2 S_1.lt
 have b2 := Lib.hid (below_after b1.out k2 b1.out.size)
 clear S_1 b1 k2
 go_wp2_with fail
 refine (H2.out _).mono ?_
 rintro e _ ⟨rfl, rfl⟩
 go_wp2_with fail
 go_ret
 exact ⟨rfl, b2.out⟩
set_option maxRecDepth 100000 in
set_option maxHeartbeats 2000000 in
theorem Lower_no (s : Sh) (hs : ShOk s) (w : World) (net dp : Int) (hn : 1000000000 < net) :
  Calls Tryz.prog 101 #[.agg s.vals.toArray, .int .i64 net, .int .i64 dp] w fun e w' => e = .returned (.tuple #[.int .i64 0, .int .i64 2]) ∧ Below w.heap.size w w' := by
 obtain ⟨fx, de, lo, sh, tp⟩ := s
 have H1 := Lib.hid fun y => check31_no ⟨fx, de, lo, sh, tp⟩ hs y net dp hn
 simp only [Sh.vals] at H1
 clear hs
 show Calls Tryz.prog 101 #[.agg #[.int .i64 fx, .int .i64 de, .int .i64 lo, .int .i64 sh, .int .i64 tp], .int .i64 net, .int .i64 dp] w _
 go_enter Tryz.func101, Tryz.ntmps101
 go_upto_region 1 with (fail)
 have kk : Below w.heap.size w (w.alloc (.cells #[.int .i64 fx, .int .i64 de, .int .i64 lo, .int .i64 sh, .int .i64 tp] 57)) := (Below.refl _ _).alloc (Nat.le_refl _) _
 have S_1 := Row.new w 57 #[.int .i64 fx, .int .i64 de, .int .i64 lo, .int .i64 sh, .int .i64 tp]
 have hsS : (w.alloc (.cells #[.int .i64 fx, .int .i64 de, .int .i64 lo, .int .i64 sh, .int .i64 tp] 57)).heap.size = w.heap.size + 1 := by simp
 obtain ⟨w1, hw⟩ : ∃ w1, w.alloc (.cells #[.int .i64 fx, .int .i64 de, .int .i64 lo, .int .i64 sh, .int .i64 tp] 57) = w1 := ⟨_, rfl⟩
 rw [hw] at kk S_1 hsS ⊢
 clear hw
 obtain ⟨gS, hg⟩ : ∃ gS, w.heap.size = gS := ⟨_, rfl⟩
 rw [hg] at S_1 hsS ⊢
 have zS : w.heap.size ≤ gS := by omega
 clear hg
 have b1 := Lib.hid kk
 clear kk
 have cS0 : w1.cell? ⟨gS, 0, none⟩ = some (.int .i64 fx) := Row.cell S_1 0
 have cS1 : w1.cell? ⟨gS, 1, none⟩ = some (.int .i64 de) := Row.cell S_1 1
 have cS2 : w1.cell? ⟨gS, 2, none⟩ = some (.int .i64 lo) := Row.cell S_1 2
 have cS3 : w1.cell? ⟨gS, 3, none⟩ = some (.int .i64 sh) := Row.cell S_1 3
 have cS4 : w1.cell? ⟨gS, 4, none⟩ = some (.int .i64 tp) := Row.cell S_1 4
 have lS := Row.lt S_1
 go_wp2_with fail
 refine (H1.out _).mono ?_
 rintro e w2 ⟨rfl, k2⟩
 have S_2 := Row.below S_1 k2 S_1.lt
 have b2 := Lib.hid (below_after b1.out k2 b1.out.size)
 clear S_1 b1 k2
 go_wp2_with fail
 go_ret2
 exact ⟨rfl, b2.out⟩
set_option maxRecDepth 100000 in
set_option maxHeartbeats 2000000 in
theorem Attach_no (s : Sh) (hs : ShOk s) (w : World) (net dp : Int) (hn : 1000000000 < net) (ds : List Od) (hc : Coded Od.code OdOk litO litO.length ds) (vd : Value) (hvd : Sl w 5 vd (ds.map Od.vals)) :
  Calls Tryz.prog 51 #[.agg s.vals.toArray, .int .i64 net, .int .i64 dp, vd] w fun e w' => e = .returned (.tuple #[.slice none 0 0, .int .i64 2]) ∧ Below w.heap.size w w' := by
 obtain ⟨fx, de, lo, sh, tp⟩ := s
 have H1 := Lib.hid fun y => Shield_ok ⟨fx, de, lo, sh, tp⟩ hs y
 have H2 := Lib.hid fun (y : World) (hy : Below w.heap.size w y) => Orders_ok ds vd y (hvd.below hy) hc
 have H3 := Lib.hid fun y => Lower_no ⟨fx, de, lo, sh, tp⟩ hs y net dp hn
 simp only [Sh.vals] at H1 H3
 clear hc hvd hs
 show Calls Tryz.prog 51 #[.agg #[.int .i64 fx, .int .i64 de, .int .i64 lo, .int .i64 sh, .int .i64 tp], .int .i64 net, .int .i64 dp, vd] w _
 go_enter Tryz.func51, Tryz.ntmps51
 go_upto_region 1 with (fail)
 have kk : Below w.heap.size w (w.alloc (.cells #[.int .i64 fx, .int .i64 de, .int .i64 lo, .int .i64 sh, .int .i64 tp] 57)) := (Below.refl _ _).alloc (Nat.le_refl _) _
 have S_1 := Row.new w 57 #[.int .i64 fx, .int .i64 de, .int .i64 lo, .int .i64 sh, .int .i64 tp]
 have hsS : (w.alloc (.cells #[.int .i64 fx, .int .i64 de, .int .i64 lo, .int .i64 sh, .int .i64 tp] 57)).heap.size = w.heap.size + 1 := by simp
 obtain ⟨w1, hw⟩ : ∃ w1, w.alloc (.cells #[.int .i64 fx, .int .i64 de, .int .i64 lo, .int .i64 sh, .int .i64 tp] 57) = w1 := ⟨_, rfl⟩
 rw [hw] at kk S_1 hsS ⊢
 clear hw
 obtain ⟨gS, hg⟩ : ∃ gS, w.heap.size = gS := ⟨_, rfl⟩
 rw [hg] at S_1 hsS ⊢
 have zS : w.heap.size ≤ gS := by omega
 clear hg
 have b1 := Lib.hid kk
 clear kk
 have cS0 : w1.cell? ⟨gS, 0, none⟩ = some (.int .i64 fx) := Row.cell S_1 0
 have cS1 : w1.cell? ⟨gS, 1, none⟩ = some (.int .i64 de) := Row.cell S_1 1
 have cS2 : w1.cell? ⟨gS, 2, none⟩ = some (.int .i64 lo) := Row.cell S_1 2
 have cS3 : w1.cell? ⟨gS, 3, none⟩ = some (.int .i64 sh) := Row.cell S_1 3
 have cS4 : w1.cell? ⟨gS, 4, none⟩ = some (.int .i64 tp) := Row.cell S_1 4
 have lS := Row.lt S_1
 go_wp2_with fail
 refine (H1.out _).mono ?_
 rintro e w2 ⟨rfl, k2⟩
 have S_2 := Row.below S_1 k2 S_1.lt
 have b2 := Lib.hid (below_after b1.out k2 b1.out.size)
 clear S_1 b1 k2
 go_wp2_with fail
 refine (H2.out _ b2.out).mono ?_
 rintro e w3 ⟨rfl, k3⟩
 have S_3 := Row.below S_2 k3 S_2.lt
 have b3 := Lib.hid (below_after b2.out k3 b2.out.size)
 clear S_2 b2 k3
 have cS0 : w3.cell? ⟨gS, 0, none⟩ = some (.int .i64 fx) := Row.cell S_3 0
 have cS1 : w3.cell? ⟨gS, 1, none⟩ = some (.int .i64 de) := Row.cell S_3 1
 have cS2 : w3.cell? ⟨gS, 2, none⟩ = some (.int .i64 lo) := Row.cell S_3 2
 have cS3 : w3.cell? ⟨gS, 3, none⟩ = some (.int .i64 sh) := Row.cell S_3 3
 have cS4 : w3.cell? ⟨gS, 4, none⟩ = some (.int .i64 tp) := Row.cell S_3 4
 have lS := Row.lt S_3
 go_wp2_with fail
 refine (H3.out _).mono ?_
 rintro e w4 ⟨rfl, k4⟩
 have S_4 := Row.below S_3 k4 S_3.lt
 have b4 := Lib.hid (below_after b3.out k4 b3.out.size)
 clear S_3 b3 k4
 go_wp2_with fail
 go_ret2
 exact ⟨rfl, b4.out⟩
set_option maxRecDepth 100000 in
set_option maxHeartbeats 4000000 in
theorem Take_no (ds : List Dd) (hc : Coded Dd.code DdOk litC litC.length ds) (bef : Bool) (base avail : Int) (yl : List Ln) (vd vy : Value) (w : World) (hvd : Sl w 6 vd (ds.map Dd.vals)) (hvy : Sl w 2 vy (els yl))
  (hl : yl.length ≤ 128) (hs : yl.Pairwise fun a b => a.code.toList < b.code.toList) (hn : ∀ x ∈ yl, nameB x.code.data.toList = true) (hya : ∀ x ∈ yl, 0 ≤ x.amt ∧ x.amt ≤ 1000000000000) (hb : 0 ≤ base ∧ base ≤ 1000000000) (hav : 1000000000 < avail) :
  Calls Tryz.prog 46 #[vd, .bool bef, .int .i64 base, .int .i64 avail, vy] w fun e w' => e = .returned (.tuple #[.slice none 0 0, .int .i64 2]) ∧ Below w.heap.size w w' := by
 have H1 := Lib.hid (Deds_ok ds vd w hvd hc)
 have H2 := Lib.hid fun (y : World) (hy : Below w.heap.size w y) => Record_ok yl vy y (hvy.below hy) hl hs hn hya
 have HI1 := Lib.hid fun w => in27_ok w hb
 have HI2 := Lib.hid fun w => in27_no (n := avail) (m := 1000000000) w ⟨by omega, hav⟩
 clear hc hs hn hya hvd hvy
 go_enter Tryz.func46, Tryz.ntmps46
 go_wp2_with fail
 refine H1.out.mono ?_
 rintro e w1 ⟨rfl, k1⟩
 go_wp2_with fail
 refine (H2.out _ k1).mono ?_
 rintro e w2 ⟨rfl, k2⟩
 have k3 := Lib.hid (below_after k1 k2 k1.size)
 clear k1 k2 H1 H2
 go_wp2_with fail
 refine (HI1.out _).mono ?_
 rintro e _ ⟨rfl, rfl⟩
 go_wp2_with fail
 refine (HI2.out _).mono ?_
 rintro e _ ⟨rfl, rfl⟩
 go_wp2_with fail
 go_ret2
 exact ⟨rfl, k3.out⟩
end Go.Proofs.YtogdefomigiepaaGreatDoor
/- Contracts of payrollref32: ValidPerson, ValidYear. Written by gen_r32p.py. -/
namespace Go.Proofs.YtogdefomigiepaaGreatDoor
open Go.RowKit

def El.ln (x : El) : Ln := ⟨0, x.code, x.amt⟩
theorem els_ln (l : List El) : els (l.map El.ln) = l.map El.vals := by simp [els, El.ln, elv, El.vals, Function.comp_def]
theorem tk_of {l : List El} (h : Coded El.code ElOk0 litC litC.length l) : TkOk (l.map El.ln) := by
 refine ⟨?_, fun x hx => ?_, fun x hx => ?_, fun x hx => ?_⟩
 ·refine List.pairwise_map.2 (List.Pairwise.imp (fun {a b} hab => ?_) (h.asc litC_asc))
  rw [lnLt_el rfl rfl, bytesLess_eq]
  exact decide_eq_true hab
 ·obtain ⟨y, _, rfl⟩ := List.mem_map.1 hx; rfl
 ·obtain ⟨y, hy, rfl⟩ := List.mem_map.1 hx; exact (h.ok y hy).1
 ·obtain ⟨y, hy, rfl⟩ := List.mem_map.1 hx; exact h.mem hy
theorem tk_sum {l : List El} (h : Coded El.code ElOk0 litC litC.length l) : sumA (l.map El.ln) ≤ 2400000 := by
 have hb := sumA_bound (l := l.map El.ln) (M := 600000) fun x hx => by
  obtain ⟨y, hy, rfl⟩ := List.mem_map.1 hx
  have := h.ok y hy
  exact ⟨by show -600000 ≤ y.amt; have := this.1; omega, this.2⟩
 have hl : l.length ≤ 4 := h.len
 rw [List.length_map] at hb
 omega
set_option maxRecDepth 100000 in
set_option maxHeartbeats 8000000 in
theorem Person_ok (q : Nat) (hq : q ≤ 50) (p : Ps) (hp : PsOk q p) (w : World) (hs : PsSl w p) :
  Calls Tryz.prog 79 #[.agg #[.int .i64 p.dep, p.dv, p.ov, p.ev]] w fun e w' => e = .returned (.bool true) ∧ Below w.heap.size w w' := by
 obtain ⟨dep, dv, ded, ov, ord, ev, ems⟩ := p
 have H1 := Lib.hid fun w => in32_ok (n := dep) (m := 20) w (by have := hp.dep; dsimp only at this; omega)
 have H2 := Lib.hid fun (y : World) (hy : Below w.heap.size w y) => Deds_ok ded dv y (hs.ded.below hy) hp.ded
 have H3 := Lib.hid fun (y : World) (hy : Below w.heap.size w y) => Orders_ok ord ov y (hs.ord.below hy) hp.ord
 have hel := hp.ems.1
 have HEO := Lib.hid hp.ems.2.2
 have HEE := Lib.hid hs.ems.each
 have hsv := hs.ems.own
 dsimp only at hel hsv
 have HVS := Lib.hid hsv
 obtain ⟨A, cap, rfl, h1, h2, _, _⟩ := hsv
 rw [List.length_map] at h1 HVS ⊢
 unfold maxLen at h2
 have d3 : decide ((7 : Int) < (ems.length : Int)) = false := decide_eq_false (by omega)
 clear hs hp
 go_enter Tryz.func79, Tryz.ntmps79
 go_upto_region 1 with (fail)
 have kk : Below w.heap.size w (w.alloc (.cells #[.int .i64 dep, dv, ov, .slice A ems.length cap] 64)) := (Below.refl _ _).alloc (Nat.le_refl _) _
 have S_1 := Row.new w 64 #[.int .i64 dep, dv, ov, .slice A ems.length cap]
 have hsS : (w.alloc (.cells #[.int .i64 dep, dv, ov, .slice A ems.length cap] 64)).heap.size = w.heap.size + 1 := by simp
 obtain ⟨w1, hw⟩ : ∃ w1, w.alloc (.cells #[.int .i64 dep, dv, ov, .slice A ems.length cap] 64) = w1 := ⟨_, rfl⟩
 rw [hw] at kk S_1 hsS ⊢
 clear hw
 obtain ⟨gS, hg⟩ : ∃ gS, w.heap.size = gS := ⟨_, rfl⟩
 rw [hg] at S_1 hsS ⊢
 have zS : w.heap.size ≤ gS := by omega
 clear hg
 have b1 := Lib.hid kk
 clear kk
 have cS0 : w1.cell? ⟨gS, 0, none⟩ = some (.int .i64 dep) := Row.cell S_1 0
 have cS1 : w1.cell? ⟨gS, 1, none⟩ = some (dv) := Row.cell S_1 1
 have cS2 : w1.cell? ⟨gS, 2, none⟩ = some (ov) := Row.cell S_1 2
 have cS3 : w1.cell? ⟨gS, 3, none⟩ = some (.slice A ems.length cap) := Row.cell S_1 3
 have lS := Row.lt S_1
 go_wp2_with fail
 refine (H1.out _).mono ?_
 rintro e _ ⟨rfl, rfl⟩
 go_wp2_with fail
 refine (H2.out _ b1.out).mono ?_
 rintro e w2 ⟨rfl, k2⟩
 have S_2 := Row.below S_1 k2 S_1.lt
 have b2 := Lib.hid (below_after b1.out k2 b1.out.size)
 clear S_1 b1 k2
 have cS0 : w2.cell? ⟨gS, 0, none⟩ = some (.int .i64 dep) := Row.cell S_2 0
 have cS1 : w2.cell? ⟨gS, 1, none⟩ = some (dv) := Row.cell S_2 1
 have cS2 : w2.cell? ⟨gS, 2, none⟩ = some (ov) := Row.cell S_2 2
 have cS3 : w2.cell? ⟨gS, 3, none⟩ = some (.slice A ems.length cap) := Row.cell S_2 3
 have lS := Row.lt S_2
 go_wp2_with fail
 refine (H3.out _ b2.out).mono ?_
 rintro e w3 ⟨rfl, k3⟩
 have S_3 := Row.below S_2 k3 S_2.lt
 have b3 := Lib.hid (below_after b2.out k3 b2.out.size)
 clear S_2 b2 k3
 have cS0 : w3.cell? ⟨gS, 0, none⟩ = some (.int .i64 dep) := Row.cell S_3 0
 have cS1 : w3.cell? ⟨gS, 1, none⟩ = some (dv) := Row.cell S_3 1
 have cS2 : w3.cell? ⟨gS, 2, none⟩ = some (ov) := Row.cell S_3 2
 have cS3 : w3.cell? ⟨gS, 3, none⟩ = some (.slice A ems.length cap) := Row.cell S_3 3
 have lS := Row.lt S_3
 clear H1 H2 H3
 go_wp2_with fail
 go_loop [3] (fun i => ∃ k : Nat, k ≤ ems.length ∧ i = .int .i64 k) (fun i => ems.length - (intOf i).toNat)
 case atStart => exact ⟨0, by omega, rfl⟩
 case round =>
  obtain ⟨k, hk, rfl⟩ := hrel
  by_cases hlt : k < ems.length
  ·obtain ⟨bk, off, rfl, hc⟩ := (HVS.out.below b3.out).cells (by rw [List.length_map]; omega)
   have hbl := hc.1
   have i1 : (k : Int) < (ems.length : Int) := by omega
   have hxo := HEO.out _ (List.getElem_mem hlt)
   have hxe := HEE.out _ (List.getElem_mem hlt)
   have hwk : (ems.map Em.vals)[k]? = some (ems[k]).vals := by simp [hlt]
   obtain ⟨⟨xv, xl, xb⟩, hx⟩ : ∃ x, ems[k] = x := ⟨_, rfl⟩
   rw [hx] at hwk hxo hxe
   have c0 := hc.at hwk 0 rfl
   have c1 := hc.at hwk 1 rfl
   simp only [Nat.add_zero] at c0
   dsimp only at c0 c1 hxo hxe
   have HXS := Lib.hid (hxe.below b3.out)
   obtain ⟨Ax, cx, rfl, hcx1, hcx2, _, _⟩ := hxe
   rw [ints_len] at hcx1 HXS c0
   unfold maxLen at hcx2
   have hxl := hxo.1.1
   have HXO := Lib.hid hxo.1.2
   have HI := Lib.hid fun w => in32_ok (n := xb) (m := 1000000000) w (by omega)
   have d5 : decide ((53 : Int) < (xl.length : Int)) = false := decide_eq_false (by omega)
   clear hc hx hwk hxo
   go_wp2_with fail
   refine (HI.out _).mono ?_
   rintro e _ ⟨rfl, rfl⟩
   go_wp2_with fail
   go_loop [4] (fun i => ∃ m : Nat, m ≤ xl.length ∧ i = .int .i64 m) (fun i => xl.length - (intOf i).toNat)
   case atStart => exact ⟨0, by omega, rfl⟩
   case round =>
    obtain ⟨m, hm, rfl⟩ := hrel
    by_cases hlm : m < xl.length
    ·obtain ⟨bx, ox, rfl, hcx, x0⟩ := HXS.out.intAt hlm
     have hbx := hcx.1
     have i2 : (m : Int) < (xl.length : Int) := by omega
     have hy := HXO.out _ (List.getElem_mem hlm)
     obtain ⟨y, hy2⟩ : ∃ y, xl[m] = y := ⟨_, rfl⟩
     rw [hy2] at x0 hy
     have HJ := Lib.hid fun w => in32_ok (n := y) (m := 1000000000) w (by omega)
     clear hcx hy2 hy
     go_wp2_with fail
     refine (HJ.out _).mono ?_
     rintro e _ ⟨rfl, rfl⟩
     go_wp2_with fail
     go_round
     case rel => exact ⟨m + 1, by omega, by go_num⟩
     case measure => simp [intOf]; omega
    ·obtain rfl : m = xl.length := by omega
     go_wp2_with fail
     go_round
     case rel => exact ⟨k + 1, by omega, by go_num⟩
     case measure => simp [intOf]; omega
  ·obtain rfl : k = ems.length := by omega
   have HE := Lib.hid b3.out
   go_wp2
   go_ret
   exact ⟨rfl, HE.out⟩
set_option maxRecDepth 100000 in
set_option maxHeartbeats 8000000 in
theorem Year_ok (k : Nat) (hk : k ≤ 50) (y : Yr) (hy : YrOk k y) (w : World) (hs : YrSl w y) :
  Calls Tryz.prog 80 #[.agg #[.int .i64 (k : Int), .int .i64 y.inc, .int .i64 y.wh, y.iv, y.tv]] w fun e w' => e = .returned (.bool true) ∧ Below w.heap.size w w' := by
 obtain ⟨inc, wh, iv, ins, tv, tak⟩ := y
 have hin := hy.inc
 have hwh := hy.wh
 have hil := hy.ins.1
 dsimp only at hil
 subst hil
 have HIO := Lib.hid hy.ins.2
 have htk := tk_of hy.tak
 have hts := tk_sum hy.tak
 dsimp only at hin hwh htk hts
 have H1 := Lib.hid fun w => in32_ok (n := (ins.length : Int)) (m := 53) w (by omega)
 have H2 := Lib.hid fun w => in32_ok (n := inc) (m := (ins.length : Int) * 1000000000) w (by omega)
 have H3 := Lib.hid fun (z : World) (hz : Below w.heap.size w z) => Record_ok (tak.map El.ln) tv z (by rw [els_ln]; exact hs.tak.below hz) (by have := htk.len; omega) (RcOk.pair htk) (fun x hx => litC_name _ (htk.code x hx)) (fun x hx => by have := htk.pos x hx; have := sumA_mem htk.pos hx; omega)
 have e1 : IntKind.i64.wrap ((ins.length : Int) * 1000000000) = (ins.length : Int) * 1000000000 := IntWalk.i64_in _ (by omega)
 have e2 : IntKind.i64.wrap (-(ins.length : Int)) = -(ins.length : Int) := IntWalk.i64_in _ (by omega)
 have e3 : IntKind.i64.wrap (-(ins.length : Int) * 1000000000) = -(ins.length : Int) * 1000000000 := IntWalk.i64_in _ (by omega)
 have d1 : decide (wh < -(ins.length : Int) * 1000000000) = false := decide_eq_false (by omega)
 have d2 : decide ((ins.length : Int) * 1000000000 < wh) = false := decide_eq_false (by omega)
 have hsv := hs.ins
 dsimp only at hsv
 have HVS := Lib.hid hsv
 obtain ⟨A, cap, rfl, h1, h2, _, _⟩ := hsv
 rw [ints_len] at h1 HVS ⊢
 unfold maxLen at h2
 clear hs hy htk
 show Calls Tryz.prog 80 #[.agg #[.int .i64 (ins.length : Int), .int .i64 inc, .int .i64 wh, .slice A ins.length cap, tv]] w _
 go_enter Tryz.func80, Tryz.ntmps80
 go_upto_region 1 with (fail)
 have kk : Below w.heap.size w (w.alloc (.cells #[.int .i64 (ins.length : Int), .int .i64 inc, .int .i64 wh, .slice A ins.length cap, tv] 67)) := (Below.refl _ _).alloc (Nat.le_refl _) _
 have S_1 := Row.new w 67 #[.int .i64 (ins.length : Int), .int .i64 inc, .int .i64 wh, .slice A ins.length cap, tv]
 have hsS : (w.alloc (.cells #[.int .i64 (ins.length : Int), .int .i64 inc, .int .i64 wh, .slice A ins.length cap, tv] 67)).heap.size = w.heap.size + 1 := by simp
 obtain ⟨w1, hw⟩ : ∃ w1, w.alloc (.cells #[.int .i64 (ins.length : Int), .int .i64 inc, .int .i64 wh, .slice A ins.length cap, tv] 67) = w1 := ⟨_, rfl⟩
 rw [hw] at kk S_1 hsS ⊢
 clear hw
 obtain ⟨gS, hg⟩ : ∃ gS, w.heap.size = gS := ⟨_, rfl⟩
 rw [hg] at S_1 hsS ⊢
 have zS : w.heap.size ≤ gS := by omega
 clear hg
 have b1 := Lib.hid kk
 clear kk
 have cS0 : w1.cell? ⟨gS, 0, none⟩ = some (.int .i64 (ins.length : Int)) := Row.cell S_1 0
 have cS1 : w1.cell? ⟨gS, 1, none⟩ = some (.int .i64 inc) := Row.cell S_1 1
 have cS2 : w1.cell? ⟨gS, 2, none⟩ = some (.int .i64 wh) := Row.cell S_1 2
 have cS3 : w1.cell? ⟨gS, 3, none⟩ = some (.slice A ins.length cap) := Row.cell S_1 3
 have cS4 : w1.cell? ⟨gS, 4, none⟩ = some (tv) := Row.cell S_1 4
 have lS := Row.lt S_1
 go_wp2_with fail
 refine (H1.out _).mono ?_
 rintro e _ ⟨rfl, rfl⟩
 go_wp2_with fail
 refine (H2.out _).mono ?_
 rintro e _ ⟨rfl, rfl⟩
 go_wp2_with fail
 refine (H3.out _ b1.out).mono ?_
 rintro e w2 ⟨rfl, k2⟩
 have S_2 := Row.below S_1 k2 S_1.lt
 have b2 := Lib.hid (below_after b1.out k2 b1.out.size)
 clear S_1 b1 k2
 have cS0 : w2.cell? ⟨gS, 0, none⟩ = some (.int .i64 (ins.length : Int)) := Row.cell S_2 0
 have cS1 : w2.cell? ⟨gS, 1, none⟩ = some (.int .i64 inc) := Row.cell S_2 1
 have cS2 : w2.cell? ⟨gS, 2, none⟩ = some (.int .i64 wh) := Row.cell S_2 2
 have cS3 : w2.cell? ⟨gS, 3, none⟩ = some (.slice A ins.length cap) := Row.cell S_2 3
 have cS4 : w2.cell? ⟨gS, 4, none⟩ = some (tv) := Row.cell S_2 4
 have lS := Row.lt S_2
 clear H1 H2 H3
 go_wp2_with fail
 go_loop [3] (fun i => ∃ m : Nat, m ≤ ins.length ∧ i = .int .i64 m) (fun i => ins.length - (intOf i).toNat)
 case atStart => exact ⟨0, by omega, rfl⟩
 case round =>
  obtain ⟨m, hm, rfl⟩ := hrel
  by_cases hlt : m < ins.length
  ·obtain ⟨bk, off, rfl, hc, x0⟩ := (HVS.out.below b2.out).intAt hlt
   have hbl := hc.1
   have i1 : (m : Int) < (ins.length : Int) := by omega
   have hxo := HIO.out _ (List.getElem_mem hlt)
   obtain ⟨x, hx⟩ : ∃ x, ins[m] = x := ⟨_, rfl⟩
   rw [hx] at x0 hxo
   have HI := Lib.hid fun w => in32_ok (n := x) (m := 1000000000) w (by omega)
   clear hc hx hxo
   go_wp2_with fail
   refine (HI.out _).mono ?_
   rintro e _ ⟨rfl, rfl⟩
   go_wp2_with fail
   go_round
   case rel => exact ⟨m + 1, by omega, by go_num⟩
   case measure => simp [intOf]; omega
  ·obtain rfl : m = ins.length := by omega
   have HE := Lib.hid b2.out
   go_wp2
   go_ret
   exact ⟨rfl, HE.out⟩
end Go.Proofs.YtogdefomigiepaaGreatDoor
/- Contract of payrollref32.check. Written by gen_r32k.py. -/
namespace Go.Proofs.YtogdefomigiepaaGreatDoor
open Go.RowKit

theorem TkO.pair {l : List Ln} (h : TkO l) : l.Pairwise fun a b => a.code.toList < b.code.toList := by
 refine List.Pairwise.imp_of_mem (fun {a b} ha hb hab => ?_) h.strict
 rw [lnLt_el (h.zero a ha) (h.zero b hb), bytesLess_eq] at hab
 exact of_decide_eq_true hab
def Ps.cells (p : Ps) : List Value := [.int .i64 p.dep, p.dv, p.ov, p.ev]
def Yr.cells (k : Nat) (y : Yr) : List Value := [.int .i64 (k : Int), .int .i64 y.inc, .int .i64 y.wh, y.iv, y.tv]
set_option maxRecDepth 100000 in
set_option maxHeartbeats 8000000 in
theorem check32_ok (r : Ru) (p : Ps) (k : Nat) (y : Yr) (kl : List Ln) (vk : Value) (hr : RuOk r) (hp : PsOk k p) (hy : YrOk k y) (hk : k ≤ 3 ∧ (k : Int) < r.count) (hkl : TkO kl) (hks : sumA kl ≤ 1000000000) (w : World) (sr : RuSl w r) (sp : PsSl w p) (sy : YrSl w y) (sk : Sl w 2 vk (els kl)) :
  Calls Tryz.prog 42 #[.agg r.cells.toArray, .agg p.cells.toArray, .agg (y.cells k).toArray, vk] w fun e w' => e = .returned (.int .i64 0) ∧ Below w.heap.size w w' := by
 have H1 := Lib.hid fun (z : World) (hz : Below w.heap.size w z) => Rules_ok r hr z (sr.below hz)
 have H2 := Lib.hid fun (z : World) (hz : Below w.heap.size w z) => Person_ok k (by omega) p hp z (sp.below hz)
 have H3 := Lib.hid fun (z : World) (hz : Below w.heap.size w z) => Year_ok k (by omega) y hy z (sy.below hz)
 have hkn := hkl.len
 have HKA := Lib.hid fun x (hx : x ∈ kl) => (show x.amt ≤ 1000000000 by have := sumA_mem hkl.pos hx; omega)
 have H4 := Lib.hid fun (z : World) (hz : Below w.heap.size w z) => Record_ok kl vk z (sk.below hz) (by omega) hkl.pair (fun x hx => litO_name _ (hkl.code x hx)) (fun x hx => by have := hkl.pos x hx; have := sumA_mem hkl.pos hx; omega)
 have HSK := Lib.hid sk
 obtain ⟨Ak, ck, rfl, hk1, hk2, _, _⟩ := sk
 rw [els_len] at hk1 HSK H4 ⊢
 unfold maxLen at hk2
 obtain ⟨wv, ws, sv, ss, ⟨me, bv, brs, al, cr, un, mo, rv, rows⟩, ct, ⟨fx, de, lo, sh, tp⟩, rc⟩ := r
 obtain ⟨dep, dv, ded, ov, ord, ev, ems⟩ := p
 obtain ⟨inc, wh, iv, ins, tv, tak⟩ := y
 have hel := hp.ems.1
 have HEO := Lib.hid hp.ems.2.2
 have HEE := Lib.hid sp.ems.each
 have hsv := sp.ems.own
 have hkc := hk.2
 dsimp only at hel hsv hkc
 have HVS := Lib.hid hsv
 obtain ⟨A, cap, rfl, h1, h2, _, _⟩ := hsv
 rw [List.length_map] at h1 HVS H2 ⊢
 unfold maxLen at h2
 have d1 : decide ((16 : Int) < (kl.length : Int)) = false := decide_eq_false (by omega)
 have d2 : decide (ct ≤ (k : Int)) = false := decide_eq_false (by omega)
 simp only [Ru.cells] at H1
 clear sr sp sy hr hp hy
 show Calls Tryz.prog 42 #[.agg #[wv, sv, .int .i64 me, bv, .int .i64 al, .int .i64 cr, .int .i64 un, .int .i64 mo, rv, .int .i64 ct, .int .i64 fx, .int .i64 de, .int .i64 lo, .int .i64 sh, .int .i64 tp, .int .i64 rc], .agg #[.int .i64 dep, dv, ov, .slice A ems.length cap], .agg #[.int .i64 (k : Int), .int .i64 inc, .int .i64 wh, iv, tv], .slice Ak kl.length ck] w _
 go_enter Tryz.func42, Tryz.ntmps42
 go_upto_region 1 with (fail)
 have kk : Below w.heap.size w (w.alloc (.cells #[wv, sv, .int .i64 me, bv, .int .i64 al, .int .i64 cr, .int .i64 un, .int .i64 mo, rv, .int .i64 ct, .int .i64 fx, .int .i64 de, .int .i64 lo, .int .i64 sh, .int .i64 tp, .int .i64 rc] 59)) := (Below.refl _ _).alloc (Nat.le_refl _) _
 have R_1 := Row.new w 59 #[wv, sv, .int .i64 me, bv, .int .i64 al, .int .i64 cr, .int .i64 un, .int .i64 mo, rv, .int .i64 ct, .int .i64 fx, .int .i64 de, .int .i64 lo, .int .i64 sh, .int .i64 tp, .int .i64 rc]
 have hsR : (w.alloc (.cells #[wv, sv, .int .i64 me, bv, .int .i64 al, .int .i64 cr, .int .i64 un, .int .i64 mo, rv, .int .i64 ct, .int .i64 fx, .int .i64 de, .int .i64 lo, .int .i64 sh, .int .i64 tp, .int .i64 rc] 59)).heap.size = w.heap.size + 1 := by simp
 obtain ⟨w1, hw⟩ : ∃ w1, w.alloc (.cells #[wv, sv, .int .i64 me, bv, .int .i64 al, .int .i64 cr, .int .i64 un, .int .i64 mo, rv, .int .i64 ct, .int .i64 fx, .int .i64 de, .int .i64 lo, .int .i64 sh, .int .i64 tp, .int .i64 rc] 59) = w1 := ⟨_, rfl⟩
 rw [hw] at kk R_1 hsR ⊢
 clear hw
 obtain ⟨gR, hg⟩ : ∃ gR, w.heap.size = gR := ⟨_, rfl⟩
 rw [hg] at R_1 hsR ⊢
 have zR : w.heap.size ≤ gR := by omega
 clear hg
 have b1 := Lib.hid kk
 clear kk
 have kk : Below w1.heap.size w1 (w1.alloc (.cells #[.int .i64 dep, dv, ov, .slice A ems.length cap] 64)) := (Below.refl _ _).alloc (Nat.le_refl _) _
 have Q_2 := Row.new w1 64 #[.int .i64 dep, dv, ov, .slice A ems.length cap]
 have hsQ : (w1.alloc (.cells #[.int .i64 dep, dv, ov, .slice A ems.length cap] 64)).heap.size = w1.heap.size + 1 := by simp
 obtain ⟨w2, hw⟩ : ∃ w2, w1.alloc (.cells #[.int .i64 dep, dv, ov, .slice A ems.length cap] 64) = w2 := ⟨_, rfl⟩
 rw [hw] at kk Q_2 hsQ ⊢
 clear hw
 obtain ⟨gQ, hg⟩ : ∃ gQ, gR + 1 = gQ := ⟨_, rfl⟩
 rw [hsR, hg] at Q_2 hsQ
 rw [hg]
 have hg : w1.heap.size = gQ := by rw [hsR, hg]
 have zQ : w.heap.size ≤ gQ := by have := b1.out.size; omega
 clear hg hsR
 have R_2 := Row.below R_1 kk R_1.lt
 have b2 := Lib.hid (below_after b1.out kk b1.out.size)
 clear R_1 b1 kk
 have kk : Below w2.heap.size w2 (w2.alloc (.cells #[.int .i64 (k : Int), .int .i64 inc, .int .i64 wh, iv, tv] 67)) := (Below.refl _ _).alloc (Nat.le_refl _) _
 have Y_3 := Row.new w2 67 #[.int .i64 (k : Int), .int .i64 inc, .int .i64 wh, iv, tv]
 have hsY : (w2.alloc (.cells #[.int .i64 (k : Int), .int .i64 inc, .int .i64 wh, iv, tv] 67)).heap.size = w2.heap.size + 1 := by simp
 obtain ⟨w3, hw⟩ : ∃ w3, w2.alloc (.cells #[.int .i64 (k : Int), .int .i64 inc, .int .i64 wh, iv, tv] 67) = w3 := ⟨_, rfl⟩
 rw [hw] at kk Y_3 hsY ⊢
 clear hw
 obtain ⟨gY, hg⟩ : ∃ gY, gQ + 1 = gY := ⟨_, rfl⟩
 rw [hsQ, hg] at Y_3 hsY
 rw [hg]
 have hg : w2.heap.size = gY := by rw [hsQ, hg]
 have zY : w.heap.size ≤ gY := by have := b2.out.size; omega
 clear hg hsQ
 have R_3 := Row.below R_2 kk R_2.lt
 have Q_3 := Row.below Q_2 kk Q_2.lt
 have b3 := Lib.hid (below_after b2.out kk b2.out.size)
 clear R_2 Q_2 b2 kk
 have cR0 : w3.cell? ⟨gR, 0, none⟩ = some (wv) := Row.cell R_3 0
 have cR1 : w3.cell? ⟨gR, 1, none⟩ = some (sv) := Row.cell R_3 1
 have cR2 : w3.cell? ⟨gR, 2, none⟩ = some (.int .i64 me) := Row.cell R_3 2
 have cR3 : w3.cell? ⟨gR, 3, none⟩ = some (bv) := Row.cell R_3 3
 have cR4 : w3.cell? ⟨gR, 4, none⟩ = some (.int .i64 al) := Row.cell R_3 4
 have cR5 : w3.cell? ⟨gR, 5, none⟩ = some (.int .i64 cr) := Row.cell R_3 5
 have cR6 : w3.cell? ⟨gR, 6, none⟩ = some (.int .i64 un) := Row.cell R_3 6
 have cR7 : w3.cell? ⟨gR, 7, none⟩ = some (.int .i64 mo) := Row.cell R_3 7
 have cR8 : w3.cell? ⟨gR, 8, none⟩ = some (rv) := Row.cell R_3 8
 have cR9 : w3.cell? ⟨gR, 9, none⟩ = some (.int .i64 ct) := Row.cell R_3 9
 have cR10 : w3.cell? ⟨gR, 10, none⟩ = some (.int .i64 fx) := Row.cell R_3 10
 have cR11 : w3.cell? ⟨gR, 11, none⟩ = some (.int .i64 de) := Row.cell R_3 11
 have cR12 : w3.cell? ⟨gR, 12, none⟩ = some (.int .i64 lo) := Row.cell R_3 12
 have cR13 : w3.cell? ⟨gR, 13, none⟩ = some (.int .i64 sh) := Row.cell R_3 13
 have cR14 : w3.cell? ⟨gR, 14, none⟩ = some (.int .i64 tp) := Row.cell R_3 14
 have cR15 : w3.cell? ⟨gR, 15, none⟩ = some (.int .i64 rc) := Row.cell R_3 15
 have lR := Row.lt R_3
 go_wp2_with fail
 refine (H1.out _ b3.out).mono ?_
 rintro e w4 ⟨rfl, k4⟩
 have R_4 := Row.below R_3 k4 R_3.lt
 have Q_4 := Row.below Q_3 k4 Q_3.lt
 have Y_4 := Row.below Y_3 k4 Y_3.lt
 have b4 := Lib.hid (below_after b3.out k4 b3.out.size)
 clear R_3 Q_3 Y_3 b3 k4
 have cQ0 : w4.cell? ⟨gQ, 0, none⟩ = some (.int .i64 dep) := Row.cell Q_4 0
 have cQ1 : w4.cell? ⟨gQ, 1, none⟩ = some (dv) := Row.cell Q_4 1
 have cQ2 : w4.cell? ⟨gQ, 2, none⟩ = some (ov) := Row.cell Q_4 2
 have cQ3 : w4.cell? ⟨gQ, 3, none⟩ = some (.slice A ems.length cap) := Row.cell Q_4 3
 have lQ := Row.lt Q_4
 go_wp2_with fail
 refine (H2.out _ b4.out).mono ?_
 rintro e w5 ⟨rfl, k5⟩
 have R_5 := Row.below R_4 k5 R_4.lt
 have Q_5 := Row.below Q_4 k5 Q_4.lt
 have Y_5 := Row.below Y_4 k5 Y_4.lt
 have b5 := Lib.hid (below_after b4.out k5 b4.out.size)
 clear R_4 Q_4 Y_4 b4 k5
 have cY0 : w5.cell? ⟨gY, 0, none⟩ = some (.int .i64 (k : Int)) := Row.cell Y_5 0
 have cY1 : w5.cell? ⟨gY, 1, none⟩ = some (.int .i64 inc) := Row.cell Y_5 1
 have cY2 : w5.cell? ⟨gY, 2, none⟩ = some (.int .i64 wh) := Row.cell Y_5 2
 have cY3 : w5.cell? ⟨gY, 3, none⟩ = some (iv) := Row.cell Y_5 3
 have cY4 : w5.cell? ⟨gY, 4, none⟩ = some (tv) := Row.cell Y_5 4
 have lY := Row.lt Y_5
 go_wp2_with fail
 refine (H3.out _ b5.out).mono ?_
 rintro e w6 ⟨rfl, k6⟩
 have R_6 := Row.below R_5 k6 R_5.lt
 have Q_6 := Row.below Q_5 k6 Q_5.lt
 have Y_6 := Row.below Y_5 k6 Y_5.lt
 have b6 := Lib.hid (below_after b5.out k6 b5.out.size)
 clear R_5 Q_5 Y_5 b5 k6
 go_wp2_with fail
 refine (H4.out _ b6.out).mono ?_
 rintro e w7 ⟨rfl, k7⟩
 have R_7 := Row.below R_6 k7 R_6.lt
 have Q_7 := Row.below Q_6 k7 Q_6.lt
 have Y_7 := Row.below Y_6 k7 Y_6.lt
 have b7 := Lib.hid (below_after b6.out k7 b6.out.size)
 clear R_6 Q_6 Y_6 b6 k7
 have cR0 : w7.cell? ⟨gR, 0, none⟩ = some (wv) := Row.cell R_7 0
 have cR1 : w7.cell? ⟨gR, 1, none⟩ = some (sv) := Row.cell R_7 1
 have cR2 : w7.cell? ⟨gR, 2, none⟩ = some (.int .i64 me) := Row.cell R_7 2
 have cR3 : w7.cell? ⟨gR, 3, none⟩ = some (bv) := Row.cell R_7 3
 have cR4 : w7.cell? ⟨gR, 4, none⟩ = some (.int .i64 al) := Row.cell R_7 4
 have cR5 : w7.cell? ⟨gR, 5, none⟩ = some (.int .i64 cr) := Row.cell R_7 5
 have cR6 : w7.cell? ⟨gR, 6, none⟩ = some (.int .i64 un) := Row.cell R_7 6
 have cR7 : w7.cell? ⟨gR, 7, none⟩ = some (.int .i64 mo) := Row.cell R_7 7
 have cR8 : w7.cell? ⟨gR, 8, none⟩ = some (rv) := Row.cell R_7 8
 have cR9 : w7.cell? ⟨gR, 9, none⟩ = some (.int .i64 ct) := Row.cell R_7 9
 have cR10 : w7.cell? ⟨gR, 10, none⟩ = some (.int .i64 fx) := Row.cell R_7 10
 have cR11 : w7.cell? ⟨gR, 11, none⟩ = some (.int .i64 de) := Row.cell R_7 11
 have cR12 : w7.cell? ⟨gR, 12, none⟩ = some (.int .i64 lo) := Row.cell R_7 12
 have cR13 : w7.cell? ⟨gR, 13, none⟩ = some (.int .i64 sh) := Row.cell R_7 13
 have cR14 : w7.cell? ⟨gR, 14, none⟩ = some (.int .i64 tp) := Row.cell R_7 14
 have cR15 : w7.cell? ⟨gR, 15, none⟩ = some (.int .i64 rc) := Row.cell R_7 15
 have lR := Row.lt R_7
 have cQ0 : w7.cell? ⟨gQ, 0, none⟩ = some (.int .i64 dep) := Row.cell Q_7 0
 have cQ1 : w7.cell? ⟨gQ, 1, none⟩ = some (dv) := Row.cell Q_7 1
 have cQ2 : w7.cell? ⟨gQ, 2, none⟩ = some (ov) := Row.cell Q_7 2
 have cQ3 : w7.cell? ⟨gQ, 3, none⟩ = some (.slice A ems.length cap) := Row.cell Q_7 3
 have lQ := Row.lt Q_7
 have cY0 : w7.cell? ⟨gY, 0, none⟩ = some (.int .i64 (k : Int)) := Row.cell Y_7 0
 have cY1 : w7.cell? ⟨gY, 1, none⟩ = some (.int .i64 inc) := Row.cell Y_7 1
 have cY2 : w7.cell? ⟨gY, 2, none⟩ = some (.int .i64 wh) := Row.cell Y_7 2
 have cY3 : w7.cell? ⟨gY, 3, none⟩ = some (iv) := Row.cell Y_7 3
 have cY4 : w7.cell? ⟨gY, 4, none⟩ = some (tv) := Row.cell Y_7 4
 have lY := Row.lt Y_7
 clear H1 H2 H3 H4
 go_wp2_with fail
 go_loop [9] (fun i => ∃ m : Nat, m ≤ kl.length ∧ i = .int .i64 m) (fun i => kl.length - (intOf i).toNat)
 case atStart => exact ⟨0, by omega, rfl⟩
 case round =>
  obtain ⟨m, hm, rfl⟩ := hrel
  by_cases hlt : m < kl.length
  ·obtain ⟨bk, off, rfl, hc⟩ := (HSK.out.below b7.out).cells (by rw [els_len]; omega)
   have hbl := hc.1
   have i1 : (m : Int) < (kl.length : Int) := by omega
   obtain ⟨c0, c1⟩ := hc.el hlt
   have ha := HKA.out _ (List.getElem_mem hlt)
   have da : decide ((1000000000 : Int) < kl[m].amt) = false := decide_eq_false (by omega)
   clear hc
   go_wp2_with fail
   go_round
   case rel => exact ⟨m + 1, by omega, by go_num⟩
   case measure => simp [intOf]; omega
  ·obtain rfl : m = kl.length := by omega
   clear HSK HKA
   go_wp2_with fail
   go_loopw [10] (fun i wr => ∃ m : Nat, m ≤ ems.length ∧ i = .int .i64 m ∧ Hid (Below w7.heap.size w7 wr)) (fun i _ => ems.length - (intOf i).toNat)
   case atStart => exact ⟨0, by omega, rfl, Below.refl _ _⟩
   case round =>
    obtain ⟨m, hm, rfl, HB⟩ := hrel
    obtain ⟨wo, rfl⟩ : ∃ wo : World, wo = wr := ⟨_, rfl⟩
    have RQ := Row.below Q_7 HB.out (Row.lt Q_7)
    have RY := Row.below Y_7 HB.out (Row.lt Y_7)
    have hbw := below_after b7.out HB.out b7.out.size
    have x3 : wo.cell? ⟨gQ, 3, none⟩ = some (.slice A ems.length cap) := Row.cell RQ 3
    have y0 : wo.cell? ⟨gY, 0, none⟩ = some (.int .i64 (k : Int)) := Row.cell RY 0
    have lQ2 := Row.lt RQ
    have lY2 := Row.lt RY
    have HBQ := fun q => Below.draws HB.out q
    by_cases hlt2 : m < ems.length
    ·obtain ⟨bk, off, rfl, hc⟩ := (HVS.out.below hbw).cells (by rw [List.length_map]; omega)
     have hbl := hc.1
     have i1 : (m : Int) < (ems.length : Int) := by omega
     have hxo := (HEO.out _ (List.getElem_mem hlt2)).1.1
     have hxe := HEE.out _ (List.getElem_mem hlt2)
     have hwk : (ems.map Em.vals)[m]? = some (ems[m]).vals := by simp [hlt2]
     obtain ⟨⟨xv, xl, xb⟩, hx⟩ : ∃ x, ems[m] = x := ⟨_, rfl⟩
     rw [hx] at hwk hxo hxe
     have c0 := hc.at hwk 0 rfl
     simp only [Nat.add_zero] at c0
     dsimp only at c0 hxo hxe
     obtain ⟨Ax, cx, rfl, hcx1, hcx2, _, _⟩ := hxe
     rw [ints_len, hxo] at c0
     clear hc hx hwk hcx1 hxo RQ RY HVS HEO HEE
     go_wp2_with fail
     go_quiet (fail)
     go_wp2_with fail
     go_roundw
     case rel => exact ⟨m + 1, by omega, by go_num, HBQ _⟩
     case measure => simp [intOf]; omega
    ·obtain rfl : m = ems.length := by omega
     have HE := Lib.hid hbw
     go_wp2
     go_ret
     exact ⟨rfl, HE.out⟩
end Go.Proofs.YtogdefomigiepaaGreatDoor
/- Contract of payrollref26.Of, for drawn elements. Written by gen_rof.py. -/
namespace Go.Proofs.YtogdefomigiepaaGreatDoor
open Go.RowKit

def Bs (w wB : World) (gB : Nat) (M g c t i a : Int) (wx : World) : Prop :=
 ((-M ≤ g ∧ g ≤ M) ∧ (-M ≤ c ∧ c ≤ M) ∧ (-M ≤ t ∧ t ≤ M) ∧ (-M ≤ i ∧ i ≤ M) ∧ (-M ≤ a ∧ a ≤ M)) ∧ Row wx gB 24 #[.int .i64 g, .int .i64 c, .int .i64 t, .int .i64 i, .int .i64 a] ∧ Below w.heap.size w wx ∧ wB.grownBy wx (some gB)
theorem Bs.more {w wB : World} {gB : Nat} {M N g c t i a : Int} {wx : World} (h : Bs w wB gB M g c t i a wx) (hM : M ≤ N) : Bs w wB gB N g c t i a wx := ⟨by have := h.1; omega, h.2⟩
theorem Bs.below {w wB : World} {gB : Nat} {M g c t i a : Int} {wx wy : World} (h : Bs w wB gB M g c t i a wx) (hb : Below wx.heap.size wx wy) : Bs w wB gB M g c t i a wy :=
 ⟨h.1, h.2.1.below hb h.2.1.lt, below_after h.2.2.1 hb h.2.2.1.size, gb_below h.2.2.2 hb⟩
theorem Bs.set {w wB : World} {gB : Nat} {M g c t i a : Int} {wx : World} (h : Bs w wB gB M g c t i a wx) (hB : w.heap.size ≤ gB) (k : Nat) (v g' c' t' i' a' : Int) (hr : (#[.int .i64 g, .int .i64 c, .int .i64 t, .int .i64 i, .int .i64 a] : Array Value).setIfInBounds k (.int .i64 v) = #[.int .i64 g', .int .i64 c', .int .i64 t', .int .i64 i', .int .i64 a']) (hb : (-M ≤ g' ∧ g' ≤ M) ∧ (-M ≤ c' ∧ c' ≤ M) ∧ (-M ≤ t' ∧ t' ≤ M) ∧ (-M ≤ i' ∧ i' ≤ M) ∧ (-M ≤ a' ∧ a' ≤ M)) :
  Bs w wB gB M g' c' t' i' a' (wx.setCell ⟨gB, k, none⟩ (.int .i64 v)) :=
 ⟨hb, by have := h.2.1.set k (.int .i64 v); rwa [hr] at this, h.2.2.1.setCell hB _, gb_set h.2.2.2 (.inl rfl) _⟩
set_option maxRecDepth 100000 in
set_option maxHeartbeats 8000000 in
theorem Of_ok (ws : List Wg) (hc : Coded Wg.code WgOk litW litW.length ws) (l : List Ln) (hl : EsOk l) (hn : l.length ≤ 5) (hcd : ∀ x ∈ l, ∃ y ∈ ws, y.code = x.code) (vw ve : Value) (w : World) (hvw : Sl w 6 vw (ws.map Wg.vals)) (hve : Sl w 2 ve (els l)) :
  Calls Tryz.prog 43 #[vw, ve] w fun e w' => ∃ g c t i a : Int, ((-75000000 ≤ g ∧ g ≤ 75000000) ∧ (-75000000 ≤ c ∧ c ≤ 75000000) ∧ (-75000000 ≤ t ∧ t ≤ 75000000) ∧ (-75000000 ≤ i ∧ i ≤ 75000000) ∧ (-75000000 ≤ a ∧ a ≤ 75000000)) ∧ e = .returned (.tuple #[.agg #[.int .i64 g, .int .i64 c, .int .i64 t, .int .i64 i, .int .i64 a], .int .i64 0]) ∧ Below w.heap.size w w' := by
 have H1 := Lib.hid fun (y : World) (hy : Below w.heap.size w y) => Wages_ok ws vw y (hvw.below hy) hc
 have H2 := Lib.hid fun (y : World) (hy : Below w.heap.size w y) => sums_ok l ve y (hve.below hy) hl
 have HFD := Lib.hid fun (c : ByteArray) (h : ∃ x ∈ ws, x.code = c) (y : World) (hy : Below w.heap.size w y) => Find_ok ws c vw y (hvw.below hy) (by have : ws.length ≤ 4 := hc.len; omega) h
 have hpl := puts_len l l.length
 rw [List.take_length] at hpl
 have HPB : Hid (∀ a ∈ putsR l, -3000000 ≤ a.amt ∧ a.amt ≤ 3000000) := fun a ha => by
  have := puts_bound (by omega) hl.amt a ha
  omega
 have HPC : Hid (∀ a ∈ putsR l, ∃ y ∈ ws, y.code = a.code) := fun a ha => by
  obtain ⟨y, hy, _, e⟩ := puts_title a ha
  rw [e]; exact hcd y hy
 obtain ⟨es, hes⟩ : ∃ es, putsR l = es := ⟨_, rfl⟩
 rw [hes] at hpl HPB HPC H2
 clear hes hc hl hcd hve hvw
 go_enter Tryz.func43, Tryz.ntmps43
 go_upto_region 1 with (fail)
 have kk : Below w.heap.size w (w.alloc (.cells #[.int .i64 0, .int .i64 0, .int .i64 0, .int .i64 0, .int .i64 0] 24)) := (Below.refl _ _).alloc (Nat.le_refl _) _
 have R_1 := Row.new w 24 #[.int .i64 0, .int .i64 0, .int .i64 0, .int .i64 0, .int .i64 0]
 have hsR : (w.alloc (.cells #[.int .i64 0, .int .i64 0, .int .i64 0, .int .i64 0, .int .i64 0] 24)).heap.size = w.heap.size + 1 := by simp
 obtain ⟨w1, hw⟩ : ∃ w1, w.alloc (.cells #[.int .i64 0, .int .i64 0, .int .i64 0, .int .i64 0, .int .i64 0] 24) = w1 := ⟨_, rfl⟩
 rw [hw] at kk R_1 hsR ⊢
 clear hw
 obtain ⟨gR, hg⟩ : ∃ gR, w.heap.size = gR := ⟨_, rfl⟩
 rw [hg] at R_1 hsR ⊢
 have zR : w.heap.size ≤ gR := by omega
 clear hg
 have b1 := Lib.hid kk
 clear kk
 go_wp2_with fail
 refine (H1.out _ b1.out).mono ?_
 rintro e w2 ⟨rfl, k2⟩
 have R_2 := Row.below R_1 k2 R_1.lt
 have b2 := Lib.hid (below_after b1.out k2 b1.out.size)
 clear R_1 b1 k2
 go_wp2_with fail
 refine (H2.out _ b2.out).mono ?_
 rintro e w3 ⟨y, rfl, hown, k3⟩
 have R_3 := Row.below R_2 k3 R_2.lt
 have b3 := Lib.hid (below_after b2.out k3 b2.out.size)
 clear R_2 b2 k3
 obtain ⟨Ay, cy, hf⟩ := hown.form
 rw [els_len] at hf
 subst hf
 have h4 : es.length ≤ cy ∧ cy ≤ maxLen := by
  obtain ⟨_, _, hv, q1, q2, _⟩ := hown.sl (by omega)
  injection hv with e1 e2 e3
  rw [els_len] at q1
  omega
 unfold maxLen at h4
 have oB := hown.offNew
 have HY0 := Lib.hid hown
 clear hown H1 H2
 go_upto_region 7 with (fail)
 have lRb := Row.lt R_3
 have kk : Below w3.heap.size w3 (w3.alloc (.cells #[.int .i64 0, .int .i64 0, .int .i64 0, .int .i64 0, .int .i64 0] 24)) := (Below.refl _ _).alloc (Nat.le_refl _) _
 have B_4 := Row.new w3 24 #[.int .i64 0, .int .i64 0, .int .i64 0, .int .i64 0, .int .i64 0]
 have hsB : (w3.alloc (.cells #[.int .i64 0, .int .i64 0, .int .i64 0, .int .i64 0, .int .i64 0] 24)).heap.size = w3.heap.size + 1 := by simp
 obtain ⟨w4, hw⟩ : ∃ w4, w3.alloc (.cells #[.int .i64 0, .int .i64 0, .int .i64 0, .int .i64 0, .int .i64 0] 24) = w4 := ⟨_, rfl⟩
 rw [hw] at kk B_4 hsB ⊢
 clear hw
 obtain ⟨gB, hg⟩ : ∃ gB, w3.heap.size = gB := ⟨_, rfl⟩
 rw [hg] at B_4 hsB ⊢
 have zB : w.heap.size ≤ gB := by have := b3.out.size; omega
 have GB := Lib.hid hg
 clear hg
 have R_4 := Row.below R_3 kk R_3.lt
 have Y_4 := Lib.hid (HY0.out.kept kk)
 have b4 := Lib.hid (below_after b3.out kk b3.out.size)
 clear R_3 HY0 b3 kk
 have HB0 : Hid (Bs w w4 gB 0 0 0 0 0 0 w4) := ⟨by omega, B_4, b4.out, World.grownBy.refl _ _⟩
 have HOB : Hid (∀ g, Value.ownBlock (.slice Ay es.length cy) = some g → g ≠ gB) := by intro g hg; have h := oB g hg; rw [← GB.out]; exact h
 have RR0 := Lib.hid R_4
 have lRB : gR ≠ gB := by rw [← GB.out]; omega
 go_wp2_with fail
 go_loopw [9] (fun i wr => ∃ (k : Nat) (g c t i2 a : Int), k ≤ es.length ∧ i = .int .i64 k ∧ Hid (Bs w w4 gB (15000000 * k) g c t i2 a wr)) (fun i _ => es.length - (intOf i).toNat)
 case atStart => exact ⟨0, 0, 0, 0, 0, 0, by omega, rfl, HB0.out⟩
 case round =>
  clear HB0
  obtain ⟨k, g, c, t, i2, a, hk, rfl, HX⟩ := hrel
  obtain ⟨wo, rfl⟩ : ∃ wo : World, wo = wr := ⟨_, rfl⟩
  by_cases hlt : k < es.length
  ·have HYS := Lib.hid fun (wx : World) (h : World.grownBy w4 wx (some gB)) => (Y_4.out.keepG h (own_ne HOB.out)).sl (by omega)
   have i1 : (k : Int) < (es.length : Int) := by omega
   have ha := HPB.out _ (List.getElem_mem hlt)
   have hco := HPC.out _ (List.getElem_mem hlt)
   have HCE := Lib.hid fun (wx : World) (h : World.grownBy w4 wx (some gB)) => (show ∃ b off, Ay = some ⟨b, off, none⟩ ∧ b < wx.heap.size ∧ wx.cell? ⟨b, off + k * 2, none⟩ = some (.string es[k].code) ∧ wx.cell? ⟨b, off + k * 2 + 1, none⟩ = some (.int .i64 es[k].amt) by
    obtain ⟨b, off, hA, hcc⟩ := (HYS.out wx h).cells (by rw [els_len]; omega)
    exact ⟨b, off, hA, hcc.1, (hcc.el hlt).1, (hcc.el hlt).2⟩)
   obtain ⟨b, off, hA, -⟩ := HCE.out wo HX.out.2.2.2
   subst hA
   have HCF := Lib.hid fun (wx : World) (h : World.grownBy w4 wx (some gB)) => (show b < wx.heap.size ∧ wx.cell? ⟨b, off + k * 2, none⟩ = some (.string es[k].code) ∧ wx.cell? ⟨b, off + k * 2 + 1, none⟩ = some (.int .i64 es[k].amt) by
    obtain ⟨b', off', hA, h1, h2, h3⟩ := HCE.out wx h
    simp only [Option.some.injEq, Addr.mk.injEq] at hA
    obtain ⟨rfl, rfl, _⟩ := hA
    exact ⟨h1, h2, h3⟩)
   obtain ⟨n, hn2⟩ : ∃ n, es[k].amt = n := ⟨_, rfl⟩
   obtain ⟨cd, hcd2⟩ : ∃ cd, es[k].code = cd := ⟨_, rfl⟩
   rw [hn2] at ha HCF
   rw [hcd2] at hco HCF
   obtain ⟨hbl, y0, y1⟩ := HCF.out wo HX.out.2.2.2
   have HFC := Lib.hid (HFD.out cd hco wo HX.out.2.2.1)
   clear hn2 hcd2 HCE HYS hco
   go_wp2_with fail
   refine HFC.out.mono ?_
   rintro e w8 ⟨⟨code, kind, tax, ins, att, acc⟩, -, -, rfl, k8⟩
   have HX8 := Lib.hid (HX.out.below k8)
   obtain ⟨hbl8, _, z1⟩ := HCF.out w8 HX8.out.2.2.2
   clear HX hbl y0 y1 HFC k8
   have hvl : (Wg.vals ⟨code, kind, tax, ins, att, acc⟩).toArray = #[.string code, .int .i64 kind, .bool tax, .bool ins, .bool att, .int .i64 acc] := rfl
   rw [hvl]
   clear hvl
   go_upto_region 14 with (refine wpList_storeNew rfl 120 (.tmp 10) (.tmp 40) rfl #[.string code, .int .i64 kind, .bool tax, .bool ins, .bool att, .int .i64 acc] rfl rfl (by simp) (by kernel_rfl) (by simp [Value.oneCell']) (by kernel_rfl) ?_; intro w9 RW k9; have z1 := (HCF.out w9 (gb_below HX8.out.2.2.2 k9)).2.2; have hbl9 := (HCF.out w9 (gb_below HX8.out.2.2.2 k9)).1)
   have HX9 := Lib.hid (HX8.out.below k9)
   obtain ⟨gW, hgW⟩ : ∃ gW, w8.heap.size = gW := ⟨_, rfl⟩
   have hWB : gW ≠ gB := by have := Row.lt HX8.out.2.1; omega
   have HWB : Hid (w.heap.size ≤ gW) := by rw [Hid, ← hgW]; exact HX8.out.2.2.1.size
   rw [hgW] at RW ⊢
   clear HX8 z1 hbl8 hgW k9 hbl9
   have H10 := Lib.hid (HX9.out.more (show (15000000 : Int) * k ≤ 15000000 * k + 3000000 by omega))
   have b0 := H10.out.1
   have u0 : w9.cell? ⟨gB, 0, none⟩ = some (.int .i64 g) := Row.cell H10.out.2.1 0
   have v0 : w9.frozen? ⟨gB, 0, none⟩ = false := Row.frozen H10.out.2.1 0
   have u1 : w9.cell? ⟨gB, 1, none⟩ = some (.int .i64 c) := Row.cell H10.out.2.1 1
   have v1 : w9.frozen? ⟨gB, 1, none⟩ = false := Row.frozen H10.out.2.1 1
   have u2 : w9.cell? ⟨gB, 2, none⟩ = some (.int .i64 t) := Row.cell H10.out.2.1 2
   have v2 : w9.frozen? ⟨gB, 2, none⟩ = false := Row.frozen H10.out.2.1 2
   have u3 : w9.cell? ⟨gB, 3, none⟩ = some (.int .i64 i2) := Row.cell H10.out.2.1 3
   have v3 : w9.frozen? ⟨gB, 3, none⟩ = false := Row.frozen H10.out.2.1 3
   have u4 : w9.cell? ⟨gB, 4, none⟩ = some (.int .i64 a) := Row.cell H10.out.2.1 4
   have v4 : w9.frozen? ⟨gB, 4, none⟩ = false := Row.frozen H10.out.2.1 4
   have lB := Row.lt H10.out.2.1
   have s0 : IntKind.i64.wrap (g + n) = g + n := IntWalk.i64_in _ (by omega)
   have hb9 := HX9.out.1
   have H11 := Lib.hid (H10.out.set zB 0 (g + n) (g + n) c t i2 a rfl (by omega))
   have RW := RW.far (p := ⟨gB, 0, none⟩) hWB (.int .i64 (g + n))
   go_upto_region 15 with (fail)
   clear s0 hb9
   clear b0 lB u0 v0 u1 v1 u2 v2 u3 v3 u4 v4
   obtain ⟨w10, hw⟩ : ∃ w10, w9.setCell ⟨gB, 0, none⟩ (.int .i64 (g + n)) = w10 := ⟨_, rfl⟩
   rw [hw] at H11 RW ⊢
   clear hw
   have H11 := Lib.hid (show ∃ g c t i2 a : Int, Bs w w4 gB (15000000 * k + 3000000) g c t i2 a w10 from ⟨_, _, _, _, _, H11.out⟩)
   clear H10 HX9
   obtain ⟨g, c, t, i2, a, hs1⟩ := H11.out
   have HS1 := Lib.hid hs1
   clear hs1 H11
   have lW := RW.lt
   have r0 : w10.cell? ⟨gW, 0, none⟩ = some (.string code) := Row.cell RW 0
   have r1 : w10.cell? ⟨gW, 1, none⟩ = some (.int .i64 kind) := Row.cell RW 1
   have r2 : w10.cell? ⟨gW, 2, none⟩ = some (.bool tax) := Row.cell RW 2
   have r3 : w10.cell? ⟨gW, 3, none⟩ = some (.bool ins) := Row.cell RW 3
   have r4 : w10.cell? ⟨gW, 4, none⟩ = some (.bool att) := Row.cell RW 4
   have r5 : w10.cell? ⟨gW, 5, none⟩ = some (.int .i64 acc) := Row.cell RW 5
   go_upto_if 57 with (fail)
   go_cut [12] (fun x wx => x = .int .i64 n ∧ Row wx gW 120 #[.string code, .int .i64 kind, .bool tax, .bool ins, .bool att, .int .i64 acc] ∧ Hid (∃ g c t i2 a : Int, Bs w w4 gB (15000000 * k + 6000000) g c t i2 a wx))
   case first =>
    have b0 := HS1.out.1
    have HM := Lib.hid (HS1.out.more (show (15000000 : Int) * k + 3000000 ≤ 15000000 * k + 6000000 by omega))
    have u1 : w10.cell? ⟨gB, 1, none⟩ = some (.int .i64 c) := Row.cell HS1.out.2.1 1
    have v1 : w10.frozen? ⟨gB, 1, none⟩ = false := Row.frozen HS1.out.2.1 1
    have lB := Row.lt HS1.out.2.1
    have s0 : IntKind.i64.wrap (c + n) = c + n := IntWalk.i64_in _ (by omega)
    have HT := Lib.hid (HM.out.set zB 1 (c + n) g (c + n) t i2 a rfl (by omega))
    have RWT := Lib.hid (RW.far (p := ⟨gB, 1, none⟩) hWB (.int .i64 (c + n)))
    have RWH := Lib.hid RW
    clear RW b0 HS1
    cases ec : (kind == 1)
    ·go_wp2_with fail
     go_meet
     exact ⟨rfl, RWH.out, _, _, _, _, _, HM.out⟩
    ·go_wp2_with fail
     go_meet
     exact ⟨rfl, RWT.out, _, _, _, _, _, HT.out⟩
   case rest =>
    clear RW HS1 lW r0 r1 r2 r3 r4 r5
    obtain ⟨rfl, RW, HC1⟩ := hcut
    obtain ⟨wq2, hwq⟩ : ∃ wq2 : World, wq2 = wc := ⟨_, rfl⟩
    subst hwq
    have H12 := HC1
    clear HC1
    obtain ⟨g, c, t, i2, a, hs2⟩ := H12.out
    have HS2 := Lib.hid hs2
    clear hs2 H12
    have lW := RW.lt
    have r0 : wq2.cell? ⟨gW, 0, none⟩ = some (.string code) := Row.cell RW 0
    have r1 : wq2.cell? ⟨gW, 1, none⟩ = some (.int .i64 kind) := Row.cell RW 1
    have r2 : wq2.cell? ⟨gW, 2, none⟩ = some (.bool tax) := Row.cell RW 2
    have r3 : wq2.cell? ⟨gW, 3, none⟩ = some (.bool ins) := Row.cell RW 3
    have r4 : wq2.cell? ⟨gW, 4, none⟩ = some (.bool att) := Row.cell RW 4
    have r5 : wq2.cell? ⟨gW, 5, none⟩ = some (.int .i64 acc) := Row.cell RW 5
    go_upto_if 64 with (fail)
    go_cut [12] (fun x wx => x = .int .i64 n ∧ Row wx gW 120 #[.string code, .int .i64 kind, .bool tax, .bool ins, .bool att, .int .i64 acc] ∧ Hid (∃ g c t i2 a : Int, Bs w w4 gB (15000000 * k + 9000000) g c t i2 a wx))
    case first =>
     have b0 := HS2.out.1
     have HM := Lib.hid (HS2.out.more (show (15000000 : Int) * k + 6000000 ≤ 15000000 * k + 9000000 by omega))
     have u2 : wq2.cell? ⟨gB, 2, none⟩ = some (.int .i64 t) := Row.cell HS2.out.2.1 2
     have v2 : wq2.frozen? ⟨gB, 2, none⟩ = false := Row.frozen HS2.out.2.1 2
     have lB := Row.lt HS2.out.2.1
     have s0 : IntKind.i64.wrap (t + n) = t + n := IntWalk.i64_in _ (by omega)
     have HT := Lib.hid (HM.out.set zB 2 (t + n) g c (t + n) i2 a rfl (by omega))
     have RWT := Lib.hid (RW.far (p := ⟨gB, 2, none⟩) hWB (.int .i64 (t + n)))
     have RWH := Lib.hid RW
     clear RW b0 HS2
     cases tax
     ·go_wp2_with fail
      go_meet
      exact ⟨rfl, RWH.out, _, _, _, _, _, HM.out⟩
     ·go_wp2_with fail
      go_meet
      exact ⟨rfl, RWT.out, _, _, _, _, _, HT.out⟩
    case rest =>
     clear RW HS2 lW r0 r1 r2 r3 r4 r5
     obtain ⟨rfl, RW, HC2⟩ := hcut
     obtain ⟨wq3, hwq⟩ : ∃ wq3 : World, wq3 = wc := ⟨_, rfl⟩
     subst hwq
     have H13 := HC2
     clear HC2
     obtain ⟨g, c, t, i2, a, hs3⟩ := H13.out
     have HS3 := Lib.hid hs3
     clear hs3 H13
     have lW := RW.lt
     have r0 : wq3.cell? ⟨gW, 0, none⟩ = some (.string code) := Row.cell RW 0
     have r1 : wq3.cell? ⟨gW, 1, none⟩ = some (.int .i64 kind) := Row.cell RW 1
     have r2 : wq3.cell? ⟨gW, 2, none⟩ = some (.bool tax) := Row.cell RW 2
     have r3 : wq3.cell? ⟨gW, 3, none⟩ = some (.bool ins) := Row.cell RW 3
     have r4 : wq3.cell? ⟨gW, 4, none⟩ = some (.bool att) := Row.cell RW 4
     have r5 : wq3.cell? ⟨gW, 5, none⟩ = some (.int .i64 acc) := Row.cell RW 5
     go_upto_if 71 with (fail)
     go_cut [12] (fun x wx => x = .int .i64 n ∧ Row wx gW 120 #[.string code, .int .i64 kind, .bool tax, .bool ins, .bool att, .int .i64 acc] ∧ Hid (∃ g c t i2 a : Int, Bs w w4 gB (15000000 * k + 12000000) g c t i2 a wx))
     case first =>
      have b0 := HS3.out.1
      have HM := Lib.hid (HS3.out.more (show (15000000 : Int) * k + 9000000 ≤ 15000000 * k + 12000000 by omega))
      have u3 : wq3.cell? ⟨gB, 3, none⟩ = some (.int .i64 i2) := Row.cell HS3.out.2.1 3
      have v3 : wq3.frozen? ⟨gB, 3, none⟩ = false := Row.frozen HS3.out.2.1 3
      have lB := Row.lt HS3.out.2.1
      have s0 : IntKind.i64.wrap (i2 + n) = i2 + n := IntWalk.i64_in _ (by omega)
      have HT := Lib.hid (HM.out.set zB 3 (i2 + n) g c t (i2 + n) a rfl (by omega))
      have RWT := Lib.hid (RW.far (p := ⟨gB, 3, none⟩) hWB (.int .i64 (i2 + n)))
      have RWH := Lib.hid RW
      clear RW b0 HS3
      cases ins
      ·go_wp2_with fail
       go_meet
       exact ⟨rfl, RWH.out, _, _, _, _, _, HM.out⟩
      ·go_wp2_with fail
       go_meet
       exact ⟨rfl, RWT.out, _, _, _, _, _, HT.out⟩
     case rest =>
      clear RW HS3 lW r0 r1 r2 r3 r4 r5
      obtain ⟨rfl, RW, HC3⟩ := hcut
      obtain ⟨wq4, hwq⟩ : ∃ wq4 : World, wq4 = wc := ⟨_, rfl⟩
      subst hwq
      have H14 := HC3
      clear HC3
      obtain ⟨g, c, t, i2, a, hs4⟩ := H14.out
      have HS4 := Lib.hid hs4
      clear hs4 H14
      have lW := RW.lt
      have r0 : wq4.cell? ⟨gW, 0, none⟩ = some (.string code) := Row.cell RW 0
      have r1 : wq4.cell? ⟨gW, 1, none⟩ = some (.int .i64 kind) := Row.cell RW 1
      have r2 : wq4.cell? ⟨gW, 2, none⟩ = some (.bool tax) := Row.cell RW 2
      have r3 : wq4.cell? ⟨gW, 3, none⟩ = some (.bool ins) := Row.cell RW 3
      have r4 : wq4.cell? ⟨gW, 4, none⟩ = some (.bool att) := Row.cell RW 4
      have r5 : wq4.cell? ⟨gW, 5, none⟩ = some (.int .i64 acc) := Row.cell RW 5
      have b0 := HS4.out.1
      have HM := Lib.hid (HS4.out.more (show (15000000 : Int) * k + 12000000 ≤ 15000000 * ((k + 1 : Nat) : Int) by omega))
      have u4 : wq4.cell? ⟨gB, 4, none⟩ = some (.int .i64 a) := Row.cell HS4.out.2.1 4
      have v4 : wq4.frozen? ⟨gB, 4, none⟩ = false := Row.frozen HS4.out.2.1 4
      have lB := Row.lt HS4.out.2.1
      have s0 : IntKind.i64.wrap (a + n) = a + n := IntWalk.i64_in _ (by omega)
      have HT := Lib.hid (HM.out.set zB 4 (a + n) g c t i2 (a + n) rfl (by omega))
      clear RW b0 HS4
      cases att
      ·go_wp2_with fail
       go_roundw
       case rel => exact ⟨k + 1, _, _, _, _, _, by omega, by go_num, HM.out⟩
       case measure => simp [intOf]; omega
      ·go_wp2_with fail
       go_roundw
       case rel => exact ⟨k + 1, _, _, _, _, _, by omega, by go_num, HT.out⟩
       case measure => simp [intOf]; omega
  ·obtain rfl : k = es.length := by omega
   have RR := (RR0.out).keep HX.out.2.2.2 (fun e => lRB (by injection e))
   have b0 := HX.out.1
   have u0 : wo.cell? ⟨gB, 0, none⟩ = some (.int .i64 g) := Row.cell HX.out.2.1 0
   have u1 : wo.cell? ⟨gB, 1, none⟩ = some (.int .i64 c) := Row.cell HX.out.2.1 1
   have u2 : wo.cell? ⟨gB, 2, none⟩ = some (.int .i64 t) := Row.cell HX.out.2.1 2
   have u3 : wo.cell? ⟨gB, 3, none⟩ = some (.int .i64 i2) := Row.cell HX.out.2.1 3
   have u4 : wo.cell? ⟨gB, 4, none⟩ = some (.int .i64 a) := Row.cell HX.out.2.1 4
   have lB := Row.lt HX.out.2.1
   have hbx := HX.out.2.2.1
   have A0 := Lib.hid (Amount_ok (n := g) wo (by omega))
   have A1 := Lib.hid (Amount_ok (n := c) wo (by omega))
   have A2 := Lib.hid (Amount_ok (n := t) wo (by omega))
   have A3 := Lib.hid (Amount_ok (n := i2) wo (by omega))
   have A4 := Lib.hid (Amount_ok (n := a) wo (by omega))
   have HBD : Hid ((-75000000 ≤ g ∧ g ≤ 75000000) ∧ (-75000000 ≤ c ∧ c ≤ 75000000) ∧ (-75000000 ≤ t ∧ t ≤ 75000000) ∧ (-75000000 ≤ i2 ∧ i2 ≤ 75000000) ∧ (-75000000 ≤ a ∧ a ≤ 75000000)) := ⟨by omega, by omega, by omega, by omega, by omega⟩
   clear HX b0
   go_wp2_with fail
   refine A0.out.mono ?_
   rintro e _ ⟨rfl, rfl⟩
   go_wp2_with fail
   refine A1.out.mono ?_
   rintro e _ ⟨rfl, rfl⟩
   go_wp2_with fail
   refine A2.out.mono ?_
   rintro e _ ⟨rfl, rfl⟩
   go_wp2_with fail
   refine A3.out.mono ?_
   rintro e _ ⟨rfl, rfl⟩
   go_wp2_with fail
   refine A4.out.mono ?_
   rintro e _ ⟨rfl, rfl⟩
   go_wp2_with (refine wpList_storeRow rfl 24 (.tmp 4) (.tmp 113) rfl #[.int .i64 g, .int .i64 c, .int .i64 t, .int .i64 i2, .int .i64 a] rfl rfl RR (by simp) (by kernel_rfl) (by simp [Value.oneCell']) (by kernel_rfl) ?_; intro wZ RZ gZ _)
   have bZ : Below w.heap.size w wZ := hbx.grown gZ hbx.size (fun g hg => by injection hg; omega)
   refine bodyPost_ret (v := .tuple #[.agg #[.int .i64 g, .int .i64 c, .int .i64 t, .int .i64 i2, .int .i64 a], .int .i64 0]) (results_rows rfl _ rfl RZ Tryz.underlying24 rfl (by kernel_rfl) rfl) rfl ⟨g, c, t, i2, a, HBD.out, rfl, bZ⟩
end Go.Proofs.YtogdefomigiepaaGreatDoor
/- Contract of payrollref32.lines. -/
namespace Go.Proofs.YtogdefomigiepaaGreatDoor
open Go.RowKit

theorem lift_take {kd : Int} {l : List Ln} {k : Nat} (h : k < l.length) : lift kd (l.take (k + 1)) = lift kd (l.take k) ++ (if l[k].amt = 0 then [] else [⟨kd, l[k].code, l[k].amt⟩]) := by
 rw [List.take_succ_eq_append_getElem h, lift_snoc]
set_option maxRecDepth 100000 in
set_option maxHeartbeats 4000000 in
theorem lines_ok (kd : Int) (l : List Ln) (v : Value) (w : World) (hv : Sl w 2 v (els l)) (hl : l.length ≤ 1000) :
  Calls Tryz.prog 53 #[.int .i64 kd, v] w (RetOwn w 45 3 (lns (lift kd l))) := by
 have HV := Lib.hid hv
 obtain ⟨A, cap, rfl, h1, h2, _, _⟩ := hv
 rw [els_len] at h1 HV ⊢
 unfold maxLen at h2
 go_enter Tryz.func53, Tryz.ntmps53
 go_wp2_with fail
 go_loopw [5, 6] (fun t i wr => ∃ k : Nat, k ≤ l.length ∧ i = .int .i64 k ∧ Hid (Own wr w.heap.size 45 3 t (lns (lift kd (l.take k))) ∧ Below w.heap.size w wr)) (fun _ i _ => l.length - (intOf i).toNat)
 case atStart => exact ⟨0, by omega, rfl, Own.nil _ _ _ _, Below.refl _ _⟩
 case round =>
  obtain ⟨k, hk, rfl, HX⟩ := hrel
  obtain ⟨wo, rfl⟩ : ∃ wo : World, wo = wr := ⟨_, rfl⟩
  by_cases hlt : k < l.length
  ·obtain ⟨bk, off, rfl, hc⟩ := (HV.out.below HX.out.2).cells (by rw [els_len]; omega)
   have hbl := hc.1
   have i1 : (k : Int) < (l.length : Int) := by omega
   obtain ⟨c0, c1⟩ := hc.el hlt
   have HLT := Lib.hid (lift_take (kd := kd) hlt)
   have hll := lift_len kd (l.take k)
   rw [List.length_take] at hll
   have hown := HX.out.1
   have hb := HX.out.2
   have hbs := hb.size
   clear hc
   cases e1 : (l[k].amt != 0)
   ·have HN : Hid (lift kd (l.take (k + 1)) = lift kd (l.take k)) := by rw [Hid, HLT.out, if_pos (by simpa using e1), List.append_nil]
    clear hown hb
    go_wp2_with fail
    go_roundw
    case rel => exact ⟨k + 1, by omega, by go_num, by rw [HN.out]; exact HX.out⟩
    case measure => simp [intOf]; omega
   ·have HN : Hid (lift kd (l.take (k + 1)) = lift kd (l.take k) ++ [⟨kd, l[k].code, l[k].amt⟩]) := by rw [Hid, HLT.out, if_neg (by simpa using e1)]
    have HLL := Lib.hid hll
    have HA1 := Lib.hid fun o => (hb.alloc hbs o).drew
    clear hll HX
    go_upto_region 6 with (fail)
    go_region_law (refine step_append_sl rfl (.tmp 19) (.tmp 32) rfl rowLn w.heap.size _ _ _ (lns [⟨kd, l[k].code, l[k].amt⟩]) rfl ((hown.alloc _).drew) rfl ((Sl.one rfl rfl).below (below_a0 _)) (lns_wide _) (by rw [lns_len, lns_len]; have := HLL.out; unfold maxLen; simp; omega) (by rw [lns_len, lns_len]; have := HLL.out; simp; omega) (by simp; omega) ?_; intro v2 w2 hown2 hg2 _; rw [← lns_append, ← HN.out] at hown2; have HF : Hid (Own w2 w.heap.size 45 3 v2 (lns (lift kd (l.take (k + 1)))) ∧ Below w.heap.size w w2) := ⟨hown2, Own.grown ((hown.alloc _).drew) (HA1.out _) hg2 (by simp; omega)⟩; clear hown2 hg2)
    all_goals
     go_wp2_with fail
     go_roundw
     case rel => exact ⟨k + 1, by omega, by go_num, HF.out⟩
     case measure => simp [intOf]; omega
  ·obtain rfl : k = l.length := by omega
   rw [List.take_length] at HX
   go_wp2_with fail
   go_ret
   exact ⟨_, rfl, HX.out.1, HX.out.2⟩
end Go.Proofs.YtogdefomigiepaaGreatDoor
