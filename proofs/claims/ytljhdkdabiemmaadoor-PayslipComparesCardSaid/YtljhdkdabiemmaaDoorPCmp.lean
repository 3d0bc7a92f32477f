/- The law PayslipCompares: it returns true. -/
import Derived.Test.YtljhdkdabiemmaaDoorAwk34
import Derived.Test.YtljhdkdabiemmaaDoorRefC
import Derived.Test.YtljhdkdabiemmaaDoorSameL
import Derived.Test.YtljhdkdabiemmaaDoorLins
namespace Go.Proofs.YtljhdkdabiemmaaDoor
open Go.RowKit

set_option maxRecDepth 100000 in
set_option maxHeartbeats 1600000 in
theorem PayslipCompares_any (u : Value) (l : List Ln) (u2 : Value) (l2 : List Ln) (v : Value) (zs : List Int) (w : World) (hT : Tabs w) (hW : Words w) (hu : Sl w 3 u (lns l)) (hu2 : Sl w 3 u2 (lns l2)) (hv : Sl w 1 v (ints zs)) :
    Calls Tryd.prog 6 #[u, u2, v] w fun e w' => e = .returned (.bool true) ∧ Below w.heap.size w w' := by
  have HT := Lib.hid hT
  have HW := Lib.hid hW
  have HU := Lib.hid hu
  have HU2 := Lib.hid hu2
  have HV := Lib.hid hv
  clear hT hW hu hv hu2
  go_enter Tryd.func6, Tryd.ntmps6
  go_wp2_with fail
  refine (ShortLines_any u l w HU.out).mono ?_
  rintro e w0 ⟨rfl, hb0⟩
  have hs0 := hb0.size
  cases hsh : shortLB l
  · go_wp2_with fail
    refine (awake34_any _ (HT.out.below hb0) (HW.out.below hb0)).mono ?_
    rintro e w6 ⟨rfl, hb6⟩
    go_wp2
    go_ret
    exact ⟨rfl, below_after hb0 hb6 hs0⟩
  clear hsh
  go_wp2_with fail
  refine (ShortLines_any u2 l2 w0 (HU2.out.below hb0)).mono ?_
  rintro e w1 ⟨rfl, hb1'⟩
  have hb1 := below_after hb0 hb1' hs0
  have hs1 := hb1.size
  clear hb0 hb1' hs0
  cases hsh : shortLB l2
  · go_wp2_with fail
    refine (awake34_any _ (HT.out.below hb1) (HW.out.below hb1)).mono ?_
    rintro e w6 ⟨rfl, hb6⟩
    go_wp2
    go_ret
    exact ⟨rfl, below_after hb1 hb6 hs1⟩
  clear hsh
  go_wp2_with fail
  refine (new_any v zs w1 (HV.out.below hb1)).mono ?_
  rintro e w2 ⟨rfl, hd2, hb2⟩
  obtain ⟨D, hDe⟩ : ∃ D, D = w1.heap.size := ⟨_, rfl⟩
  rw [← hDe] at hd2 ⊢
  have hDlo : w.heap.size ≤ D := by omega
  have hB2 := below_after hb1 hb2 hs1
  clear HV hb1 hb2 hDe
  have hs2 := hB2.size
  have hDlt := hd2.lt
  go_wp2_with fail
  refine (Lines_any D 0 8 w2 hd2 (by omega) (by omega)).mono ?_
  rintro e w3 ⟨x, m, d3, rfl, hgood, hlen, hown3, hd3, hdd3, hg3⟩
  have hB3 := hB2.grown hg3 hs2 (fun g hg => by cases hg; exact hDlo)
  have hs3 := hB3.size
  have hs23 := hg3.size
  clear hB2 hg3 hd2 hgood
  go_wp2_with fail
  refine (Lines_any D d3 8 w3 hd3 (by omega) (by omega)).mono ?_
  rintro e w4 ⟨y, n, d4, rfl, hgood, hlen2, hown4, hd4, hdd4, hg4⟩
  have hB4 := hB3.grown hg4 hs3 (fun g hg => by cases hg; exact hDlo)
  have hs4 := hB4.size
  have HX := Lib.hid ((hown3.keepD' hg4 (by omega)).sl (by omega))
  have HY := Lib.hid (hown4.sl (by omega))
  clear hB3 hg4 hd3 hgood hown3 hown4 hd4
  go_wp2_with fail
  refine (Compare_any u u2 l l2 w4 (HU.out.below hB4) (HU2.out.below hB4)).mono ?_
  rintro e w5 ⟨a, rfl, hown5, hb5⟩
  have hB5 := below_after hB4 hb5 hs4
  have hs5 := hB5.size
  go_wp2_with fail
  refine (refCompare_any u u2 l l2 w5 (HU.out.below hB5) (HU2.out.below hB5)).mono ?_
  rintro e w6 ⟨b, rfl, hown6, hb6⟩
  have hB6 := below_after hB5 hb6 hs5
  have hs6 := hB6.size
  have HA := Lib.hid ((hown5.sl (by omega)).below hb6)
  have HB := Lib.hid (hown6.sl (by omega))
  have HX6 := Lib.hid ((HX.out.below hb5).below hb6)
  have HY6 := Lib.hid ((HY.out.below hb5).below hb6)
  clear hown5 hown6 hb5 hb6 hB4 hB5 HX HY
  go_wp2_with fail
  refine (Compare_any x y m n w6 HX6.out HY6.out).mono ?_
  rintro e w7 ⟨p, rfl, hown7, hb7⟩
  have hB7 := below_after hB6 hb7 hs6
  have hs7 := hB7.size
  go_wp2_with fail
  refine (refCompare_any x y m n w7 (HX6.out.below hb7) (HY6.out.below hb7)).mono ?_
  rintro e w8 ⟨q, rfl, hown8, hb8⟩
  have hB8 := below_after hB7 hb8 hs7
  have hs8 := hB8.size
  have HA8 := Lib.hid ((HA.out.below hb7).below hb8)
  have HB8 := Lib.hid ((HB.out.below hb7).below hb8)
  have HP := Lib.hid ((hown7.sl (by omega)).below hb8)
  have HQ := Lib.hid (hown8.sl (by omega))
  clear hown7 hown8 hb7 hb8 HA HB HX6 HY6 hB6 hB7
  obtain ⟨E1, hE1⟩ : ∃ E, E = cmpE l l2 := ⟨_, rfl⟩
  obtain ⟨E2, hE2⟩ : ∃ E, E = cmpE m n := ⟨_, rfl⟩
  rw [← hE1, ← hE2]
  clear hE1 hE2
  go_wp2_with fail
  refine (SameL_any a b _ w8 HA8.out HB8.out).mono ?_
  rintro e w9 ⟨rfl, hb9⟩
  have hB9 := below_after hB8 hb9 hs8
  have hs9 := hB9.size
  go_wp2_with fail
  refine (SameL_any p q _ w9 (HP.out.below hb9) (HQ.out.below hb9)).mono ?_
  rintro e w10 ⟨rfl, hb10⟩
  have hB10 := below_after hB9 hb10 hs9
  have hs10 := hB10.size
  go_wp2_with fail
  refine (awake34_any _ (HT.out.below hB10) (HW.out.below hB10)).mono ?_
  rintro e w11 ⟨rfl, hb11⟩
  go_wp2
  go_ret
  exact ⟨rfl, below_after hB10 hb11 hs10⟩
end Go.Proofs.YtljhdkdabiemmaaDoor
