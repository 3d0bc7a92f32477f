/- The law PayslipMerges: it returns true. -/
import Derived.Test.YtljhdkdabiemmaaDoorAwk34
import Derived.Test.YtljhdkdabiemmaaDoorRefM
import Derived.Test.YtljhdkdabiemmaaDoorSameL
import Derived.Test.YtljhdkdabiemmaaDoorLins
namespace Go.Proofs.YtljhdkdabiemmaaDoor
open Go.RowKit

set_option maxRecDepth 100000 in
set_option maxHeartbeats 1600000 in
theorem PayslipMerges_any (u : Value) (l : List Ln) (v : Value) (zs : List Int) (w : World) (hT : Tabs w) (hW : Words w) (hu : Sl w 3 u (lns l)) (hv : Sl w 1 v (ints zs)) :
    Calls Tryd.prog 5 #[u, v] w fun e w' => e = .returned (.bool true) ∧ Below w.heap.size w w' := by
  have HT := Lib.hid hT
  have HW := Lib.hid hW
  have HU := Lib.hid hu
  have HV := Lib.hid hv
  clear hT hW hu hv
  go_enter Tryd.func5, Tryd.ntmps5
  go_wp2_with fail
  refine (ShortLines_any u l w HU.out).mono ?_
  rintro e w1 ⟨rfl, hb1⟩
  have hs1 := hb1.size
  cases hsh : shortLB l
  · go_wp2_with fail
    refine (awake34_any _ (HT.out.below hb1) (HW.out.below hb1)).mono ?_
    rintro e w6 ⟨rfl, hb6⟩
    go_wp2
    go_ret
    exact ⟨rfl, below_after hb1 hb6 hs1⟩
  clear hsh
  go_wp2_with fail
  refine (new_any v zs w1 (HV.out.below hb1)).mono ?_
  rintro e w2 ⟨rfl, hd2, hb2⟩
  obtain ⟨D, hDe⟩ : ∃ D, D = w1.heap.size := ⟨_, rfl⟩
  rw [← hDe] at hd2 ⊢
  have hDlo : w.heap.size ≤ D := by omega
  have hB2 := below_after hb1 hb2 hs1
  clear HV hb1 hb2 hDe
  have hs2 := hB2.size
  go_wp2_with fail
  refine (Lines_any D 0 12 w2 hd2 (by omega) (by omega)).mono ?_
  rintro e w3 ⟨x, m, d3, rfl, hgood, hlen, hown3, hd3, hdd3, hg3⟩
  have hB3 := hB2.grown hg3 hs2 (fun g hg => by cases hg; exact hDlo)
  have hs3 := hB3.size
  have HX := Lib.hid (hown3.sl (by omega))
  clear hB2 hg3 hd2 hgood hown3 hd3
  go_wp2_with fail
  refine (Merge_any u l w3 (HU.out.below hB3)).mono ?_
  rintro e w4 ⟨a, rfl, hown4, hb4⟩
  have hB4 := below_after hB3 hb4 hs3
  have hs4 := hB4.size
  go_wp2_with fail
  refine (refMerge_any u l w4 (HU.out.below hB4)).mono ?_
  rintro e w5 ⟨b, rfl, hown5, hb5⟩
  have hB5 := below_after hB4 hb5 hs4
  have hs5 := hB5.size
  have HA := Lib.hid ((hown4.sl (by omega)).below hb5)
  have HB := Lib.hid (hown5.sl (by omega))
  have HX5 := Lib.hid ((HX.out.below hb4).below hb5)
  clear hown4 hown5 hb4 hb5 hB3 hB4 HX
  go_wp2_with fail
  refine (Merge_any x m w5 HX5.out).mono ?_
  rintro e w6 ⟨p, rfl, hown6, hb6⟩
  have hB6 := below_after hB5 hb6 hs5
  have hs6 := hB6.size
  go_wp2_with fail
  refine (refMerge_any x m w6 (HX5.out.below hb6)).mono ?_
  rintro e w7 ⟨q, rfl, hown7, hb7⟩
  have hB7 := below_after hB6 hb7 hs6
  have hs7 := hB7.size
  have HA7 := Lib.hid ((HA.out.below hb6).below hb7)
  have HB7 := Lib.hid ((HB.out.below hb6).below hb7)
  have HP := Lib.hid ((hown6.sl (by omega)).below hb7)
  have HQ := Lib.hid (hown7.sl (by omega))
  clear hown6 hown7 hb6 hb7 HA HB HX5 hB5 hB6
  obtain ⟨E1, hE1⟩ : ∃ E, E = mergeE l := ⟨_, rfl⟩
  obtain ⟨E2, hE2⟩ : ∃ E, E = mergeE m := ⟨_, rfl⟩
  rw [← hE1, ← hE2]
  clear hE1 hE2
  go_wp2_with fail
  refine (SameL_any a b _ w7 HA7.out HB7.out).mono ?_
  rintro e w8 ⟨rfl, hb8⟩
  have hB8 := below_after hB7 hb8 hs7
  have hs8 := hB8.size
  go_wp2_with fail
  refine (SameL_any p q _ w8 (HP.out.below hb8) (HQ.out.below hb8)).mono ?_
  rintro e w9 ⟨rfl, hb9⟩
  have hB9 := below_after hB8 hb9 hs8
  have hs9 := hB9.size
  go_wp2_with fail
  refine (awake34_any _ (HT.out.below hB9) (HW.out.below hB9)).mono ?_
  rintro e w10 ⟨rfl, hb10⟩
  go_wp2
  go_ret
  exact ⟨rfl, below_after hB9 hb10 hs9⟩
end Go.Proofs.YtljhdkdabiemmaaDoor
