/- The law PayslipAdds: it returns true. -/
import Derived.Test.YtljhdkdabiemmaaDoorAwk34
import Derived.Test.YtljhdkdabiemmaaDoorSameL
import Derived.Test.YtljhdkdabiemmaaDoorPAddS
import Derived.Test.YtljhdkdabiemmaaDoorFresh
namespace Go.Proofs.YtljhdkdabiemmaaDoor
open Go.RowKit

set_option maxRecDepth 100000 in
set_option maxHeartbeats 1600000 in
theorem PayslipAdds_any (v : Value) (zs : List Int) (w : World) (hT : Tabs w) (hW : Words w) (hv : Sl w 1 v (ints zs)) :
    Calls Tryd.prog 7 #[v] w fun e w' => e = .returned (.bool true) ∧ Below w.heap.size w w' := by
  have HT := Lib.hid hT
  have HW := Lib.hid hW
  have HV := Lib.hid hv
  clear hT hW hv
  go_enter Tryd.func7, Tryd.ntmps7
  go_wp2_with fail
  refine (new_any v zs w HV.out).mono ?_
  rintro e w2 ⟨rfl, hd2, hb2⟩
  obtain ⟨D, hDe⟩ : ∃ D, D = w.heap.size := ⟨_, rfl⟩
  rw [← hDe] at hd2 ⊢
  have hDlo : w.heap.size ≤ D := by omega
  have hB2 := hb2
  clear HV hb2 hDe
  have hs2 := hB2.size
  have hDlt := hd2.lt
  go_wp2_with fail
  refine (Lines_any D 0 8 w2 hd2 (by omega) (by omega)).mono ?_
  rintro e w3 ⟨x, m, d3, rfl, hgx, hlen, hown3, hd3, hdd3, hg3⟩
  have hB3 := hB2.grown hg3 hs2 (fun g hg => by cases hg; exact hDlo)
  have hs3 := hB3.size
  have hs23 := hg3.size
  have HGX := Lib.hid hgx
  clear hB2 hg3 hd2 hgx
  go_wp2_with fail
  refine (Lines_any D d3 8 w3 hd3 (by omega) (by omega)).mono ?_
  rintro e w4 ⟨y, n, d4, rfl, hgy, hlen2, hown4, hd4, hdd4, hg4⟩
  have hB4 := hB3.grown hg4 hs3 (fun g hg => by cases hg; exact hDlo)
  have hs4 := hB4.size
  have HX := Lib.hid ((hown3.keepD' hg4 (by omega)).sl (by omega))
  have HY := Lib.hid (hown4.sl (by omega))
  have HGY := Lib.hid hgy
  clear hB3 hg4 hd3 hgy hown3 hown4 hd4
  have HLX := Lib.hid (show m.length ≤ 100 by omega)
  have HLY := Lib.hid (show n.length ≤ 100 by omega)
  have C1 := Lib.hid (cmp_good HGX.out HGY.out HLX.out HLY.out)
  have C2 := Lib.hid (cmp_good HGY.out HGX.out HLY.out HLX.out)
  have C3 := Lib.hid (cmp_good HGX.out HGX.out HLX.out HLX.out)
  have A1 := Lib.hid (adds_fine HGX.out HGY.out HLX.out HLY.out)
  have A2 := Lib.hid (cancels HGX.out HGY.out HLX.out HLY.out)
  have A3 := Lib.hid (HGY.out.fine HLY.out).err
  have L1 := Lib.hid (dif_len (x := m) (y := n) HLX.out HLY.out)
  have L2 := Lib.hid (dif_len (x := n) (y := m) HLY.out HLX.out)
  go_wp2_with fail
  refine (Compare_any x y m n w4 HX.out HY.out).mono ?_
  rintro e w5 ⟨c, rfl, hown5, hb5⟩
  rw [C1.out.2] at hown5
  rw [C1.out.1]
  have hB5 := below_after hB4 hb5 hs4
  have hs5 := hB5.size
  have HC5 := Lib.hid (hown5.sl (by omega))
  have HX5 := Lib.hid (HX.out.below hb5)
  have HY5 := Lib.hid (HY.out.below hb5)
  clear hown5 hb5 hB4 HX HY C1
  go_wp2_with fail
  refine (Compare_any y x n m w5 HY5.out HX5.out).mono ?_
  rintro e w6 ⟨r, rfl, hown6, hb6⟩
  rw [C2.out.2] at hown6
  rw [C2.out.1]
  have hB6 := below_after hB5 hb6 hs5
  have hs6 := hB6.size
  have HR6 := Lib.hid (hown6.sl (by omega))
  have HX6 := Lib.hid (HX5.out.below hb6)
  have HY6 := Lib.hid (HY5.out.below hb6)
  have HC6 := Lib.hid (HC5.out.below hb6)
  clear hown6 hb6 hB5 HX5 HY5 HC5 C2
  have M1 := Lib.hid (show (lns m).length ≤ maxLen by rw [lns_len]; unfold maxLen; omega)
  have M2 := Lib.hid (show (lns m).length * 32 ≤ 140737488355328 by rw [lns_len]; omega)
  have M3 := Lib.hid (show (lns m).length + (lns (dif m n)).length ≤ maxLen by have := L1.out; rw [lns_len, lns_len]; unfold maxLen; omega)
  have M4 := Lib.hid (show ((lns m).length + (lns (dif m n)).length) * 32 ≤ 140737488355328 by have := L1.out; rw [lns_len, lns_len]; omega)
  have M5 := Lib.hid (show (lns (dif n m)).length ≤ maxLen by have := L2.out; rw [lns_len]; unfold maxLen; omega)
  have M6 := Lib.hid (show (lns (dif n m)).length * 32 ≤ 140737488355328 by have := L2.out; rw [lns_len]; omega)
  have M7 := Lib.hid (show (lns (dif n m)).length + (lns (dif m n)).length ≤ maxLen by have := L1.out; have := L2.out; rw [lns_len, lns_len]; unfold maxLen; omega)
  have M8 := Lib.hid (show ((lns (dif n m)).length + (lns (dif m n)).length) * 32 ≤ 140737488355328 by have := L1.out; have := L2.out; rw [lns_len, lns_len]; omega)
  clear L1 L2
  have HLen : Hid ((lns ([] : List Ln)).length = 0) := rfl
  go_wp2_with (first
    | (at_builtin; refine append_fresh rfl (.tmp 37) (.tmp 38) rfl rowLn w6.heap.size _ (lns m) _ rfl rfl (Nat.le_refl _) (Below.refl _ _) rfl HX6.out (lns_wide m) M1.out M2.out ?_; intro v7 w7 hown7 hb7)
    | (at_builtin; refine wpList_append_sl rfl (.tmp 39) (.tmp 40) rfl rowLn w6.heap.size _ _ _ (lns (dif m n)) rfl hown7 rfl (HC6.out.below hb7) (lns_wide _) M3.out M4.out hb7.size ?_; intro v8 w8 hown8 hg8 _; have hb8 := Own.grown hown7 hb7 hg8 hb7.size; rw [← lns_append] at hown8))
  have hB8 := below_after hB6 hb8 hs6
  have hs8 := hB8.size
  have HV8 := Lib.hid (hown8.sl (by omega))
  have HX8 := Lib.hid (HX6.out.below hb8)
  have HY8 := Lib.hid (HY6.out.below hb8)
  have HC8 := Lib.hid (HC6.out.below hb8)
  have HR8 := Lib.hid (HR6.out.below hb8)
  clear hown7 hown8 hb7 hg8 hb8 hB6 HX6 HY6 HC6 HR6 M1 M2 M3 M4
  refine (Merge_any v8 _ w8 HV8.out).mono ?_
  rintro e w9 ⟨s, rfl, hown9, hb9⟩
  rw [A1.out.2] at hown9
  rw [A1.out.1]
  have hB9 := below_after hB8 hb9 hs8
  have hs9 := hB9.size
  have HS9 := Lib.hid (hown9.sl (by omega))
  have HX9 := Lib.hid (HX8.out.below hb9)
  have HY9 := Lib.hid (HY8.out.below hb9)
  have HC9 := Lib.hid (HC8.out.below hb9)
  have HR9 := Lib.hid (HR8.out.below hb9)
  clear hown9 hb9 hB8 HX8 HY8 HC8 HR8 HV8
  go_wp2_with fail
  refine (Merge_any y n w9 HY9.out).mono ?_
  rintro e w10 ⟨t, rfl, hown10, hb10⟩
  rw [A3.out]
  have hB10 := below_after hB9 hb10 hs9
  have hs10 := hB10.size
  have HT10 := Lib.hid (hown10.sl (by omega))
  have HS10 := Lib.hid (HS9.out.below hb10)
  have HX10 := Lib.hid (HX9.out.below hb10)
  have HC10 := Lib.hid (HC9.out.below hb10)
  have HR10 := Lib.hid (HR9.out.below hb10)
  clear hown10 hb10 hB9 HS9 HX9 HY9 HC9 HR9
  go_wp2_with (first
    | (at_builtin; refine append_fresh rfl (.tmp 51) (.tmp 52) rfl rowLn w10.heap.size _ (lns (dif n m)) _ rfl rfl (Nat.le_refl _) (Below.refl _ _) rfl HR10.out (lns_wide _) M5.out M6.out ?_; intro v11 w11 hown11 hb11)
    | (at_builtin; refine wpList_append_sl rfl (.tmp 53) (.tmp 54) rfl rowLn w10.heap.size _ _ _ (lns (dif m n)) rfl hown11 rfl (HC10.out.below hb11) (lns_wide _) M7.out M8.out hb11.size ?_; intro v12 w12 hown12 hg12 _; have hb12 := Own.grown hown11 hb11 hg12 hb11.size; rw [← lns_append] at hown12))
  have hB12 := below_after hB10 hb12 hs10
  have hs12 := hB12.size
  have HV12 := Lib.hid (hown12.sl (by omega))
  have HX12 := Lib.hid (HX10.out.below hb12)
  have HT12 := Lib.hid (HT10.out.below hb12)
  have HS12 := Lib.hid (HS10.out.below hb12)
  clear hown11 hown12 hb11 hg12 hb12 hB10 HX10 HT10 HS10 HC10 HR10 M5 M6 M7 M8
  refine (Merge_any v12 _ w12 HV12.out).mono ?_
  rintro e w13 ⟨z, rfl, hown13, hb13⟩
  rw [A2.out.2] at hown13
  rw [A2.out.1]
  obtain ⟨Z, zc, rfl⟩ := hown13.form
  have hB13 := below_after hB12 hb13 hs12
  have hs13 := hB13.size
  have HX13 := Lib.hid (HX12.out.below hb13)
  have HT13 := Lib.hid (HT12.out.below hb13)
  have HS13 := Lib.hid (HS12.out.below hb13)
  clear hown13 hb13 hB12 HX12 HT12 HS12 HV12
  rw [show (lns ([] : List Ln)).length = 0 from rfl]
  go_wp2_with fail
  refine (Compare_any x x m m w13 HX13.out HX13.out).mono ?_
  rintro e w14 ⟨o, rfl, hown14, hb14⟩
  rw [C3.out.2, dif_self] at hown14
  rw [C3.out.1]
  obtain ⟨O, oc, rfl⟩ := hown14.form
  have hB14 := below_after hB13 hb14 hs13
  have hs14 := hB14.size
  have HT14 := Lib.hid (HT13.out.below hb14)
  have HS14 := Lib.hid (HS13.out.below hb14)
  clear hown14 hb14 hB13 HX13 HT13 HS13 C3
  rw [show (lns ([] : List Ln)).length = 0 from rfl]
  go_wp2_with fail
  refine (SameL_any s t _ w14 HS14.out HT14.out).mono ?_
  rintro e w15 ⟨rfl, hb15⟩
  have hB15 := below_after hB14 hb15 hs14
  have hs15 := hB15.size
  go_wp2_with fail
  refine (awake34_any _ (HT.out.below hB15) (HW.out.below hB15)).mono ?_
  rintro e w16 ⟨rfl, hb16⟩
  go_wp2
  go_ret
  exact ⟨rfl, below_after hB15 hb16 hs15⟩
end Go.Proofs.YtljhdkdabiemmaaDoor
