/- Contract of ratio.Parse. -/
import Derived.Test.YtkdmbkhgcahpiaaDoorRatP
import Derived.Test.YtkdmbkhgcahpiaaDoorCut
import Derived.Test.YtkdmbkhgcahpiaaDoorAtoi
namespace Go.Proofs.YtkdmbkhgcahpiaaDoor
open Go.RowKit

theorem atoiV_some {l : List UInt8} {v : Int} (h : atoiV l = some v) : Lib.atoiAll l = .ok v := by
  unfold atoiV at h
  split at h
  · rename_i x hx; injection h with h; rw [hx, h]
  · cases h
theorem atoiV_none {l : List UInt8} (h : atoiV l = none) : ∀ v, Lib.atoiAll l ≠ .ok v := by
  intro v hv; rw [atoiV, hv] at h; cases h
theorem prs_e1 {l : List UInt8} (h : atoiV (Lib.cut l [47]).1 = none) : prsF l = ⟨0, 0, false⟩ := by
  have h := atoiV_none h
  unfold prsF
  split
  · rename_i n hn; exact absurd hn (h n)
  · rfl
theorem prs_e2 {l : List UInt8} (hf : (Lib.cut l [47]).2.2 = true) (h : atoiV (Lib.cut l [47]).2.1 = none) : prsF l = ⟨0, 0, false⟩ := by
  have h := atoiV_none h
  unfold prsF
  split
  · rw [if_pos hf]
    split
    · rename_i d hd; exact absurd hd (h d)
    · rfl
  · rfl
theorem prs_e3 {l : List UInt8} {n d : Int} (h1 : atoiV (Lib.cut l [47]).1 = some n) (hf : (Lib.cut l [47]).2.2 = true) (h : atoiV (Lib.cut l [47]).2.1 = some d) : prsF l = prsOf n d l := by
  unfold prsF
  rw [atoiV_some h1, atoiV_some h]
  simp only [hf, if_true]
theorem prs_e4 {l : List UInt8} {n : Int} (h1 : atoiV (Lib.cut l [47]).1 = some n) (hf : (Lib.cut l [47]).2.2 = false) : prsF l = prsOf n 1 l := by
  unfold prsF
  rw [atoiV_some h1]
  simp only [hf, Bool.false_eq_true, if_false]
theorem prsOf_inv {n d : Int} {s : List UInt8} (h : vldB n d = false) : prsOf n d s = ⟨0, 0, false⟩ := by rw [prsOf, h]; rfl
theorem prsOf_ne {n d : Int} {s : List UInt8} (h : fmtF n d ≠ s) : prsOf n d s = ⟨0, 0, false⟩ := by rw [prsOf]; simp [h]

set_option maxRecDepth 100000 in
set_option maxHeartbeats 3200000 in
theorem Parse_any (s : ByteArray) (w : World) (hsm : s.size ≤ 140737488351232) (hT : Tabs w) (hE : Errs w) :
    Calls Tryd.prog 17 #[.string s] w (RetP (prsF s.data.toList) w) := by
  have HT := Lib.hid hT
  have HER := Lib.hid hE
  have hsz : s.data.toList.length = s.size := by simp
  clear hT hE
  go_enter Tryd.func17, Tryd.ntmps17
  go_wp2_with fail
  refine (cut_any s 47 _ (by unfold maxLen; omega)).mono ?_
  rintro e w0 ⟨a, b, rfl, Ha, Hb, la, lb, hb0⟩
  rw [hsz] at la lb
  have rR0 := (Row.new w 23 #[.int .i64 0, .int .i64 0]).below hb0 (by simp)
  have hB0 : Below w.heap.size w w0 := ((Below.refl _ _).alloc (Nat.le_refl _) _).trans (hb0.mono (by simp))
  have hz0 := hb0.size
  simp only [World.alloc, Array.size_push] at hz0
  clear hb0
  obtain ⟨fo, hfo⟩ : ∃ q, q = (Lib.cut s.data.toList [47]).2.2 := ⟨_, rfl⟩
  rw [← hfo]
  have HFO := Lib.hid hfo
  clear hfo hsz
  have hs0 := hB0.size
  go_wp2_with fail
  have rR1 := rR0.alloc (.cells #[.int .i64 0, .int .i64 1] 23)
  have rC1 := Row.new w0 23 #[.int .i64 0, .int .i64 1]
  have hB1 := hB0.alloc hs0 (.cells #[.int .i64 0, .int .i64 1] 23)
  have hgl : w.heap.size < w0.heap.size := rR0.lt
  clear rR0 hB0 hz0 hs0
  generalize w0.alloc (Obj.cells #[Value.int .i64 0, Value.int .i64 1] 23) = w1 at rR1 rC1 hB1 ⊢
  generalize w0.heap.size = g at rC1 hgl ⊢
  have hs1 := hB1.size
  refine (Atoi_any a _ (HER.out.below hB1) (by omega)).mono ?_
  rintro e w2 ⟨hb2, hres⟩
  have hB2 := below_after hB1 hb2 hs1
  have rR2 := rR1.below hb2 rR1.lt
  have rC2 := rC1.below hb2 rC1.lt
  clear rR1 rC1 hB1 hb2 hs1
  rw [Ha.out] at hres
  rcases hres with ⟨n, hn, n1, n2, rfl⟩ | ⟨hn, x, N, rfl⟩
  rotate_left
  · have HE : Hid (prsF s.data.toList = ⟨0, 0, false⟩) := prs_e1 hn
    clear hn
    obtain ⟨c0, c1, f0, f1⟩ := pair_cells rR2
    obtain ⟨d0, d1, g0, g1⟩ := pair_cells rC2
    go_wp2_with fail
    refine bodyPost_ret (v := .tuple #[.agg #[.int .i64 0, .int .i64 0], .bool false]) (by simp [results, Tryd.results17, go_sem, c0, c1]) rfl (RetP.of HE.out ?_)
    exact Below.set2 (hB2.setCell (p := ⟨g, 0, none⟩) (Nat.le_of_lt hgl) (.int .i64 x)) (by omega) _ _
  have HNV := Lib.hid hn
  clear hn
  cases fo
  · have HP : Hid (prsF s.data.toList = prsOf n 1 s.data.toList) := prs_e4 HNV.out HFO.out.symm
    obtain ⟨d0, d1, g0, g1⟩ := pair_cells rC2
    go_wp2_with fail
    refine (Valid_any n 1 _).mono ?_
    rintro e w8 ⟨rfl, hb8⟩
    have hBj := (hB2.setCell (p := ⟨g, 0, none⟩) (Nat.le_of_lt hgl) (.int .i64 n))
    have rRj := rR2.far (p := ⟨g, 0, none⟩) (Nat.ne_of_lt hgl) (.int .i64 n)
    have rCj := rC2.set 0 (.int .i64 n)
    have hB8 := below_after hBj hb8 hBj.size
    have rR8 := rRj.below hb8 rRj.lt
    have rC8 : Row w8 g 23 #[.int .i64 n, .int .i64 1] := rCj.below hb8 rCj.lt
    clear d0 d1 g0 g1 rR2 rC2 hb8 hBj rRj rCj hB2
    cases hv : vldB n 1
    · have HE : Hid (prsF s.data.toList = ⟨0, 0, false⟩) := HP.out.trans (prsOf_inv hv)
      clear hv
      obtain ⟨c0, c1, f0, f1⟩ := pair_cells rR8
      obtain ⟨d0, d1, g0, g1⟩ := pair_cells rC8
      go_wp2_with fail
      refine bodyPost_ret (v := .tuple #[.agg #[.int .i64 0, .int .i64 0], .bool false]) (by simp [results, Tryd.results17, go_sem, c0, c1]) rfl (RetP.of HE.out ?_)
      exact Below.set2 hB8 (by omega) _ _
    have HV := Lib.hid hv
    clear hv
    have hs8 := hB8.size
    obtain ⟨d0, d1, g0, g1⟩ := pair_cells rC8
    go_wp2_with fail
    refine (Format_any n 1 _ (HT.out.below hB8)).mono ?_
    rintro e w9 ⟨t, rfl, Ht, hb9⟩
    have hB9 := below_after hB8 hb9 hB8.size
    have rR9 := rR8.below hb9 rR8.lt
    have rC9 := rC8.below hb9 rC8.lt
    clear d0 d1 g0 g1 rR8 rC8 hb9 hB8
    by_cases hs : fmtF n 1 = s.data.toList
    · obtain rfl : t = s := bytes_ext (Ht.out.trans hs)
      have HE : Hid (prsF t.data.toList = ⟨n, 1, true⟩) := HP.out.trans (prsOf_yes HV.out hs)
      clear hs Ht
      obtain ⟨c0, c1, f0, f1⟩ := pair_cells rR9
      obtain ⟨d0, d1, _, _⟩ := pair_cells rC9
      go_wp2_with fail
      refine bodyPost_ret (v := .tuple #[.agg #[.int .i64 n, .int .i64 1], .bool true]) (by simp [results, Tryd.results17, go_sem, c0, c1]) rfl (RetP.of HE.out ?_)
      exact Below.set2 hB9 (by omega) _ _
    · have HE : Hid (prsF s.data.toList = ⟨0, 0, false⟩) := HP.out.trans (prsOf_ne hs)
      have hts2 : ¬ t.toList = s.toList := by rw [ByteArray.toList_eq, ByteArray.toList_eq, Ht.out]; exact hs
      have hts : (t.toList == s.toList) = false := by simpa using hts2
      clear hs Ht
      obtain ⟨c0, c1, f0, f1⟩ := pair_cells rR9
      obtain ⟨d0, d1, g0, g1⟩ := pair_cells rC9
      go_wp2_with fail
      refine bodyPost_ret (v := .tuple #[.agg #[.int .i64 0, .int .i64 0], .bool false]) (by simp [results, Tryd.results17, go_sem, c0, c1]) rfl (RetP.of HE.out ?_)
      exact Below.set2 hB9 (by omega) _ _
  · obtain ⟨d0, d1, g0, g1⟩ := pair_cells rC2
    go_wp2_with fail
    have hBj := (hB2.setCell (p := ⟨g, 0, none⟩) (Nat.le_of_lt hgl) (.int .i64 n))
    have rRj := rR2.far (p := ⟨g, 0, none⟩) (Nat.ne_of_lt hgl) (.int .i64 n)
    have rCj := rC2.set 0 (.int .i64 n)
    refine (Atoi_any b _ (HER.out.below hBj) (by omega)).mono ?_
    rintro e w3 ⟨hb3, hres⟩
    have hB3 := below_after hBj hb3 hBj.size
    have rR3 := rRj.below hb3 rRj.lt
    have rC3 : Row w3 g 23 #[.int .i64 n, .int .i64 1] := rCj.below hb3 rCj.lt
    clear d0 d1 g0 g1 rR2 rC2 hb3 hBj rRj rCj hB2
    rw [Hb.out] at hres
    rcases hres with ⟨d, hd, m1, m2, rfl⟩ | ⟨hd, x, N, rfl⟩
    rotate_left
    · have HE : Hid (prsF s.data.toList = ⟨0, 0, false⟩) := prs_e2 HFO.out.symm hd
      clear hd
      obtain ⟨c0, c1, f0, f1⟩ := pair_cells rR3
      obtain ⟨d0, d1, g0, g1⟩ := pair_cells rC3
      go_wp2_with fail
      refine bodyPost_ret (v := .tuple #[.agg #[.int .i64 0, .int .i64 0], .bool false]) (by simp [results, Tryd.results17, go_sem, c0, c1]) rfl (RetP.of HE.out ?_)
      exact Below.set2 (hB3.setCell (p := ⟨g, 1, none⟩) (Nat.le_of_lt hgl) (.int .i64 x)) (by omega) _ _
    have HP : Hid (prsF s.data.toList = prsOf n d s.data.toList) := prs_e3 HNV.out HFO.out.symm hd
    clear hd
    obtain ⟨d0, d1, g0, g1⟩ := pair_cells rC3
    go_wp2_with fail
    refine (Valid_any n d _).mono ?_
    rintro e w8 ⟨rfl, hb8⟩
    have hBj := (hB3.setCell (p := ⟨g, 1, none⟩) (Nat.le_of_lt hgl) (.int .i64 d))
    have rRj := rR3.far (p := ⟨g, 1, none⟩) (Nat.ne_of_lt hgl) (.int .i64 d)
    have rCj := rC3.set 1 (.int .i64 d)
    have hB8 := below_after hBj hb8 hBj.size
    have rR8 := rRj.below hb8 rRj.lt
    have rC8 : Row w8 g 23 #[.int .i64 n, .int .i64 d] := rCj.below hb8 rCj.lt
    clear d0 d1 g0 g1 rR3 rC3 hb8 hBj rRj rCj hB3
    cases hv : vldB n d
    · have HE : Hid (prsF s.data.toList = ⟨0, 0, false⟩) := HP.out.trans (prsOf_inv hv)
      clear hv
      obtain ⟨c0, c1, f0, f1⟩ := pair_cells rR8
      obtain ⟨d0, d1, g0, g1⟩ := pair_cells rC8
      go_wp2_with fail
      refine bodyPost_ret (v := .tuple #[.agg #[.int .i64 0, .int .i64 0], .bool false]) (by simp [results, Tryd.results17, go_sem, c0, c1]) rfl (RetP.of HE.out ?_)
      exact Below.set2 hB8 (by omega) _ _
    have HV := Lib.hid hv
    clear hv
    have hs8 := hB8.size
    obtain ⟨d0, d1, g0, g1⟩ := pair_cells rC8
    go_wp2_with fail
    refine (Format_any n d _ (HT.out.below hB8)).mono ?_
    rintro e w9 ⟨t, rfl, Ht, hb9⟩
    have hB9 := below_after hB8 hb9 hB8.size
    have rR9 := rR8.below hb9 rR8.lt
    have rC9 := rC8.below hb9 rC8.lt
    clear d0 d1 g0 g1 rR8 rC8 hb9 hB8
    by_cases hs : fmtF n d = s.data.toList
    · obtain rfl : t = s := bytes_ext (Ht.out.trans hs)
      have HE : Hid (prsF t.data.toList = ⟨n, d, true⟩) := HP.out.trans (prsOf_yes HV.out hs)
      clear hs Ht
      obtain ⟨c0, c1, f0, f1⟩ := pair_cells rR9
      obtain ⟨d0, d1, _, _⟩ := pair_cells rC9
      go_wp2_with fail
      refine bodyPost_ret (v := .tuple #[.agg #[.int .i64 n, .int .i64 d], .bool true]) (by simp [results, Tryd.results17, go_sem, c0, c1]) rfl (RetP.of HE.out ?_)
      exact Below.set2 hB9 (by omega) _ _
    · have HE : Hid (prsF s.data.toList = ⟨0, 0, false⟩) := HP.out.trans (prsOf_ne hs)
      have hts2 : ¬ t.toList = s.toList := by rw [ByteArray.toList_eq, ByteArray.toList_eq, Ht.out]; exact hs
      have hts : (t.toList == s.toList) = false := by simpa using hts2
      clear hs Ht
      obtain ⟨c0, c1, f0, f1⟩ := pair_cells rR9
      obtain ⟨d0, d1, g0, g1⟩ := pair_cells rC9
      go_wp2_with fail
      refine bodyPost_ret (v := .tuple #[.agg #[.int .i64 0, .int .i64 0], .bool false]) (by simp [results, Tryd.results17, go_sem, c0, c1]) rfl (RetP.of HE.out ?_)
      exact Below.set2 hB9 (by omega) _ _

end Go.Proofs.YtkdmbkhgcahpiaaDoor
