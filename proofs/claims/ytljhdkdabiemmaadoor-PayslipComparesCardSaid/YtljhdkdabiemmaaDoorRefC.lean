/- Contract of payrollref34.Compare. -/
import Derived.Test.YtljhdkdabiemmaaDoorRefM
import Derived.Test.YtljhdkdabiemmaaDoorCmp
namespace Go.Proofs.YtljhdkdabiemmaaDoor
open Go.RowKit

/-- the opposite lines put into ordered lines -/
def putsN (y x : List Ln) : List Ln := (negL x).foldl (fun acc z => putR z acc) y
theorem putsN_snoc (y x : List Ln) (k : Nat) (h : k < x.length) : putsN y (x.take (k + 1)) = putR ⟨x[k].kind, x[k].code, -x[k].amt⟩ (putsN y (x.take k)) := by
  rw [putsN, negL_snoc x k h, List.foldl_append]; rfl
theorem putsN_strict {y : List Ln} (h : Strict y) (x : List Ln) : Strict (putsN y x) := by
  unfold putsN
  generalize negL x = z
  induction z generalizing y with
  | nil => exact h
  | cons a r ih => exact ih (putR_strict h)
theorem putsN_sum (y x : List Ln) (k : Int) (c : ByteArray) : sumT (putsN y x) k c = sumT (negL x ++ y) k c := by
  unfold putsN
  generalize negL x = z
  induction z generalizing y with
  | nil => rfl
  | cons a r ih =>
    rw [List.foldl_cons, ih, sumT_append, sumT_putR, List.cons_append, sumT_cons, sumT_append]; omega
theorem putsN_len (y x : List Ln) : (putsN y x).length ≤ y.length + x.length := by
  unfold putsN
  rw [← negL_len x]
  generalize negL x = z
  induction z generalizing y with
  | nil => simp
  | cons a r ih =>
    have := ih (putR a y)
    have := putR_len a y
    simp only [List.foldl_cons, List.length_cons]
    omega
theorem merge_strict (l : List Ln) : Strict (mergeL l) := by
  unfold mergeL
  split
  · unfold colL
    split
    · exact strict_srtLn (dist_filter (sumsT_dist l) _)
    · exact List.Pairwise.nil
  · exact List.Pairwise.nil
theorem putsN_amt {y x : List Ln} (hs : Strict y) (hy : ∀ a ∈ y, -1000000000000 ≤ a.amt ∧ a.amt ≤ 1000000000000) (hx : ∀ a ∈ x, -1000000000000 ≤ a.amt ∧ a.amt ≤ 1000000000000) (hl : y.length + x.length ≤ 1000000) :
    ∀ a ∈ putsN y x, -1000000000000000000 ≤ a.amt ∧ a.amt ≤ 1000000000000000000 := by
  intro a ha
  have h1 := strict_amt (putsN_strict hs x) ha
  rw [putsN_sum] at h1
  have h2 := sumT_bound (l := negL x ++ y) (M := 1000000000000) (by omega) (fun z hz => (List.mem_append.1 hz).elim (neg_small hx z) (hy z)) a.kind a.code
  rw [h1, List.length_append, negL_len] at h2
  omega

set_option maxRecDepth 100000 in
set_option maxHeartbeats 3200000 in
theorem refCompare_any (u v : Value) (a b : List Ln) (w : World) (hu : Sl w 3 u (lns a)) (hv : Sl w 3 v (lns b)) :
    Calls Tryd.prog 21 #[u, v] w (RetOwn2 w 25 3 (lns (cmpR a b)) (cmpE a b)) := by
  have HV := Lib.hid hv
  clear hv
  go_enter Tryd.func21, Tryd.ntmps21
  go_wp2_with fail
  refine (refMerge_any u a w hu).mono ?_
  rintro e w1 ⟨xv, rfl, hown1, hb1⟩
  have hs1 := hb1.size
  by_cases h1 : mergeE a = 0
  rotate_left
  · have HE : Hid (cmpE a b = mergeE a) := by rw [Hid, cmpE, if_neg h1]
    have HL : Hid (cmpR a b = []) := by rw [Hid, cmpR, if_neg h1]
    have hne : (mergeE a != 0) = true := by simpa using h1
    generalize mergeE a = E at *
    clear h1
    go_wp2_with fail
    go_ret2
    exact ⟨_, tup_int HE.out.symm, by rw [HL.out]; exact Own.nil _ _ _ _, hb1⟩
  have HE1 : Hid (cmpE a b = if mergeE b = 0 then colE (diffT (mergeL a) (mergeL b)) else mergeE b) := by rw [Hid, cmpE, if_pos h1]
  have HL1 : Hid (cmpR a b = if mergeE b = 0 then colL (diffT (mergeL a) (mergeL b)) else []) := by rw [Hid, cmpR, if_pos h1]
  rw [h1]
  clear h1
  go_wp2_with fail
  refine (refMerge_any v b w1 (HV.out.below hb1)).mono ?_
  rintro e w2 ⟨yv, rfl, hown2, hb2⟩
  have hB2 := below_after hb1 hb2 hs1
  by_cases h2 : mergeE b = 0
  rotate_left
  · have HE : Hid (cmpE a b = mergeE b) := by rw [Hid, HE1.out, if_neg h2]
    have HL : Hid (cmpR a b = []) := by rw [Hid, HL1.out, if_neg h2]
    have hne : (mergeE b != 0) = true := by simpa using h2
    generalize mergeE b = E at *
    clear h2 HE1 HL1
    go_wp2_with fail
    go_ret2
    exact ⟨_, tup_int HE.out.symm, by rw [HL.out]; exact Own.nil _ _ _ _, hB2⟩
  have HE2 : Hid (cmpE a b = colE (diffT (mergeL a) (mergeL b))) := by rw [Hid, HE1.out, if_pos h2]
  have HL2 : Hid (cmpR a b = colL (diffT (mergeL a) (mergeL b))) := by rw [Hid, HL1.out, if_pos h2]
  rw [h2]
  clear h2 HE1 HL1
  have hx1 := merge_tot (l := a)
  have hy1 := merge_tot (l := b)
  have hx2 := merge_len a
  have hy2 := merge_len b
  have hys := merge_strict b
  obtain ⟨X, hX⟩ : ∃ X, X = mergeL a := ⟨_, rfl⟩
  obtain ⟨Y, hY⟩ : ∃ Y, Y = mergeL b := ⟨_, rfl⟩
  rw [← hX] at hx1 hx2 hown1 HE2 HL2
  rw [← hY] at hy1 hy2 hys hown2 HE2 HL2
  have HX1 := Lib.hid hx1
  have HY1 := Lib.hid hy1
  have HYS := Lib.hid hys
  have HSX := Lib.hid ((hown1.sl (by omega)).below hb2)
  obtain ⟨A, ca, rfl⟩ := hown1.form
  rw [lns_len] at HSX
  have hown2' := hown2.more hs1
  clear hX hY hx1 hy1 hys hown1 hown2 hb1 hb2
  have hs2 := hB2.size
  rw [lns_len]
  go_wp2_with fail
  go_loopw [8, 10] (fun t i wr => ∃ k : Nat, k ≤ X.length ∧ i = .int .i64 k ∧ Own wr w.heap.size 25 3 t (lns (putsN Y (X.take k))) ∧ Below w2.heap.size w2 wr) (fun _ i _ => X.length - (intOf i).toNat)
  case atStart => exact ⟨0, by omega, rfl, hown2', Below.refl _ _⟩
  case round =>
    obtain ⟨k, hk, rfl, hown, hb⟩ := hrel
    have hbs := hb.size
    have hBw := below_after hB2 hb hs2
    by_cases hlt : k < X.length
    · obtain ⟨A', cap', hA, q1, q2, _, hc0⟩ := HSX.out
      injection hA with hA1 hA2 hA3
      subst hA1 hA3
      rcases hc0 with h | ⟨bb, off, rfl, hc0⟩
      · exact (lns_pos hlt h).elim
      · obtain ⟨c0, c1, c2⟩ := (hc0.below hb hc0.1).ln hlt
        unfold maxLen at q2
        rw [lns_len] at q1
        have ha := HX1.out X[k] (List.getElem_mem hlt)
        have hpl := putsN_len Y (X.take k)
        rw [List.length_take] at hpl
        have HPA := Lib.hid (putsN_amt (y := Y) (x := X.take k) HYS.out HY1.out (fun z hz => HX1.out z (List.mem_of_mem_take hz)) (by rw [List.length_take]; omega))
        have HSN := Lib.hid (putsN_snoc Y X k hlt)
        have hd : Below wr.heap.size wr wr.drew := (Below.refl _ _).drew
        have HO := Lib.hid ((hown.sl (by omega)).below hd)
        have hBd := below_after hBw hd hBw.size
        have hbd := below_after hb hd hbs
        have i0 : (0 : Int) ≤ (k : Int) := by omega
        have i1 : (k : Int) < (X.length : Int) := by omega
        clear hc0 hA2 hown
        go_wp2_with fail
        refine region_tail 18 (by kernel_rfl) (by kernel_rfl) ?_
        simp only [List.take_succ_cons, List.take_zero, List.drop_succ_cons, List.drop_zero]
        repeat still_step
        refine wpStill_nil ?_
        go_wp2_with fail
        refine (put_any _ _ ⟨X[k].kind, X[k].code, -X[k].amt⟩ _ HO.out (by omega) (by dsimp only; omega) HPA.out).mono ?_
        rintro e w3 ⟨y, rfl, hown3, hb3⟩
        rw [← HSN.out] at hown3
        have hB3 := below_after hbd hb3 hbd.size
        go_wp2_with fail
        go_roundw
        case rel => exact ⟨k + 1, by omega, by go_num, hown3.more hBd.size, hB3⟩
        case measure => simp [intOf]; omega
    · obtain rfl : k = X.length := by omega
      rw [List.take_length] at hown
      have hpl := putsN_len Y X
      obtain ⟨ht1, ht2⟩ := trim_is (l := negL X ++ Y) (putsN_strict HYS.out X) (putsN_sum Y X)
      have HTL := Lib.hid ht2
      cases hB : trimB (putsN Y X)
      · have hne : ¬ colE (diffT X Y) = 0 := fun h => by rw [ht1.2 h] at hB; cases hB
        have HE : Hid (cmpE a b = 4) := by
          rw [Hid, HE2.out]
          unfold colE at hne ⊢
          split
          · rename_i hh; rw [if_pos hh] at hne; exact absurd rfl hne
          · rfl
        have HL : Hid (cmpR a b = []) := by rw [Hid, HL2.out, colL, if_neg hne]
        clear ht1 ht2 hne HTL HE2 HL2
        go_wp2_with fail
        refine (trim_any _ _ _ (hown.sl (by omega)) (by omega)).mono ?_
        rintro e w3 ⟨y, rfl, hown3, hb3⟩
        rw [hB]
        go_wp2_with fail
        go_ret2
        exact ⟨_, tup_int HE.out.symm, by rw [HL.out]; exact Own.nil _ _ _ _, below_after hBw hb3 hBw.size⟩
      · have hc0 : colE (diffT X Y) = 0 := ht1.1 hB
        have HE : Hid (cmpE a b = 0) := by rw [Hid, HE2.out, hc0]
        have HL : Hid (cmpR a b = trimL (putsN Y X)) := by
          rw [Hid, HL2.out, colL, if_pos hc0, trimL, hB, if_pos rfl, HTL.out]; rfl
        clear ht1 ht2 HTL hc0 HE2 HL2
        go_wp2_with fail
        refine (trim_any _ _ _ (hown.sl (by omega)) (by omega)).mono ?_
        rintro e w3 ⟨y, rfl, hown3, hb3⟩
        rw [hB]
        go_wp2_with fail
        go_ret2
        exact ⟨_, tup_int HE.out.symm, by rw [HL.out]; exact hown3.more hBw.size, below_after hBw hb3 hBw.size⟩
end Go.Proofs.YtljhdkdabiemmaaDoor
