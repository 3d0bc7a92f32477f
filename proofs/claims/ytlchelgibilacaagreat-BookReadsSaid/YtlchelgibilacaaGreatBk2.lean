/- Contracts of package book: Add. -/
import Derived.Test.YtlchelgibilacaaGreatBk1
namespace Go.Proofs.YtlchelgibilacaaGreat
open Go.RowKit

/-- the error of Add -/
def addE (l m : List Pst) : Int :=
  if bookB l && validsB m then (if l.length + m.length ≤ 65536 then (if ascB (l ++ m) then 0 else 15) else 18) else 1
/-- the list of Add -/
def addL (l m : List Pst) : List Pst := if addE l m = 0 then l ++ m else []
theorem psts_append (l m : List Pst) : psts (l ++ m) = psts l ++ psts m := by simp [psts]

set_option maxHeartbeats 800000 in
set_option maxRecDepth 100000 in
theorem Add_any (v u : Value) (l m : List Pst) (w : World) (hv : Sl w 6 v (psts l)) (hu : Sl w 6 u (psts m)) (hm : m.length ≤ 1099511627776) :
    Calls Tryz.prog 24 #[v, u] w (RetOwn2 w 45 6 (psts (addL l m)) (addE l m)) := by
  have H1 := Lib.hid hv
  have H2 := Lib.hid hu
  obtain ⟨A, cap, rfl, h1, h2, x1, x2⟩ := hv
  obtain ⟨B, cup, rfl, k1, k2, x3, x4⟩ := hu
  clear x1 x2 x3 x4
  rw [psts_len] at h1 H1 k1 H2
  rw [psts_len, psts_len]
  unfold maxLen at h2 k2
  cases hB : bookB l
  · have HE : Hid (addE l m = 1) := by simp [Hid, addE, hB]
    have HL : Hid (addL l m = []) := by simp [Hid, addL, HE.out]
    go_enter Tryz.func24, Tryz.ntmps24
    go_wp2_with (go_at_call 32; refine (Book_any _ l _ H1.out).mono ?_; rintro e w1 ⟨rfl, hb1⟩)
    go_ret2
    exact ⟨_, tup_int HE.out.symm, by rw [HL.out]; exact Own.nil _ _ _ _, hb1⟩
  cases hV : validsB m
  · have HE : Hid (addE l m = 1) := by simp [Hid, addE, hV]
    have HL : Hid (addL l m = []) := by simp [Hid, addL, HE.out]
    go_enter Tryz.func24, Tryz.ntmps24
    go_wp2_with (first | (go_at_call 32; refine (Book_any _ l _ H1.out).mono ?_; rintro e w1 ⟨rfl, hb1⟩) | (go_at_call 36; refine (valid_any _ m _ (H2.out.below hb1)).mono ?_; rintro e w2 ⟨rfl, hb2⟩))
    go_ret2
    exact ⟨_, tup_int HE.out.symm, by rw [HL.out]; exact Own.nil _ _ _ _, below_after hb1 hb2 hb1.size⟩
  have hl0 : l.length ≤ 65536 := by simp [bookB] at hB; omega
  by_cases hlen : l.length + m.length ≤ 65536
  rotate_left
  · have HE : Hid (addE l m = 18) := by simp [Hid, addE, hV, hB, hlen]
    have HL : Hid (addL l m = []) := by simp [Hid, addL, HE.out]
    go_enter Tryz.func24, Tryz.ntmps24
    go_wp2_with (first | (go_at_call 32; refine (Book_any _ l _ H1.out).mono ?_; rintro e w1 ⟨rfl, hb1⟩) | (go_at_call 36; refine (valid_any _ m _ (H2.out.below hb1)).mono ?_; rintro e w2 ⟨rfl, hb2⟩))
    go_ret2
    exact ⟨_, tup_int HE.out.symm, by rw [HL.out]; exact Own.nil _ _ _ _, below_after hb1 hb2 hb1.size⟩
  obtain ⟨i0, z0, hi0, hz0, hs0, hby0, hzs0⟩ := rowPst.hi
  have hP1 : (psts l).length = l.length := psts_len l
  have hP2 : (psts m).length = m.length := psts_len m
  have HP1 := Lib.hid hP1
  have HP2 := Lib.hid hP2
  clear hP1 hP2
  have Hi := Lib.hid hi0; have Hz := Lib.hid hz0; have Hs := Lib.hid hs0; have Hby := Lib.hid hby0
  clear hi0 hz0 hs0 hby0 hzs0
  have hA : ∀ b, ascB (l ++ m) = b → Hid (addE l m = if b then 0 else 15) := fun b hb => by simp [Hid, addE, hV, hB, hlen, hb]
  cases hasc : ascB (l ++ m)
  all_goals
    have HE := hA _ hasc
    clear hA
    go_enter Tryz.func24, Tryz.ntmps24
    go_wp2_with (first
      | (go_at_call 32; refine (Book_any _ l _ H1.out).mono ?_; rintro e w1 ⟨rfl, hb1⟩)
      | (go_at_call 36; refine (valid_any _ m _ (H2.out.below hb1)).mono ?_; rintro e w2 ⟨rfl, hb2⟩)
      | (at_make; refine wpList_make_own _ rfl _ _ 23 rfl w.heap.size 45 i0 z0 6 rowPst.ht Hi.out Hz.out Hs.out .i64 .i64 _ (l.length + m.length) rfl rfl (by omega) (by rw [Hby.out]; omega) (by unfold maxLen; omega) (Nat.le_trans hb1.size hb2.size) ?_; intro w3 hown3 hg3; have hb3 := Below.grown (below_after hb1 hb2 hb1.size) hg3 (Nat.le_trans hb1.size hb2.size) (by simp))
      | (at_builtin; refine wpList_append_sl rfl (.tmp 27) (.tmp 28) rfl rowPst w.heap.size _ _ [] (psts l) rfl ⟨hown3, Wide.nil 6⟩ rfl (H1.out.below hb3) (psts_wide l) (by rw [psts_len]; unfold maxLen; simp; omega) (by rw [psts_len]; simp; omega) hb3.size ?_; intro v4 w4 hown4 hg4 _; have hb4 := Own.grown ⟨hown3, Wide.nil 6⟩ hb3 hg4 hb3.size)
      | (at_builtin; refine wpList_append_sl rfl (.tmp 30) (.tmp 31) rfl rowPst w.heap.size _ _ _ (psts m) rfl hown4 rfl (H2.out.below hb4) (psts_wide m) (by simp only [List.nil_append]; rw [psts_len, psts_len]; unfold maxLen; omega) (by simp only [List.nil_append]; rw [psts_len, psts_len]; omega) hb4.size ?_; intro v5 w5 hown5 hg5 _; have hb5 := Own.grown hown4 hb4 hg5 hb4.size; rw [List.nil_append, ← psts_append] at hown5)
      | (go_at_call 37; refine (ascending_any _ (l ++ m) _ (Own.sl (by omega) hown5)).mono ?_; rintro e w6 ⟨rfl, hb6⟩))
    go_ret2
    first
      | exact ⟨_, tup_int HE.out.symm, by rw [addL, HE.out]; exact Own.nil _ _ _ _, below_after hb5 hb6 hb5.size⟩
      | exact ⟨_, tup_int HE.out.symm, by rw [addL, HE.out]; exact Own.kept hown5 hb6, below_after hb5 hb6 hb5.size⟩

end Go.Proofs.YtlchelgibilacaaGreat
