/- Contracts of the reference of book: Undo. -/
import Derived.Test.YtlchelgibilacaaRef2
import Derived.Test.YtlchelgibilacaaBk4
namespace Go.Proofs.Ytlchelgibilacaa
open Go.RowKit

set_option maxRecDepth 100000 in
set_option maxHeartbeats 1600000 in
theorem refUndo_any (v : Value) (l : List Pst) (r s : Int) (w : World) (hv : Sl w 6 v (psts l)) :
    Calls Try.prog 32 #[v, .int .i64 r, .int .i64 s] w (RetOwn2 w 27 6 (psts (undoL l r s)) (undoE l r s)) := by
  have H1 := Lib.hid hv
  obtain ⟨A, cap, rfl, h1, h2, x1, h3⟩ := hv
  rw [psts_len] at h1 H1 ⊢
  unfold maxLen at h2
  have H3 := Lib.hid h3
  clear h3 x1
  cases hB : bookB l
  · have HN : Hid (undoE l r s = 1) := by simp [Hid, undoE, hB]
    go_enter Try.func32, Try.ntmps32
    go_wp2_with (go_at_call 21; refine (refBook_any _ l _ H1.out).mono ?_; rintro e w1 ⟨rfl, hb1⟩)
    go_ret2
    exact ⟨_, tup_int HN.out.symm, by rw [undoL, HN.out]; exact Own.nil _ _ _ _, hb1⟩
  by_cases g1 : 1 ≤ s
  rotate_left
  · have HN : Hid (undoE l r s = 1) := by simp [Hid, undoE, g1]
    go_enter Try.func32, Try.ntmps32
    go_wp2_with (go_at_call 21; refine (refBook_any _ l _ H1.out).mono ?_; rintro e w1 ⟨rfl, hb1⟩)
    go_ret2
    exact ⟨_, tup_int HN.out.symm, by rw [undoL, HN.out]; exact Own.nil _ _ _ _, hb1⟩
  by_cases g2 : s ≤ 256
  rotate_left
  · have HN : Hid (undoE l r s = 1) := by simp [Hid, undoE, g2]
    go_enter Try.func32, Try.ntmps32
    go_wp2_with (go_at_call 21; refine (refBook_any _ l _ H1.out).mono ?_; rintro e w1 ⟨rfl, hb1⟩)
    go_ret2
    exact ⟨_, tup_int HN.out.symm, by rw [undoL, HN.out]; exact Own.nil _ _ _ _, hb1⟩
  have HN : Hid (undoE l r s = if (undoSel r s l).length = 0 then 16 else if s ≤ lastRun l then 15 else 0) := by simp [Hid, undoE, hB, g1, g2]
  have hlen := book_len hB
  have d1 : decide (s < 1) = false := by simp; omega
  have d2 : decide (256 < s) = false := by simp; omega
  go_enter Try.func32, Try.ntmps32
  go_wp2_with (go_at_call 21; refine (refBook_any _ l _ H1.out).mono ?_; rintro e w1 ⟨rfl, hb1⟩)
  go_loopw [8, 9] (fun t i wr => ∃ k : Nat, k ≤ l.length ∧ i = .int .i64 k ∧ Own wr w.heap.size 27 6 t (psts (undoSel r s (l.take k))) ∧ Below w.heap.size w wr) (fun _ i _ => l.length - (intOf i).toNat)
  case atStart => exact ⟨0, by omega, rfl, Own.nil _ _ _ _, hb1⟩
  case round =>
    obtain ⟨k, hk, rfl, hown, hb⟩ := hrel
    by_cases hlt : k < l.length
    · rcases H3.out with h | ⟨b, off, rfl, hc0⟩
      · exact (psts_pos hlt h).elim
      · obtain ⟨c0, c1, c2, c3, c4, c5⟩ := (hc0.below hb hc0.1).pst hlt
        have hbs := hb.size
        have hsn := Lib.hid (undoSel_snoc r s l k hlt)
        have hul := undoSel_len r s l k
        obtain ⟨b1, b2⟩ := amt_bound (book_valid hB k hlt)
        clear H3 hc0 H1
        cases e1 : ((l[k]).run == r)
        · have hN : Hid (undoSel r s (l.take k) = undoSel r s (l.take (k + 1))) := by rw [Hid, hsn.out, if_neg (by simpa using e1), List.append_nil]
          go_wp2
          go_roundw
          case rel => exact ⟨k + 1, by omega, by go_num, by rw [← hN.out]; exact hown, hb⟩
          case measure => simp [intOf]; omega
        · have hN : Hid (undoSel r s (l.take (k + 1)) = undoSel r s (l.take k) ++ [undone s l[k]]) := by rw [Hid, hsn.out, if_pos (by simpa using e1)]
          go_wp2_with (at_builtin; refine wpList_append_sl rfl (.tmp 47) (.tmp 49) rfl rowPst w.heap.size _ _ _ (psts [undone s l[k]]) rfl ((hown.alloc _).alloc _) rfl (Sl.one (by simp) rfl) (psts_wide _) (by rw [psts_len, psts_len]; unfold maxLen; simp; omega) (by rw [psts_len, psts_len]; simp; omega) (by simp; omega) ?_; intro v2 w2 hown2 hg2 _; have hb2 := Own.grown ((hown.alloc _).alloc _) ((hb.alloc hbs _).alloc (by simp; omega) _) hg2 (by simp; omega); rw [← psts_append, ← hN.out] at hown2)
          go_roundw
          case rel => exact ⟨k + 1, by omega, by go_num, hown2, hb2⟩
          case measure => simp [intOf]; omega
    · obtain rfl : k = l.length := by omega
      rw [List.take_length] at hown
      obtain ⟨A2, cap2, rfl⟩ := hown.form
      rw [psts_len]
      by_cases hz : (undoSel r s l).length = 0
      · have HZ : Hid (undoE l r s = 16) := by rw [Hid, HN.out, if_pos hz]
        rw [hz]
        clear hz
        go_wp2
        go_ret2
        exact ⟨_, tup_int HZ.out.symm, by rw [undoL, HZ.out]; exact Own.nil _ _ _ _, hb⟩
      · have hpos := undoSel_pos hz
        have hz' : (((undoSel r s l).length : Int) == 0) = false := beq_eq_false_iff_ne.2 (by omega)
        rw [psts_len] at hown
        rcases H3.out with h | ⟨b, off, rfl, hc0⟩
        · exact (psts_pos hpos h).elim
        · obtain ⟨c0, _⟩ := (hc0.below hb hc0.1).pst (k := l.length - 1) (by omega)
          have hlr : lastRun l = (l[l.length - 1]'(by omega)).run := by simp [lastRun, List.getD, show l.length - 1 < l.length by omega]
          by_cases hs : s ≤ (l[l.length - 1]'(by omega)).run
          · have HZ : Hid (undoE l r s = 15) := by rw [Hid, HN.out, if_neg hz, if_pos (by rw [hlr]; exact hs)]
            clear hz hlr HN
            go_wp2
            go_ret2
            exact ⟨_, tup_int HZ.out.symm, by rw [undoL, HZ.out]; exact Own.nil _ _ _ _, hb⟩
          · have HZ : Hid (undoE l r s = 0) := by rw [Hid, HN.out, if_neg hz, if_neg (by rw [hlr]; exact hs)]
            have HO : Hid (Own wr w.heap.size 27 6 (.slice A2 (undoSel r s l).length cap2) (psts (undoSel r s l))) := hown
            clear hz hlr HN hown
            go_wp2
            go_ret2
            exact ⟨_, tup_int HZ.out.symm, by rw [undoL, HZ.out]; exact HO, hb⟩

end Go.Proofs.Ytlchelgibilacaa
