/- Contracts of the reference of book: Result, Period, AsOf, Net. Written by gen_ref.py. -/
import Derived.Test.YtjbhabfflcbebaaGreatRefM
import Derived.Test.YtjbhabfflcbebaaGreatRef1
import Derived.Test.YtjbhabfflcbebaaGreatRes
namespace Go.Proofs.YtjbhabfflcbebaaGreat
open Go.RowKit

set_option maxRecDepth 100000 in
set_option maxHeartbeats 1600000 in
theorem refAsOf_any (v : Value) (l : List Pst) (r : Int) (w : World) (hv : Sl w 6 v (psts l)) :
    Calls Tryz.prog 18 #[v, .int .i64 r] w (RetOwn w 53 6 (psts (asOfL l r))) := by
  have H1 := Lib.hid hv
  obtain ⟨A, cap, rfl, h1, h2, x1, h3⟩ := hv
  rw [psts_len] at h1 H1 ⊢
  unfold maxLen at h2
  have H3 := Lib.hid h3
  clear h3 x1
  cases hB : bookB l
  · have HN : Hid (asOfL l r = []) := by simp [Hid, asOfL, hB]
    go_enter Tryz.func18, Tryz.ntmps18
    go_wp2_with (go_at_call 33; refine (refBook_any _ l _ H1.out).mono ?_; rintro e w1 ⟨rfl, hb1⟩; rw [hB])
    go_ret
    exact ⟨_, rfl, by rw [HN.out]; exact Own.nil _ _ _ _, hb1⟩
  have HN : Hid (asOfL l r = upTo r l) := by simp [Hid, asOfL, hB]
  have hlen := book_len hB
  go_enter Tryz.func18, Tryz.ntmps18
  go_wp2_with (go_at_call 33; refine (refBook_any _ l _ H1.out).mono ?_; rintro e w1 ⟨rfl, hb1⟩; rw [hB])
  go_loopw [5, 6] (fun t i wr => ∃ k : Nat, k ≤ l.length ∧ i = .int .i64 k ∧ Own wr w.heap.size 53 6 t (psts (upTo r (l.take k))) ∧ Below w.heap.size w wr) (fun _ i _ => l.length - (intOf i).toNat)
  case atStart => exact ⟨0, by omega, rfl, Own.nil _ _ _ _, hb1⟩
  case round =>
    obtain ⟨k, hk, rfl, hown, hb⟩ := hrel
    have hbs := hb.size
    by_cases hlt : k < l.length
    · rcases H3.out with h | ⟨b, off, rfl, hc0⟩
      · exact (psts_pos hlt h).elim
      · obtain ⟨c0, c1, c2, c3, c4, c5⟩ := (hc0.below hb hc0.1).pst hlt
        have hsn := Lib.hid (upTo_snoc r l k hlt)
        have hul := upTo_len r l k
        clear H3 hc0 H1
        by_cases e1 : l[k].run ≤ r
        · have d1 : decide (l[k].run ≤ r) = true := decide_eq_true e1
          have hN : Hid (upTo r (l.take (k + 1)) = upTo r (l.take k) ++ [l[k]]) := by rw [Hid, hsn.out, if_pos e1]
          go_wp2_with (at_builtin; refine wpList_append_sl rfl (.tmp 23) (.tmp 28) rfl rowPst w.heap.size _ _ _ (psts [l[k]]) rfl (hown.alloc _) rfl (Sl.one rfl rfl) (psts_wide _) (by rw [psts_len, psts_len]; unfold maxLen; simp; omega) (by rw [psts_len, psts_len]; simp; omega) (by simp; omega) ?_; intro v4 w4 hown4 hg4 _; have hb4 := Own.grown (hown.alloc _) (hb.alloc hbs _) hg4 (by simp; omega); rw [← psts_append, ← hN.out] at hown4)
          go_roundw
          case rel => exact ⟨k + 1, by omega, by go_num, hown4, hb4⟩
          case measure => simp [intOf]; omega
        · have d1 : decide (l[k].run ≤ r) = false := decide_eq_false e1
          have hN : Hid (upTo r (l.take k) = upTo r (l.take (k + 1))) := by rw [Hid, hsn.out, if_neg e1, List.append_nil]
          go_wp2
          go_roundw
          case rel => exact ⟨k + 1, by omega, by go_num, by rw [← hN.out]; exact hown, hb⟩
          case measure => simp [intOf]; omega
    · obtain rfl : k = l.length := by omega
      rw [List.take_length] at hown
      go_wp2
      go_ret
      exact ⟨_, rfl, by rw [HN.out]; exact hown, hb⟩

end Go.Proofs.YtjbhabfflcbebaaGreat
