/- Contracts of the reference of book: Result, Period, AsOf, Net. Written by gen_ref.py. -/
import Derived.Test.YtlchelgibilacaaGreatRefM
import Derived.Test.YtlchelgibilacaaGreatRef1
import Derived.Test.YtlchelgibilacaaGreatRes
namespace Go.Proofs.YtlchelgibilacaaGreat
open Go.RowKit

set_option maxRecDepth 100000 in
set_option maxHeartbeats 1600000 in
theorem refResult_any (v : Value) (l : List Pst) (n p : Int) (w : World) (hv : Sl w 6 v (psts l)) :
    Calls Tryz.prog 11 #[v, .int .i64 n, .int .i64 p] w (RetOwn w 43 3 (lns (resultL l n p))) := by
  have H1 := Lib.hid hv
  obtain ⟨A, cap, rfl, h1, h2, x1, h3⟩ := hv
  rw [psts_len] at h1 H1 ⊢
  unfold maxLen at h2
  have H3 := Lib.hid h3
  clear h3 x1
  cases hB : bookB l
  · have HN : Hid (resultL l n p = []) := by simp [Hid, resultL, mergedL, hB]
    go_enter Tryz.func11, Tryz.ntmps11
    go_wp2_with (go_at_call 29; refine (refBook_any _ l _ H1.out).mono ?_; rintro e w1 ⟨rfl, hb1⟩; rw [hB])
    go_ret
    exact ⟨_, rfl, by rw [HN.out]; exact Own.nil _ _ _ _, hb1⟩
  have HN : Hid (resultL l n p = mergeL (selLns (selEP n p) l)) := by simp [Hid, resultL, mergedL, hB]
  have hlen := book_len hB
  go_enter Tryz.func11, Tryz.ntmps11
  go_wp2_with (go_at_call 29; refine (refBook_any _ l _ H1.out).mono ?_; rintro e w1 ⟨rfl, hb1⟩; rw [hB])
  go_loopw [7, 8] (fun t i wr => ∃ k : Nat, k ≤ l.length ∧ i = .int .i64 k ∧ Own wr w.heap.size 43 3 t (lns (selLns (selEP n p) (l.take k))) ∧ Below w.heap.size w wr) (fun _ i _ => l.length - (intOf i).toNat)
  case atStart => exact ⟨0, by omega, rfl, Own.nil _ _ _ _, hb1⟩
  case round =>
    obtain ⟨k, hk, rfl, hown, hb⟩ := hrel
    have hbs := hb.size
    by_cases hlt : k < l.length
    · rcases H3.out with h | ⟨b, off, rfl, hc0⟩
      · exact (psts_pos hlt h).elim
      · obtain ⟨c0, c1, c2, c3, c4, c5⟩ := (hc0.below hb hc0.1).pst hlt
        have hsn := Lib.hid (selLns_snoc (selEP n p) l k hlt)
        have hul := selLns_len (selEP n p) l k
        clear H3 hc0 H1
        cases e1 : (l[k].emp == n)
        · have hN : Hid (selLns (selEP n p) (l.take k) = selLns (selEP n p) (l.take (k + 1))) := by rw [Hid, hsn.out]; simp [selEP, e1]
          go_wp2
          go_roundw
          case rel => exact ⟨k + 1, by omega, by go_num, by rw [← hN.out]; exact hown, hb⟩
          case measure => simp [intOf]; omega
        · cases e2 : (l[k].per == p)
          · have hN : Hid (selLns (selEP n p) (l.take k) = selLns (selEP n p) (l.take (k + 1))) := by rw [Hid, hsn.out]; simp [selEP, e2]
            go_wp2
            go_roundw
            case rel => exact ⟨k + 1, by omega, by go_num, by rw [← hN.out]; exact hown, hb⟩
            case measure => simp [intOf]; omega
          · have hN : Hid (selLns (selEP n p) (l.take (k + 1)) = selLns (selEP n p) (l.take k) ++ [l[k].ln]) := by rw [Hid, hsn.out]; simp [selEP, e1, e2]
            go_wp2_with (at_builtin; refine wpList_append_sl rfl (.tmp 36) (.tmp 42) rfl rowLn w.heap.size _ _ _ (lns [l[k].ln]) rfl (hown.alloc _) rfl (Sl.one rfl rfl) (lns_wide _) (by rw [lns_len, lns_len]; unfold maxLen; simp; omega) (by rw [lns_len, lns_len]; simp; omega) (by simp; omega) ?_; intro v4 w4 hown4 hg4 _; have hb4 := Own.grown (hown.alloc _) (hb.alloc hbs _) hg4 (by simp; omega); rw [← lns_append, ← hN.out] at hown4)
            go_roundw
            case rel => exact ⟨k + 1, by omega, by go_num, hown4, hb4⟩
            case measure => simp [intOf]; omega
    · obtain rfl : k = l.length := by omega
      rw [List.take_length] at hown
      go_wp2_with (go_at_call 30; refine (refMerge_any _ _ _ (hown.sl (by omega))).mono ?_; rintro e w2 ⟨x, rfl, hown2, hb2⟩)
      go_ret
      exact ⟨_, rfl, by rw [HN.out]; exact hown2.more hbs, below_after hb hb2 hbs⟩

set_option maxRecDepth 100000 in
set_option maxHeartbeats 1600000 in
theorem refPeriod_any (v : Value) (l : List Pst) (p : Int) (w : World) (hv : Sl w 6 v (psts l)) :
    Calls Tryz.prog 13 #[v, .int .i64 p] w (RetOwn w 43 3 (lns (periodL l p))) := by
  have H1 := Lib.hid hv
  obtain ⟨A, cap, rfl, h1, h2, x1, h3⟩ := hv
  rw [psts_len] at h1 H1 ⊢
  unfold maxLen at h2
  have H3 := Lib.hid h3
  clear h3 x1
  cases hB : bookB l
  · have HN : Hid (periodL l p = []) := by simp [Hid, periodL, mergedL, hB]
    go_enter Tryz.func13, Tryz.ntmps13
    go_wp2_with (go_at_call 29; refine (refBook_any _ l _ H1.out).mono ?_; rintro e w1 ⟨rfl, hb1⟩; rw [hB])
    go_ret
    exact ⟨_, rfl, by rw [HN.out]; exact Own.nil _ _ _ _, hb1⟩
  have HN : Hid (periodL l p = mergeL (selLns (selP p) l)) := by simp [Hid, periodL, mergedL, hB]
  have hlen := book_len hB
  go_enter Tryz.func13, Tryz.ntmps13
  go_wp2_with (go_at_call 29; refine (refBook_any _ l _ H1.out).mono ?_; rintro e w1 ⟨rfl, hb1⟩; rw [hB])
  go_loopw [5, 6] (fun t i wr => ∃ k : Nat, k ≤ l.length ∧ i = .int .i64 k ∧ Own wr w.heap.size 43 3 t (lns (selLns (selP p) (l.take k))) ∧ Below w.heap.size w wr) (fun _ i _ => l.length - (intOf i).toNat)
  case atStart => exact ⟨0, by omega, rfl, Own.nil _ _ _ _, hb1⟩
  case round =>
    obtain ⟨k, hk, rfl, hown, hb⟩ := hrel
    have hbs := hb.size
    by_cases hlt : k < l.length
    · rcases H3.out with h | ⟨b, off, rfl, hc0⟩
      · exact (psts_pos hlt h).elim
      · obtain ⟨c0, c1, c2, c3, c4, c5⟩ := (hc0.below hb hc0.1).pst hlt
        have hsn := Lib.hid (selLns_snoc (selP p) l k hlt)
        have hul := selLns_len (selP p) l k
        clear H3 hc0 H1
        cases e1 : (l[k].per == p)
        · have hN : Hid (selLns (selP p) (l.take k) = selLns (selP p) (l.take (k + 1))) := by rw [Hid, hsn.out]; simp [selP, e1]
          go_wp2
          go_roundw
          case rel => exact ⟨k + 1, by omega, by go_num, by rw [← hN.out]; exact hown, hb⟩
          case measure => simp [intOf]; omega
        · have hN : Hid (selLns (selP p) (l.take (k + 1)) = selLns (selP p) (l.take k) ++ [l[k].ln]) := by rw [Hid, hsn.out]; simp [selP, e1]
          go_wp2_with (at_builtin; refine wpList_append_sl rfl (.tmp 25) (.tmp 31) rfl rowLn w.heap.size _ _ _ (lns [l[k].ln]) rfl (hown.alloc _) rfl (Sl.one rfl rfl) (lns_wide _) (by rw [lns_len, lns_len]; unfold maxLen; simp; omega) (by rw [lns_len, lns_len]; simp; omega) (by simp; omega) ?_; intro v4 w4 hown4 hg4 _; have hb4 := Own.grown (hown.alloc _) (hb.alloc hbs _) hg4 (by simp; omega); rw [← lns_append, ← hN.out] at hown4)
          go_roundw
          case rel => exact ⟨k + 1, by omega, by go_num, hown4, hb4⟩
          case measure => simp [intOf]; omega
    · obtain rfl : k = l.length := by omega
      rw [List.take_length] at hown
      go_wp2_with (go_at_call 30; refine (refMerge_any _ _ _ (hown.sl (by omega))).mono ?_; rintro e w2 ⟨x, rfl, hown2, hb2⟩)
      go_ret
      exact ⟨_, rfl, by rw [HN.out]; exact hown2.more hbs, below_after hb hb2 hbs⟩

set_option maxRecDepth 100000 in
set_option maxHeartbeats 1600000 in
theorem refAsOf_any (v : Value) (l : List Pst) (r : Int) (w : World) (hv : Sl w 6 v (psts l)) :
    Calls Tryz.prog 23 #[v, .int .i64 r] w (RetOwn w 45 6 (psts (asOfL l r))) := by
  have H1 := Lib.hid hv
  obtain ⟨A, cap, rfl, h1, h2, x1, h3⟩ := hv
  rw [psts_len] at h1 H1 ⊢
  unfold maxLen at h2
  have H3 := Lib.hid h3
  clear h3 x1
  cases hB : bookB l
  · have HN : Hid (asOfL l r = []) := by simp [Hid, asOfL, hB]
    go_enter Tryz.func23, Tryz.ntmps23
    go_wp2_with (go_at_call 29; refine (refBook_any _ l _ H1.out).mono ?_; rintro e w1 ⟨rfl, hb1⟩; rw [hB])
    go_ret
    exact ⟨_, rfl, by rw [HN.out]; exact Own.nil _ _ _ _, hb1⟩
  have HN : Hid (asOfL l r = upTo r l) := by simp [Hid, asOfL, hB]
  have hlen := book_len hB
  go_enter Tryz.func23, Tryz.ntmps23
  go_wp2_with (go_at_call 29; refine (refBook_any _ l _ H1.out).mono ?_; rintro e w1 ⟨rfl, hb1⟩; rw [hB])
  go_loopw [5, 6] (fun t i wr => ∃ k : Nat, k ≤ l.length ∧ i = .int .i64 k ∧ Own wr w.heap.size 45 6 t (psts (upTo r (l.take k))) ∧ Below w.heap.size w wr) (fun _ i _ => l.length - (intOf i).toNat)
  case atStart => exact ⟨0, by omega, rfl, Own.nil _ _ _ _, hb1⟩
  case round =>
    obtain ⟨k, hk, rfl, hown, hb⟩ := hrel
    have hbs := hb.size
    by_cases hlt : k < l.length
    · rcases H3.out with h | ⟨b, off, rfl, hc0⟩
      · exact (psts_pos hlt h).elim
      · obtain ⟨c0, c1, c2, c3, c4, c5⟩ := (hc0.below hb hc0.1).pst hlt
        have hsn := Lib.hid (upTo_snoc r l k hlt)
        have hul := upTo_len r l k
        clear H3 hc0 H1
        by_cases e1 : l[k].run ≤ r
        · have d1 : decide (l[k].run ≤ r) = true := decide_eq_true e1
          have hN : Hid (upTo r (l.take (k + 1)) = upTo r (l.take k) ++ [l[k]]) := by rw [Hid, hsn.out, if_pos e1]
          go_wp2_with (at_builtin; refine wpList_append_sl rfl (.tmp 23) (.tmp 28) rfl rowPst w.heap.size _ _ _ (psts [l[k]]) rfl (hown.alloc _) rfl (Sl.one rfl rfl) (psts_wide _) (by rw [psts_len, psts_len]; unfold maxLen; simp; omega) (by rw [psts_len, psts_len]; simp; omega) (by simp; omega) ?_; intro v4 w4 hown4 hg4 _; have hb4 := Own.grown (hown.alloc _) (hb.alloc hbs _) hg4 (by simp; omega); rw [← psts_append, ← hN.out] at hown4)
          go_roundw
          case rel => exact ⟨k + 1, by omega, by go_num, hown4, hb4⟩
          case measure => simp [intOf]; omega
        · have d1 : decide (l[k].run ≤ r) = false := decide_eq_false e1
          have hN : Hid (upTo r (l.take k) = upTo r (l.take (k + 1))) := by rw [Hid, hsn.out, if_neg e1, List.append_nil]
          go_wp2
          go_roundw
          case rel => exact ⟨k + 1, by omega, by go_num, by rw [← hN.out]; exact hown, hb⟩
          case measure => simp [intOf]; omega
    · obtain rfl : k = l.length := by omega
      rw [List.take_length] at hown
      go_wp2
      go_ret
      exact ⟨_, rfl, by rw [HN.out]; exact hown, hb⟩

set_option maxRecDepth 100000 in
set_option maxHeartbeats 1600000 in
theorem refNet_any (v : Value) (l : List Pst) (n : Int) (w : World) (hv : Sl w 6 v (psts l)) :
    Calls Tryz.prog 15 #[v, .int .i64 n] w fun e w' => e = .returned (.int .i64 (netL l n)) ∧ Below w.heap.size w w' := by
  have H1 := Lib.hid hv
  obtain ⟨A, cap, rfl, h1, h2, x1, h3⟩ := hv
  rw [psts_len] at h1 H1 ⊢
  unfold maxLen at h2
  have H3 := Lib.hid h3
  clear h3 x1
  cases hB : bookB l
  · have HN : Hid (netL l n = 0) := by simp [Hid, netL, hB]
    go_enter Tryz.func15, Tryz.ntmps15
    go_wp2_with (go_at_call 29; refine (refBook_any _ l _ H1.out).mono ?_; rintro e w1 ⟨rfl, hb1⟩; rw [hB])
    go_ret
    exact ⟨ret_int HN.out.symm, hb1⟩
  have HN : Hid (netL l n = netSum n l) := by simp [Hid, netL, hB]
  have hlen := book_len hB
  have HBK := Lib.hid hB
  go_enter Tryz.func15, Tryz.ntmps15
  go_wp2_with (go_at_call 29; refine (refBook_any _ l _ H1.out).mono ?_; rintro e w1 ⟨rfl, hb1⟩; rw [hB])
  go_loopw [5, 6] (fun t i wr => ∃ k : Nat, k ≤ l.length ∧ i = .int .i64 k ∧ t = .int .i64 (netSum n (l.take k)) ∧ Below w.heap.size w wr) (fun _ i _ => l.length - (intOf i).toNat)
  case atStart => exact ⟨0, by omega, rfl, rfl, hb1⟩
  case round =>
    obtain ⟨k, hk, rfl, rfl, hb⟩ := hrel
    have hbs := hb.size
    by_cases hlt : k < l.length
    · rcases H3.out with h | ⟨b, off, rfl, hc0⟩
      · exact (psts_pos hlt h).elim
      · obtain ⟨c0, c1, c2, c3, c4, c5⟩ := (hc0.below hb hc0.1).pst hlt
        have hsn := Lib.hid (netSum_snoc n l k hlt)
        obtain ⟨q1, q2⟩ := netSum_bound (n := n) HBK.out k hk
        obtain ⟨a1, a2⟩ := amt_bound (book_valid HBK.out k hlt)
        clear H3 hc0 H1
        cases e1 : (l[k].emp == n)
        · have hN : Hid (netSum n (l.take k) = netSum n (l.take (k + 1))) := by rw [Hid, hsn.out, netOf, if_neg (fun hh => by simp [hh.1] at e1)]; omega
          go_wp2
          go_roundw
          case rel => exact ⟨k + 1, by omega, by go_num, by rw [hN.out], hb⟩
          case measure => simp [intOf]; omega
        · cases e2 : (l[k].ln.kind == 9)
          · have hN : Hid (netSum n (l.take k) = netSum n (l.take (k + 1))) := by rw [Hid, hsn.out, netOf, if_neg (fun hh => by simp [hh.2] at e2)]; omega
            go_wp2
            go_roundw
            case rel => exact ⟨k + 1, by omega, by go_num, by rw [hN.out], hb⟩
            case measure => simp [intOf]; omega
          · have hN : Hid (netSum n (l.take (k + 1)) = netSum n (l.take k) + l[k].ln.amt) := by rw [Hid, hsn.out, netOf, if_pos ⟨by simpa using e1, by simpa using e2⟩]
            go_wp2
            go_roundw
            case rel => exact ⟨k + 1, by omega, by go_num, by rw [hN.out], hb⟩
            case measure => simp [intOf]; omega
    · obtain rfl : k = l.length := by omega
      rw [List.take_length]
      go_wp2
      go_ret
      exact ⟨ret_int HN.out.symm, hb⟩
end Go.Proofs.YtlchelgibilacaaGreat
