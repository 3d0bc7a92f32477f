/- Contracts of package book: Net, AsOf, Undo. -/
import Derived.Test.YtlchelgibilacaaGreatBk2
namespace Go.Proofs.YtlchelgibilacaaGreat
open Go.RowKit

/-- what a posting adds to the net pay of an employee -/
def netOf (n : Int) (p : Pst) : Int := if p.emp = n ∧ p.ln.kind = 9 then p.ln.amt else 0
/-- the net pay of an employee, of postings -/
def netSum (n : Int) (l : List Pst) : Int := (l.map (netOf n)).sum
/-- the net pay of an employee, of a book -/
def netL (l : List Pst) (n : Int) : Int := if bookB l then netSum n l else 0
theorem netSum_snoc (n : Int) (l : List Pst) (k : Nat) (h : k < l.length) : netSum n (l.take (k + 1)) = netSum n (l.take k) + netOf n l[k] := by
  unfold netSum
  rw [List.take_succ_eq_append_getElem h, List.map_append, List.sum_append]
  simp
theorem amt_bound {p : Pst} (h : validB p = true) : -1000000000000 ≤ p.ln.amt ∧ p.ln.amt ≤ 1000000000000 := by
  simp [validB, formB, formedB, totB] at h
  omega
theorem netOf_bound {n : Int} {p : Pst} (h : validB p = true) : -1000000000000 ≤ netOf n p ∧ netOf n p ≤ 1000000000000 := by
  have := amt_bound h
  unfold netOf
  split <;> omega
theorem book_valid {l : List Pst} (h : bookB l = true) (k : Nat) (hk : k < l.length) : validB l[k] = true := by
  simp only [bookB, validsB, Bool.and_eq_true, List.all_eq_true] at h
  exact h.2.2 _ (List.getElem_mem hk)
theorem book_len {l : List Pst} (h : bookB l = true) : l.length ≤ 65536 := by
  simp [bookB] at h; omega
theorem netSum_bound {n : Int} {l : List Pst} (h : bookB l = true) (k : Nat) (hk : k ≤ l.length) : -(1000000000000 * (k : Int)) ≤ netSum n (l.take k) ∧ netSum n (l.take k) ≤ 1000000000000 * (k : Int) := by
  induction k with
  | zero => simp [netSum]
  | succ k ih =>
    rw [netSum_snoc n l k (by omega)]
    have h1 := ih (by omega)
    have h2 := netOf_bound (n := n) (book_valid h k (by omega))
    omega

set_option maxRecDepth 100000 in
set_option maxHeartbeats 800000 in
theorem Net_any (v : Value) (l : List Pst) (n : Int) (w : World) (hv : Sl w 6 v (psts l)) :
    Calls Tryz.prog 14 #[v, .int .i64 n] w fun e w' => e = .returned (.int .i64 (netL l n)) ∧ Below w.heap.size w w' := by
  have H1 := Lib.hid hv
  obtain ⟨A, cap, rfl, h1, h2, x1, h3⟩ := hv
  rw [psts_len] at h1 H1 ⊢
  unfold maxLen at h2
  have H3 := Lib.hid h3
  clear h3 x1
  cases hB : bookB l
  · have HN : Hid (netL l n = 0) := by simp [Hid, netL, hB]
    go_enter Tryz.func14, Tryz.ntmps14
    go_wp2_with (go_at_call 32; refine (Book_any _ l _ H1.out).mono ?_; rintro e w1 ⟨rfl, hb1⟩)
    go_ret
    exact ⟨ret_int HN.out.symm, hb1⟩
  have HN : Hid (netL l n = netSum n l) := by simp [Hid, netL, hB]
  have hlen := book_len hB
  go_enter Tryz.func14, Tryz.ntmps14
  go_wp2_with (go_at_call 32; refine (Book_any _ l _ H1.out).mono ?_; rintro e w1 ⟨rfl, hb1⟩)
  go_loopw [5, 13] (fun t i wr => ∃ k : Nat, k ≤ l.length ∧ i = .int .i64 k ∧ t = .int .i64 (netSum n (l.take k)) ∧ Below w.heap.size w wr) (fun _ i _ => l.length - (intOf i).toNat)
  case atStart => exact ⟨0, by omega, rfl, rfl, hb1⟩
  case round =>
    obtain ⟨k, hk, rfl, rfl, hb⟩ := hrel
    by_cases hlt : k < l.length
    · rcases H3.out with h | ⟨b, off, rfl, hc0⟩
      · exact (psts_pos hlt h).elim
      · obtain ⟨c0, c1, c2, c3, c4, c5⟩ := (hc0.below hb hc0.1).pst hlt
        have hbs := hb.size
        have hsn := Lib.hid (netSum_snoc n l k hlt)
        obtain ⟨b1, b2⟩ := amt_bound (book_valid hB k hlt)
        obtain ⟨b3, b4⟩ := netSum_bound (n := n) hB k (by omega)
        clear H3 hc0 H1
        cases e1 : ((l[k]).emp == n)
        · have hN : Hid (netSum n (l.take k) = netSum n (l.take (k + 1))) := by
            rw [Hid, hsn.out, netOf, if_neg (by simp at e1; simp [e1])]; omega
          go_wp2
          go_roundw
          case rel => exact ⟨k + 1, by omega, by go_num, by rw [hN.out], hb.alloc hbs _⟩
          case measure => simp [intOf]; omega
        · cases e2 : ((l[k]).ln.kind == 9)
          · have hN : Hid (netSum n (l.take k) = netSum n (l.take (k + 1))) := by
              rw [Hid, hsn.out, netOf, if_neg (by simp at e2; simp [e2])]; omega
            go_wp2
            go_roundw
            case rel => exact ⟨k + 1, by omega, by go_num, by rw [hN.out], hb.alloc hbs _⟩
            case measure => simp [intOf]; omega
          · have hN : Hid (netSum n (l.take k) + (l[k]).ln.amt = netSum n (l.take (k + 1))) := by
              rw [Hid, hsn.out, netOf, if_pos (by simp at e1 e2; exact ⟨e1, e2⟩)]
            go_wp2
            go_roundw
            case rel => exact ⟨k + 1, by omega, by go_num, by rw [hN.out], hb.alloc hbs _⟩
            case measure => simp [intOf]; omega
    · go_wp2
      go_ret
      exact ⟨ret_int (by rw [HN.out, List.take_of_length_le (by omega)]), hb⟩

/-- the postings up to a run -/
def upTo (r : Int) (l : List Pst) : List Pst := l.filter fun p => decide (p.run ≤ r)
def asOfL (l : List Pst) (r : Int) : List Pst := if bookB l then upTo r l else []
theorem upTo_snoc (r : Int) (l : List Pst) (k : Nat) (h : k < l.length) : upTo r (l.take (k + 1)) = upTo r (l.take k) ++ if l[k].run ≤ r then [l[k]] else [] := by
  unfold upTo
  rw [List.take_succ_eq_append_getElem h, List.filter_append]
  congr 1
  by_cases hr : l[k].run ≤ r <;> simp [hr]
theorem upTo_len (r : Int) (l : List Pst) (k : Nat) : (upTo r (l.take k)).length ≤ k := by
  unfold upTo
  exact Nat.le_trans (List.length_filter_le _ _) (List.length_take_le _ _)

set_option maxRecDepth 100000 in
set_option maxHeartbeats 800000 in
theorem AsOf_any (v : Value) (l : List Pst) (r : Int) (w : World) (hv : Sl w 6 v (psts l)) :
    Calls Tryz.prog 22 #[v, .int .i64 r] w (RetOwn w 45 6 (psts (asOfL l r))) := by
  have H1 := Lib.hid hv
  obtain ⟨A, cap, rfl, h1, h2, x1, h3⟩ := hv
  rw [psts_len] at h1 H1 ⊢
  unfold maxLen at h2
  have H3 := Lib.hid h3
  clear h3 x1
  cases hB : bookB l
  · have HN : Hid (asOfL l r = []) := by simp [Hid, asOfL, hB]
    go_enter Tryz.func22, Tryz.ntmps22
    go_wp2_with (go_at_call 32; refine (Book_any _ l _ H1.out).mono ?_; rintro e w1 ⟨rfl, hb1⟩)
    go_ret
    exact ⟨_, rfl, by rw [HN.out]; exact Own.nil _ _ _ _, hb1⟩
  have HN : Hid (asOfL l r = upTo r l) := by simp [Hid, asOfL, hB]
  have hlen := book_len hB
  go_enter Tryz.func22, Tryz.ntmps22
  go_wp2_with (go_at_call 32; refine (Book_any _ l _ H1.out).mono ?_; rintro e w1 ⟨rfl, hb1⟩)
  go_loopw [5, 13] (fun t i wr => ∃ k : Nat, k ≤ l.length ∧ i = .int .i64 k ∧ Own wr w.heap.size 45 6 t (psts (upTo r (l.take k))) ∧ Below w.heap.size w wr) (fun _ i _ => l.length - (intOf i).toNat)
  case atStart => exact ⟨0, by omega, rfl, Own.nil _ _ _ _, hb1⟩
  case round =>
    obtain ⟨k, hk, rfl, hown, hb⟩ := hrel
    by_cases hlt : k < l.length
    · rcases H3.out with h | ⟨b, off, rfl, hc0⟩
      · exact (psts_pos hlt h).elim
      · obtain ⟨c0, c1, c2, c3, c4, c5⟩ := (hc0.below hb hc0.1).pst hlt
        have hbs := hb.size
        have hsn := Lib.hid (upTo_snoc r l k hlt)
        have hul := upTo_len r l k
        clear H3 hc0 H1
        by_cases e1 : (l[k]).run ≤ r
        · have hN : Hid (upTo r (l.take (k + 1)) = upTo r (l.take k) ++ [l[k]]) := by rw [Hid, hsn.out, if_pos e1]
          go_wp2_with (at_builtin; go_loud (refine wpList_append_sl rfl (.tmp 21) (.tmp 23) rfl rowPst w.heap.size _ _ _ (psts [l[k]]) rfl ((hown.alloc _).alloc _) rfl (Sl.one (by simp) rfl) (psts_wide _) (by rw [psts_len, psts_len]; unfold maxLen; simp; omega) (by rw [psts_len, psts_len]; simp; omega) (by simp; omega) ?_); intro v2 w2 hown2 hg2 _; have hb2 := Own.grown ((hown.alloc _).alloc _) ((hb.alloc hbs _).alloc (by simp; omega) _) hg2 (by simp; omega); rw [← psts_append, ← hN.out] at hown2)
          go_roundw
          case rel => exact ⟨k + 1, by omega, by go_num, hown2, hb2⟩
          case measure => simp [intOf]; omega
        · have hN : Hid (upTo r (l.take k) = upTo r (l.take (k + 1))) := by rw [Hid, hsn.out, if_neg e1, List.append_nil]
          go_wp2
          go_roundw
          case rel => exact ⟨k + 1, by omega, by go_num, by rw [← hN.out]; exact hown.alloc _, hb.alloc hbs _⟩
          case measure => simp [intOf]; omega
    · go_wp2
      go_ret
      exact ⟨_, rfl, by rw [List.take_of_length_le (by omega)] at hown; rw [HN.out]; exact hown, hb⟩

end Go.Proofs.YtlchelgibilacaaGreat
