/- Contracts of the reference of book: Employees, Periods. -/
import Derived.Test.YtlchelgibilacaaGreatIns
namespace Go.Proofs.YtlchelgibilacaaGreat
open Go.RowKit

theorem perSel_len (n : Int) (l : List Pst) (k : Nat) : (asI (perSel n (l.take k))).length ≤ k := by
  refine Nat.le_trans (asI_len _) ?_
  unfold perSel
  rw [List.length_map]
  exact Nat.le_trans (List.length_filter_le _ _) (List.length_take_le _ _)
theorem empSel_len (l : List Pst) (k : Nat) : (asI (empSel (l.take k))).length ≤ k := by
  refine Nat.le_trans (asI_len _) ?_
  unfold empSel
  rw [List.length_map]
  exact List.length_take_le _ _

set_option maxRecDepth 100000 in
set_option maxHeartbeats 1600000 in
theorem refPeriods_any (v : Value) (l : List Pst) (n : Int) (w : World) (hv : Sl w 6 v (psts l)) :
    Calls Tryz.prog 20 #[v, .int .i64 n] w (RetOwn w 3 1 (ints (periodsOf l n))) := by
  have H1 := Lib.hid hv
  obtain ⟨A, cap, rfl, h1, h2, x1, h3⟩ := hv
  rw [psts_len] at h1 H1 ⊢
  unfold maxLen at h2
  have H3 := Lib.hid h3
  clear h3 x1
  cases hB : bookB l
  · have HN : Hid (periodsOf l n = []) := by simp [Hid, periodsOf, hB]
    go_enter Tryz.func20, Tryz.ntmps20
    go_wp2_with (go_at_call 29; refine (refBook_any _ l _ H1.out).mono ?_; rintro e w1 ⟨rfl, hb1⟩; rw [hB])
    go_ret
    exact ⟨_, rfl, by rw [HN.out]; exact Own.nil _ _ _ _, hb1⟩
  have HN : Hid (periodsOf l n = asI (perSel n l)) := by simp [Hid, periodsOf, hB]
  have hlen := book_len hB
  go_enter Tryz.func20, Tryz.ntmps20
  go_wp2_with (go_at_call 29; refine (refBook_any _ l _ H1.out).mono ?_; rintro e w1 ⟨rfl, hb1⟩; rw [hB])
  go_loopw [5, 6] (fun t i wr => ∃ k : Nat, k ≤ l.length ∧ i = .int .i64 k ∧ Own wr w.heap.size 3 1 t (ints (asI (perSel n (l.take k)))) ∧ Below w.heap.size w wr) (fun _ i _ => l.length - (intOf i).toNat)
  case atStart => exact ⟨0, by omega, rfl, Own.nil _ _ _ _, hb1⟩
  case round =>
    obtain ⟨k, hk, rfl, hown, hb⟩ := hrel
    have hbs := hb.size
    by_cases hlt : k < l.length
    · rcases H3.out with h | ⟨b, off, rfl, hc0⟩
      · exact (psts_pos hlt h).elim
      · obtain ⟨c0, c1, c2, c3, c4, c5⟩ := (hc0.below hb hc0.1).pst hlt
        have hsn := Lib.hid (perSel_snoc n l k hlt)
        have hul := perSel_len n l k
        clear H3 hc0 H1
        cases e1 : (l[k].emp == n)
        · have hN : Hid (perSel n (l.take k) = perSel n (l.take (k + 1))) := by rw [Hid, hsn.out, e1]; simp
          go_wp2
          go_roundw
          case rel => exact ⟨k + 1, by omega, by go_num, by rw [← hN.out]; exact hown, hb⟩
          case measure => simp [intOf]; omega
        · have hN : Hid (asI (perSel n (l.take (k + 1))) = insI l[k].per (asI (perSel n (l.take k)))) := by
            rw [Hid, hsn.out, e1]; exact asI_snoc _ _
          go_wp2_with fail
          refine (Insert_any _ _ l[k].per _ (hown.sl (by omega)) (by omega)).mono ?_
          rintro e w3 ⟨y, rfl, hown3, hb3⟩
          rw [← hN.out] at hown3
          have hB3 := below_after hb hb3 hbs
          go_wp2_with fail
          go_roundw
          case rel => exact ⟨k + 1, by omega, by go_num, hown3.more hbs, hB3⟩
          case measure => simp [intOf]; omega
    · obtain rfl : k = l.length := by omega
      rw [List.take_length] at hown
      go_wp2
      go_ret
      exact ⟨_, rfl, by rw [HN.out]; exact hown, hb⟩

set_option maxRecDepth 100000 in
set_option maxHeartbeats 1600000 in
theorem refEmployees_any (v : Value) (l : List Pst) (w : World) (hv : Sl w 6 v (psts l)) :
    Calls Tryz.prog 18 #[v] w (RetOwn w 3 1 (ints (employeesOf l))) := by
  have H1 := Lib.hid hv
  obtain ⟨A, cap, rfl, h1, h2, x1, h3⟩ := hv
  rw [psts_len] at h1 H1 ⊢
  unfold maxLen at h2
  have H3 := Lib.hid h3
  clear h3 x1
  cases hB : bookB l
  · have HN : Hid (employeesOf l = []) := by simp [Hid, employeesOf, hB]
    go_enter Tryz.func18, Tryz.ntmps18
    go_wp2_with (go_at_call 29; refine (refBook_any _ l _ H1.out).mono ?_; rintro e w1 ⟨rfl, hb1⟩; rw [hB])
    go_ret
    exact ⟨_, rfl, by rw [HN.out]; exact Own.nil _ _ _ _, hb1⟩
  have HN : Hid (employeesOf l = asI (empSel l)) := by simp [Hid, employeesOf, hB]
  have hlen := book_len hB
  go_enter Tryz.func18, Tryz.ntmps18
  go_wp2_with (go_at_call 29; refine (refBook_any _ l _ H1.out).mono ?_; rintro e w1 ⟨rfl, hb1⟩; rw [hB])
  go_loopw [3, 4] (fun t i wr => ∃ k : Nat, k ≤ l.length ∧ i = .int .i64 k ∧ Own wr w.heap.size 3 1 t (ints (asI (empSel (l.take k)))) ∧ Below w.heap.size w wr) (fun _ i _ => l.length - (intOf i).toNat)
  case atStart => exact ⟨0, by omega, rfl, Own.nil _ _ _ _, hb1⟩
  case round =>
    obtain ⟨k, hk, rfl, hown, hb⟩ := hrel
    have hbs := hb.size
    by_cases hlt : k < l.length
    · rcases H3.out with h | ⟨b, off, rfl, hc0⟩
      · exact (psts_pos hlt h).elim
      · obtain ⟨c0, c1, c2, c3, c4, c5⟩ := (hc0.below hb hc0.1).pst hlt
        have hul := empSel_len l k
        have hN : Hid (asI (empSel (l.take (k + 1))) = insI l[k].emp (asI (empSel (l.take k)))) := by
          rw [Hid, empSel_snoc l k hlt]; exact asI_snoc _ _
        clear H3 hc0 H1
        go_wp2_with fail
        refine (Insert_any _ _ l[k].emp _ (hown.sl (by omega)) (by omega)).mono ?_
        rintro e w3 ⟨y, rfl, hown3, hb3⟩
        rw [← hN.out] at hown3
        have hB3 := below_after hb hb3 hbs
        go_wp2_with fail
        go_roundw
        case rel => exact ⟨k + 1, by omega, by go_num, hown3.more hbs, hB3⟩
        case measure => simp [intOf]; omega
    · obtain rfl : k = l.length := by omega
      rw [List.take_length] at hown
      go_wp2
      go_ret
      exact ⟨_, rfl, by rw [HN.out]; exact hown, hb⟩
end Go.Proofs.YtlchelgibilacaaGreat
