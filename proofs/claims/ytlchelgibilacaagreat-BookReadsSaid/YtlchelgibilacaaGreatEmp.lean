/- Contract of book.Employees. Written by gen_per.py. -/
import Derived.Test.YtlchelgibilacaaGreatKeys
import Derived.Test.YtlchelgibilacaaGreatBk3
namespace Go.Proofs.YtlchelgibilacaaGreat
open Go.RowKit Go.Maps

/-- the employees of postings -/
def empSel (l : List Pst) : List Int := l.map (·.emp)
def employeesOf (l : List Pst) : List Int := if bookB l then asI (empSel l) else []
theorem empSel_snoc (l : List Pst) (k : Nat) (h : k < l.length) : empSel (l.take (k + 1)) = empSel (l.take k) ++ [l[k].emp] := by
  unfold empSel
  rw [List.take_succ_eq_append_getElem h, List.map_append]; rfl
theorem valid_emp {p : Pst} (h : validB p = true) : (Lit.int .i64 p.emp).wf = true := by
  simp only [validB, Bool.and_eq_true, decide_eq_true_eq] at h
  have e1 : IntKind.i64.min = -9223372036854775808 := by decide
  have e2 : IntKind.i64.max = 9223372036854775807 := by decide
  simp only [Lit.wf, e1, e2, Bool.and_eq_true, decide_eq_true_eq]
  omega
set_option maxRecDepth 100000 in
set_option maxHeartbeats 1600000 in
theorem Employees_any (v : Value) (l : List Pst) (w : World) (hv : Sl w 6 v (psts l)) :
    Calls Tryz.prog 17 #[v] w (RetOwn w 3 1 (ints (employeesOf l))) := by
  have H1 := Lib.hid hv
  obtain ⟨A, cap, rfl, h1, h2, x1, h3⟩ := hv
  rw [psts_len] at h1 H1 ⊢
  unfold maxLen at h2
  have H3 := Lib.hid h3
  clear h3 x1
  cases hB : bookB l
  · have HN : Hid ((employeesOf l) = []) := by simp [Hid, employeesOf, hB]
    go_enter Tryz.func17, Tryz.ntmps17
    go_wp2_with (go_at_call 32; refine (Book_any _ l _ H1.out).mono ?_; rintro e w1 ⟨rfl, hb1⟩)
    go_ret
    exact ⟨_, rfl, by rw [HN.out]; exact Own.nil _ _ _ _, hb1⟩
  have HN : Hid ((employeesOf l) = asI (empSel l)) := by simp [Hid, employeesOf, hB]
  have hlen := book_len hB
  have HV := Lib.hid (fun k hk => valid_emp (book_valid hB k hk))
  have hmm := @run_makeMap Tryz.prog
  go_enter Tryz.func17, Tryz.ntmps17
  go_wp2_with (go_at_call 32; refine (Book_any _ l _ H1.out).mono ?_; rintro e w1 ⟨rfl, hb1⟩)
  have hs1 := hb1.size
  go_loopw [12] (fun i wr => ∃ (k : Nat) (D : DataW Unit), k ≤ l.length ∧ i = .int .i64 k ∧ wr.ownsMap Tryz.prog 3 (plainElem Tryz.prog 4) w1.heap.size k D ∧ Hid (KeysAre D (empSel (l.take k))) ∧ Below w1.heap.size w1 wr) (fun i _ => l.length - (intOf i).toNat)
  case atStart => exact ⟨0, _, by omega, rfl, World.ownsMap_made _ _ _ _, KeysAre.nil, (Below.refl _ _).alloc (Nat.le_refl _) _⟩
  case round =>
    obtain ⟨k, D, hk, rfl, hown, HK, hb⟩ := hrel
    have hB0 := below_after hb1 hb hs1
    by_cases hlt : k < l.length
    · rcases H3.out with h | ⟨b, off, rfl, hc0⟩
      · exact (psts_pos hlt h).elim
      · obtain ⟨c0, c1, c2, c3, c4, c5⟩ := (hc0.below hB0 hc0.1).pst hlt
        have hbs := hb.size
        have hwf := Lib.hid (HV.out k hlt)
        clear H3 hc0 H1 hB0
        have hN : Hid (KeysAre (D.put (.int .i64 l[k].emp) (.lit (.bool true))) (empSel (l.take (k + 1)))) := by rw [Hid, empSel_snoc l k hlt]; exact HK.out.put _ _
        · go_wp2_with (at_mapUpdate; refine wpList_mapUpdate_own _ rfl _ _ _ 57 rfl 3 4 (int_keyed Tryz.underlying3) Tryz.underlying57 _ w1.heap.size k _ rfl (hown.alloc _) (by unfold maxLen; omega) _ _ _ rfl rfl (keyOf_int_mk Tryz.underlying3 hwf.out) _ [] (plainElem_bool Tryz.underlying4 true) ?_; intro w5 hown5 hg5)
          have hb5 := (hb.alloc hbs _).grown hg5 (by simp; omega) (fun g hg => by cases hg; exact Nat.le_refl _)
          go_wp2
          go_roundw
          case rel => exact ⟨k + 1, _, by omega, by go_num, hown5, hN, hb5⟩
          case measure => simp [intOf]; omega
    · obtain rfl : k = l.length := by omega
      rw [List.take_length] at HK
      have hS := Lib.hid (sortedKeys w1.heap.size l.length D _ _ wr hown HK.out (by omega))
      go_wp2_with (first
        | (go_at_call 34; refine (keys_any _ _).mono ?_; rintro e w' ⟨rfl, rfl⟩)
        | (go_at_call 33; refine hS.out.mono ?_; rintro e w5 ⟨x, rfl, hown5, hb5⟩))
      go_ret
      have hs0 := hB0.size
      exact ⟨_, rfl, by rw [HN.out]; exact hown5.more (by simp; omega), (hB0.alloc hs0 _).trans (hb5.mono (by simp; omega))⟩
end Go.Proofs.YtlchelgibilacaaGreat
