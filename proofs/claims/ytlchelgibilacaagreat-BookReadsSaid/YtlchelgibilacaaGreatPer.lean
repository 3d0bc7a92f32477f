/- Contract of book.Periods. Written by gen_per.py. -/
import Derived.Test.YtlchelgibilacaaGreatKeys
import Derived.Test.YtlchelgibilacaaGreatBk3
namespace Go.Proofs.YtlchelgibilacaaGreat
open Go.RowKit Go.Maps

/-- the periods of an employee's postings -/
def perSel (n : Int) (l : List Pst) : List Int := (l.filter fun p => p.emp == n).map (·.per)
def periodsOf (l : List Pst) (n : Int) : List Int := if bookB l then asI (perSel n l) else []
theorem perSel_snoc (n : Int) (l : List Pst) (k : Nat) (h : k < l.length) : perSel n (l.take (k + 1)) = perSel n (l.take k) ++ if l[k].emp == n then [l[k].per] else [] := by
  unfold perSel
  rw [List.take_succ_eq_append_getElem h, List.filter_append, List.map_append]
  congr 1
  cases hr : l[k].emp == n <;> simp [hr]
theorem valid_per {p : Pst} (h : validB p = true) : (Lit.int .i64 p.per).wf = true := by
  simp only [validB, Bool.and_eq_true, decide_eq_true_eq] at h
  have e1 : IntKind.i64.min = -9223372036854775808 := by decide
  have e2 : IntKind.i64.max = 9223372036854775807 := by decide
  simp only [Lit.wf, e1, e2, Bool.and_eq_true, decide_eq_true_eq]
  omega
set_option maxRecDepth 100000 in
set_option maxHeartbeats 1600000 in
theorem Periods_any (v : Value) (l : List Pst) (n : Int) (w : World) (hv : Sl w 6 v (psts l)) :
    Calls Tryz.prog 19 #[v, .int .i64 n] w (RetOwn w 3 1 (ints (periodsOf l n))) := by
  have H1 := Lib.hid hv
  obtain ⟨A, cap, rfl, h1, h2, x1, h3⟩ := hv
  rw [psts_len] at h1 H1 ⊢
  unfold maxLen at h2
  have H3 := Lib.hid h3
  clear h3 x1
  cases hB : bookB l
  · have HN : Hid ((periodsOf l n) = []) := by simp [Hid, periodsOf, hB]
    go_enter Tryz.func19, Tryz.ntmps19
    go_wp2_with (go_at_call 32; refine (Book_any _ l _ H1.out).mono ?_; rintro e w1 ⟨rfl, hb1⟩)
    go_ret
    exact ⟨_, rfl, by rw [HN.out]; exact Own.nil _ _ _ _, hb1⟩
  have HN : Hid ((periodsOf l n) = asI (perSel n l)) := by simp [Hid, periodsOf, hB]
  have hlen := book_len hB
  have HV := Lib.hid (fun k hk => valid_per (book_valid hB k hk))
  have hmm := @run_makeMap Tryz.prog
  go_enter Tryz.func19, Tryz.ntmps19
  go_wp2_with (go_at_call 32; refine (Book_any _ l _ H1.out).mono ?_; rintro e w1 ⟨rfl, hb1⟩)
  have hs1 := hb1.size
  go_loopw [14] (fun i wr => ∃ (k : Nat) (D : DataW Unit), k ≤ l.length ∧ i = .int .i64 k ∧ wr.ownsMap Tryz.prog 3 (plainElem Tryz.prog 4) w1.heap.size k D ∧ Hid (KeysAre D (perSel n (l.take k))) ∧ Below w1.heap.size w1 wr) (fun i _ => l.length - (intOf i).toNat)
  case atStart => exact ⟨0, _, by omega, rfl, World.ownsMap_made _ _ _ _, KeysAre.nil, (Below.refl _ _).alloc (Nat.le_refl _) _⟩
  case round =>
    obtain ⟨k, D, hk, rfl, hown, HK, hb⟩ := hrel
    have hB0 := below_after hb1 hb hs1
    by_cases hlt : k < l.length
    · rcases H3.out with h | ⟨b, off, rfl, hc0⟩
      · exact (psts_pos hlt h).elim
      · obtain ⟨c0, c1, c2, c3, c4, c5⟩ := (hc0.below hB0 hc0.1).pst hlt
        have hbs := hb.size
        have hwf := Lib.hid (HV.out k hlt)
        clear H3 hc0 H1 hB0
        cases e1 : (l[k].emp == n)
        · have hN : Hid (perSel n (l.take k) = perSel n (l.take (k + 1))) := by rw [Hid, perSel_snoc n l k hlt, e1]; simp
          go_wp2
          go_roundw
          case rel => exact ⟨k + 1, D, by omega, by go_num, (hown.mono (Nat.le_succ _)).alloc _, by rw [← hN.out]; exact HK, hb.alloc hbs _⟩
          case measure => simp [intOf]; omega
        · have hN : Hid (KeysAre (D.put (.int .i64 l[k].per) (.lit (.bool true))) (perSel n (l.take (k + 1)))) := by rw [Hid, perSel_snoc n l k hlt, e1]; exact HK.out.put _ _
          go_wp2_with (at_mapUpdate; refine wpList_mapUpdate_own _ rfl _ _ _ 57 rfl 3 4 (int_keyed Tryz.underlying3) Tryz.underlying57 _ w1.heap.size k _ rfl (hown.alloc _) (by unfold maxLen; omega) _ _ _ rfl rfl (keyOf_int_mk Tryz.underlying3 hwf.out) _ [] (plainElem_bool Tryz.underlying4 true) ?_; intro w5 hown5 hg5)
          have hb5 := (hb.alloc hbs _).grown hg5 (by simp; omega) (fun g hg => by cases hg; exact Nat.le_refl _)
          go_wp2
          go_roundw
          case rel => exact ⟨k + 1, _, by omega, by go_num, hown5, hN, hb5⟩
          case measure => simp [intOf]; omega
    · obtain rfl : k = l.length := by omega
      rw [List.take_length] at HK
      have hS := Lib.hid (sortedKeys w1.heap.size l.length D _ _ wr hown HK.out (by omega))
      go_wp2_with (first
        | (go_at_call 34; refine (keys_any _ _).mono ?_; rintro e w' ⟨rfl, rfl⟩)
        | (go_at_call 33; refine hS.out.mono ?_; rintro e w5 ⟨x, rfl, hown5, hb5⟩))
      go_ret
      have hs0 := hB0.size
      exact ⟨_, rfl, by rw [HN.out]; exact hown5.more (by simp; omega), (hB0.alloc hs0 _).trans (hb5.mono (by simp; omega))⟩
end Go.Proofs.YtlchelgibilacaaGreat
