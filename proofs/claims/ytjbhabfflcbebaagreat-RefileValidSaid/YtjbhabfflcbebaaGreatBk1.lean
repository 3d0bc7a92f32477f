/- Contracts of package book: ascending, valid, Book. -/
import Derived.Test.YtjbhabfflcbebaaGreatPost
import Derived.Test.YtjbhabfflcbebaaGreatSlice
import Derived.RegionTactic
import Derived.Deep.QuietTactic
import Derived.BigQuiet
namespace Go.Proofs.YtjbhabfflcbebaaGreat
open Go.RowKit

def psts (l : List Pst) : List (List Value) := l.map Pst.vals
theorem psts_len (l : List Pst) : (psts l).length = l.length := by simp [psts]
theorem psts_at {l : List Pst} {k : Nat} (h : k < l.length) : (psts l)[k]? = some (l[k]).vals := by simp [psts, h]
/-- the runs are in ascending order -/
def ascB : List Pst → Bool
  | a :: b :: r => decide (a.run ≤ b.run) && ascB (b :: r)
  | _ => true
theorem ascB_iff (l : List Pst) : ascB l = true ↔ ∀ j (h : j + 1 < l.length), (l[j]'(by omega)).run ≤ (l[j + 1]'h).run := by
  induction l with
  | nil => simp [ascB]
  | cons a r ih =>
    cases r with
    | nil => simp [ascB]
    | cons b r =>
      simp only [ascB, Bool.and_eq_true, decide_eq_true_eq, ih]
      constructor
      · rintro ⟨h1, h2⟩ j hj
        cases j with
        | zero => exact h1
        | succ j => exact h2 j (by simpa using hj)
      · intro h
        exact ⟨h 0 (by simp), fun j hj => h (j + 1) (by simp at hj ⊢; omega)⟩
def validsB (l : List Pst) : Bool := l.all validB
/-- a book -/
def bookB (l : List Pst) : Bool := decide (l.length ≤ 65536) && (ascB l && validsB l)

/-- the six cells of the k-th posting -/
theorem CellsAt.pst {w : World} {b off : Nat} {l : List Pst} (h : CellsAt w 6 b off (psts l)) {k : Nat} (hk : k < l.length) :
    w.cell? ⟨b, off + k * 6, none⟩ = some (.int .i64 (l[k]).run) ∧ w.cell? ⟨b, off + k * 6 + 1, none⟩ = some (.int .i64 (l[k]).emp) ∧ w.cell? ⟨b, off + k * 6 + 2, none⟩ = some (.int .i64 (l[k]).per) ∧
    w.cell? ⟨b, off + k * 6 + 3, none⟩ = some (.int .i64 (l[k]).ln.kind) ∧ w.cell? ⟨b, off + k * 6 + 4, none⟩ = some (.string (l[k]).ln.code) ∧ w.cell? ⟨b, off + k * 6 + 5, none⟩ = some (.int .i64 (l[k]).ln.amt) :=
  ⟨h.2 k _ (psts_at hk) 0 _ rfl, h.2 k _ (psts_at hk) 1 _ rfl, h.2 k _ (psts_at hk) 2 _ rfl, h.2 k _ (psts_at hk) 3 _ rfl, h.2 k _ (psts_at hk) 4 _ rfl, h.2 k _ (psts_at hk) 5 _ rfl⟩
theorem psts_pos {l : List Pst} {k : Nat} (hlt : k < l.length) (h : psts l = []) : False := by
  have := congrArg List.length h
  rw [psts_len] at this; simp only [List.length_nil] at this; omega

theorem psts_wide (l : List Pst) : Wide 6 (psts l) := fun x hx => by
  obtain ⟨p, _, rfl⟩ := List.mem_map.1 hx
  exact ⟨rfl, by simp [Pst.vals, Value.oneCell']⟩
theorem rowPst : RowTy Tryz.prog 40 53 6 56 := by
  obtain ⟨i, hi, hz, hs, hb⟩ := info_parts (show (Tryz.prog.info? 53).map (fun i => (i.zero, i.size, i.bytes)) = some (some (.agg #[.int .i64 0, .int .i64 0, .int .i64 0, .int .i64 0, .string ⟨#[]⟩, .int .i64 0]), 6, 56) by kernel_rfl)
  exact ⟨Tryz.underlying40, ⟨i, _, hi, hz, hs, hb, rfl⟩, by omega⟩

set_option maxHeartbeats 400000 in
theorem ascending_any (v : Value) (l : List Pst) (w : World) (hv : Sl w 6 v (psts l)) :
    Calls Tryz.prog 49 #[v] w fun e w' => e = .returned (.bool (ascB l)) ∧ Below w.heap.size w w' := by
  obtain ⟨A, cap, rfl, h1, h2, _, h3⟩ := hv
  rw [psts_len] at h1 ⊢
  unfold maxLen at h2
  have H3 := Lib.hid h3
  clear h3
  go_enter Tryz.func49, Tryz.ntmps49
  go_wp2
  go_loopw [3] (fun i wr => ∃ k : Nat, 1 ≤ k ∧ i = .int .i64 k ∧ Below w.heap.size w wr ∧ Hid (∀ j (h : j + 1 < l.length), j + 1 < k → (l[j]'(by omega)).run ≤ (l[j + 1]'h).run)) (fun i _ => l.length - (intOf i).toNat)
  case atStart => exact ⟨1, by omega, rfl, Below.refl _ _, fun j _ hj => absurd hj (by omega)⟩
  case round =>
    obtain ⟨k, hk, rfl, hb, HK⟩ := hrel
    by_cases hlt : k < l.length
    · rcases H3.out with h | ⟨b, off, rfl, hc⟩
      · exact absurd (congrArg List.length h) (by rw [psts_len]; simp only [List.length_nil]; omega)
      · have c1 : wr.cell? ⟨b, off + k * 6, none⟩ = some (.int .i64 (l[k]).run) := (hb.cell (p := ⟨b, _, none⟩) hc.1).trans (hc.2 k _ (psts_at hlt) 0 _ rfl)
        have c2 : wr.cell? ⟨b, off + (k - 1) * 6, none⟩ = some (.int .i64 (l[k - 1]).run) := (hb.cell (p := ⟨b, _, none⟩) hc.1).trans (hc.2 (k - 1) _ (psts_at (by omega)) 0 _ rfl)
        clear H3 hc
        by_cases hr : (l[k]).run < (l[k - 1]).run
        · go_wp2
          go_quiet (fail)
          go_wp2
          go_ret
          refine ⟨ret_bool ?_, Below.draws hb _⟩
          symm
          rw [Bool.eq_false_iff]
          intro hh
          have := (ascB_iff l).1 hh (k - 1) (by omega)
          simp only [show k - 1 + 1 = k by omega] at this
          omega
        · go_wp2
          go_quiet (fail)
          go_wp2
          go_roundw
          case rel => exact ⟨k + 1, by omega, by go_num, Below.draws hb _, fun j hj hjk => by
            by_cases e : j + 1 = k
            · subst e; simpa using hr
            · exact HK.out j hj (by omega)⟩
          case measure => simp [intOf]; omega
    · go_wp2
      go_ret
      refine ⟨ret_bool ?_, hb⟩
      symm
      rw [ascB_iff]
      exact fun j hj => HK.out j hj (by omega)

set_option maxHeartbeats 400000 in
theorem valid_any (v : Value) (l : List Pst) (w : World) (hv : Sl w 6 v (psts l)) :
    Calls Tryz.prog 50 #[v] w fun e w' => e = .returned (.bool (validsB l)) ∧ Below w.heap.size w w' := by
  obtain ⟨A, cap, rfl, h1, h2, _, h3⟩ := hv
  rw [psts_len] at h1 ⊢
  unfold maxLen at h2
  have H3 := Lib.hid h3
  clear h3
  go_enter Tryz.func50, Tryz.ntmps50
  go_wp2
  go_loopw [7] (fun i wr => ∃ k : Nat, k ≤ l.length ∧ i = .int .i64 k ∧ Below w.heap.size w wr ∧ Hid ((l.take k).all validB = true)) (fun i _ => l.length - (intOf i).toNat)
  case atStart => exact ⟨0, by omega, rfl, Below.refl _ _, rfl⟩
  case round =>
    obtain ⟨k, hk, rfl, hb, HK⟩ := hrel
    by_cases hlt : k < l.length
    · rcases H3.out with h | ⟨b, off, rfl, hc0⟩
      · exact (psts_pos hlt h).elim
      · obtain ⟨c0, c1, c2, c3, c4, c5⟩ := (hc0.below hb hc0.1).pst hlt
        have hbs := hb.size
        clear H3 hc0
        cases hr : validB (l[k])
        · go_wp2_with (go_at_call 65; refine (Valid_any _ _).mono ?_; rintro e w1 ⟨rfl, hb1⟩)
          go_ret
          refine ⟨ret_bool ?_, (hb.alloc hbs _).trans (hb1.mono (by simp; omega))⟩
          symm
          rw [validsB, List.all_eq_false]
          exact ⟨l[k], List.getElem_mem hlt, by simp [hr]⟩
        · go_wp2_with (go_at_call 65; refine (Valid_any _ _).mono ?_; rintro e w1 ⟨rfl, hb1⟩)
          go_roundw
          case rel => exact ⟨k + 1, by omega, by go_num, (hb.alloc hbs _).trans (hb1.mono (by simp; omega)), by
            show (l.take (k + 1)).all validB = true
            rw [List.take_succ_eq_append_getElem hlt, List.all_append, HK.out]
            simp [hr]⟩
          case measure => simp [intOf]; omega
    · go_wp2
      go_ret
      refine ⟨ret_bool ?_, hb⟩
      have := HK.out
      rw [List.take_of_length_le (by omega)] at this
      exact this.symm

set_option maxHeartbeats 400000 in
theorem Book_any (v : Value) (l : List Pst) (w : World) (hv : Sl w 6 v (psts l)) :
    Calls Tryz.prog 34 #[v] w fun e w' => e = .returned (.bool (bookB l)) ∧ Below w.heap.size w w' := by
  have hv' := hv
  obtain ⟨A, cap, rfl, h1, h2, _, h3⟩ := hv'
  have H1 := Lib.hid hv
  clear h3 hv
  rw [psts_len] at h1 H1 ⊢
  unfold maxLen at h2
  by_cases hn : l.length ≤ 65536
  · cases ha : ascB l
    · have H : Hid (bookB l = false) := by simp only [Hid, bookB, ha, Bool.false_and, Bool.and_false]
      go_enter Tryz.func34, Tryz.ntmps34
      go_wp2_with (go_at_call 49; refine (ascending_any _ l _ H1.out).mono ?_; rintro e w1 ⟨rfl, hb1⟩)
      go_ret
      exact ⟨ret_bool H.out.symm, hb1⟩
    · have H : Hid (bookB l = validsB l) := by simp only [Hid, bookB, ha, decide_eq_true hn, Bool.true_and]
      go_enter Tryz.func34, Tryz.ntmps34
      go_wp2_with (first | (go_at_call 49; refine (ascending_any _ l _ H1.out).mono ?_; rintro e w1 ⟨rfl, hb1⟩) | (go_at_call 50; refine (valid_any _ l _ (H1.out.below hb1)).mono ?_; rintro e w2 ⟨rfl, hb2⟩))
      go_ret
      exact ⟨ret_bool H.out.symm, below_after hb1 hb2 hb1.size⟩
  · have H : Hid (bookB l = false) := by simp only [Hid, bookB, decide_eq_false hn, Bool.false_and]
    go_enter Tryz.func34, Tryz.ntmps34
    go_wp2
    go_ret
    exact ⟨ret_bool H.out.symm, Below.refl _ _⟩

end Go.Proofs.YtjbhabfflcbebaaGreat
