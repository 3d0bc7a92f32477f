/- Contracts of payrollgen.Tape: New, Next, Pick, and of payrollgen.Mod. What is drawn is said by its range alone. -/
import Derived.Test.YtnmbaeahnfbfiaaGb
import Derived.RegionTactic
import Derived.Deep.QuietTactic
import Derived.BigQuiet
import Derived.Test.YtnmbaeahnfbfiaaProg
namespace Go.Proofs.Ytnmbaeahnfbfiaa
open Go.RowKit

theorem tape_lo (z n : Int) (hn : 0 < n) : -n < z.tmod n := by
  have := Int.lt_tmod_of_pos z hn; omega
theorem tape_mod (z n : Int) (hn : 0 < n) : z % n = if z.tmod n < 0 then z.tmod n + n else z.tmod n := by
  have h1 := Int.tmod_eq_emod (a := z) (b := n)
  have h2 := Int.emod_nonneg z (show n ≠ 0 by omega)
  have h3 := Int.emod_lt_of_pos z hn
  rw [h1]
  have : (n.natAbs : Int) = n := by omega
  split <;> split at * <;> omega
/-- a tape in block D -/
def Tape (w : World) (D : Nat) : Prop :=
  ∃ (A : Option Addr) (n c dr : Nat) (zs : List Int), w.heap[D]? = some (.cells #[.slice A n c, .int .i64 dr] 45 (0, 0)) ∧ zs.length = n ∧ n ≤ maxLen ∧ dr ≤ n ∧
    (zs = [] ∨ ∃ b off, A = some ⟨b, off, none⟩ ∧ b < D ∧ ∀ i z, zs[i]? = some z → w.cell? ⟨b, off + i, none⟩ = some (.int .i64 z))
theorem Tape.lt {w : World} {D : Nat} (h : Tape w D) : D < w.heap.size := by
  obtain ⟨A, n, c, dr, zs, hh, _⟩ := h
  rcases Nat.lt_or_ge D w.heap.size with hlt | hge
  · exact hlt
  · rw [Array.getElem?_eq_none hge] at hh; cases hh
theorem Tape.keep {w w' : World} {D : Nat} {row : Option Nat} (h : Tape w D) (hg : w.grownBy w' row) (hr : ∀ k, row = some k → D < k) : Tape w' D := by
  have hlt := h.lt
  obtain ⟨A, n, c, dr, zs, hh, h1, h2, h4, h3⟩ := h
  refine ⟨A, n, c, dr, zs, (hg.block D hlt fun e => by have := hr D e.symm; omega).trans hh, h1, h2, h4, ?_⟩
  rcases h3 with rfl | ⟨b, off, rfl, hb, hc⟩
  · exact .inl rfl
  · refine .inr ⟨b, off, rfl, hb, fun i z hz => ?_⟩
    exact (World.cell?_of_block (w := w) (a := ⟨b, off + i, none⟩) (hg.block b (by omega) fun e => by have := hr b e.symm; omega)).trans (hc i z hz)
theorem Tape.below {w w' : World} {D : Nat} (h : Tape w D) (hb : Below w.heap.size w w') : Tape w' D :=
  h.keep (row := none) ⟨hb.os, hb.tape, hb.output, hb.size, fun k hk _ => hb.block k hk⟩ (fun k hk => by cases hk)
/-- what a draw below n leaves -/
def DrawPost (w : World) (D : Nat) (n : Int) (e : Ending) (w' : World) : Prop :=
  ∃ r : Int, (0 ≤ r ∧ r < n) ∧ e = .returned (.int .i64 r) ∧ Tape w' D ∧ w.grownBy w' (some D)
theorem tapeMod_any (v n : Int) (w : World) (hn : 0 < n) (hn2 : n ≤ 9223372036854775807) :
    Calls Try.prog 15 #[.int .i64 v, .int .i64 n] w fun e w' => e = .returned (.int .i64 (v % n)) ∧ w' = w := by
  have t1 := Int.tmod_lt_of_pos v hn
  have t2 := tape_lo v n hn
  have HE := Lib.hid (tape_mod v n hn)
  have hz : (n == 0) = false := beq_eq_false_iff_ne.2 (by omega)
  by_cases h0 : v.tmod n < 0
  · go_enter Try.func15, Try.ntmps15
    go_wp2
    go_ret
    exact ⟨ret_int (by rw [HE.out, if_pos (by omega)]), rfl⟩
  · go_enter Try.func15, Try.ntmps15
    go_wp2
    go_ret
    exact ⟨ret_int (by rw [HE.out, if_neg (by omega)]), rfl⟩
theorem Tape.step {w : World} {D n c dr : Nat} {A : Option Addr} {zs : List Int} (hh : w.heap[D]? = some (.cells #[.slice A n c, .int .i64 dr] 45 (0, 0))) (h1 : zs.length = n) (h2 : n ≤ maxLen) (h4 : dr < n)
    (h3 : zs = [] ∨ ∃ b off, A = some ⟨b, off, none⟩ ∧ b < D ∧ ∀ i z, zs[i]? = some z → w.cell? ⟨b, off + i, none⟩ = some (.int .i64 z)) (q : Nat) : Tape ((w.drewN q).setCell ⟨D, 1, none⟩ (.int .i64 (dr + 1))) D ∧ w.grownBy ((w.drewN q).setCell ⟨D, 1, none⟩ (.int .i64 (dr + 1))) (some D) := by
  refine ⟨?_, gb_set (gb_draws (World.grownBy.refl _ _) q) (.inl rfl) _⟩
  refine ⟨A, n, c, dr + 1, zs, ?_, h1, h2, h4, ?_⟩
  · simp only [World.setCell]
    rw [Array.getElem?_modify, if_pos rfl]
    show (w.heap[D]?).map _ = _
    rw [hh]; rfl
  · rcases h3 with rfl | ⟨b, off, rfl, hb, hc⟩
    · exact .inl rfl
    · refine .inr ⟨b, off, rfl, hb, fun i z hz => ?_⟩
      rw [World.cell?_setCell_other _ _ _ _ (by intro e; injection e; omega)]
      exact hc i z hz
set_option maxHeartbeats 1000000 in
theorem Draw_any (D : Nat) (n : Int) (w : World) (hd : Tape w D) (hn : 0 < n) (hn2 : n ≤ 9223372036854775807) :
    Calls Try.prog 11 #[.pointer (some ⟨D, 0, none⟩), .int .i64 n] w (DrawPost w D n) := by
  have HD := Lib.hid hd
  obtain ⟨A, m, c, dr, zs, hh, h1, h2, h4, h3⟩ := hd
  have c0 : w.cell? ⟨D, 0, none⟩ = some (.slice A m c) := cell_of_row w D 0 _ _ _ hh
  have c1 : w.cell? ⟨D, 1, none⟩ = some (.int .i64 dr) := cell_of_row w D 1 _ _ _ hh
  have f1 : w.frozen? ⟨D, 1, none⟩ = false := frozen_of_row w D 1 _ _ hh
  have g0 : decide (n < 1) = false := by simp; omega
  have HH := Lib.hid hh
  have H1 := Lib.hid h1
  have H2 := Lib.hid h2
  have H3 := Lib.hid h3
  unfold maxLen at h2
  clear hh h1 h3
  by_cases hlt : dr < m
  · have HST := Lib.hid (Tape.step HH.out H1.out H2.out hlt H3.out)
    rcases H3.out with h | ⟨b, off, rfl, hb, hc⟩
    · have := H1.out; rw [h] at this; simp at this; omega
    · obtain ⟨z, hzz⟩ : ∃ z, zs[dr]? = some z := ⟨_, List.getElem?_eq_getElem (by have := H1.out; omega)⟩
      have cz : w.cell? ⟨b, off + dr, none⟩ = some (.int .i64 z) := hc dr z hzz
      have HR : Hid (0 ≤ z % n ∧ z % n < n) := ⟨Int.emod_nonneg _ (by omega), Int.emod_lt_of_pos _ hn⟩
      have g1 : decide (m ≤ dr) = false := by simp; omega
      clear H3 hc hzz H1
      go_enter Try.func11, Try.ntmps11
      go_wp2_with fail
      go_quiet (fail)
      go_wp2_with fail
      have e0 : ((w.drewN nq).setCell ⟨D, 1, none⟩ (.int .i64 (dr + 1))).cell? ⟨D, 0, none⟩ = some (.slice (some ⟨b, off, none⟩) m c) := by rw [World.cell?_setCell_other _ _ _ _ (by intro e; injection e with _ e; cases e)]; exact c0
      have e1 : ((w.drewN nq).setCell ⟨D, 1, none⟩ (.int .i64 (dr + 1))).cell? ⟨D, 1, none⟩ = some (.int .i64 (dr + 1)) := by simp [go_sem, c1]
      have e2 : ((w.drewN nq).setCell ⟨D, 1, none⟩ (.int .i64 (dr + 1))).cell? ⟨b, off + dr, none⟩ = some (.int .i64 z) := by rw [World.cell?_setCell_other _ _ _ _ (by intro e; injection e; omega)]; exact cz
      obtain ⟨ht, hg⟩ := HST.out nq
      generalize (w.drewN nq).setCell ⟨D, 1, none⟩ (.int .i64 (dr + 1)) = w1 at e0 e1 e2 ht hg ⊢
      clear c0 c1 f1 cz HST HH
      have W1 : IntKind.i64.wrap ((dr : Int) + 1 - 1) = (dr : Int) := by rw [show (dr : Int) + 1 - 1 = dr by omega]; exact IntWalk.i64_in _ (by omega)
      have i0 : (0 : Int) ≤ (dr : Int) := by omega
      have i1 : (dr : Int) < (m : Int) := by omega
      have HM := Lib.hid (fun w => tapeMod_any z n w hn hn2)
      go_quiet ((go_at_call 15; exact Calls.quiet_of_same (HM.out _)))
      go_wp2_with fail
      go_ret
      exact ⟨_, HR.out, rfl, ht.below (Below.draws (Below.refl _ _) _), gb_draws hg _⟩
  · have g1 : decide (m ≤ dr) = true := by simp; omega
    clear H3 H1
    go_enter Try.func11, Try.ntmps11
    go_wp2_with fail
    go_quiet (fail)
    go_wp2_with fail
    go_ret
    exact ⟨0, ⟨by omega, by omega⟩, rfl, HD.out.below (Below.draws (Below.refl _ _) _), gb_draws (World.grownBy.refl _ _) _⟩
/-- what a choice out of a list leaves -/
def ChoicePost (w : World) (D : Nat) (xs : List Int) (e : Ending) (w' : World) : Prop :=
  ∃ r : Int, r ∈ xs ∧ e = .returned (.int .i64 r) ∧ Tape w' D ∧ w.grownBy w' (some D)
set_option maxHeartbeats 400000 in
theorem Choice_any (D g c : Nat) (xs : List Int) (w : World) (hd : Tape w D) (hx : 0 < xs.length) (hx2 : xs.length ≤ 1099511627776) (hg : D < g) (hs : CellsAt w 1 g 0 (ints xs)) :
    Calls Try.prog 19 #[.pointer (some ⟨D, 0, none⟩), .slice (some ⟨g, 0, none⟩) xs.length c] w (ChoicePost w D xs) := by
  go_enter Try.func19, Try.ntmps19
  go_wp2_with fail
  refine (Draw_any D _ w hd (by omega) (by omega)).mono ?_
  rintro e w1 ⟨r, ⟨hr1, hr2⟩, rfl, hd1, hg1⟩
  obtain ⟨k, rfl⟩ := Int.eq_ofNat_of_zero_le hr1
  have hk : k < xs.length := by omega
  have hc : w1.cell? ⟨g, k, none⟩ = some (.int .i64 xs[k]) := by
    have h1 : w.cell? ⟨g, 0 + k * 1 + 0, none⟩ = some (.int .i64 xs[k]) := hs.2 k _ (by simp [ints, hk]; rfl) 0 _ rfl
    rw [Nat.zero_add, Nat.mul_one, Nat.add_zero] at h1
    exact (World.cell?_of_block (w := w) (a := ⟨g, k, none⟩) (hg1.block g hs.1 (by intro e; injection e; omega))).trans h1
  go_wp2
  go_ret
  exact ⟨_, List.getElem_mem hk, rfl, hd1, hg1⟩
theorem tapeNew_any (v : Value) (zs : List Int) (w : World) (hv : Sl w 1 v (ints zs)) :
    Calls Try.prog 7 #[v] w fun e w' => e = .returned (.pointer (some ⟨w.heap.size, 0, none⟩)) ∧ Tape w' w.heap.size ∧ Below w.heap.size w w' := by
  obtain ⟨A, cap, rfl, h1, h2, x1, h3⟩ := hv
  rw [ints_len] at h1 ⊢
  have H3 := Lib.hid h3
  clear h3 x1
  go_enter Try.func7, Try.ntmps7
  go_wp2
  go_ret
  refine ⟨rfl, ⟨A, zs.length, cap, 0, zs, heap_alloc_new w _, rfl, by omega, Nat.zero_le _, ?_⟩, (Below.refl _ _).alloc (Nat.le_refl _) _⟩
  rcases H3.out with h | ⟨b, off, rfl, hc⟩
  · left; have := congrArg List.length h; rw [ints_len] at this; exact List.eq_nil_of_length_eq_zero (by simpa using this)
  · refine .inr ⟨b, off, rfl, hc.1, fun i z hz => ?_⟩
    have h4 : w.cell? ⟨b, off + i * 1 + 0, none⟩ = some (.int .i64 z) := hc.2 i [.int .i64 z] (by simp [ints, hz]) 0 _ rfl
    rw [Nat.mul_one, Nat.add_zero] at h4
    rw [World.cell?_alloc_lt _ _ _ hc.1]; exact h4
end Go.Proofs.Ytnmbaeahnfbfiaa
