/- Contracts of paygen.Deck: New, Next, Pick. What is drawn is said by its range alone. -/
import Derived.Test.YtjbhabfflcbebaaGreatGen0
import Derived.Test.YtjbhabfflcbebaaGreatSlice
import Derived.Test.YtjbhabfflcbebaaGreatGb
import Derived.RegionTactic
import Derived.Deep.QuietTactic
import Derived.BigQuiet
namespace Go.Proofs.YtjbhabfflcbebaaGreat
open Go.RowKit

/-- a deck in block D, of which so many numbers have been drawn -/
def Deck (w : World) (D dr : Nat) : Prop :=
  ∃ (A : Option Addr) (n c : Nat) (zs : List Int), w.heap[D]? = some (.cells #[.slice A n c, .int .i64 dr] 56 (0, 0)) ∧ zs.length = n ∧ n ≤ maxLen ∧
    (zs = [] ∨ ∃ b off, A = some ⟨b, off, none⟩ ∧ b < D ∧ ∀ i z, zs[i]? = some z → w.cell? ⟨b, off + i, none⟩ = some (.int .i64 z))
theorem Deck.lt {w : World} {D dr : Nat} (h : Deck w D dr) : D < w.heap.size := by
  obtain ⟨A, n, c, zs, hh, _⟩ := h
  rcases Nat.lt_or_ge D w.heap.size with hlt | hge
  · exact hlt
  · rw [Array.getElem?_eq_none hge] at hh; cases hh
theorem Deck.keep {w w' : World} {D dr : Nat} {row : Option Nat} (h : Deck w D dr) (hg : w.grownBy w' row) (hr : ∀ k, row = some k → D < k) : Deck w' D dr := by
  have hlt := h.lt
  obtain ⟨A, n, c, zs, hh, h1, h2, h3⟩ := h
  refine ⟨A, n, c, zs, (hg.block D hlt fun e => by have := hr D e.symm; omega).trans hh, h1, h2, ?_⟩
  rcases h3 with rfl | ⟨b, off, rfl, hb, hc⟩
  · exact .inl rfl
  · refine .inr ⟨b, off, rfl, hb, fun i z hz => ?_⟩
    exact (World.cell?_of_block (w := w) (a := ⟨b, off + i, none⟩) (hg.block b (by omega) fun e => by have := hr b e.symm; omega)).trans (hc i z hz)
theorem Deck.below {w w' : World} {D dr : Nat} (h : Deck w D dr) (hb : Below w.heap.size w w') : Deck w' D dr :=
  h.keep (row := none) ⟨hb.os, hb.tape, hb.output, hb.size, fun k hk _ => hb.block k hk⟩ (fun k hk => by cases hk)
theorem Deck.step {w : World} {D dr : Nat} (h : Deck w D dr) (q : Nat) : Deck ((w.drewN q).setCell ⟨D, 1, none⟩ (.int .i64 (dr + 1 : Nat))) D (dr + 1) ∧ w.grownBy ((w.drewN q).setCell ⟨D, 1, none⟩ (.int .i64 (dr + 1 : Nat))) (some D) := by
  refine ⟨?_, gb_set (gb_draws (World.grownBy.refl _ _) q) (.inl rfl) _⟩
  obtain ⟨A, n, c, zs, hh, h1, h2, h3⟩ := h
  refine ⟨A, n, c, zs, ?_, h1, h2, ?_⟩
  · simp only [World.setCell]
    rw [Array.getElem?_modify, if_pos rfl]
    show (w.heap[D]?).map _ = _
    rw [hh]; rfl
  · rcases h3 with rfl | ⟨b, off, rfl, hb, hc⟩
    · exact .inl rfl
    · refine .inr ⟨b, off, rfl, hb, fun i z hz => ?_⟩
      rw [World.cell?_setCell_other _ _ _ _ (by intro e; injection e; omega)]
      exact hc i z hz
/-- what a draw below n leaves -/
def NextPost (w : World) (D dr : Nat) (n : Int) (e : Ending) (w' : World) : Prop :=
  ∃ r : Int, (0 ≤ r ∧ r < n) ∧ e = .returned (.int .i64 r) ∧ Deck w' D (dr + 1) ∧ w.grownBy w' (some D)

set_option maxHeartbeats 1000000 in
theorem Next_any (D dr : Nat) (n : Int) (w : World) (hd : Deck w D dr) (hdr : dr ≤ 1099511627776) (hn : 0 < n) (hn2 : n ≤ 1099511627776) :
    Calls Tryz.prog 13 #[.pointer (some ⟨D, 0, none⟩), .int .i64 n] w (NextPost w D dr n) := by
  have hst := Lib.hid (fun q => hd.step q)
  obtain ⟨A, m, c, zs, hh, h1, h2, h3⟩ := hd
  have c0 : w.cell? ⟨D, 0, none⟩ = some (.slice A m c) := cell_of_row w D 0 _ _ _ hh
  have c1 : w.cell? ⟨D, 1, none⟩ = some (.int .i64 dr) := cell_of_row w D 1 _ _ _ hh
  have f1 : w.frozen? ⟨D, 1, none⟩ = false := frozen_of_row w D 1 _ _ hh
  have hz : (n == 0) = false := beq_eq_false_iff_ne.2 (by omega)
  unfold maxLen at h2
  have H1 := Lib.hid h1
  have H3 := Lib.hid h3
  clear hh h1 h3
  by_cases hlt : dr < m
  · rcases H3.out with h | ⟨b, off, rfl, hb, hc⟩
    · have := H1.out; rw [h] at this; simp at this; omega
    · obtain ⟨z, hzz⟩ : ∃ z, zs[dr]? = some z := ⟨_, List.getElem?_eq_getElem (by have := H1.out; omega)⟩
      have cz : w.cell? ⟨b, off + dr, none⟩ = some (.int .i64 z) := hc dr z hzz
      have t1 := Int.tmod_lt_of_pos z hn
      have t2 := tmod_lo z n hn
      have HE := Lib.hid (emod_of_tmod z n hn)
      have HR : Hid (0 ≤ z % n ∧ z % n < n) := ⟨Int.emod_nonneg _ (by omega), Int.emod_lt_of_pos _ hn⟩
      clear H3 hc hzz H1
      by_cases h0 : z.tmod n < 0
      · go_enter Tryz.func13, Tryz.ntmps13
        go_wp2
        go_quiet (fail)
        go_wp2
        go_quiet (fail)
        go_wp2
        go_ret
        exact ⟨_, HR.out, ret_int (by rw [HE.out, if_pos (by omega)]), (hst.out _).1, (hst.out _).2⟩
      · go_enter Tryz.func13, Tryz.ntmps13
        go_wp2
        go_quiet (fail)
        go_wp2
        go_quiet (fail)
        go_wp2
        go_ret
        exact ⟨_, HR.out, ret_int (by rw [HE.out, if_neg (by omega)]), (hst.out _).1, (hst.out _).2⟩
  · have t1 := Int.tmod_lt_of_pos (5 * (dr : Int) + 2) hn
    have HE : Hid ((5 * (dr : Int) + 2).tmod n = (5 * (dr : Int) + 2) % n) := Int.tmod_eq_emod_of_nonneg (by omega)
    have HR : Hid (0 ≤ (5 * (dr : Int) + 2) % n ∧ (5 * (dr : Int) + 2) % n < n) := ⟨Int.emod_nonneg _ (by omega), Int.emod_lt_of_pos _ hn⟩
    have hr1 := HR.out.1
    clear H3 H1 t1
    go_enter Tryz.func13, Tryz.ntmps13
    go_wp2
    go_quiet (fail)
    go_wp2
    go_ret
    exact ⟨_, HR.out, rfl, (hst.out _).1, (hst.out _).2⟩

/-- what a choice out of a list leaves -/
def PickPost (w : World) (D dr : Nat) (xs : List Int) (e : Ending) (w' : World) : Prop :=
  ∃ r : Int, r ∈ xs ∧ e = .returned (.int .i64 r) ∧ Deck w' D (dr + 1) ∧ w.grownBy w' (some D)
set_option maxHeartbeats 400000 in
theorem Pick_any (D dr g c : Nat) (xs : List Int) (w : World) (hd : Deck w D dr) (hdr : dr ≤ 1099511627776) (hx : 0 < xs.length) (hx2 : xs.length ≤ 1099511627776) (hg : D < g) (hs : CellsAt w 1 g 0 (ints xs)) :
    Calls Tryz.prog 58 #[.pointer (some ⟨D, 0, none⟩), .slice (some ⟨g, 0, none⟩) xs.length c] w (PickPost w D dr xs) := by
  go_enter Tryz.func58, Tryz.ntmps58
  go_wp2_with fail
  refine (Next_any D dr _ w hd hdr (by omega) (by omega)).mono ?_
  rintro e w1 ⟨r, ⟨hr1, hr2⟩, rfl, hd1, hg1⟩
  obtain ⟨k, rfl⟩ := Int.eq_ofNat_of_zero_le hr1
  have hk : k < xs.length := by omega
  have hc : w1.cell? ⟨g, k, none⟩ = some (.int .i64 xs[k]) := by
    have h1 : w.cell? ⟨g, 0 + k * 1 + 0, none⟩ = some (.int .i64 xs[k]) := hs.2 k _ (by simp [ints, hk]; rfl) 0 _ rfl
    rw [Nat.zero_add, Nat.mul_one, Nat.add_zero] at h1
    exact (World.cell?_of_block (w := w) (a := ⟨g, k, none⟩) (hg1.block g hs.1 (by intro e; injection e; omega))).trans h1
  go_wp2
  go_ret
  exact ⟨_, List.getElem_mem hk, rfl, hd1, hg1⟩

end Go.Proofs.YtjbhabfflcbebaaGreat
