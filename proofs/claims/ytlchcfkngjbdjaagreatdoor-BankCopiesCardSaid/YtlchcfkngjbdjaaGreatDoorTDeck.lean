/- Contracts of paygen: New, Small, no line. -/
import Derived.Test.YtlchcfkngjbdjaaGreatDoorDeck
namespace Go.Proofs.YtlchcfkngjbdjaaGreatDoor
open Go.RowKit

theorem new_any (v : Value) (zs : List Int) (w : World) (hv : Sl w 1 v (ints zs)) :
    Calls Tryz.prog 7 #[v] w fun e w' => e = .returned (.pointer (some ⟨w.heap.size, 0, none⟩)) ∧ Deck w' w.heap.size 0 ∧ Below w.heap.size w w' := by
  obtain ⟨A, cap, rfl, h1, h2, _, h3⟩ := hv
  have H3 := Lib.hid h3
  clear h3
  go_enter Tryz.func7, Tryz.ntmps7
  go_wp2
  go_ret
  refine ⟨rfl, ⟨A, zs.length, cap, zs, by rw [← ints_len]; exact heap_alloc_new w _, rfl, by rw [ints_len] at h1; omega, ?_⟩, (Below.refl _ _).alloc (Nat.le_refl _) _⟩
  rcases H3.out with h | ⟨b, off, rfl, hc⟩
  · left
    have := congrArg List.length h
    rw [ints_len] at this
    exact List.eq_nil_of_length_eq_zero this
  · refine .inr ⟨b, off, rfl, hc.1, fun i z hz => ?_⟩
    rw [World.cell?_alloc_lt _ _ _ hc.1]
    have := hc.2 i [.int .i64 z] (by simp [ints, hz]) 0 _ rfl
    rwa [Nat.mul_one, Nat.add_zero] at this

/-- a number in a range has been drawn, by at most c draws -/
def DrawPost (w : World) (D dr c : Nat) (lo hi : Int) (e : Ending) (w' : World) : Prop :=
  ∃ r : Int, (lo ≤ r ∧ r ≤ hi) ∧ e = .returned (.int .i64 r) ∧ ∃ dr', dr' ≤ dr + c ∧ Deck w' D dr' ∧ w.grownBy w' (some D)
theorem Next_draw (D dr : Nat) (n : Int) (w : World) (hd : Deck w D dr) (hdr : dr ≤ 1099511627776) (hn : 0 < n) (hn2 : n ≤ 1099511627776) :
    Calls Tryz.prog 12 #[.pointer (some ⟨D, 0, none⟩), .int .i64 n] w (DrawPost w D dr 1 0 (n - 1)) :=
  (Next_any D dr n w hd hdr hn hn2).mono fun e w' ⟨r, ⟨h1, h2⟩, he, hd', hg⟩ => ⟨r, ⟨h1, by omega⟩, he, dr + 1, Nat.le_refl _, hd', hg⟩

set_option maxHeartbeats 400000 in
theorem Small_any (D dr : Nat) (w : World) (hd : Deck w D dr) (hdr : dr ≤ 1099511627775) :
    Calls Tryz.prog 28 #[.pointer (some ⟨D, 0, none⟩)] w (DrawPost w D dr 2 0 600000) := by
  go_enter Tryz.func28, Tryz.ntmps28
  go_wp2_with fail
  refine (Next_any D dr _ w hd (by omega) (by omega) (by omega)).mono ?_
  rintro e w1 ⟨r, ⟨hr1, hr2⟩, rfl, hd1, hg1⟩
  have hD1 := hd1.lt
  cases h0 : (r == 0)
  · go_wp2_with fail
    refine (Next_any D (dr + 1) _ w1 hd1 (by omega) (by omega) (by omega)).mono ?_
    rintro e w2 ⟨s, ⟨hs1, hs2⟩, rfl, hd2, hg2⟩
    go_wp2
    go_ret
    exact ⟨s, ⟨hs1, by omega⟩, rfl, _, Nat.le_refl _, hd2, gb_trans hg1 hg2⟩
  · go_wp2_with fail
    refine (Pick_any D (dr + 1) w1.heap.size 4 [0, 0, 1, 100] _ (hd1.below ((Below.refl _ _).alloc (Nat.le_refl _) _)) (by omega) (by simp) (by simp) hD1 ⟨by simp, fun i e hi j u hu => ?_⟩).mono ?_
    · rw [World.cell?_alloc_new]
      match i, hi with
      | 0, hi => simp [ints] at hi; subst hi; match j, hu with | 0, hu => simpa using hu
      | 1, hi => simp [ints] at hi; subst hi; match j, hu with | 0, hu => simpa using hu
      | 2, hi => simp [ints] at hi; subst hi; match j, hu with | 0, hu => simpa using hu
      | 3, hi => simp [ints] at hi; subst hi; match j, hu with | 0, hu => simpa using hu
      | n + 4, hi => simp [ints] at hi
    · rintro e w2 ⟨s, hs, rfl, hd2, hg2⟩
      have hb : 0 ≤ s ∧ s ≤ 600000 := by simp at hs; omega
      go_wp2
      go_ret
      exact ⟨s, hb, rfl, _, Nat.le_refl _, hd2, gb_trans (gb_alloc hg1 _) hg2⟩

end Go.Proofs.YtlchcfkngjbdjaaGreatDoor
