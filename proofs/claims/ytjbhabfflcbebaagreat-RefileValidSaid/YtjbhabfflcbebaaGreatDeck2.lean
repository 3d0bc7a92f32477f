/- Contracts of paygen: New, Small, Code, Line. -/
import Derived.Test.YtjbhabfflcbebaaGreatDeck
import Derived.Test.YtjbhabfflcbebaaGreatLine
namespace Go.Proofs.YtjbhabfflcbebaaGreat
open Go.RowKit

theorem new_any (v : Value) (zs : List Int) (w : World) (hv : Sl w 1 v (ints zs)) :
    Calls Tryz.prog 7 #[v] w fun e w' => e = .returned (.pointer (some ⟨w.heap.size, 0, none⟩)) ∧ Deck w' w.heap.size 0 ∧ Below w.heap.size w w' := by
  obtain ⟨A, cap, rfl, h1, h2, _, h3⟩ := hv
  have H3 := Lib.hid h3
  clear h3
  go_enter Tryz.func7, Tryz.ntmps7
  go_wp2
  go_ret
  refine ⟨rfl, ⟨A, zs.length, cap, zs, by rw [← ints_len]; exact heap_alloc_new w _, rfl, by rw [ints_len] at h1; omega, ?_⟩, (Below.refl _ _).alloc (Nat.le_refl _) _⟩
  rcases H3.out with h | ⟨b, off, rfl, hc⟩
  · left
    have := congrArg List.length h
    rw [ints_len] at this
    exact List.eq_nil_of_length_eq_zero this
  · refine .inr ⟨b, off, rfl, hc.1, fun i z hz => ?_⟩
    rw [World.cell?_alloc_lt _ _ _ hc.1]
    have := hc.2 i [.int .i64 z] (by simp [ints, hz]) 0 _ rfl
    rwa [Nat.mul_one, Nat.add_zero] at this

/-- a number in a range has been drawn, by at most c draws -/
def DrawPost (w : World) (D dr c : Nat) (lo hi : Int) (e : Ending) (w' : World) : Prop :=
  ∃ r : Int, (lo ≤ r ∧ r ≤ hi) ∧ e = .returned (.int .i64 r) ∧ ∃ dr', dr' ≤ dr + c ∧ Deck w' D dr' ∧ w.grownBy w' (some D)
theorem Next_draw (D dr : Nat) (n : Int) (w : World) (hd : Deck w D dr) (hdr : dr ≤ 1099511627776) (hn : 0 < n) (hn2 : n ≤ 1099511627776) :
    Calls Tryz.prog 13 #[.pointer (some ⟨D, 0, none⟩), .int .i64 n] w (DrawPost w D dr 1 0 (n - 1)) :=
  (Next_any D dr n w hd hdr hn hn2).mono fun e w' ⟨r, ⟨h1, h2⟩, he, hd', hg⟩ => ⟨r, ⟨h1, by omega⟩, he, dr + 1, Nat.le_refl _, hd', hg⟩

set_option maxHeartbeats 400000 in
theorem Small_any (D dr : Nat) (w : World) (hd : Deck w D dr) (hdr : dr ≤ 1099511627775) :
    Calls Tryz.prog 41 #[.pointer (some ⟨D, 0, none⟩)] w (DrawPost w D dr 2 0 600000) := by
  go_enter Tryz.func41, Tryz.ntmps41
  go_wp2_with fail
  refine (Next_any D dr _ w hd (by omega) (by omega) (by omega)).mono ?_
  rintro e w1 ⟨r, ⟨hr1, hr2⟩, rfl, hd1, hg1⟩
  have hD1 := hd1.lt
  cases h0 : (r == 0)
  · go_wp2_with fail
    refine (Next_any D (dr + 1) _ w1 hd1 (by omega) (by omega) (by omega)).mono ?_
    rintro e w2 ⟨s, ⟨hs1, hs2⟩, rfl, hd2, hg2⟩
    go_wp2
    go_ret
    exact ⟨s, ⟨hs1, by omega⟩, rfl, _, Nat.le_refl _, hd2, gb_trans hg1 hg2⟩
  · go_wp2_with fail
    refine (Pick_any D (dr + 1) w1.heap.size 4 [0, 0, 1, 100] _ (hd1.below ((Below.refl _ _).alloc (Nat.le_refl _) _)) (by omega) (by simp) (by simp) hD1 ⟨by simp, fun i e hi j u hu => ?_⟩).mono ?_
    · rw [World.cell?_alloc_new]
      match i, hi with
      | 0, hi => simp [ints] at hi; subst hi; match j, hu with | 0, hu => simpa using hu
      | 1, hi => simp [ints] at hi; subst hi; match j, hu with | 0, hu => simpa using hu
      | 2, hi => simp [ints] at hi; subst hi; match j, hu with | 0, hu => simpa using hu
      | 3, hi => simp [ints] at hi; subst hi; match j, hu with | 0, hu => simpa using hu
      | n + 4, hi => simp [ints] at hi
    · rintro e w2 ⟨s, hs, rfl, hd2, hg2⟩
      have hb : 0 ≤ s ∧ s ≤ 600000 := by simp at hs; omega
      go_wp2
      go_ret
      exact ⟨s, hb, rfl, _, Nat.le_refl _, hd2, gb_trans (gb_alloc hg1 _) hg2⟩

/-- the codes -/
def codeAt (i : Nat) : ByteArray := ⟨(([[98, 111, 110, 117, 115], [99, 97, 114], [110, 105, 103, 104, 116], [115, 97, 108, 97, 114, 121], [97], [98], [120, 49], [97, 98, 99, 100, 101, 102, 103, 104, 105, 106, 107, 108, 109, 110, 111, 112, 113, 114, 115, 116, 117, 118, 119, 120]] : List (List UInt8)).getD i []).toArray⟩
theorem code_name : ∀ i, i < 8 → nameB (codeAt i).data.toList = true := by decide +kernel
theorem code_size : ∀ i, i < 8 → (codeAt i).size ≤ 24 := by decide +kernel
def CodePost (w : World) (D dr : Nat) (e : Ending) (w' : World) : Prop :=
  ∃ s : ByteArray, nameB s.data.toList = true ∧ e = .returned (.string s) ∧ ∃ dr', dr' ≤ dr + 1 ∧ Deck w' D dr' ∧ w.grownBy w' (some D)
set_option maxHeartbeats 400000 in
theorem Code_any (D dr : Nat) (w : World) (hd : Deck w D dr) (hdr : dr ≤ 1099511627775) :
    Calls Tryz.prog 25 #[.pointer (some ⟨D, 0, none⟩)] w (CodePost w D dr) := by
  have hD := hd.lt
  go_enter Tryz.func25, Tryz.ntmps25
  go_wp2_with fail
  refine (Next_any D dr _ _ (hd.below ((Below.refl _ _).alloc (Nat.le_refl _) _)) (by omega) (by omega) (by omega)).mono ?_
  rintro e w1 ⟨r, ⟨hr1, hr2⟩, rfl, hd1, hg1⟩
  obtain ⟨k, rfl⟩ := Int.eq_ofNat_of_zero_le hr1
  have hk : k < 8 := by omega
  have hc : w1.cell? ⟨w.heap.size, k, none⟩ = some (.string (codeAt k)) := by
    refine (World.cell?_of_block (a := ⟨w.heap.size, k, none⟩) (hg1.block w.heap.size (by simp) (by intro e; injection e; omega))).trans ?_
    rw [World.cell?_alloc_new]
    match k, hk with
    | 0, _ => rfl
    | 1, _ => rfl
    | 2, _ => rfl
    | 3, _ => rfl
    | 4, _ => rfl
    | 5, _ => rfl
    | 6, _ => rfl
    | 7, _ => rfl
  go_wp2
  go_ret
  exact ⟨_, code_name k hk, rfl, _, Nat.le_refl _, hd1, gb_trans (gb_alloc (World.grownBy.refl _ _) _) hg1⟩

end Go.Proofs.YtjbhabfflcbebaaGreat
