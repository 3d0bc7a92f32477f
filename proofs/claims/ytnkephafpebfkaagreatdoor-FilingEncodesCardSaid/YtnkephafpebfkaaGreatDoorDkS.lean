/- Contract of paygen.Deck.Small. -/
import Derived.Test.YtnkephafpebfkaaGreatDoorDkC
import Derived.Test.YtnkephafpebfkaaGreatDoorDkP
namespace Go.Proofs.YtnkephafpebfkaaGreatDoor
open Go.RowKit

set_option maxHeartbeats 400000 in
theorem Small_any (D dr : Nat) (w : World) (hd : Deck w D dr) (hdr : dr ≤ 1099511627775) :
    Calls Tryz.prog 56 #[.pointer (some ⟨D, 0, none⟩)] w (DrawPost w D dr 2 0 600000) := by
  go_enter Tryz.func56, Tryz.ntmps56
  go_wp2_with fail
  refine (Next_any D dr _ w hd (by omega) (by omega) (by omega)).mono ?_
  rintro e w1 ⟨r, ⟨hr1, hr2⟩, rfl, hd1, hg1⟩
  have hD1 := hd1.lt
  cases h0 : (r == 0)
  · go_wp2_with fail
    refine (Next_any D (dr + 1) _ w1 hd1 (by omega) (by omega) (by omega)).mono ?_
    rintro e w2 ⟨s, ⟨hs1, hs2⟩, rfl, hd2, hg2⟩
    go_wp2
    go_ret
    exact ⟨s, ⟨hs1, by omega⟩, rfl, _, Nat.le_refl _, hd2, gb_trans hg1 hg2⟩
  · go_wp2_with fail
    refine (Pick_any D (dr + 1) w1.heap.size 4 [0, 0, 1, 100] _ (hd1.below ((Below.refl _ _).alloc (Nat.le_refl _) _)) (by omega) (by simp) (by simp) hD1 ⟨by simp, fun i e hi j u hu => ?_⟩).mono ?_
    · rw [World.cell?_alloc_new]
      match i, hi with
      | 0, hi => simp [ints] at hi; subst hi; match j, hu with | 0, hu => simpa using hu
      | 1, hi => simp [ints] at hi; subst hi; match j, hu with | 0, hu => simpa using hu
      | 2, hi => simp [ints] at hi; subst hi; match j, hu with | 0, hu => simpa using hu
      | 3, hi => simp [ints] at hi; subst hi; match j, hu with | 0, hu => simpa using hu
      | n + 4, hi => simp [ints] at hi
    · rintro e w2 ⟨s, hs, rfl, hd2, hg2⟩
      have hb : 0 ≤ s ∧ s ≤ 600000 := by simp at hs; omega
      go_wp2
      go_ret
      exact ⟨s, hb, rfl, _, Nat.le_refl _, hd2, gb_trans (gb_alloc hg1 _) hg2⟩

end Go.Proofs.YtnkephafpebfkaaGreatDoor
