/- Contract of paygen.Deck.Pick. -/
import Derived.Test.YtnkephafpebfkaaGreatDoorDk
namespace Go.Proofs.YtnkephafpebfkaaGreatDoor
open Go.RowKit

/-- what a choice out of a list leaves -/
def PickPost (w : World) (D dr : Nat) (xs : List Int) (e : Ending) (w' : World) : Prop :=
  ∃ r : Int, r ∈ xs ∧ e = .returned (.int .i64 r) ∧ Deck w' D (dr + 1) ∧ w.grownBy w' (some D)
set_option maxHeartbeats 400000 in
theorem Pick_any (D dr g c : Nat) (xs : List Int) (w : World) (hd : Deck w D dr) (hdr : dr ≤ 1099511627776) (hx : 0 < xs.length) (hx2 : xs.length ≤ 1099511627776) (hg : D < g) (hs : CellsAt w 1 g 0 (ints xs)) :
    Calls Tryz.prog 77 #[.pointer (some ⟨D, 0, none⟩), .slice (some ⟨g, 0, none⟩) xs.length c] w (PickPost w D dr xs) := by
  go_enter Tryz.func77, Tryz.ntmps77
  go_wp2_with fail
  refine (Next_any D dr _ w hd hdr (by omega) (by omega)).mono ?_
  rintro e w1 ⟨r, ⟨hr1, hr2⟩, rfl, hd1, hg1⟩
  obtain ⟨k, rfl⟩ := Int.eq_ofNat_of_zero_le hr1
  have hk : k < xs.length := by omega
  have hc : w1.cell? ⟨g, k, none⟩ = some (.int .i64 xs[k]) := by
    have h1 : w.cell? ⟨g, 0 + k * 1 + 0, none⟩ = some (.int .i64 xs[k]) := hs.2 k _ (by simp [ints, hk]; rfl) 0 _ rfl
    rw [Nat.zero_add, Nat.mul_one, Nat.add_zero] at h1
    exact (World.cell?_of_block (w := w) (a := ⟨g, k, none⟩) (hg1.block g hs.1 (by intro e; injection e; omega))).trans h1
  go_wp2
  go_ret
  exact ⟨_, List.getElem_mem hk, rfl, hd1, hg1⟩

end Go.Proofs.YtnkephafpebfkaaGreatDoor
