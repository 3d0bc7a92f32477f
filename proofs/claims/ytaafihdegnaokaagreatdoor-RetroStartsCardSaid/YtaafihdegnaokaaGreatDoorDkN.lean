/- Contract of paygen.New. -/
import Derived.Test.YtaafihdegnaokaaGreatDoorDk
namespace Go.Proofs.YtaafihdegnaokaaGreatDoor
open Go.RowKit
theorem new_any (v : Value) (zs : List Int) (w : World) (hv : Sl w 1 v (ints zs)) :
    Calls Tryz.prog 8 #[v] w fun e w' => e = .returned (.pointer (some ⟨w.heap.size, 0, none⟩)) ∧ Deck w' w.heap.size 0 ∧ Below w.heap.size w w' := by
  obtain ⟨A, cap, rfl, h1, h2, _, h3⟩ := hv
  have H3 := Lib.hid h3
  clear h3
  go_enter Tryz.func8, Tryz.ntmps8
  go_wp2
  go_ret
  refine ⟨rfl, ⟨A, zs.length, cap, zs, by rw [← ints_len]; exact heap_alloc_new w _, rfl, by rw [ints_len] at h1; omega, ?_⟩, (Below.refl _ _).alloc (Nat.le_refl _) _⟩
  rcases H3.out with h | ⟨b, off, rfl, hc⟩
  · left
    have := congrArg List.length h
    rw [ints_len] at this
    exact List.eq_nil_of_length_eq_zero this
  · refine .inr ⟨b, off, rfl, hc.1, fun i z hz => ?_⟩
    rw [World.cell?_alloc_lt _ _ _ hc.1]
    have := hc.2 i [.int .i64 z] (by simp [ints, hz]) 0 _ rfl
    rwa [Nat.mul_one, Nat.add_zero] at this

end Go.Proofs.YtaafihdegnaokaaGreatDoor
