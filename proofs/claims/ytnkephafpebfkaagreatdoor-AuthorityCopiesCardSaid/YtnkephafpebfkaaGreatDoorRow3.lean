/- Rows of three cells. -/
import Derived.Test.YtnkephafpebfkaaGreatDoorRow
namespace Go.Proofs.YtnkephafpebfkaaGreatDoor
open Go.RowKit

theorem row3 {w : World} {g : Nat} {t : TypeId} {a b c : Value} (h : Row w g t #[a, b, c]) : (w.cell? ⟨g, 0, none⟩ = some a ∧ w.cell? ⟨g, 1, none⟩ = some b ∧ w.cell? ⟨g, 2, none⟩ = some c ∧ g < w.heap.size) ∧ w.frozen? ⟨g, 0, none⟩ = false ∧ w.frozen? ⟨g, 1, none⟩ = false ∧ w.frozen? ⟨g, 2, none⟩ = false := ⟨⟨h.cell 0, h.cell 1, h.cell 2, h.lt⟩, h.frozen 0, h.frozen 1, h.frozen 2⟩
theorem Row.set3 {w : World} {g : Nat} {t : TypeId} {a b c : Value} (h : Row w g t #[a, b, c]) (x y z : Value) : Row (((w.setCell ⟨g, 0, none⟩ x).setCell ⟨g, 1, none⟩ y).setCell ⟨g, 2, none⟩ z) g t #[x, y, z] := ((h.set 0 x).set 1 y).set 2 z
theorem Below.set3 {B : Nat} {w w' : World} {g : Nat} (h : Below B w w') (hg : B ≤ g) (x y z : Value) : Below B w (((w'.setCell ⟨g, 0, none⟩ x).setCell ⟨g, 1, none⟩ y).setCell ⟨g, 2, none⟩ z) := ((h.setCell (p := ⟨g, 0, none⟩) hg _).setCell (p := ⟨g, 1, none⟩) hg _).setCell (p := ⟨g, 2, none⟩) hg _
theorem row_new2 (w : World) (t t' : TypeId) (a b : Array Value) : Row ((w.alloc (.cells a t)).alloc (.cells b t')) w.heap.size t a ∧ Row ((w.alloc (.cells a t)).alloc (.cells b t')) (w.heap.size + 1) t' b ∧ Below w.heap.size w ((w.alloc (.cells a t)).alloc (.cells b t')) := by
  refine ⟨(Row.new w t a).alloc _, ?_, ((Below.refl _ _).alloc (Nat.le_refl _) _).alloc (by simp) _⟩
  have := Row.new (w.alloc (.cells a t)) t' b
  rwa [World.size_alloc] at this
end Go.Proofs.YtnkephafpebfkaaGreatDoor
