/- Worlds that differ in one block and in new ones; numbers as cells. -/
import Derived.Test.YtjbhabfflcbebaaGreatSlice
namespace Go.Proofs.YtjbhabfflcbebaaGreat
open Go.RowKit

theorem gb_draws {a w : World} {row : Option Nat} (h : a.grownBy w row) (n : Nat) : a.grownBy (w.drewN n) row := ⟨h.os, h.tape, h.output, h.size, h.block⟩
theorem gb_alloc {a w : World} {row : Option Nat} (h : a.grownBy w row) (o : Obj) : a.grownBy (w.alloc o) row :=
  ⟨h.os, h.tape, h.output, Nat.le_trans h.size (by simp), fun i hi hne => (Below.heap_alloc w o i (Nat.lt_of_lt_of_le hi h.size)).trans (h.block i hi hne)⟩
theorem gb_set {a w : World} {D : Nat} (h : a.grownBy w (some D)) {p : Addr} (hp : p.block = D ∨ a.heap.size ≤ p.block) (u : Value) : a.grownBy (w.setCell p u) (some D) :=
  ⟨h.os, h.tape, h.output, by simpa [World.setCell] using h.size, fun i hi hne => (Below.heap_setCell w p u i (by
    rintro rfl
    rcases hp with hp | hp
    · exact hne (by rw [hp])
    · omega)).trans (h.block i hi hne)⟩
theorem gb_below {a w w' : World} {row : Option Nat} (h : a.grownBy w row) (hb : Below w.heap.size w w') : a.grownBy w' row :=
  ⟨hb.os.trans h.os, hb.tape.trans h.tape, hb.output.trans h.output, Nat.le_trans h.size hb.size, fun i hi hne => (hb.block i (Nat.lt_of_lt_of_le hi h.size)).trans (h.block i hi hne)⟩
theorem gb_trans {a w w' : World} {row : Option Nat} (h : a.grownBy w row) (k : w.grownBy w' row) : a.grownBy w' row :=
  ⟨k.os.trans h.os, k.tape.trans h.tape, k.output.trans h.output, Nat.le_trans h.size k.size, fun i hi hne => (k.block i (Nat.lt_of_lt_of_le hi h.size) hne).trans (h.block i hi hne)⟩
/-- another row, of a block that is new -/
theorem gb_new {a w w' : World} {row row' : Option Nat} (h : a.grownBy w row) (k : w.grownBy w' row') (hr : ∀ g, row' = some g → a.heap.size ≤ g) : a.grownBy w' row :=
  ⟨k.os.trans h.os, k.tape.trans h.tape, k.output.trans h.output, Nat.le_trans h.size k.size, fun i hi hne => (k.block i (Nat.lt_of_lt_of_le hi h.size) (fun e => by have := hr i e.symm; omega)).trans (h.block i hi hne)⟩
/-- a list of numbers as cells -/
def ints (l : List Int) : List (List Value) := l.map fun z => [.int .i64 z]
theorem ints_len (l : List Int) : (ints l).length = l.length := by simp [ints]
theorem cellsAt_ints (w : World) (t : TypeId) (c : Array Value) (xs : List Int) (h : c.toList = xs.map (.int .i64)) : CellsAt (w.alloc (.cells c t)) 1 w.heap.size 0 (ints xs) := by
  refine ⟨by simp, fun i e hi j u hu => ?_⟩
  rw [World.cell?_alloc_new]
  simp only [ints, List.getElem?_map, Option.map_eq_some_iff] at hi
  obtain ⟨z, hz, rfl⟩ := hi
  match j, hu with
  | 0, hu =>
    simp only [List.getElem?_cons_zero, Option.some.injEq] at hu
    subst hu
    have : c.toList[i]? = some (.int .i64 z) := by rw [h]; simp [hz]
    simpa using this
end Go.Proofs.YtjbhabfflcbebaaGreat
