/- A block of memory that is known whole. -/
import Derived.Test.YtjbhabfflcbebaaGreatSlice
namespace Go.Proofs.YtjbhabfflcbebaaGreat
open Go.RowKit

/-- block g is just these cells -/
def Row (w : World) (g : Nat) (t : TypeId) (cs : Array Value) : Prop := w.heap[g]? = some (.cells cs t (0, 0))
theorem Row.lt {w : World} {g : Nat} {t : TypeId} {cs : Array Value} (h : Row w g t cs) : g < w.heap.size := by
  rcases Nat.lt_or_ge g w.heap.size with hlt | hge
  · exact hlt
  · unfold Row at h; rw [Array.getElem?_eq_none hge] at h; cases h
theorem Row.cell {w : World} {g : Nat} {t : TypeId} {cs : Array Value} (h : Row w g t cs) (i : Nat) : w.cell? ⟨g, i, none⟩ = cs[i]? := cell_of_row w g i cs t (0, 0) h
theorem Row.frozen {w : World} {g : Nat} {t : TypeId} {cs : Array Value} (h : Row w g t cs) (i : Nat) : w.frozen? ⟨g, i, none⟩ = false := frozen_of_row w g i cs t h
theorem Row.new (w : World) (t : TypeId) (cs : Array Value) : Row (w.alloc (.cells cs t)) w.heap.size t cs := heap_alloc_new w _
theorem Row.alloc {w : World} {g : Nat} {t : TypeId} {cs : Array Value} (h : Row w g t cs) (o : Obj) : Row (w.alloc o) g t cs := (Below.heap_alloc w o g h.lt).trans h
theorem Row.set {w : World} {g : Nat} {t : TypeId} {cs : Array Value} (h : Row w g t cs) (i : Nat) (u : Value) : Row (w.setCell ⟨g, i, none⟩ u) g t (cs.setIfInBounds i u) := by
  unfold Row at h ⊢
  simp [World.setCell, Array.getElem?_modify, h]
theorem Row.far {w : World} {g : Nat} {t : TypeId} {cs : Array Value} (h : Row w g t cs) {p : Addr} (hp : g ≠ p.block) (u : Value) : Row (w.setCell p u) g t cs := (Below.heap_setCell w p u g hp).trans h
theorem Row.keep {w w' : World} {g : Nat} {t : TypeId} {cs : Array Value} {row : Option Nat} (h : Row w g t cs) (hg : w.grownBy w' row) (hne : some g ≠ row) : Row w' g t cs := (hg.block g h.lt hne).trans h
theorem Row.below {w w' : World} {g B : Nat} {t : TypeId} {cs : Array Value} (h : Row w g t cs) (hb : Below B w w') (hlt : g < B) : Row w' g t cs := (hb.block g hlt).trans h
theorem Own.keepG {w w' : World} {base e sz : Nat} {v : Value} {o : Option Nat} {es : List (List Value)} (h : Own w base e sz v es) (hg : w.grownBy w' o) (hD : v.ownBlock = none ∨ v.ownBlock ≠ o) : Own w' base e sz v es := ⟨h.1.kept hg hD, h.2⟩
theorem grown_set (w : World) (g i : Nat) (u : Value) : w.grownBy (w.setCell ⟨g, i, none⟩ u) (some g) :=
  ⟨rfl, rfl, rfl, by simp, fun k _ hne => Below.heap_setCell w ⟨g, i, none⟩ u k (fun e => hne (by rw [e]))⟩

end Go.Proofs.YtjbhabfflcbebaaGreat
