/- A region that draws its order, whose operations read what was there and call functions that only lay new memory: walked in the order of its text, in every world that extends the one at its start. -/
import Derived.Test.YtjbhabfflcbebaaGreatKit
import Derived.Deep.QuietTactic
import Derived.BigQuiet
namespace Go.Proofs.YtjbhabfflcbebaaGreat
open Go.RowKit

/-- the worlds that extend w -/
structure Ext (w : World) where
  val : World
  property : Below w.heap.size w val
instance (w : World) : Inhabited (Ext w) := ⟨⟨w, Below.refl _ _⟩⟩
theorem region_ext {P : Program} {id : Nat} {Q : Exit → Act → World → Prop} {a : Act} {w : World} {l : List Oper} (hm : P.follows .mixedOrders = true) (hB : Region.lexB .any l.toArray = true)
    (h : wpQuiet P l.toArray (fun w' => ∃ x : Ext w, w' = x.val) (fun a' => ∀ w', (∃ x : Ext w, w' = x.val) → Q .normal a' w') l a) : (Code.region id l.toArray true).wp P Q a w :=
  wp_region_quiet (C := fun w' => ∃ x : Ext w, w' = x.val) hm hB ⟨⟨_, (Below.refl _ w).drew⟩, rfl⟩ (by simpa using h)
theorem ext_call {P : Program} {w : World} {x : Ext w} {f : FuncId} {args : Array Value} {v : Value} (h : Calls P f args x.val fun e w' => e = .returned v ∧ Below x.val.heap.size x.val w') :
    Calls P f args x.val fun e w'' => e = .returned v ∧ ∃ y : Ext w, w'' = y.val :=
  h.mono fun _ w' ⟨he, hb⟩ => ⟨he, ⟨w', x.property.trans (hb.mono x.property.size)⟩, rfl⟩
theorem ext_quiet {P : Program} {w : World} {x : Ext w} {f : FuncId} {args : Array Value} {v : Value} (h : Calls P f args x.val fun e w' => e = .returned v ∧ x.val = w') :
    Calls P f args x.val fun e w'' => e = .returned v ∧ ∃ y : Ext w, w'' = y.val :=
  h.mono fun _ _w' ⟨he, hb⟩ => ⟨he, x, hb.symm⟩
theorem ext_cell {w : World} {b o : Nat} {v : Value} (hb : b < w.heap.size) (h : w.cell? ⟨b, o, none⟩ = some v) (x : Ext w) : x.val.cell? ⟨b, o, none⟩ = some v := (x.property.cell (p := ⟨b, o, none⟩) hb).trans h

end Go.Proofs.YtjbhabfflcbebaaGreat
