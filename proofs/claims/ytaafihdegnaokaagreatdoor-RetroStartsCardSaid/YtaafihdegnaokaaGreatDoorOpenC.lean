/- Opening a law's arguments: slices of changes. -/
import Derived.Test.YtaafihdegnaokaaGreatDoorOpenS
import Derived.Test.YtaafihdegnaokaaGreatDoorChgX
namespace Go.Proofs.YtaafihdegnaokaaGreatDoor
open Go.ChangeShapes Go.WideShapes Go.ChangeAt Go.RowKit Go.Deep

section
variable {H : Type} {enc : TypeId × Value → H} {w : World} {base b0 : Nat} {spare : Nat → Bool} {held : Bool} {r : Reach}
set_option maxRecDepth 100000 in
theorem cellsChg : Tryz.prog.cellsOf 66 = 4 ∧ Tryz.prog.cellsOf 4 = 1 := ⟨by kernel_rfl, by kernel_rfl⟩
set_option maxRecDepth 100000 in
theorem cells_chg {n : Nat} {cs : List Value} {y : DataW H × List MemPlace} (h : DataW.trod enc Tryz.prog w base spare held n 66 cs = some y) : ∃ x : Chg, cs = x.vals := by
  obtain ⟨xs, m, _, rfl, hl, hlen, hf⟩ := DataW.trod_struct Tryz.underlying66 h
  have hl' : cs.length = 4 := hl.trans cellsChg.1
  match cs, hl' with
  | [c0, c1, c2, c3], _ =>
    obtain ⟨y0, h0⟩ := field_ofL hlen hf 0 3 0 1 rfl cellsInt
    obtain ⟨y1, h1⟩ := field_ofL hlen hf 1 3 1 1 rfl cellsInt
    obtain ⟨y2, h2⟩ := field_ofL hlen hf 2 3 2 1 rfl cellsInt
    obtain ⟨y3, h3⟩ := field_ofL hlen hf 3 4 3 1 rfl cellsChg.2
    obtain ⟨a, e0, _⟩ := DataW.trod_int Tryz.underlying3 h0
    obtain ⟨b, e1, _⟩ := DataW.trod_int Tryz.underlying3 h1
    obtain ⟨c, e2, _⟩ := DataW.trod_int Tryz.underlying3 h2
    obtain ⟨d, e3, _⟩ := DataW.trod_bool Tryz.underlying4 h3
    simp at e0 e1 e2 e3
    subst e0 e1 e2 e3
    exact ⟨⟨a, b, c, d⟩, rfl⟩
set_option maxRecDepth 100000 in
theorem open_chgs {v : Value} {d : DataW H} {ps : List MemPlace} (hval : Value.okWide Tryz.prog w r b0 49 v) (hd : DataW.Trod enc Tryz.prog w base spare held 49 v d ps) :
    ∃ l : List Chg, Sl w 4 v (chgs l) :=
  open_sl Chg.vals Tryz.underlying49 cellsChg.1 (by omega) hval hd fun _n _cs _y h => cells_chg h
end
end Go.Proofs.YtaafihdegnaokaaGreatDoor
