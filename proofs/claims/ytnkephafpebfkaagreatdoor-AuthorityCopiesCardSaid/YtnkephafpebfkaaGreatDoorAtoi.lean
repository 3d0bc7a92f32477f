/- Contract of strconv.Atoi, for every string. -/
import Derived.Test.YtnkephafpebfkaaGreatDoorTab
import Derived.Lib.AtoiAllCases
import Derived.Lib.AtoiErrMem
namespace Go.Proofs.YtnkephafpebfkaaGreatDoor
open Go.RowKit Go.Shelf

/-- the errors of strconv -/
def Errs (w : World) : Prop := (∃ tp p, w.var? Tryz.prog "strconv.ErrSyntax" = some #[.iface tp p]) ∧ ∃ tp p, w.var? Tryz.prog "strconv.ErrRange" = some #[.iface tp p]
theorem Errs.below {w w' : World} (h : Errs w) (hb : Below w.heap.size w w') : Errs w' := by
  obtain ⟨⟨t, p, h1⟩, ⟨u, q, h2⟩⟩ := h
  exact ⟨⟨t, p, var_below h1 hb rfl⟩, ⟨u, q, var_below h2 hb rfl⟩⟩
/-- the number of a text -/
def atoiV (l : List UInt8) : Option Int := match Lib.atoiAll l with | .ok v => some v | _ => none
/-- the call returns the number of a text, or an error -/
def RetAtoi (l : List UInt8) (w : World) (e : Ending) (w' : World) : Prop :=
  Below w.heap.size w w' ∧ ((∃ v, atoiV l = some v ∧ -9223372036854775808 ≤ v ∧ v ≤ 9223372036854775807 ∧ e = .returned (.tuple #[.int .i64 v, .nilIface])) ∨ (atoiV l = none ∧ ∃ x N, e = .returned (.tuple #[.int .i64 x, .iface 154 (.pointer (some ⟨N, 0, none⟩))])))
theorem Atoi_any (s : ByteArray) (w : World) (hE : Errs w) (hs : s.size ≤ 281474976710656) :
    Calls Tryz.prog 104 #[.string s] w (RetAtoi s.data.toList w) := by
  obtain ⟨⟨t, p, h1⟩, ⟨u, q, h2⟩⟩ := hE
  cases h : Lib.atoiAll s.data.toList with
  | ok v =>
    refine (Tryz.strconv_Atoi_ok s (by omega) v h w).mono ?_
    rintro e w' ⟨rfl, hw⟩
    refine ⟨?_, .inl ⟨v, by rw [atoiV, h], (Lib.atoiAll_bounds h).1, (Lib.atoiAll_bounds h).2, rfl⟩⟩
    rcases hw with rfl | ⟨b, rfl⟩
    · exact Below.refl _ _
    · exact Lib.bytesWorld_below _ _ _
  | «syntax» =>
    refine (Tryz.strconv_Atoi_syntax_var s hs h t p w h1).mono ?_
    rintro e w' ⟨N, rfl, _, _, hb⟩
    exact ⟨hb, .inr ⟨by rw [atoiV, h], _, N, rfl⟩⟩
  | range =>
    refine (Tryz.strconv_Atoi_range_var s hs h u q w h2).mono ?_
    rintro e w' ⟨N, rfl, _, _, hb⟩
    exact ⟨hb, .inr ⟨by rw [atoiV, h], _, N, rfl⟩⟩
end Go.Proofs.YtnkephafpebfkaaGreatDoor
