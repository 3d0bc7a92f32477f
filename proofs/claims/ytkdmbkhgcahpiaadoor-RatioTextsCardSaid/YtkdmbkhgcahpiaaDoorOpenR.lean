/- Opening a law's arguments: fractions. -/
import Derived.Test.YtkdmbkhgcahpiaaDoorOpenS
import Derived.Lib.SmallJoins
import Derived.SizedLaws
import Derived.ChangeMaps5
namespace Go.Proofs.YtkdmbkhgcahpiaaDoor
open Go.ChangeShapes Go.WideShapes Go.ChangeAt Go.RowKit Go.Deep Go.Joins

section
variable {H : Type} {enc : TypeId × Value → H} {w : World} {base b0 : Nat} {spare : Nat → Bool} {held : Bool} {r : Reach}
set_option maxRecDepth 100000 in
theorem open_ratio {v : Value} {d : DataW H} {ps : List MemPlace} (hval : Value.okWide Tryd.prog w r b0 23 v) (hd : DataW.Trod enc Tryd.prog w base spare held 23 v d ps) :
    ∃ a b : Int, v = .agg #[.int .i64 a, .int .i64 b] ∧ (-9223372036854775808 ≤ a ∧ a ≤ 9223372036854775807) ∧ (-9223372036854775808 ≤ b ∧ b ≤ 9223372036854775807) := by
  obtain ⟨cs, rfl, hsz⟩ := okWide_struct Tryd.underlying23 hval
  obtain ⟨n, h⟩ := hd
  obtain ⟨xs, m, _, _, hl, hlen, hf⟩ := DataW.trod_struct Tryd.underlying23 h
  have hc2 : Tryd.prog.cellsOf 23 = 2 := by kernel_rfl
  obtain ⟨l⟩ := cs
  have hl' : l.length = 2 := hl.trans hc2
  match l, hl' with
  | [c0, c1], _ =>
    obtain ⟨y0, h0⟩ := field_ofL hlen hf 0 3 0 1 rfl cellsInt
    obtain ⟨y1, h1⟩ := field_ofL hlen hf 1 3 1 1 rfl cellsInt
    obtain ⟨a, e0, _, wa⟩ := DataW.trod_int Tryd.underlying3 h0
    obtain ⟨b, e1, _, wb⟩ := DataW.trod_int Tryd.underlying3 h1
    simp [Value.cells] at e0 e1
    subst e0 e1
    exact ⟨a, b, rfl, wf_in wa, wf_in wb⟩
end
theorem str_in {H : Type} {P : Program} {ts : List TypeId} {ds : List (DataW H)} (h : (DataW.weightsEach P ts ds).all (· ≤ reachBytes) = true) (j : Nat) (s : ByteArray) {t : TypeId} (ht : ts[j]? = some t) (hd : ds[j]? = some (.lit (.string s.data.toList))) : s.size ≤ 140737488351232 := by
  have h1 := sized_string h ht hd
  have e1 : s.size = s.data.toList.length := by simp
  rw [e1]; exact h1
end Go.Proofs.YtkdmbkhgcahpiaaDoor
