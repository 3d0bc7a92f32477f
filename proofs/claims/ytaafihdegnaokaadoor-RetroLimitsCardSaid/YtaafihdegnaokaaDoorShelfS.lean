/-
  DERIVED: THE SHELF's CONTRACTS AT THIS DUMP, IN PLAIN WORDS (tools/lay-plain.mjs out of 'TrydShelfS.lean', which tools/lay-shelf.mjs wrote): THE SAME DECLARATIONS UNDER THE SAME NAMES: 'import', 'namespace', 'open', 'def', 'theorem' AND NOTHING ELSE: no command of the shelf's: FOR A HAND-IN. Each laying: the table of numbers ('.._ren') and one theorem, a field a fact of the dump's own or the kernel's comparison; each contract: ONE APPLICATION.
-/
import Derived.Shelf.SlSorted.Search
import Derived.Ground.SlsoProg
import Derived.Test.YtaafihdegnaokaaDoorProg
namespace Go.Proofs
open Go.Shelf
def Tryd.search_ren : Go.Shelf.Ren := ⟨fun | 16 => 44 | n => n, fun | 3 => 3 | 35 => 86 | 4 => 4 | 38 => 89 | n => n, fun | n => n⟩
theorem Tryd.search : Go.Proofs.SlLaysO.n16 Tryd.prog Tryd.search_ren := {
  mixed := by kernel_rfl
  f16 := Tryd.func44.trans (congrArg some (by kernel_rfl))
  t3 := Tryd.underlying3
  a3 := Tryd.isAgg3
  z3 := Tryd.sizeOf3
  v3 := Tryd.zeroValue3
  t4 := Tryd.underlying4
  a4 := Tryd.isAgg4
  z4 := Tryd.sizeOf4
  v4 := Tryd.zeroValue4
  t35 := Tryd.underlying86
  a35 := Tryd.isAgg86
  z35 := Tryd.sizeOf86
  v35 := Tryd.zeroValue86
  t38 := Tryd.underlying89
  a38 := Tryd.isAgg89
  z38 := Tryd.sizeOf89
  v38 := Tryd.zeroValue89 }
end Go.Proofs
