/- What the listed variables hold: the tables of bits and strconv, the errors of strconv, the tables of utf8. -/
import Derived.Test.YtnkephafpebfkaaGreatDoorAtoi
import Derived.Test.YtnkephafpebfkaaGreatDoorRows
import Derived.Test.YtnkephafpebfkaaGreatDoorTie
import Derived.ProofKit
import Derived.LaidMore
import Derived.OpenShut
import Derived.Stop.Joined
import Derived.Stop.LaidErr
import Derived.Lib.LaidTab
import Derived.Lay
namespace Go.Proofs.YtnkephafpebfkaaGreatDoor
open Go.ChangeShapes Go.WideShapes Go.ChangeAt Go.RowKit

/-- the listed variables -/
def laidL : List (String × DataW Unit) := [("math/bits.deBruijn32tab", Rows.laid_math_bits_deBruijn32tab), ("math/bits.deBruijn64tab", Rows.laid_math_bits_deBruijn64tab), ("internal/strconv.uint64pow10", Rows.laid_internal_strconv_uint64pow10), ("unicode/utf8.acceptRanges", Rows.laid_unicode_utf8_acceptRanges), ("strconv.ErrRange", Rows.laid_strconv_ErrRange), ("strconv.ErrSyntax", Rows.laid_strconv_ErrSyntax), ("unicode/utf8.first", Rows.laid_unicode_utf8_first)]
set_option maxRecDepth 100000 in
theorem door_met (os : Os) (args : Array Value) : laidMetH Tryz.prog laidL ((World.laidAll Tryz.prog os laidL).forCall (fun _ _ => 0) ⟨#[], args, []⟩).memory := by
  rw [MakeChecks.laidMetH_plain _ _ _ (by kernel_rfl)]; exact laidMet_laidAll _ (by kernel_rfl) (by kernel_rfl)
set_option maxRecDepth 100000 in
theorem door_shaped (os : Os) : (World.laidAll Tryz.prog os laidL).Shaped Tryz.prog := World.shaped_of_ZipB (by kernel_rfl) (by kernel_rfl)
theorem star : "*" ++ "errors.errorString" = "*errors.errorString" := by decide
theorem rowErr (u : TypeId) (h : Tryz.prog.typeName? 3 u = some "*errors.errorString") : u = 174 :=
  typeName_ptr_named (nm := "errors.errorString") (by rw [star]; kernel_rfl) (by kernel_rfl) (by decide) u (by rw [star]; exact h)
theorem of_laid {W : World} (h : laidMetH Tryz.prog laidL W) : Tabs W ∧ Errs W := by
  rw [MakeChecks.laidMetH_plain _ _ _ (by kernel_rfl)] at h
  have h3 : laidMet Tryz.prog (("internal/strconv.uint64pow10", Lib.tabData .u64 Lib.pow10Tab) :: ("unicode/utf8.acceptRanges", Rows.laid_unicode_utf8_acceptRanges) :: [("strconv.ErrRange", Rows.laid_strconv_ErrRange), ("strconv.ErrSyntax", Rows.laid_strconv_ErrSyntax), ("unicode/utf8.first", Rows.laid_unicode_utf8_first)]) W := h.tail.tail
  refine ⟨Lib.tabIs_of_head (g := 1) (by kernel_rfl) (by kernel_rfl) (Tryz.underlying138) Tryz.underlying119 (by kernel_rfl) (by kernel_rfl) h3, ?_⟩
  obtain ⟨a, s, hr, _⟩ := laid_sentinel (g := 7) (tp := 174) (te := 176) (ts := 9) h3.tail.tail (by kernel_rfl) (by kernel_rfl) Tryz.underlying70 rowErr Tryz.underlying174 Tryz.underlying176 rfl rfl Tryz.underlying9 (by kernel_rfl) (by kernel_rfl)
  obtain ⟨b, t, hs, _⟩ := laid_sentinel (g := 6) (tp := 174) (te := 176) (ts := 9) h3.tail.tail.tail (by kernel_rfl) (by kernel_rfl) Tryz.underlying70 rowErr Tryz.underlying174 Tryz.underlying176 rfl rfl Tryz.underlying9 (by kernel_rfl) (by kernel_rfl)
  exact ⟨⟨_, _, hs⟩, ⟨_, _, hr⟩⟩
end Go.Proofs.YtnkephafpebfkaaGreatDoor
