/- Contracts and plain facts that the laws of this seat share, part 27. -/
import Derived.Test.YtogdefomigiepaaGreatDoorPkW
import Derived.Test.YtogdefomigiepaaGreatDoorPkZ
import Derived.Test.YtogdefomigiepaaGreatDoorRows
import Derived.Test.YtogdefomigiepaaGreatDoorTie
import Derived.ProofKit
import Derived.LaidMore
import Derived.OpenShut
import Derived.Stop.Joined
import Derived.Stop.LaidErr
import Derived.Lib.LaidTab
import Derived.Lay
set_option linter.unusedVariables false
set_option linter.unusedSimpArgs false
/- What the listed variables hold: the tables of bits and strconv, the errors of strconv, the words of payslips, the tables of utf8. -/
namespace Go.Proofs.YtogdefomigiepaaGreatDoor
open Go.ChangeShapes Go.WideShapes Go.ChangeAt Go.RowKit

def laidL : List (String × DataW Unit) := [("math/bits.deBruijn32tab", Rows.laid_math_bits_deBruijn32tab), ("math/bits.deBruijn64tab", Rows.laid_math_bits_deBruijn64tab), ("internal/strconv.uint64pow10", Rows.laid_internal_strconv_uint64pow10), ("unicode/utf8.acceptRanges", Rows.laid_unicode_utf8_acceptRanges), ("strconv.ErrRange", Rows.laid_strconv_ErrRange), ("strconv.ErrSyntax", Rows.laid_strconv_ErrSyntax), ("payroll/payslip.words", Rows.laid_payroll_payslip_words), ("unicode/utf8.first", Rows.laid_unicode_utf8_first)]
set_option maxRecDepth 100000 in
theorem door_met (os : Os) (args : Array Value) : laidMetH Tryz.prog laidL ((World.laidAll Tryz.prog os laidL).forCall (fun _ _ => 0) ⟨#[], args, []⟩).memory := by
 rw [MakeChecks.laidMetH_plain _ _ _ (by kernel_rfl)]; exact laidMet_laidAll _ (by kernel_rfl) (by kernel_rfl)
set_option maxRecDepth 100000 in
theorem door_shaped (os : Os) : (World.laidAll Tryz.prog os laidL).Shaped Tryz.prog := World.shaped_of_ZipB (by kernel_rfl) (by kernel_rfl)
theorem star : "*" ++ "errors.errorString" = "*errors.errorString" := by decide
theorem rowErr (u : TypeId) (h : Tryz.prog.typeName? 3 u = some "*errors.errorString") : u = 274 :=
 typeName_ptr_named (nm := "errors.errorString") (by rw [star]; kernel_rfl) (by kernel_rfl) (by decide) u (by rw [star]; exact h)
theorem of_laid {W : World} (h : laidMetH Tryz.prog laidL W) : Tabs W ∧ Errs W ∧ Words W := by
 rw [MakeChecks.laidMetH_plain _ _ _ (by kernel_rfl)] at h
 have h3 : laidMet Tryz.prog (("internal/strconv.uint64pow10", Lib.tabData .u64 Lib.pow10Tab) :: ("unicode/utf8.acceptRanges", Rows.laid_unicode_utf8_acceptRanges) :: [("strconv.ErrRange", Rows.laid_strconv_ErrRange), ("strconv.ErrSyntax", Rows.laid_strconv_ErrSyntax), ("payroll/payslip.words", Rows.laid_payroll_payslip_words), ("unicode/utf8.first", Rows.laid_unicode_utf8_first)]) W := h.tail.tail
 refine ⟨Lib.tabIs_of_head (g := 1) (by kernel_rfl) (by kernel_rfl) (Tryz.underlying243) Tryz.underlying218 (by kernel_rfl) (by kernel_rfl) h3, ?_⟩
 obtain ⟨a, s, hr, _⟩ := laid_sentinel (g := 4) (tp := 274) (te := 276) (ts := 9) h3.tail.tail (by kernel_rfl) (by kernel_rfl) Tryz.underlying79 rowErr Tryz.underlying274 Tryz.underlying276 rfl rfl Tryz.underlying9 (by kernel_rfl) (by kernel_rfl)
 obtain ⟨b, t, hs, _⟩ := laid_sentinel (g := 3) (tp := 274) (te := 276) (ts := 9) h3.tail.tail.tail (by kernel_rfl) (by kernel_rfl) Tryz.underlying79 rowErr Tryz.underlying274 Tryz.underlying276 rfl rfl Tryz.underlying9 (by kernel_rfl) (by kernel_rfl)
 refine ⟨⟨⟨_, _, hs⟩, ⟨_, _, hr⟩⟩, ?_⟩
 obtain ⟨ps, ⟨g, t, cs, fuel, p, q, hg, ht, hvar, hd, _, _⟩, _⟩ := h3.tail.tail.tail.tail
 obtain rfl := Option.some.inj (wordsNo.symm.trans hg)
 obtain rfl := Option.some.inj ((show (Tryz.prog.globals[0]?).map (·.type) = some 87 by kernel_rfl).symm.trans ht)
 unfold Words
 rw [hvar]
 have := strs_cells (ts := wordsF) Tryz.underlying87 Tryz.underlying9 (by kernel_rfl) (by kernel_rfl) hd
 rw [← this]
end Go.Proofs.YtogdefomigiepaaGreatDoor
