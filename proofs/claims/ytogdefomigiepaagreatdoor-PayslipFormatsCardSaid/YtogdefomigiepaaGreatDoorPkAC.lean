/- Contracts and plain facts that the laws of this seat share, part 29. -/
import Derived.Test.YtogdefomigiepaaGreatDoorPkW
import Derived.Test.YtogdefomigiepaaGreatDoorPkZ
import Derived.Test.YtogdefomigiepaaGreatDoorRows
import Derived.Test.YtogdefomigiepaaGreatDoorTie
import Derived.ProofKit
import Derived.LaidMore
import Derived.OpenShut
import Derived.Stop.Joined
import Derived.Stop.LaidErr
import Derived.Lib.LaidTab
import Derived.Lay
set_option linter.unusedVariables false
set_option linter.unusedSimpArgs false
/- What the listed variables hold: the table of strconv, the words of payslips. -/
namespace Go.Proofs.YtogdefomigiepaaGreatDoor
open Go.ChangeShapes Go.WideShapes Go.ChangeAt Go.RowKit

def laidL : List (String × DataW Unit) := [("math/bits.deBruijn32tab", Rows.laid_math_bits_deBruijn32tab), ("math/bits.deBruijn64tab", Rows.laid_math_bits_deBruijn64tab), ("internal/strconv.uint64pow10", Rows.laid_internal_strconv_uint64pow10), ("payroll/payslip.words", Rows.laid_payroll_payslip_words)]
set_option maxRecDepth 100000 in
theorem door_met (os : Os) (args : Array Value) : laidMetH Tryz.prog laidL ((World.laidAll Tryz.prog os laidL).forCall (fun _ _ => 0) ⟨#[], args, []⟩).memory := by
 rw [MakeChecks.laidMetH_plain _ _ _ (by kernel_rfl)]; exact laidMet_laidAll _ (by kernel_rfl) (by kernel_rfl)
set_option maxRecDepth 100000 in
theorem door_shaped (os : Os) : (World.laidAll Tryz.prog os laidL).Shaped Tryz.prog := World.shaped_of_ZipB (by kernel_rfl) (by kernel_rfl)
theorem of_laid {W : World} (h : laidMetH Tryz.prog laidL W) : Tabs W ∧ Words W := by
 rw [MakeChecks.laidMetH_plain _ _ _ (by kernel_rfl)] at h
 have h3 : laidMet Tryz.prog (("internal/strconv.uint64pow10", Lib.tabData .u64 Lib.pow10Tab) :: [("payroll/payslip.words", Rows.laid_payroll_payslip_words)]) W := h.tail.tail
 refine ⟨Lib.tabIs_of_head (g := 1) (by kernel_rfl) (by kernel_rfl) (Tryz.underlying243) Tryz.underlying218 (by kernel_rfl) (by kernel_rfl) h3, ?_⟩
 obtain ⟨ps, ⟨g, t, cs, fuel, p, q, hg, ht, hvar, hd, _, _⟩, _⟩ := h3.tail
 obtain rfl := Option.some.inj (wordsNo.symm.trans hg)
 obtain rfl := Option.some.inj ((show (Tryz.prog.globals[0]?).map (·.type) = some 87 by kernel_rfl).symm.trans ht)
 unfold Words
 rw [hvar]
 have := strs_cells (ts := wordsF) Tryz.underlying87 Tryz.underlying9 (by kernel_rfl) (by kernel_rfl) hd
 rw [← this]
end Go.Proofs.YtogdefomigiepaaGreatDoor
