/- What the listed variables hold: the table and the errors of strconv. -/
import Derived.Test.YtkdmbkhgcahpiaaDoorAtoi
import Derived.Test.YtkdmbkhgcahpiaaDoorRows
import Derived.Test.YtkdmbkhgcahpiaaDoorTie
import Derived.ProofKit
import Derived.LaidMore
import Derived.OpenShut
import Derived.Stop.Joined
import Derived.Stop.LaidErr
import Derived.Lib.LaidTab
namespace Go.Proofs.YtkdmbkhgcahpiaaDoor
open Go.ChangeShapes Go.WideShapes Go.ChangeAt Go.RowKit

/-- the listed variables -/
def laidL : List (String × DataW Unit) := [("math/bits.deBruijn32tab", Rows.laid_math_bits_deBruijn32tab), ("math/bits.deBruijn64tab", Rows.laid_math_bits_deBruijn64tab), ("internal/strconv.uint64pow10", Rows.laid_internal_strconv_uint64pow10), ("strconv.ErrRange", Rows.laid_strconv_ErrRange), ("strconv.ErrSyntax", Rows.laid_strconv_ErrSyntax)]
set_option maxRecDepth 100000 in
theorem door_met (os : Os) (args : Array Value) : laidMetH Tryd.prog laidL ((World.doorLaid Tryd.prog 400 os).forCall (fun _ _ => 0) ⟨#[], args, []⟩).memory :=
  laidMetH_of_parts3 (fuel := 8) (laidMet_of_run' 8 (by kernel_rfl) (by kernel_rfl)) (by kernel_rfl) (by kernel_rfl)
theorem star : "*" ++ "errors.errorString" = "*errors.errorString" := by decide
theorem rowErr (u : TypeId) (h : Tryd.prog.typeName? 3 u = some "*errors.errorString") : u = 103 :=
  typeName_ptr_named (nm := "errors.errorString") (by rw [star]; kernel_rfl) (by kernel_rfl) (by decide) u (by rw [star]; exact h)
theorem of_laid {W : World} (h : laidMetH Tryd.prog laidL W) : Tabs W ∧ Errs W := by
  rw [MakeChecks.laidMetH_plain _ _ _ (by kernel_rfl)] at h
  have h3 : laidMet Tryd.prog (("internal/strconv.uint64pow10", Lib.tabData .u64 Lib.pow10Tab) :: [("strconv.ErrRange", Rows.laid_strconv_ErrRange), ("strconv.ErrSyntax", Rows.laid_strconv_ErrSyntax)]) W := h.tail.tail
  refine ⟨Lib.tabIs_of_head (g := 3) (by kernel_rfl) (by kernel_rfl) (Tryd.underlying93) Tryd.underlying48 (by kernel_rfl) (by kernel_rfl) h3, ?_⟩
  obtain ⟨a, s, hr, _⟩ := laid_sentinel (g := 2) (tp := 103) (te := 105) (ts := 9) h3.tail (by kernel_rfl) (by kernel_rfl) Tryd.underlying60 rowErr Tryd.underlying103 Tryd.underlying105 rfl rfl Tryd.underlying9 (by kernel_rfl) (by kernel_rfl)
  obtain ⟨b, t, hs, _⟩ := laid_sentinel (g := 1) (tp := 103) (te := 105) (ts := 9) h3.tail.tail (by kernel_rfl) (by kernel_rfl) Tryd.underlying60 rowErr Tryd.underlying103 Tryd.underlying105 rfl rfl Tryd.underlying9 (by kernel_rfl) (by kernel_rfl)
  exact ⟨⟨_, _, hs⟩, ⟨_, _, hr⟩⟩
end Go.Proofs.YtkdmbkhgcahpiaaDoor
