/- What the listed variable holds: the table of the months' lengths. -/
import Derived.Test.YtaafihdegnaokaaGreatDoorCal
import Derived.Test.YtaafihdegnaokaaGreatDoorRows
import Derived.Test.YtaafihdegnaokaaGreatDoorTie
import Derived.ProofKit
import Derived.LaidMore
import Derived.OpenShut
import Derived.Stop.Joined
import Derived.Stop.LaidErr
import Derived.Lib.LaidTab
import Derived.Lay
namespace Go.Proofs.YtaafihdegnaokaaGreatDoor
open Go.ChangeShapes Go.WideShapes Go.ChangeAt Go.RowKit

/-- the listed variables -/
def laidL : List (String × DataW Unit) := [("payroll/calendar.lengths", Rows.laid_payroll_calendar_lengths)]
set_option maxRecDepth 100000 in
theorem door_met (os : Os) (args : Array Value) : laidMetH Tryz.prog laidL ((World.laidAll Tryz.prog os laidL).forCall (fun _ _ => 0) ⟨#[], args, []⟩).memory := by
  rw [MakeChecks.laidMetH_plain _ _ _ (by kernel_rfl)]; exact laidMet_laidAll _ (by kernel_rfl) (by kernel_rfl)
set_option maxRecDepth 100000 in
theorem door_shaped (os : Os) : (World.laidAll Tryz.prog os laidL).Shaped Tryz.prog := World.shaped_of_ZipB (by kernel_rfl) (by kernel_rfl)
theorem of_laid {W : World} (h : laidMetH Tryz.prog laidL W) : LenT W := by
  rw [MakeChecks.laidMetH_plain _ _ _ (by kernel_rfl)] at h
  have h3 : laidMet Tryz.prog (("payroll/calendar.lengths", Lib.tabData .i64 lenL) :: []) W := h
  exact Lib.tabIs_of_head (g := 0) (by kernel_rfl) (by kernel_rfl) (Tryz.underlying92) Tryz.underlying3 (by kernel_rfl) (by kernel_rfl) h3
end Go.Proofs.YtaafihdegnaokaaGreatDoor
