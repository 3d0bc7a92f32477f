/-
  DERIVED. GIVEN WITH THE SEED: THE CARDS: each row of YtaafihdegnaokaaGreatDoorRows.lean that lists a variable, with what it lists TIED to the program's text (the seventh form; the later family's looks); each row that meets fmt, with fmt's text TOLD by the authors' own Lean function (tested against real Go, not proved from fmt's source: count such statements apart). THE CARD IS WHAT COUNTS. Prove the row's statement (the work); the ties are given (YtaafihdegnaokaaGreatDoorTie.lean); close each card by the builder's one call (the guide's Derived/Test/ToyasCard.lean, 'card_holds'). Laid BY PROGRAM, IN A SANDBOX (cutbox-door.mjs). By AI agents, Wed Nov 11 2026. No macro, syntax, notation, axiom, sorry.
-/
import Derived.Test.YtaafihdegnaokaaGreatDoorRows
import GoSem.ClaimSeven
namespace Go.Proofs.YtaafihdegnaokaaGreatDoor
namespace Rows

/-- THE TIED CARD OF 'payrolllaw36.RetroStarts'. -/
def retroStartsCard : Claim7 := { stood := { row := retroStartsRow, standIns := [], harness := (true, "087104bf18344992abe844a3b16e9c0465d509a3100ad2b563da754cc6297666"), looks := false }, kinds := [], alts := [], laidByText := true, laidKinds := [.data], laidTests := true, laidLooks := .later }
def RetroStartsCardSaid : Prop := Claim7.holds Tryz.pinned (.plain (OpenSpec.ofChange retroStartsSpec)) retroStartsCard

/-- THE TIED CARD OF 'payrolllaw36.RetroAffected'. -/
def retroAffectedCard : Claim7 := { stood := { row := retroAffectedRow, standIns := [], harness := (true, "087104bf18344992abe844a3b16e9c0465d509a3100ad2b563da754cc6297666"), looks := false }, kinds := [], alts := [], laidByText := true, laidKinds := [.data], laidTests := true, laidLooks := .later }
def RetroAffectedCardSaid : Prop := Claim7.holds Tryz.pinned (.plain (OpenSpec.ofChange retroAffectedSpec)) retroAffectedCard

/-- THE TIED CARD OF 'payrolllaw36.RetroChanges'. -/
def retroChangesCard : Claim7 := { stood := { row := retroChangesRow, standIns := [], harness := (true, "087104bf18344992abe844a3b16e9c0465d509a3100ad2b563da754cc6297666"), looks := false }, kinds := [], alts := [], laidByText := true, laidKinds := [.data], laidTests := true, laidLooks := .later }
def RetroChangesCardSaid : Prop := Claim7.holds Tryz.pinned (.plain (OpenSpec.ofChange retroChangesSpec)) retroChangesCard

/-- THE TIED CARD OF 'payrolllaw36.RetroDays'. -/
def retroDaysCard : Claim7 := { stood := { row := retroDaysRow, standIns := [], harness := (true, "087104bf18344992abe844a3b16e9c0465d509a3100ad2b563da754cc6297666"), looks := false }, kinds := [], alts := [], laidByText := true, laidKinds := [.data], laidTests := true, laidLooks := .later }
def RetroDaysCardSaid : Prop := Claim7.holds Tryz.pinned (.plain (OpenSpec.ofChange retroDaysSpec)) retroDaysCard

/-- THE TIED CARD OF 'payrolllaw36.RetroPlans'. -/
def retroPlansCard : Claim7 := { stood := { row := retroPlansRow, standIns := [], harness := (true, "087104bf18344992abe844a3b16e9c0465d509a3100ad2b563da754cc6297666"), looks := false }, kinds := [], alts := [], laidByText := true, laidKinds := [.data], laidTests := true, laidLooks := .later }
def RetroPlansCardSaid : Prop := Claim7.holds Tryz.pinned (.plain (OpenSpec.ofChange retroPlansSpec)) retroPlansCard

/-- THE SECOND FORM's CARD OF 'payrolllaw36.RetroStarts'. -/
def retroStartsUptoCard : Claim7 := { stood := { row := retroStartsUptoRow, standIns := [], harness := (true, "087104bf18344992abe844a3b16e9c0465d509a3100ad2b563da754cc6297666"), looks := false }, kinds := [], alts := [], laidByText := true, laidKinds := [.data], laidTests := true, laidLooks := .later }
def RetroStartsUptoCardSaid : Prop := Claim7.holds Tryz.pinned (.plain (OpenSpec.upto retroStartsSpec)) retroStartsUptoCard

/-- THE SECOND FORM's CARD OF 'payrolllaw36.RetroAffected'. -/
def retroAffectedUptoCard : Claim7 := { stood := { row := retroAffectedUptoRow, standIns := [], harness := (true, "087104bf18344992abe844a3b16e9c0465d509a3100ad2b563da754cc6297666"), looks := false }, kinds := [], alts := [], laidByText := true, laidKinds := [.data], laidTests := true, laidLooks := .later }
def RetroAffectedUptoCardSaid : Prop := Claim7.holds Tryz.pinned (.plain (OpenSpec.upto retroAffectedSpec)) retroAffectedUptoCard

/-- THE SECOND FORM's CARD OF 'payrolllaw36.RetroChanges'. -/
def retroChangesUptoCard : Claim7 := { stood := { row := retroChangesUptoRow, standIns := [], harness := (true, "087104bf18344992abe844a3b16e9c0465d509a3100ad2b563da754cc6297666"), looks := false }, kinds := [], alts := [], laidByText := true, laidKinds := [.data], laidTests := true, laidLooks := .later }
def RetroChangesUptoCardSaid : Prop := Claim7.holds Tryz.pinned (.plain (OpenSpec.upto retroChangesSpec)) retroChangesUptoCard

/-- THE SECOND FORM's CARD OF 'payrolllaw36.RetroDays'. -/
def retroDaysUptoCard : Claim7 := { stood := { row := retroDaysUptoRow, standIns := [], harness := (true, "087104bf18344992abe844a3b16e9c0465d509a3100ad2b563da754cc6297666"), looks := false }, kinds := [], alts := [], laidByText := true, laidKinds := [.data], laidTests := true, laidLooks := .later }
def RetroDaysUptoCardSaid : Prop := Claim7.holds Tryz.pinned (.plain (OpenSpec.upto retroDaysSpec)) retroDaysUptoCard

/-- THE SECOND FORM's CARD OF 'payrolllaw36.RetroPlans'. -/
def retroPlansUptoCard : Claim7 := { stood := { row := retroPlansUptoRow, standIns := [], harness := (true, "087104bf18344992abe844a3b16e9c0465d509a3100ad2b563da754cc6297666"), looks := false }, kinds := [], alts := [], laidByText := true, laidKinds := [.data], laidTests := true, laidLooks := .later }
def RetroPlansUptoCardSaid : Prop := Claim7.holds Tryz.pinned (.plain (OpenSpec.upto retroPlansSpec)) retroPlansUptoCard
end Rows
end Go.Proofs.YtaafihdegnaokaaGreatDoor
