/-
  DERIVED. GIVEN WITH THE SEED: THE CARDS: each row of YtogdefomigiepaaGreatDoorRows.lean that lists a variable, with what it lists TIED to the program's text (the seventh form; the later family's looks); each row that meets fmt, with fmt's text TOLD by the authors' own Lean function (tested against real Go, not proved from fmt's source: count such statements apart). THE CARD IS WHAT COUNTS. Prove the row's statement (the work); the ties are given (YtogdefomigiepaaGreatDoorTie.lean); close each card by the builder's one call (the guide's Derived/Test/ToyasCard.lean, 'card_holds'). Laid BY PROGRAM, IN A SANDBOX (cutbox-door.mjs). By AI agents, Wed Nov 11 2026. No macro, syntax, notation, axiom, sorry.
-/
import Derived.Test.YtogdefomigiepaaGreatDoorRows
import GoSem.ClaimSeven
namespace Go.Proofs.YtogdefomigiepaaGreatDoor
namespace Rows

/-- THE TIED CARD OF 'payrolllaw34.PayslipFormats'. -/
def payslipFormatsCard : Claim7 := { stood := { row := payslipFormatsRow, standIns := [], harness := (true, "4c41044b8908491e4e3d30ed39492d8050745595e7fd2185908c859052878dde"), looks := true }, kinds := [], alts := [], laidByText := true, laidKinds := [.data, .data, .data, .data], laidTests := true, laidLooks := .later }
def PayslipFormatsCardSaid : Prop := Claim7.holds Tryz.pinned (.plain (OpenSpec.ofChange payslipFormatsSpec)) payslipFormatsCard

/-- THE TIED CARD OF 'payrolllaw34.PayslipReturns'. -/
def payslipReturnsCard : Claim7 := { stood := { row := payslipReturnsRow, standIns := [], harness := (true, "4c41044b8908491e4e3d30ed39492d8050745595e7fd2185908c859052878dde"), looks := true }, kinds := [], alts := [], laidByText := true, laidKinds := [.data, .data, .data, .data, .sentinel, .sentinel, .data, .pinned], laidTests := true, laidLooks := .later }
def PayslipReturnsCardSaid : Prop := Claim7.holds Tryz.pinned (.plain (OpenSpec.ofChange payslipReturnsSpec)) payslipReturnsCard

/-- THE TIED CARD OF 'payrolllaw34.PayslipCanonical'. -/
def payslipCanonicalCard : Claim7 := { stood := { row := payslipCanonicalRow, standIns := [], harness := (true, "4c41044b8908491e4e3d30ed39492d8050745595e7fd2185908c859052878dde"), looks := true }, kinds := [], alts := [], laidByText := true, laidKinds := [.data, .data, .data, .data, .sentinel, .sentinel, .data, .pinned], laidTests := true, laidLooks := .later }
def PayslipCanonicalCardSaid : Prop := Claim7.holds Tryz.pinned (.plain (OpenSpec.ofChange payslipCanonicalSpec)) payslipCanonicalCard

/-- THE SECOND FORM's CARD OF 'payrolllaw34.PayslipFormats'. -/
def payslipFormatsUptoCard : Claim7 := { stood := { row := payslipFormatsUptoRow, standIns := [], harness := (true, "4c41044b8908491e4e3d30ed39492d8050745595e7fd2185908c859052878dde"), looks := true }, kinds := [], alts := [], laidByText := true, laidKinds := [.data, .data, .data, .data], laidTests := true, laidLooks := .later }
def PayslipFormatsUptoCardSaid : Prop := Claim7.holds Tryz.pinned (.plain (OpenSpec.upto payslipFormatsSpec)) payslipFormatsUptoCard

/-- THE SECOND FORM's CARD OF 'payrolllaw34.PayslipReturns'. -/
def payslipReturnsUptoCard : Claim7 := { stood := { row := payslipReturnsUptoRow, standIns := [], harness := (true, "4c41044b8908491e4e3d30ed39492d8050745595e7fd2185908c859052878dde"), looks := true }, kinds := [], alts := [], laidByText := true, laidKinds := [.data, .data, .data, .data, .sentinel, .sentinel, .data, .pinned], laidTests := true, laidLooks := .later }
def PayslipReturnsUptoCardSaid : Prop := Claim7.holds Tryz.pinned (.plain (OpenSpec.upto payslipReturnsSpec)) payslipReturnsUptoCard

/-- THE SECOND FORM's CARD OF 'payrolllaw34.PayslipCanonical'. -/
def payslipCanonicalUptoCard : Claim7 := { stood := { row := payslipCanonicalUptoRow, standIns := [], harness := (true, "4c41044b8908491e4e3d30ed39492d8050745595e7fd2185908c859052878dde"), looks := true }, kinds := [], alts := [], laidByText := true, laidKinds := [.data, .data, .data, .data, .sentinel, .sentinel, .data, .pinned], laidTests := true, laidLooks := .later }
def PayslipCanonicalUptoCardSaid : Prop := Claim7.holds Tryz.pinned (.plain (OpenSpec.upto payslipCanonicalSpec)) payslipCanonicalUptoCard
end Rows
end Go.Proofs.YtogdefomigiepaaGreatDoor
