/-
  DERIVED. GIVEN WITH THE SEED: THE CARDS: each row of YtlchcfkngjbdjaaDoorRows.lean that lists a variable, with what it lists TIED to the program's text (the seventh form; the later family's looks); each row that meets fmt, with fmt's text TOLD by the authors' own Lean function (tested against real Go, not proved from fmt's source: count such statements apart). THE CARD IS WHAT COUNTS. Prove the row's statement (the work); the ties are given (YtlchcfkngjbdjaaDoorTie.lean); close each card by the builder's one call (the guide's Derived/Test/ToyasCard.lean, 'card_holds'). Laid BY PROGRAM, IN A SANDBOX (cutbox-door.mjs). By AI agents, Wed Nov 11 2026. No macro, syntax, notation, axiom, sorry.
-/
import Derived.Test.YtlchcfkngjbdjaaDoorRows
import GoSem.ClaimSeven
namespace Go.Proofs.YtlchcfkngjbdjaaDoor
namespace Rows

/-- THE TIED CARD OF 'payrolllaw42.TransferLimits'. -/
def transferLimitsCard : Claim7 := { stood := { row := transferLimitsRow, standIns := [], harness := (true, "8c2583b15366142e39895dcb6bb9342de5684e34126597820934c637b6295a88"), looks := true }, kinds := [], alts := [], laidByText := true, laidKinds := [.data, .data, .data, .data, .sentinel, .sentinel, .pinned], laidTests := true, laidLooks := .later }
def TransferLimitsCardSaid : Prop := Claim7.holds Tryd.pinned (.plain (OpenSpec.ofChange transferLimitsSpec)) transferLimitsCard

/-- THE TIED CARD OF 'payrolllaw42.TransferEncodes'. -/
def transferEncodesCard : Claim7 := { stood := { row := transferEncodesRow, standIns := [], harness := (true, "8c2583b15366142e39895dcb6bb9342de5684e34126597820934c637b6295a88"), looks := true }, kinds := [], alts := [], laidByText := true, laidKinds := [.data, .data, .data, .data, .sentinel, .sentinel, .pinned], laidTests := true, laidLooks := .later }
def TransferEncodesCardSaid : Prop := Claim7.holds Tryd.pinned (.plain (OpenSpec.ofChange transferEncodesSpec)) transferEncodesCard

/-- THE TIED CARD OF 'payrolllaw42.TransferReturns'. -/
def transferReturnsCard : Claim7 := { stood := { row := transferReturnsRow, standIns := [], harness := (true, "8c2583b15366142e39895dcb6bb9342de5684e34126597820934c637b6295a88"), looks := true }, kinds := [], alts := [], laidByText := true, laidKinds := [.data, .data, .data, .data, .sentinel, .sentinel, .pinned], laidTests := true, laidLooks := .later }
def TransferReturnsCardSaid : Prop := Claim7.holds Tryd.pinned (.plain (OpenSpec.ofChange transferReturnsSpec)) transferReturnsCard

/-- THE SECOND FORM's CARD OF 'payrolllaw42.TransferLimits'. -/
def transferLimitsUptoCard : Claim7 := { stood := { row := transferLimitsUptoRow, standIns := [], harness := (true, "8c2583b15366142e39895dcb6bb9342de5684e34126597820934c637b6295a88"), looks := true }, kinds := [], alts := [], laidByText := true, laidKinds := [.data, .data, .data, .data, .sentinel, .sentinel, .pinned], laidTests := true, laidLooks := .later }
def TransferLimitsUptoCardSaid : Prop := Claim7.holds Tryd.pinned (.plain (OpenSpec.upto transferLimitsSpec)) transferLimitsUptoCard

/-- THE SECOND FORM's CARD OF 'payrolllaw42.TransferEncodes'. -/
def transferEncodesUptoCard : Claim7 := { stood := { row := transferEncodesUptoRow, standIns := [], harness := (true, "8c2583b15366142e39895dcb6bb9342de5684e34126597820934c637b6295a88"), looks := true }, kinds := [], alts := [], laidByText := true, laidKinds := [.data, .data, .data, .data, .sentinel, .sentinel, .pinned], laidTests := true, laidLooks := .later }
def TransferEncodesUptoCardSaid : Prop := Claim7.holds Tryd.pinned (.plain (OpenSpec.upto transferEncodesSpec)) transferEncodesUptoCard

/-- THE SECOND FORM's CARD OF 'payrolllaw42.TransferReturns'. -/
def transferReturnsUptoCard : Claim7 := { stood := { row := transferReturnsUptoRow, standIns := [], harness := (true, "8c2583b15366142e39895dcb6bb9342de5684e34126597820934c637b6295a88"), looks := true }, kinds := [], alts := [], laidByText := true, laidKinds := [.data, .data, .data, .data, .sentinel, .sentinel, .pinned], laidTests := true, laidLooks := .later }
def TransferReturnsUptoCardSaid : Prop := Claim7.holds Tryd.pinned (.plain (OpenSpec.upto transferReturnsSpec)) transferReturnsUptoCard
end Rows
end Go.Proofs.YtlchcfkngjbdjaaDoor
