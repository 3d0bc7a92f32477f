/-
  DERIVED. GIVEN WITH THE SEED: THE CARDS: each row of YtnkephafpebfkaaDoorRows.lean that lists a variable, with what it lists TIED to the program's text (the seventh form; the later family's looks); each row that meets fmt, with fmt's text TOLD by the authors' own Lean function (tested against real Go, not proved from fmt's source: count such statements apart). THE CARD IS WHAT COUNTS. Prove the row's statement (the work); the ties are given (YtnkephafpebfkaaDoorTie.lean); close each card by the builder's one call (the guide's Derived/Test/ToyasCard.lean, 'card_holds'). Laid BY PROGRAM, IN A SANDBOX (cutbox-door.mjs). By AI agents, Wed Nov 11 2026. No macro, syntax, notation, axiom, sorry.
-/
import Derived.Test.YtnkephafpebfkaaDoorRows
import GoSem.ClaimSeven
namespace Go.Proofs.YtnkephafpebfkaaDoor
namespace Rows

/-- THE TIED CARD OF 'payrolllaw43.FilingLimits'. -/
def filingLimitsCard : Claim7 := { stood := { row := filingLimitsRow, standIns := [], harness := (true, "0398aeb5148fae79a9264cd2df4aa3b49633d9743f5165aa6f28ef0879683aa6"), looks := true }, kinds := [], alts := [], laidByText := true, laidKinds := [.data, .data, .data, .data, .sentinel, .sentinel, .pinned], laidTests := true, laidLooks := .later }
def FilingLimitsCardSaid : Prop := Claim7.holds Tryd.pinned (.plain (OpenSpec.ofChange filingLimitsSpec)) filingLimitsCard

/-- THE TIED CARD OF 'payrolllaw43.FilingReturns'. -/
def filingReturnsCard : Claim7 := { stood := { row := filingReturnsRow, standIns := [], harness := (true, "0398aeb5148fae79a9264cd2df4aa3b49633d9743f5165aa6f28ef0879683aa6"), looks := true }, kinds := [], alts := [], laidByText := true, laidKinds := [.data, .data, .data, .data, .sentinel, .sentinel, .pinned], laidTests := true, laidLooks := .later }
def FilingReturnsCardSaid : Prop := Claim7.holds Tryd.pinned (.plain (OpenSpec.ofChange filingReturnsSpec)) filingReturnsCard

/-- THE TIED CARD OF 'payrolllaw43.AuthorityLatest'. -/
def authorityLatestCard : Claim7 := { stood := { row := authorityLatestRow, standIns := [], harness := (true, "0398aeb5148fae79a9264cd2df4aa3b49633d9743f5165aa6f28ef0879683aa6"), looks := true }, kinds := [], alts := [], laidByText := true, laidKinds := [.data, .data, .data, .data, .sentinel, .sentinel, .pinned], laidTests := true, laidLooks := .later }
def AuthorityLatestCardSaid : Prop := Claim7.holds Tryd.pinned (.plain (OpenSpec.ofChange authorityLatestSpec)) authorityLatestCard

/-- THE SECOND FORM's CARD OF 'payrolllaw43.FilingLimits'. -/
def filingLimitsUptoCard : Claim7 := { stood := { row := filingLimitsUptoRow, standIns := [], harness := (true, "0398aeb5148fae79a9264cd2df4aa3b49633d9743f5165aa6f28ef0879683aa6"), looks := true }, kinds := [], alts := [], laidByText := true, laidKinds := [.data, .data, .data, .data, .sentinel, .sentinel, .pinned], laidTests := true, laidLooks := .later }
def FilingLimitsUptoCardSaid : Prop := Claim7.holds Tryd.pinned (.plain (OpenSpec.upto filingLimitsSpec)) filingLimitsUptoCard

/-- THE SECOND FORM's CARD OF 'payrolllaw43.FilingReturns'. -/
def filingReturnsUptoCard : Claim7 := { stood := { row := filingReturnsUptoRow, standIns := [], harness := (true, "0398aeb5148fae79a9264cd2df4aa3b49633d9743f5165aa6f28ef0879683aa6"), looks := true }, kinds := [], alts := [], laidByText := true, laidKinds := [.data, .data, .data, .data, .sentinel, .sentinel, .pinned], laidTests := true, laidLooks := .later }
def FilingReturnsUptoCardSaid : Prop := Claim7.holds Tryd.pinned (.plain (OpenSpec.upto filingReturnsSpec)) filingReturnsUptoCard

/-- THE SECOND FORM's CARD OF 'payrolllaw43.AuthorityLatest'. -/
def authorityLatestUptoCard : Claim7 := { stood := { row := authorityLatestUptoRow, standIns := [], harness := (true, "0398aeb5148fae79a9264cd2df4aa3b49633d9743f5165aa6f28ef0879683aa6"), looks := true }, kinds := [], alts := [], laidByText := true, laidKinds := [.data, .data, .data, .data, .sentinel, .sentinel, .pinned], laidTests := true, laidLooks := .later }
def AuthorityLatestUptoCardSaid : Prop := Claim7.holds Tryd.pinned (.plain (OpenSpec.upto authorityLatestSpec)) authorityLatestUptoCard
end Rows
end Go.Proofs.YtnkephafpebfkaaDoor
