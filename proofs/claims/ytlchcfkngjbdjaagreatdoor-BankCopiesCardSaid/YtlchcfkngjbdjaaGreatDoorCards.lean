/-
  DERIVED. GIVEN WITH THE SEED: THE CARDS: each row of YtlchcfkngjbdjaaGreatDoorRows.lean that lists a variable, with what it lists TIED to the program's text (the seventh form; the later family's looks); each row that meets fmt, with fmt's text TOLD by the authors' own Lean function (tested against real Go, not proved from fmt's source: count such statements apart). THE CARD IS WHAT COUNTS. Prove the row's statement (the work); the ties are given (YtlchcfkngjbdjaaGreatDoorTie.lean); close each card by the builder's one call (the guide's Derived/Test/ToyasCard.lean, 'card_holds'). Laid BY PROGRAM, IN A SANDBOX (cutbox-door.mjs). By AI agents, Wed Nov 11 2026. No macro, syntax, notation, axiom, sorry.
-/
import Derived.Test.YtlchcfkngjbdjaaGreatDoorRows
import GoSem.ClaimSeven
namespace Go.Proofs.YtlchcfkngjbdjaaGreatDoor
namespace Rows

/-- THE TIED CARD OF 'payrolllaw42.BankFollows'. -/
def bankFollowsCard : Claim7 := { stood := { row := bankFollowsRow, standIns := [], harness := (true, "c1914019202877f5d394415bf9d724bb3670c2d92dedd5f5688d1d3eb1167131"), looks := true }, kinds := [], alts := [], laidByText := true, laidKinds := [.data, .data, .data, .data, .sentinel, .sentinel, .pinned], laidTests := true, laidLooks := .later }
def BankFollowsCardSaid : Prop := Claim7.holds Tryz.pinned (.plain (OpenSpec.ofChange bankFollowsSpec)) bankFollowsCard

/-- THE TIED CARD OF 'payrolllaw42.BankOnce'. -/
def bankOnceCard : Claim7 := { stood := { row := bankOnceRow, standIns := [], harness := (true, "c1914019202877f5d394415bf9d724bb3670c2d92dedd5f5688d1d3eb1167131"), looks := true }, kinds := [], alts := [], laidByText := true, laidKinds := [.data, .data, .data, .data, .sentinel, .sentinel, .pinned], laidTests := true, laidLooks := .later }
def BankOnceCardSaid : Prop := Claim7.holds Tryz.pinned (.plain (OpenSpec.ofChange bankOnceSpec)) bankOnceCard

/-- THE TIED CARD OF 'payrolllaw42.BankOrder'. -/
def bankOrderCard : Claim7 := { stood := { row := bankOrderRow, standIns := [], harness := (true, "c1914019202877f5d394415bf9d724bb3670c2d92dedd5f5688d1d3eb1167131"), looks := true }, kinds := [], alts := [], laidByText := true, laidKinds := [.data, .data, .data, .data, .sentinel, .sentinel, .pinned], laidTests := true, laidLooks := .later }
def BankOrderCardSaid : Prop := Claim7.holds Tryz.pinned (.plain (OpenSpec.ofChange bankOrderSpec)) bankOrderCard

/-- THE TIED CARD OF 'payrolllaw42.BankCopies'. -/
def bankCopiesCard : Claim7 := { stood := { row := bankCopiesRow, standIns := [], harness := (true, "c1914019202877f5d394415bf9d724bb3670c2d92dedd5f5688d1d3eb1167131"), looks := true }, kinds := [], alts := [], laidByText := true, laidKinds := [.data, .data, .data, .data, .sentinel, .sentinel, .pinned], laidTests := true, laidLooks := .later }
def BankCopiesCardSaid : Prop := Claim7.holds Tryz.pinned (.plain (OpenSpec.ofChange bankCopiesSpec)) bankCopiesCard

/-- THE SECOND FORM's CARD OF 'payrolllaw42.BankFollows'. -/
def bankFollowsUptoCard : Claim7 := { stood := { row := bankFollowsUptoRow, standIns := [], harness := (true, "c1914019202877f5d394415bf9d724bb3670c2d92dedd5f5688d1d3eb1167131"), looks := true }, kinds := [], alts := [], laidByText := true, laidKinds := [.data, .data, .data, .data, .sentinel, .sentinel, .pinned], laidTests := true, laidLooks := .later }
def BankFollowsUptoCardSaid : Prop := Claim7.holds Tryz.pinned (.plain (OpenSpec.upto bankFollowsSpec)) bankFollowsUptoCard

/-- THE SECOND FORM's CARD OF 'payrolllaw42.BankOnce'. -/
def bankOnceUptoCard : Claim7 := { stood := { row := bankOnceUptoRow, standIns := [], harness := (true, "c1914019202877f5d394415bf9d724bb3670c2d92dedd5f5688d1d3eb1167131"), looks := true }, kinds := [], alts := [], laidByText := true, laidKinds := [.data, .data, .data, .data, .sentinel, .sentinel, .pinned], laidTests := true, laidLooks := .later }
def BankOnceUptoCardSaid : Prop := Claim7.holds Tryz.pinned (.plain (OpenSpec.upto bankOnceSpec)) bankOnceUptoCard

/-- THE SECOND FORM's CARD OF 'payrolllaw42.BankOrder'. -/
def bankOrderUptoCard : Claim7 := { stood := { row := bankOrderUptoRow, standIns := [], harness := (true, "c1914019202877f5d394415bf9d724bb3670c2d92dedd5f5688d1d3eb1167131"), looks := true }, kinds := [], alts := [], laidByText := true, laidKinds := [.data, .data, .data, .data, .sentinel, .sentinel, .pinned], laidTests := true, laidLooks := .later }
def BankOrderUptoCardSaid : Prop := Claim7.holds Tryz.pinned (.plain (OpenSpec.upto bankOrderSpec)) bankOrderUptoCard

/-- THE SECOND FORM's CARD OF 'payrolllaw42.BankCopies'. -/
def bankCopiesUptoCard : Claim7 := { stood := { row := bankCopiesUptoRow, standIns := [], harness := (true, "c1914019202877f5d394415bf9d724bb3670c2d92dedd5f5688d1d3eb1167131"), looks := true }, kinds := [], alts := [], laidByText := true, laidKinds := [.data, .data, .data, .data, .sentinel, .sentinel, .pinned], laidTests := true, laidLooks := .later }
def BankCopiesUptoCardSaid : Prop := Claim7.holds Tryz.pinned (.plain (OpenSpec.upto bankCopiesSpec)) bankCopiesUptoCard
end Rows
end Go.Proofs.YtlchcfkngjbdjaaGreatDoor
