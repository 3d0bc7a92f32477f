/-
  DERIVED. GIVEN WITH THE SEED: THE CARDS: each row of YtaafihdegnaokaaDoorRows.lean that lists a variable, with what it lists TIED to the program's text (the seventh form; the later family's looks); each row that meets fmt, with fmt's text TOLD by the authors' own Lean function (tested against real Go, not proved from fmt's source: count such statements apart). THE CARD IS WHAT COUNTS. Prove the row's statement (the work); the ties are given (YtaafihdegnaokaaDoorTie.lean); close each card by the builder's one call (the guide's Derived/Test/ToyasCard.lean, 'card_holds'). Laid BY PROGRAM, IN A SANDBOX (cutbox-door.mjs). By AI agents, Wed Nov 11 2026. No macro, syntax, notation, axiom, sorry.
-/
import Derived.Test.YtaafihdegnaokaaDoorRows
import GoSem.ClaimSeven
namespace Go.Proofs.YtaafihdegnaokaaDoor
namespace Rows

/-- THE TIED CARD OF 'payrolllaw36.RetroLimits'. -/
def retroLimitsCard : Claim7 := { stood := { row := retroLimitsRow, standIns := [], harness := (true, "f025f87efdc14c402ea16d760e091a1e0eab1569fd4fd2a35e0a34821e142dde"), looks := false }, kinds := [], alts := [], laidByText := true, laidKinds := [.data], laidTests := true, laidLooks := .later }
def RetroLimitsCardSaid : Prop := Claim7.holds Tryd.pinned (.plain (OpenSpec.ofChange retroLimitsSpec)) retroLimitsCard

/-- THE TIED CARD OF 'payrolllaw36.RetroCovers'. -/
def retroCoversCard : Claim7 := { stood := { row := retroCoversRow, standIns := [], harness := (true, "f025f87efdc14c402ea16d760e091a1e0eab1569fd4fd2a35e0a34821e142dde"), looks := false }, kinds := [], alts := [], laidByText := true, laidKinds := [.data], laidTests := true, laidLooks := .later }
def RetroCoversCardSaid : Prop := Claim7.holds Tryd.pinned (.plain (OpenSpec.ofChange retroCoversSpec)) retroCoversCard

/-- THE SECOND FORM's CARD OF 'payrolllaw36.RetroLimits'. -/
def retroLimitsUptoCard : Claim7 := { stood := { row := retroLimitsUptoRow, standIns := [], harness := (true, "f025f87efdc14c402ea16d760e091a1e0eab1569fd4fd2a35e0a34821e142dde"), looks := false }, kinds := [], alts := [], laidByText := true, laidKinds := [.data], laidTests := true, laidLooks := .later }
def RetroLimitsUptoCardSaid : Prop := Claim7.holds Tryd.pinned (.plain (OpenSpec.upto retroLimitsSpec)) retroLimitsUptoCard

/-- THE SECOND FORM's CARD OF 'payrolllaw36.RetroCovers'. -/
def retroCoversUptoCard : Claim7 := { stood := { row := retroCoversUptoRow, standIns := [], harness := (true, "f025f87efdc14c402ea16d760e091a1e0eab1569fd4fd2a35e0a34821e142dde"), looks := false }, kinds := [], alts := [], laidByText := true, laidKinds := [.data], laidTests := true, laidLooks := .later }
def RetroCoversUptoCardSaid : Prop := Claim7.holds Tryd.pinned (.plain (OpenSpec.upto retroCoversSpec)) retroCoversUptoCard
end Rows
end Go.Proofs.YtaafihdegnaokaaDoor
