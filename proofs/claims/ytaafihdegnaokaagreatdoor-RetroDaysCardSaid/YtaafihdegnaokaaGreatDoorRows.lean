/-
  NARROWER THAN 'FOR EVERY INPUT', by the rows' own cells (each row's printed sentence says how): RetroStarts: laid · RetroAffected: laid · RetroChanges: laid · RetroDays: laid · RetroPlans: laid.
  DERIVED. THE GIVEN ROWS OF THIS SEAT. 5 by the template 'for every input the law returns true; each argument reads behind the call as it read before'; 0 by the template 'total and deterministic' (their statements: YtaafihdegnaokaaGreatDoorTotals.lean).
  GIVEN WITH THE SEED: the statements are not yours to turn. If you find one false, say at which input.
  Laid BY PROGRAM, IN A SANDBOX (cutbox-rows.mjs): the forced cells as the released guide's own fill.sh prints them over the translation 93e77fb1348ee200… (all of the seat's roots in one cut). By AI agents, Wed Nov 11 2026. No macro, syntax, notation, axiom, sorry.
-/
import Derived.Test.YtaafihdegnaokaaGreatDoorChecked
import GoSem.Claim
import GoSem.ClaimJoined
import GoSem.ClaimMapViews
import Derived.JoinedTies
import Derived.KernelRfl
namespace Go.Proofs.YtaafihdegnaokaaGreatDoor
/- THE CELL 'sum', in the pinned program and in every row, IS THE sha256 OF THE DUMP (.gsa) THAT YtaafihdegnaokaaGreatDoorProg.lean LOADS. Nothing in Lean hashes anything: it is a label: what it is worth is what the hold of that sum in a sandbox is worth. -/
noncomputable def Tryz.pinned : Pinned := { name := "ytaafihdegnaokaagreatdoor", sum := "93e77fb1348ee200a6eef8097b036bfdb8f6afa77482a850fa58ed71aa51cecf", checked := Tryz.checked }
namespace Rows
def none {H : Type} : Left H := { results := [], args := [] }

/- WHAT THE LISTED PACKAGE-LEVEL VARIABLES READ AS WHEN THE CALL BEGINS. Each datum BY PROGRAM (the guide's laid-datum.mjs) off the statement by which the dump's own 'gosem.cut.vars' lays the variable. In a bare row this is a premise. The card (YtaafihdegnaokaaGreatDoorCards.lean) ties it to the program's text. -/
def laid_payroll_calendar_lengths {H : Type} : DataW H := .agg [.lit (.int .i64 31), .lit (.int .i64 28), .lit (.int .i64 31), .lit (.int .i64 30), .lit (.int .i64 31), .lit (.int .i64 30), .lit (.int .i64 31), .lit (.int .i64 31), .lit (.int .i64 30), .lit (.int .i64 31), .lit (.int .i64 30), .lit (.int .i64 31)]

/-- 'payrolllaw36.RetroStarts': WHATEVER THE INPUT: true; the input reads as it did. -/
def retroStartsSpec : ChangeSpec := { name := "retroStarts", fn := fun _ => fun
  | [d1, d2, d3] => { results := [.lit (.bool true)], args := [d1, d2, d3] }
  | _ => none }
def retroStartsRow : OpenClaim := { program := "ytaafihdegnaokaagreatdoor", sum := "93e77fb1348ee200a6eef8097b036bfdb8f6afa77482a850fa58ed71aa51cecf", func := "payroll/payrolllaw36.RetroStarts", spec := "retroStarts", unfollowed := true, recurses := true, named := ["payroll/calendar.lengths"], apart := false, laid := [("payroll/calendar.lengths", laid_payroll_calendar_lengths)] }
def RetroStartsSaid : Prop := retroStartsRow.holds Tryz.pinned (OpenSpec.ofChange retroStartsSpec)

/-- ITS FALSE NEIGHBOUR: 'it returns false'. Refute it at one input. -/
def retroStartsWrong : ChangeSpec := { name := "retroStarts", fn := fun _ => fun
  | [d1, d2, d3] => { results := [.lit (.bool false)], args := [d1, d2, d3] }
  | _ => none }
def RetroStartsWrongFalsely : Prop := retroStartsRow.holds Tryz.pinned (OpenSpec.ofChange retroStartsWrong)

/-- 'payrolllaw36.RetroAffected': WHATEVER THE INPUT: true; the input reads as it did. -/
def retroAffectedSpec : ChangeSpec := { name := "retroAffected", fn := fun _ => fun
  | [d1, d2, d3, d4] => { results := [.lit (.bool true)], args := [d1, d2, d3, d4] }
  | _ => none }
def retroAffectedRow : OpenClaim := { program := "ytaafihdegnaokaagreatdoor", sum := "93e77fb1348ee200a6eef8097b036bfdb8f6afa77482a850fa58ed71aa51cecf", func := "payroll/payrolllaw36.RetroAffected", spec := "retroAffected", unfollowed := true, recurses := true, named := ["payroll/calendar.lengths"], apart := false, laid := [("payroll/calendar.lengths", laid_payroll_calendar_lengths)] }
def RetroAffectedSaid : Prop := retroAffectedRow.holds Tryz.pinned (OpenSpec.ofChange retroAffectedSpec)

/-- ITS FALSE NEIGHBOUR: 'it returns false'. Refute it at one input. -/
def retroAffectedWrong : ChangeSpec := { name := "retroAffected", fn := fun _ => fun
  | [d1, d2, d3, d4] => { results := [.lit (.bool false)], args := [d1, d2, d3, d4] }
  | _ => none }
def RetroAffectedWrongFalsely : Prop := retroAffectedRow.holds Tryz.pinned (OpenSpec.ofChange retroAffectedWrong)

/-- 'payrolllaw36.RetroChanges': WHATEVER THE INPUT: true; the input reads as it did. -/
def retroChangesSpec : ChangeSpec := { name := "retroChanges", fn := fun _ => fun
  | [d1, d2, d3, d4, d5, d6] => { results := [.lit (.bool true)], args := [d1, d2, d3, d4, d5, d6] }
  | _ => none }
def retroChangesRow : OpenClaim := { program := "ytaafihdegnaokaagreatdoor", sum := "93e77fb1348ee200a6eef8097b036bfdb8f6afa77482a850fa58ed71aa51cecf", func := "payroll/payrolllaw36.RetroChanges", spec := "retroChanges", unfollowed := true, recurses := true, named := ["payroll/calendar.lengths"], apart := false, laid := [("payroll/calendar.lengths", laid_payroll_calendar_lengths)] }
def RetroChangesSaid : Prop := retroChangesRow.holds Tryz.pinned (OpenSpec.ofChange retroChangesSpec)

/-- ITS FALSE NEIGHBOUR: 'it returns false'. Refute it at one input. -/
def retroChangesWrong : ChangeSpec := { name := "retroChanges", fn := fun _ => fun
  | [d1, d2, d3, d4, d5, d6] => { results := [.lit (.bool false)], args := [d1, d2, d3, d4, d5, d6] }
  | _ => none }
def RetroChangesWrongFalsely : Prop := retroChangesRow.holds Tryz.pinned (OpenSpec.ofChange retroChangesWrong)

/-- 'payrolllaw36.RetroDays': WHATEVER THE INPUT: true; the input reads as it did. -/
def retroDaysSpec : ChangeSpec := { name := "retroDays", fn := fun _ => fun
  | [d1, d2] => { results := [.lit (.bool true)], args := [d1, d2] }
  | _ => none }
def retroDaysRow : OpenClaim := { program := "ytaafihdegnaokaagreatdoor", sum := "93e77fb1348ee200a6eef8097b036bfdb8f6afa77482a850fa58ed71aa51cecf", func := "payroll/payrolllaw36.RetroDays", spec := "retroDays", unfollowed := true, recurses := true, named := ["payroll/calendar.lengths"], apart := false, laid := [("payroll/calendar.lengths", laid_payroll_calendar_lengths)] }
def RetroDaysSaid : Prop := retroDaysRow.holds Tryz.pinned (OpenSpec.ofChange retroDaysSpec)

/-- ITS FALSE NEIGHBOUR: 'it returns false'. Refute it at one input. -/
def retroDaysWrong : ChangeSpec := { name := "retroDays", fn := fun _ => fun
  | [d1, d2] => { results := [.lit (.bool false)], args := [d1, d2] }
  | _ => none }
def RetroDaysWrongFalsely : Prop := retroDaysRow.holds Tryz.pinned (OpenSpec.ofChange retroDaysWrong)

/-- 'payrolllaw36.RetroPlans': WHATEVER THE INPUT: true; the input reads as it did. -/
def retroPlansSpec : ChangeSpec := { name := "retroPlans", fn := fun _ => fun
  | [d1, d2, d3, d4] => { results := [.lit (.bool true)], args := [d1, d2, d3, d4] }
  | _ => none }
def retroPlansRow : OpenClaim := { program := "ytaafihdegnaokaagreatdoor", sum := "93e77fb1348ee200a6eef8097b036bfdb8f6afa77482a850fa58ed71aa51cecf", func := "payroll/payrolllaw36.RetroPlans", spec := "retroPlans", unfollowed := true, recurses := true, named := ["payroll/calendar.lengths"], apart := false, laid := [("payroll/calendar.lengths", laid_payroll_calendar_lengths)] }
def RetroPlansSaid : Prop := retroPlansRow.holds Tryz.pinned (OpenSpec.ofChange retroPlansSpec)

/-- ITS FALSE NEIGHBOUR: 'it returns false'. Refute it at one input. -/
def retroPlansWrong : ChangeSpec := { name := "retroPlans", fn := fun _ => fun
  | [d1, d2, d3, d4] => { results := [.lit (.bool false)], args := [d1, d2, d3, d4] }
  | _ => none }
def RetroPlansWrongFalsely : Prop := retroPlansRow.holds Tryz.pinned (OpenSpec.ofChange retroPlansWrong)

/- THE SECOND FORM. 'bulk': how many values and letters a reading holds, each counted each time it is reached (what is shared counts as often as it is met; a slice's spare places count too). A statement '..UptoSaid' is the law's where the arguments, and the package variables that the reading takes, are together of bulk at most 1048576: NARROWER than '..Said'. Prove '..Said' where nothing that the law and all that it calls make is longer than what came in: it says more and counts as full. Else prove '..UptoSaid'. A law counts once. -/
mutual
def uptoBulk {H : Type} : DataW H → Nat
  | .lit (.string bytes) => bytes.length + 1
  | .lit _ => 1
  | .nil => 1
  | .ptr d => uptoBulk d + 1
  | .slice elems spare => uptoBulkAll elems + uptoBulkAll spare + 1
  | .agg parts => uptoBulkAll parts + 1
  | .iface _ d => uptoBulk d + 1
  | .map entries => uptoBulkEntries entries + 1
  | .held _ => 1
def uptoBulkAll {H : Type} : List (DataW H) → Nat
  | [] => 0
  | d :: r => uptoBulk d + uptoBulkAll r
def uptoBulkEntries {H : Type} : List (Lit × DataW H) → Nat
  | [] => 0
  | x :: r => uptoBulkEntry x + uptoBulkEntries r
def uptoBulkEntry {H : Type} : Lit × DataW H → Nat
  | (.string bytes, d) => bytes.length + uptoBulk d + 1
  | (_, d) => uptoBulk d + 1
 end
def uptoSmall : (H : Type) → List (DataW H) → Bool := fun _ ds => decide (uptoBulkAll ds ≤ 1048576)
def OpenSpec.upto (s : _root_.Go.ChangeSpec) : _root_.Go.OpenSpec := { _root_.Go.OpenSpec.ofChange s with cond := some uptoSmall }

/-- 'payrolllaw36.RetroStarts', WHERE WHAT IT READS IS OF BULK AT MOST 1048576: true; the input reads as it did. -/
def retroStartsUptoRow : OpenClaim := { program := "ytaafihdegnaokaagreatdoor", sum := "93e77fb1348ee200a6eef8097b036bfdb8f6afa77482a850fa58ed71aa51cecf", func := "payroll/payrolllaw36.RetroStarts", spec := "retroStarts", unfollowed := true, recurses := true, named := ["payroll/calendar.lengths"], apart := false, laid := [("payroll/calendar.lengths", laid_payroll_calendar_lengths)], narrowed := true }
def RetroStartsUptoSaid : Prop := retroStartsUptoRow.holds Tryz.pinned (OpenSpec.upto retroStartsSpec)

/-- 'payrolllaw36.RetroAffected', WHERE WHAT IT READS IS OF BULK AT MOST 1048576: true; the input reads as it did. -/
def retroAffectedUptoRow : OpenClaim := { program := "ytaafihdegnaokaagreatdoor", sum := "93e77fb1348ee200a6eef8097b036bfdb8f6afa77482a850fa58ed71aa51cecf", func := "payroll/payrolllaw36.RetroAffected", spec := "retroAffected", unfollowed := true, recurses := true, named := ["payroll/calendar.lengths"], apart := false, laid := [("payroll/calendar.lengths", laid_payroll_calendar_lengths)], narrowed := true }
def RetroAffectedUptoSaid : Prop := retroAffectedUptoRow.holds Tryz.pinned (OpenSpec.upto retroAffectedSpec)

/-- 'payrolllaw36.RetroChanges', WHERE WHAT IT READS IS OF BULK AT MOST 1048576: true; the input reads as it did. -/
def retroChangesUptoRow : OpenClaim := { program := "ytaafihdegnaokaagreatdoor", sum := "93e77fb1348ee200a6eef8097b036bfdb8f6afa77482a850fa58ed71aa51cecf", func := "payroll/payrolllaw36.RetroChanges", spec := "retroChanges", unfollowed := true, recurses := true, named := ["payroll/calendar.lengths"], apart := false, laid := [("payroll/calendar.lengths", laid_payroll_calendar_lengths)], narrowed := true }
def RetroChangesUptoSaid : Prop := retroChangesUptoRow.holds Tryz.pinned (OpenSpec.upto retroChangesSpec)

/-- 'payrolllaw36.RetroDays', WHERE WHAT IT READS IS OF BULK AT MOST 1048576: true; the input reads as it did. -/
def retroDaysUptoRow : OpenClaim := { program := "ytaafihdegnaokaagreatdoor", sum := "93e77fb1348ee200a6eef8097b036bfdb8f6afa77482a850fa58ed71aa51cecf", func := "payroll/payrolllaw36.RetroDays", spec := "retroDays", unfollowed := true, recurses := true, named := ["payroll/calendar.lengths"], apart := false, laid := [("payroll/calendar.lengths", laid_payroll_calendar_lengths)], narrowed := true }
def RetroDaysUptoSaid : Prop := retroDaysUptoRow.holds Tryz.pinned (OpenSpec.upto retroDaysSpec)

/-- 'payrolllaw36.RetroPlans', WHERE WHAT IT READS IS OF BULK AT MOST 1048576: true; the input reads as it did. -/
def retroPlansUptoRow : OpenClaim := { program := "ytaafihdegnaokaagreatdoor", sum := "93e77fb1348ee200a6eef8097b036bfdb8f6afa77482a850fa58ed71aa51cecf", func := "payroll/payrolllaw36.RetroPlans", spec := "retroPlans", unfollowed := true, recurses := true, named := ["payroll/calendar.lengths"], apart := false, laid := [("payroll/calendar.lengths", laid_payroll_calendar_lengths)], narrowed := true }
def RetroPlansUptoSaid : Prop := retroPlansUptoRow.holds Tryz.pinned (OpenSpec.upto retroPlansSpec)

end Rows
end Go.Proofs.YtaafihdegnaokaaGreatDoor
