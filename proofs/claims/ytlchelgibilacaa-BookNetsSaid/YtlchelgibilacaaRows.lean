/-
  No cell of these rows narrows 'for every input' (looked for: loops, veiled, ifaces, maps, wideKeys, modest, calm, conditions, laid).
  DERIVED. THE GIVEN ROWS OF THIS SEAT. 7 by the template 'for every input the law returns true; each argument reads behind the call as it read before'; 0 by the template 'total and deterministic' (their statements: YtlchelgibilacaaTotals.lean).
  GIVEN WITH THE SEED: the statements are not yours to turn. If you find one false, say at which input.
  Laid BY PROGRAM, IN A SANDBOX (cutbox-rows.mjs): the forced cells as the released guide's own fill.sh prints them over the translation cbe945c25a8664dd… (all of the seat's roots in one cut). By AI agents, Wed Nov 11 2026. No macro, syntax, notation, axiom, sorry.
-/
import Derived.Test.YtlchelgibilacaaChecked
import GoSem.Claim
import GoSem.ClaimJoined
import GoSem.ClaimMapViews
import Derived.JoinedTies
import Derived.KernelRfl
namespace Go.Proofs.Ytlchelgibilacaa
/- THE CELL 'sum', in the pinned program and in every row, IS THE sha256 OF THE DUMP (.gsa) THAT YtlchelgibilacaaProg.lean LOADS. Nothing in Lean hashes anything: it is a label: what it is worth is what the hold of that sum in a sandbox is worth. -/
noncomputable def Try.pinned : Pinned := { name := "ytlchelgibilacaa", sum := "cbe945c25a8664dda30ea0a7a7cbf6c35519e059c2b17cc5f5c0f8cbc1e4fe7d", checked := Try.checked }
namespace Rows
def none {H : Type} : Left H := { results := [], args := [] }

/-- 'payrolllaw35.BookLimits': WHATEVER THE INPUT: true; the input reads as it did. -/
def bookLimitsSpec : ChangeSpec := { name := "bookLimits", fn := fun _ => fun
  | [d1, d2] => { results := [.lit (.bool true)], args := [d1, d2] }
  | _ => none }
def bookLimitsRow : OpenClaim := { program := "ytlchelgibilacaa", sum := "cbe945c25a8664dda30ea0a7a7cbf6c35519e059c2b17cc5f5c0f8cbc1e4fe7d", func := "payroll/payrolllaw35.BookLimits", spec := "bookLimits", unfollowed := true, recurses := true, plainKeys := false, apart := false }
def BookLimitsSaid : Prop := bookLimitsRow.holds Try.pinned (OpenSpec.ofChange bookLimitsSpec)

/-- ITS FALSE NEIGHBOUR: 'it returns false'. Refute it at one input. -/
def bookLimitsWrong : ChangeSpec := { name := "bookLimits", fn := fun _ => fun
  | [d1, d2] => { results := [.lit (.bool false)], args := [d1, d2] }
  | _ => none }
def BookLimitsWrongFalsely : Prop := bookLimitsRow.holds Try.pinned (OpenSpec.ofChange bookLimitsWrong)

/-- 'payrolllaw35.BookValid': WHATEVER THE INPUT: true; the input reads as it did. -/
def bookValidSpec : ChangeSpec := { name := "bookValid", fn := fun _ => fun
  | [d1, d2, d3, d4, d5, d6] => { results := [.lit (.bool true)], args := [d1, d2, d3, d4, d5, d6] }
  | _ => none }
def bookValidRow : OpenClaim := { program := "ytlchelgibilacaa", sum := "cbe945c25a8664dda30ea0a7a7cbf6c35519e059c2b17cc5f5c0f8cbc1e4fe7d", func := "payroll/payrolllaw35.BookValid", spec := "bookValid", unfollowed := true, recurses := true, plainKeys := false, apart := false }
def BookValidSaid : Prop := bookValidRow.holds Try.pinned (OpenSpec.ofChange bookValidSpec)

/-- ITS FALSE NEIGHBOUR: 'it returns false'. Refute it at one input. -/
def bookValidWrong : ChangeSpec := { name := "bookValid", fn := fun _ => fun
  | [d1, d2, d3, d4, d5, d6] => { results := [.lit (.bool false)], args := [d1, d2, d3, d4, d5, d6] }
  | _ => none }
def BookValidWrongFalsely : Prop := bookValidRow.holds Try.pinned (OpenSpec.ofChange bookValidWrong)

/-- 'payrolllaw35.BookAdds': WHATEVER THE INPUT: true; the input reads as it did. -/
def bookAddsSpec : ChangeSpec := { name := "bookAdds", fn := fun _ => fun
  | [d1, d2, d3] => { results := [.lit (.bool true)], args := [d1, d2, d3] }
  | _ => none }
def bookAddsRow : OpenClaim := { program := "ytlchelgibilacaa", sum := "cbe945c25a8664dda30ea0a7a7cbf6c35519e059c2b17cc5f5c0f8cbc1e4fe7d", func := "payroll/payrolllaw35.BookAdds", spec := "bookAdds", unfollowed := true, recurses := true, plainKeys := false, apart := false }
def BookAddsSaid : Prop := bookAddsRow.holds Try.pinned (OpenSpec.ofChange bookAddsSpec)

/-- ITS FALSE NEIGHBOUR: 'it returns false'. Refute it at one input. -/
def bookAddsWrong : ChangeSpec := { name := "bookAdds", fn := fun _ => fun
  | [d1, d2, d3] => { results := [.lit (.bool false)], args := [d1, d2, d3] }
  | _ => none }
def BookAddsWrongFalsely : Prop := bookAddsRow.holds Try.pinned (OpenSpec.ofChange bookAddsWrong)

/-- 'payrolllaw35.BookSums': WHATEVER THE INPUT: true; the input reads as it did. -/
def bookSumsSpec : ChangeSpec := { name := "bookSums", fn := fun _ => fun
  | [d1, d2] => { results := [.lit (.bool true)], args := [d1, d2] }
  | _ => none }
def bookSumsRow : OpenClaim := { program := "ytlchelgibilacaa", sum := "cbe945c25a8664dda30ea0a7a7cbf6c35519e059c2b17cc5f5c0f8cbc1e4fe7d", func := "payroll/payrolllaw35.BookSums", spec := "bookSums", unfollowed := true, recurses := true, plainKeys := false, apart := false }
def BookSumsSaid : Prop := bookSumsRow.holds Try.pinned (OpenSpec.ofChange bookSumsSpec)

/-- ITS FALSE NEIGHBOUR: 'it returns false'. Refute it at one input. -/
def bookSumsWrong : ChangeSpec := { name := "bookSums", fn := fun _ => fun
  | [d1, d2] => { results := [.lit (.bool false)], args := [d1, d2] }
  | _ => none }
def BookSumsWrongFalsely : Prop := bookSumsRow.holds Try.pinned (OpenSpec.ofChange bookSumsWrong)

/-- 'payrolllaw35.BookUndoes': WHATEVER THE INPUT: true; the input reads as it did. -/
def bookUndoesSpec : ChangeSpec := { name := "bookUndoes", fn := fun _ => fun
  | [d1, d2, d3, d4] => { results := [.lit (.bool true)], args := [d1, d2, d3, d4] }
  | _ => none }
def bookUndoesRow : OpenClaim := { program := "ytlchelgibilacaa", sum := "cbe945c25a8664dda30ea0a7a7cbf6c35519e059c2b17cc5f5c0f8cbc1e4fe7d", func := "payroll/payrolllaw35.BookUndoes", spec := "bookUndoes", unfollowed := true, recurses := true, plainKeys := false, apart := false }
def BookUndoesSaid : Prop := bookUndoesRow.holds Try.pinned (OpenSpec.ofChange bookUndoesSpec)

/-- ITS FALSE NEIGHBOUR: 'it returns false'. Refute it at one input. -/
def bookUndoesWrong : ChangeSpec := { name := "bookUndoes", fn := fun _ => fun
  | [d1, d2, d3, d4] => { results := [.lit (.bool false)], args := [d1, d2, d3, d4] }
  | _ => none }
def BookUndoesWrongFalsely : Prop := bookUndoesRow.holds Try.pinned (OpenSpec.ofChange bookUndoesWrong)

/-- 'payrolllaw35.BookReverses': WHATEVER THE INPUT: true; the input reads as it did. -/
def bookReversesSpec : ChangeSpec := { name := "bookReverses", fn := fun _ => fun
  | [d1, d2] => { results := [.lit (.bool true)], args := [d1, d2] }
  | _ => none }
def bookReversesRow : OpenClaim := { program := "ytlchelgibilacaa", sum := "cbe945c25a8664dda30ea0a7a7cbf6c35519e059c2b17cc5f5c0f8cbc1e4fe7d", func := "payroll/payrolllaw35.BookReverses", spec := "bookReverses", unfollowed := true, recurses := true, plainKeys := false, apart := false }
def BookReversesSaid : Prop := bookReversesRow.holds Try.pinned (OpenSpec.ofChange bookReversesSpec)

/-- ITS FALSE NEIGHBOUR: 'it returns false'. Refute it at one input. -/
def bookReversesWrong : ChangeSpec := { name := "bookReverses", fn := fun _ => fun
  | [d1, d2] => { results := [.lit (.bool false)], args := [d1, d2] }
  | _ => none }
def BookReversesWrongFalsely : Prop := bookReversesRow.holds Try.pinned (OpenSpec.ofChange bookReversesWrong)

/-- 'payrolllaw35.BookNets': WHATEVER THE INPUT: true; the input reads as it did. -/
def bookNetsSpec : ChangeSpec := { name := "bookNets", fn := fun _ => fun
  | [d1, d2] => { results := [.lit (.bool true)], args := [d1, d2] }
  | _ => none }
def bookNetsRow : OpenClaim := { program := "ytlchelgibilacaa", sum := "cbe945c25a8664dda30ea0a7a7cbf6c35519e059c2b17cc5f5c0f8cbc1e4fe7d", func := "payroll/payrolllaw35.BookNets", spec := "bookNets", unfollowed := true, recurses := true, plainKeys := false, apart := false }
def BookNetsSaid : Prop := bookNetsRow.holds Try.pinned (OpenSpec.ofChange bookNetsSpec)

/-- ITS FALSE NEIGHBOUR: 'it returns false'. Refute it at one input. -/
def bookNetsWrong : ChangeSpec := { name := "bookNets", fn := fun _ => fun
  | [d1, d2] => { results := [.lit (.bool false)], args := [d1, d2] }
  | _ => none }
def BookNetsWrongFalsely : Prop := bookNetsRow.holds Try.pinned (OpenSpec.ofChange bookNetsWrong)

/- THE SECOND FORM. 'bulk': how many values and letters a reading holds, each counted each time it is reached (what is shared counts as often as it is met; a slice's spare places count too). A statement '..UptoSaid' is the law's where the arguments, and the package variables that the reading takes, are together of bulk at most 1048576: NARROWER than '..Said'. Prove '..Said' where nothing that the law and all that it calls make is longer than what came in: it says more and counts as full. Else prove '..UptoSaid'. A law counts once. -/
mutual
def uptoBulk {H : Type} : DataW H → Nat
  | .lit (.string bytes) => bytes.length + 1
  | .lit _ => 1
  | .nil => 1
  | .ptr d => uptoBulk d + 1
  | .slice elems spare => uptoBulkAll elems + uptoBulkAll spare + 1
  | .agg parts => uptoBulkAll parts + 1
  | .iface _ d => uptoBulk d + 1
  | .map entries => uptoBulkEntries entries + 1
  | .held _ => 1
def uptoBulkAll {H : Type} : List (DataW H) → Nat
  | [] => 0
  | d :: r => uptoBulk d + uptoBulkAll r
def uptoBulkEntries {H : Type} : List (Lit × DataW H) → Nat
  | [] => 0
  | x :: r => uptoBulkEntry x + uptoBulkEntries r
def uptoBulkEntry {H : Type} : Lit × DataW H → Nat
  | (.string bytes, d) => bytes.length + uptoBulk d + 1
  | (_, d) => uptoBulk d + 1
 end
def uptoSmall : (H : Type) → List (DataW H) → Bool := fun _ ds => decide (uptoBulkAll ds ≤ 1048576)
def OpenSpec.upto (s : _root_.Go.ChangeSpec) : _root_.Go.OpenSpec := { _root_.Go.OpenSpec.ofChange s with cond := some uptoSmall }

/-- 'payrolllaw35.BookLimits', WHERE WHAT IT READS IS OF BULK AT MOST 1048576: true; the input reads as it did. -/
def bookLimitsUptoRow : OpenClaim := { program := "ytlchelgibilacaa", sum := "cbe945c25a8664dda30ea0a7a7cbf6c35519e059c2b17cc5f5c0f8cbc1e4fe7d", func := "payroll/payrolllaw35.BookLimits", spec := "bookLimits", unfollowed := true, recurses := true, plainKeys := false, apart := false, narrowed := true }
def BookLimitsUptoSaid : Prop := bookLimitsUptoRow.holds Try.pinned (OpenSpec.upto bookLimitsSpec)

/-- 'payrolllaw35.BookValid', WHERE WHAT IT READS IS OF BULK AT MOST 1048576: true; the input reads as it did. -/
def bookValidUptoRow : OpenClaim := { program := "ytlchelgibilacaa", sum := "cbe945c25a8664dda30ea0a7a7cbf6c35519e059c2b17cc5f5c0f8cbc1e4fe7d", func := "payroll/payrolllaw35.BookValid", spec := "bookValid", unfollowed := true, recurses := true, plainKeys := false, apart := false, narrowed := true }
def BookValidUptoSaid : Prop := bookValidUptoRow.holds Try.pinned (OpenSpec.upto bookValidSpec)

/-- 'payrolllaw35.BookAdds', WHERE WHAT IT READS IS OF BULK AT MOST 1048576: true; the input reads as it did. -/
def bookAddsUptoRow : OpenClaim := { program := "ytlchelgibilacaa", sum := "cbe945c25a8664dda30ea0a7a7cbf6c35519e059c2b17cc5f5c0f8cbc1e4fe7d", func := "payroll/payrolllaw35.BookAdds", spec := "bookAdds", unfollowed := true, recurses := true, plainKeys := false, apart := false, narrowed := true }
def BookAddsUptoSaid : Prop := bookAddsUptoRow.holds Try.pinned (OpenSpec.upto bookAddsSpec)

/-- 'payrolllaw35.BookSums', WHERE WHAT IT READS IS OF BULK AT MOST 1048576: true; the input reads as it did. -/
def bookSumsUptoRow : OpenClaim := { program := "ytlchelgibilacaa", sum := "cbe945c25a8664dda30ea0a7a7cbf6c35519e059c2b17cc5f5c0f8cbc1e4fe7d", func := "payroll/payrolllaw35.BookSums", spec := "bookSums", unfollowed := true, recurses := true, plainKeys := false, apart := false, narrowed := true }
def BookSumsUptoSaid : Prop := bookSumsUptoRow.holds Try.pinned (OpenSpec.upto bookSumsSpec)

/-- 'payrolllaw35.BookUndoes', WHERE WHAT IT READS IS OF BULK AT MOST 1048576: true; the input reads as it did. -/
def bookUndoesUptoRow : OpenClaim := { program := "ytlchelgibilacaa", sum := "cbe945c25a8664dda30ea0a7a7cbf6c35519e059c2b17cc5f5c0f8cbc1e4fe7d", func := "payroll/payrolllaw35.BookUndoes", spec := "bookUndoes", unfollowed := true, recurses := true, plainKeys := false, apart := false, narrowed := true }
def BookUndoesUptoSaid : Prop := bookUndoesUptoRow.holds Try.pinned (OpenSpec.upto bookUndoesSpec)

/-- 'payrolllaw35.BookReverses', WHERE WHAT IT READS IS OF BULK AT MOST 1048576: true; the input reads as it did. -/
def bookReversesUptoRow : OpenClaim := { program := "ytlchelgibilacaa", sum := "cbe945c25a8664dda30ea0a7a7cbf6c35519e059c2b17cc5f5c0f8cbc1e4fe7d", func := "payroll/payrolllaw35.BookReverses", spec := "bookReverses", unfollowed := true, recurses := true, plainKeys := false, apart := false, narrowed := true }
def BookReversesUptoSaid : Prop := bookReversesUptoRow.holds Try.pinned (OpenSpec.upto bookReversesSpec)

/-- 'payrolllaw35.BookNets', WHERE WHAT IT READS IS OF BULK AT MOST 1048576: true; the input reads as it did. -/
def bookNetsUptoRow : OpenClaim := { program := "ytlchelgibilacaa", sum := "cbe945c25a8664dda30ea0a7a7cbf6c35519e059c2b17cc5f5c0f8cbc1e4fe7d", func := "payroll/payrolllaw35.BookNets", spec := "bookNets", unfollowed := true, recurses := true, plainKeys := false, apart := false, narrowed := true }
def BookNetsUptoSaid : Prop := bookNetsUptoRow.holds Try.pinned (OpenSpec.upto bookNetsSpec)

end Rows
end Go.Proofs.Ytlchelgibilacaa
