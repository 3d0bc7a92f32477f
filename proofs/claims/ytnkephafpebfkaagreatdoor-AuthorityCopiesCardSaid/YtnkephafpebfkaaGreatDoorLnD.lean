/- Lines of payslips: which have the form of a line. -/
import Derived.Test.YtnkephafpebfkaaGreatDoorTokSpec
import Derived.Test.YtnkephafpebfkaaGreatDoorKit
namespace Go.Proofs.YtnkephafpebfkaaGreatDoor
open Go.RowKit

/-- a sum of amounts -/
def totB (n : Int) : Bool := decide (-1000000000000 ≤ n) && decide (n ≤ 1000000000000)
/-- a kind without a code -/
def bareB (k : Int) : Bool := decide (k = 6) || (decide (k = 9) || decide (k = 10))
/-- a line of a payslip -/
structure Ln where
  kind : Int
  code : ByteArray
  amt : Int
/-- its cells -/
def Ln.vals (l : Ln) : List Value := [.int .i64 l.kind, .string l.code, .int .i64 l.amt]
/-- it has the form of a line, but that its amount may be 0 -/
def formedB (l : Ln) : Bool := decide (1 ≤ l.kind) && (decide (l.kind ≤ 10) && (totB l.amt && (if bareB l.kind then decide (l.code.size = 0) else nameB l.code.data.toList)))
/-- it has the form of a line -/
def formB (l : Ln) : Bool := formedB l && decide (l.amt ≠ 0)

end Go.Proofs.YtnkephafpebfkaaGreatDoor
