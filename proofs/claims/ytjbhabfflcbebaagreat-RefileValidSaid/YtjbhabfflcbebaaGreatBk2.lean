/- Contracts of package book: Add. -/
import Derived.Test.YtjbhabfflcbebaaGreatBk1
namespace Go.Proofs.YtjbhabfflcbebaaGreat
open Go.RowKit

/-- the error of Add -/
def addE (l m : List Pst) : Int :=
  if bookB l && validsB m then (if l.length + m.length ≤ 65536 then (if ascB (l ++ m) then 0 else 15) else 18) else 1
/-- the list of Add -/
def addL (l m : List Pst) : List Pst := if addE l m = 0 then l ++ m else []
theorem psts_append (l m : List Pst) : psts (l ++ m) = psts l ++ psts m := by simp [psts]

end Go.Proofs.YtjbhabfflcbebaaGreat
