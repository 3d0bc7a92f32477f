/- Lists of ranges and of timelines as cells. -/
import Derived.Test.YtaafihdegnaokaaGreatDoorChgX
namespace Go.Proofs.YtaafihdegnaokaaGreatDoor
open Go.RowKit

/-- a range as cells -/
def prV (p : Int × Int) : List Value := [.int .i64 p.1, .int .i64 p.2]
def prs (R : List (Int × Int)) : List (List Value) := R.map prV
/-- a slice of slices of changes -/
structure Tls (w : World) (v : Value) (xs : List (Value × List Chg)) : Prop where
  sl : Sl w 1 v (xs.map fun x => [x.1])
  each : ∀ x ∈ xs, Sl w 4 x.1 (chgs x.2)
theorem prs_len (R : List (Int × Int)) : (prs R).length = R.length := by simp [prs]
theorem prs_at {R : List (Int × Int)} {k : Nat} (h : k < R.length) : (prs R)[k]? = some (prV R[k]) := by simp [prs, h]
theorem prs_append (l m : List (Int × Int)) : prs (l ++ m) = prs l ++ prs m := by simp [prs]
theorem Tls.below {w w' : World} {v : Value} {xs : List (Value × List Chg)} (h : Tls w v xs) (hb : Below w.heap.size w w') : Tls w' v xs := ⟨h.sl.below hb, fun x hx => (h.each x hx).below hb⟩
end Go.Proofs.YtaafihdegnaokaaGreatDoor
