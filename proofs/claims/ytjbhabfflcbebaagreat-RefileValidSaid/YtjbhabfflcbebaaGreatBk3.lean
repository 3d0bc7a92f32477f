/- Contracts of package book: Net, AsOf, Undo. -/
import Derived.Test.YtjbhabfflcbebaaGreatBk2
namespace Go.Proofs.YtjbhabfflcbebaaGreat
open Go.RowKit

/-- what a posting adds to the net pay of an employee -/
def netOf (n : Int) (p : Pst) : Int := if p.emp = n ∧ p.ln.kind = 9 then p.ln.amt else 0
/-- the net pay of an employee, of postings -/
def netSum (n : Int) (l : List Pst) : Int := (l.map (netOf n)).sum
/-- the net pay of an employee, of a book -/
def netL (l : List Pst) (n : Int) : Int := if bookB l then netSum n l else 0
theorem netSum_snoc (n : Int) (l : List Pst) (k : Nat) (h : k < l.length) : netSum n (l.take (k + 1)) = netSum n (l.take k) + netOf n l[k] := by
  unfold netSum
  rw [List.take_succ_eq_append_getElem h, List.map_append, List.sum_append]
  simp
theorem amt_bound {p : Pst} (h : validB p = true) : -1000000000000 ≤ p.ln.amt ∧ p.ln.amt ≤ 1000000000000 := by
  simp [validB, formB, formedB, totB] at h
  omega
theorem netOf_bound {n : Int} {p : Pst} (h : validB p = true) : -1000000000000 ≤ netOf n p ∧ netOf n p ≤ 1000000000000 := by
  have := amt_bound h
  unfold netOf
  split <;> omega
theorem book_valid {l : List Pst} (h : bookB l = true) (k : Nat) (hk : k < l.length) : validB l[k] = true := by
  simp only [bookB, validsB, Bool.and_eq_true, List.all_eq_true] at h
  exact h.2.2 _ (List.getElem_mem hk)
theorem book_len {l : List Pst} (h : bookB l = true) : l.length ≤ 65536 := by
  simp [bookB] at h; omega
theorem netSum_bound {n : Int} {l : List Pst} (h : bookB l = true) (k : Nat) (hk : k ≤ l.length) : -(1000000000000 * (k : Int)) ≤ netSum n (l.take k) ∧ netSum n (l.take k) ≤ 1000000000000 * (k : Int) := by
  induction k with
  | zero => simp [netSum]
  | succ k ih =>
    rw [netSum_snoc n l k (by omega)]
    have h1 := ih (by omega)
    have h2 := netOf_bound (n := n) (book_valid h k (by omega))
    omega

/-- the postings up to a run -/
def upTo (r : Int) (l : List Pst) : List Pst := l.filter fun p => decide (p.run ≤ r)
def asOfL (l : List Pst) (r : Int) : List Pst := if bookB l then upTo r l else []
theorem upTo_snoc (r : Int) (l : List Pst) (k : Nat) (h : k < l.length) : upTo r (l.take (k + 1)) = upTo r (l.take k) ++ if l[k].run ≤ r then [l[k]] else [] := by
  unfold upTo
  rw [List.take_succ_eq_append_getElem h, List.filter_append]
  congr 1
  by_cases hr : l[k].run ≤ r <;> simp [hr]
theorem upTo_len (r : Int) (l : List Pst) (k : Nat) : (upTo r (l.take k)).length ≤ k := by
  unfold upTo
  exact Nat.le_trans (List.length_filter_le _ _) (List.length_take_le _ _)

end Go.Proofs.YtjbhabfflcbebaaGreat
