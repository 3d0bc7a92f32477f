/- Contracts of the reference of payslip: Less, put. -/
import Derived.Test.YtjbhabfflcbebaaGreatColS
import Derived.Test.YtjbhabfflcbebaaGreatExt
import Derived.Test.YtjbhabfflcbebaaGreatRow
import Derived.Deep.CutBlock
import Derived.Deep.DeepCutAuto
import Derived.RegionTactic
import Derived.IntWalk
namespace Go.Proofs.YtjbhabfflcbebaaGreat
open Go.RowKit

set_option maxHeartbeats 800000 in
theorem Less_any (a b : Ln) (w : World) :
    Calls Tryz.prog 64 #[.agg #[.int .i64 a.kind, .string a.code, .int .i64 a.amt], .agg #[.int .i64 b.kind, .string b.code, .int .i64 b.amt]] w fun e w' => e = .returned (.bool (lnLt a b)) ∧ Below w.heap.size w w' := by
  by_cases h1 : a.kind < b.kind
  · have H : Hid (lnLt a b = true) := by simp [Hid, lnLt, h1]
    have d1 : decide (a.kind < b.kind) = true := decide_eq_true h1
    go_enter Tryz.func64, Tryz.ntmps64
    go_wp2
    go_ret
    exact ⟨ret_bool H.out.symm, ((Below.refl _ _).alloc (Nat.le_refl _) _).alloc (by simp) _⟩
  have d1 : decide (a.kind < b.kind) = false := decide_eq_false h1
  cases e2 : (a.kind == b.kind)
  · have H : Hid (lnLt a b = false) := by simp [Hid, lnLt, h1, show ¬ a.kind = b.kind by simpa using e2]
    go_enter Tryz.func64, Tryz.ntmps64
    go_wp2
    go_ret
    exact ⟨ret_bool H.out.symm, ((Below.refl _ _).alloc (Nat.le_refl _) _).alloc (by simp) _⟩
  · have H : Hid (lnLt a b = Op.bytesLess a.code.toList b.code.toList) := by
      rw [Hid, bytesLess_eq]
      simp [lnLt, show a.kind = b.kind by simpa using e2]
    go_enter Tryz.func64, Tryz.ntmps64
    go_wp2
    go_ret
    exact ⟨ret_bool H.out.symm, ((Below.refl _ _).alloc (Nat.le_refl _) _).alloc (by simp) _⟩

/-- a line is put into ordered lines -/
def putR (x : Ln) : List Ln → List Ln
  | [] => [x]
  | a :: r => if lnLt a x then a :: putR x r else if a.kind = x.kind ∧ a.code = x.code then ⟨x.kind, x.code, x.amt + a.amt⟩ :: r else x :: a :: r
theorem putR_same {x : Ln} : ∀ {l : List Ln} {j : Nat} (hj : j < l.length), (∀ i (h : i < j), lnLt (l[i]'(by omega)) x = true) → lnLt l[j] x = false → (l[j].kind = x.kind ∧ l[j].code = x.code) → putR x l = l.take j ++ ⟨x.kind, x.code, x.amt + l[j].amt⟩ :: l.drop (j + 1)
  | a :: r, 0, _, _, h2, h3 => by
    simp only [List.getElem_cons_zero] at h2 h3
    simp [putR, h2, h3]
  | a :: r, j + 1, hj, h1, h2, h3 => by
    have h0 := h1 0 (by omega)
    simp only [List.getElem_cons_zero] at h0
    have := putR_same (x := x) (l := r) (j := j) (by simpa using hj) (fun i hi => by have := h1 (i + 1) (by omega); simpa using this) (by simpa using h2) (by simpa using h3)
    simp [putR, h0, this]
theorem putR_new {x : Ln} : ∀ {l : List Ln} {j : Nat} (hj : j ≤ l.length), (∀ i (h : i < j), lnLt (l[i]'(by omega)) x = true) → (∀ h : j < l.length, lnLt l[j] x = false ∧ ¬ (l[j].kind = x.kind ∧ l[j].code = x.code)) → putR x l = l.take j ++ x :: l.drop j
  | [], 0, _, _, _ => rfl
  | a :: r, 0, _, _, h2 => by
    have h2 := h2 (by simp)
    simp only [List.getElem_cons_zero] at h2
    simp [putR, h2.1, h2.2]
  | a :: r, j + 1, hj, h1, h2 => by
    have h0 := h1 0 (by omega)
    simp only [List.getElem_cons_zero] at h0
    have := putR_new (x := x) (l := r) (j := j) (by simpa using hj) (fun i hi => by have := h1 (i + 1) (by omega); simpa using this) (fun h => by have := h2 (by simpa using h); simpa using this)
    simp [putR, h0, this]
  | [], j + 1, hj, _, _ => by simp at hj
/-- a line in a box -/
def Box (w : World) (B : Nat) (x : Ln) : Prop := Row w B 51 #[.int .i64 x.kind, .string x.code, .int .i64 x.amt]
theorem Box.cells {w : World} {B : Nat} {x : Ln} (h : Box w B x) : w.cell? ⟨B, 0, none⟩ = some (.int .i64 x.kind) ∧ w.cell? ⟨B, 1, none⟩ = some (.string x.code) ∧ w.cell? ⟨B, 2, none⟩ = some (.int .i64 x.amt) ∧ w.frozen? ⟨B, 2, none⟩ = false ∧ B < w.heap.size :=
  ⟨Row.cell h 0, Row.cell h 1, Row.cell h 2, Row.frozen h 2, Row.lt h⟩
theorem Box.below {w w' : World} {B C : Nat} {x : Ln} (h : Box w B x) (hb : Below C w w') (hB : B < C) : Box w' B x := Row.below h hb hB
theorem Box.add {w : World} {B : Nat} {x : Ln} (h : Box w B x) (a : Int) : Box (w.setCell ⟨B, 2, none⟩ (.int .i64 a)) B ⟨x.kind, x.code, a⟩ := Row.set h 2 _
/-- the tail of a slice, as the code makes it -/
theorem Sl.from {w : World} {sz n cap : Nat} {A : Option Addr} {es : List (List Value)} (h : Sl w sz (.slice A n cap) es) (j : Nat) (hj : j ≤ n) :
    Sl w sz (.slice (if cap = j then A else A.map (·.add (j * sz))) (n - j) (cap - j)) (es.drop j) := by
  obtain ⟨A', cap', he, h1, h2, h3, h4⟩ := h
  injection he with e1 e2 e3
  subst e1 e2 e3
  refine ⟨_, cap - j, by rw [List.length_drop], by rw [List.length_drop]; omega, by omega, fun hA => ?_, ?_⟩
  · cases A with
    | none => have := h3 rfl; omega
    | some a =>
      exfalso
      by_cases hc : cap = j
      · rw [if_pos hc] at hA; cases hA
      · rw [if_neg hc] at hA; cases hA
  · rcases h4 with rfl | ⟨b, off, rfl, h5, h6⟩
    · exact .inl (by simp)
    · by_cases hc : cap = j
      · left; rw [List.drop_of_length_le (by omega)]
      · right
        refine ⟨b, off + j * sz, ?_, h5, fun i e hi k u hk => ?_⟩
        · rw [if_neg hc]
          simp only [Option.map_some, Addr.add]
          by_cases h0 : j * sz = 0
          · rw [if_pos h0, h0]; rfl
          · rw [if_neg h0]
        · rw [List.getElem?_drop] at hi
          have := h6 (j + i) e hi k u hk
          rw [Nat.add_mul] at this
          rw [← this]
          congr 2
          omega

/-- the line at place j has the title of x -/
def sameAt (l : List Ln) (x : Ln) (j : Nat) : Bool := match l[j]? with
  | some a => (a.kind == x.kind) && (a.code.toList == x.code.toList)
  | none => false
theorem sameAt_no {l : List Ln} {x : Ln} {j : Nat} (h : ¬ j < l.length) : sameAt l x j = false := by simp [sameAt, h]
theorem sameAt_at {l : List Ln} {x : Ln} {j : Nat} (h : j < l.length) : sameAt l x j = ((l[j].kind == x.kind) && (l[j].code.toList == x.code.toList)) := by simp [sameAt, h]
/-- in the middle of put -/
def PutMid (w : World) (base B T : Nat) (t : Value) (l : List Ln) (x : Ln) (j : Nat) (i : Value) (wx : World) : Prop :=
  ∃ (y : Ln) (k : Nat), i = .int .i64 k ∧ k ≤ l.length ∧ l.take j ++ y :: l.drop k = putR x l ∧ Box wx B y ∧ Own wx base T 3 t (lns (l.take j)) ∧ Below w.heap.size w wx ∧ base ≤ wx.heap.size
end Go.Proofs.YtjbhabfflcbebaaGreat
