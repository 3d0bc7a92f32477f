/- Lists of returns: what is known of a period; in memory. -/
import Derived.Test.YtnkephafpebfkaaGreatDoorRtS
import Derived.Test.YtnkephafpebfkaaGreatDoorRow
import Derived.Test.YtnkephafpebfkaaGreatDoorSet
namespace Go.Proofs.YtnkephafpebfkaaGreatDoor
open Go.RowKit

/-- the returns of a period -/
def ofP (l : List Ret) (p : Int) : List Ret := l.filter fun r => decide (r.p = p)
/-- the last version of a period -/
def verP (l : List Ret) (p : Int) : Int := match (ofP l p).getLast? with
  | some r => r.v
  | none => 0
/-- the last lines of a period -/
def linP (l : List Ret) (p : Int) : List Ln := match (ofP l p).getLast? with
  | some r => r.l
  | none => []
/-- the last return of a period -/
def latP (l : List Ret) (p : Int) : Ret := match (ofP l p).getLast? with
  | some r => r
  | none => ⟨0, 0, []⟩
def hasP (l : List Ret) (p : Int) : Bool := !(ofP l p).isEmpty
theorem ofP_snoc (l : List Ret) (r : Ret) (p : Int) : ofP (l ++ [r]) p = if r.p = p then ofP l p ++ [r] else ofP l p := by
  unfold ofP
  rw [List.filter_append]
  by_cases h : r.p = p
  · simp [h]
  · simp [h]
theorem verP_lat (l : List Ret) (p : Int) : verP l p = (latP l p).v := by unfold verP latP; cases (ofP l p).getLast? <;> rfl
theorem linP_lat (l : List Ret) (p : Int) : linP l p = (latP l p).l := by unfold linP latP; cases (ofP l p).getLast? <;> rfl
theorem latP_snoc (l : List Ret) (r : Ret) (p : Int) : latP (l ++ [r]) p = if r.p = p then r else latP l p := by
  unfold latP
  rw [ofP_snoc]
  by_cases h : r.p = p
  · rw [if_pos h, if_pos h]; simp
  · rw [if_neg h, if_neg h]
theorem hasP_snoc (l : List Ret) (r : Ret) (p : Int) : hasP (l ++ [r]) p = if r.p = p then true else hasP l p := by
  unfold hasP
  rw [ofP_snoc]
  by_cases h : r.p = p
  · rw [if_pos h, if_pos h]; simp
  · rw [if_neg h, if_neg h]
theorem verP_snoc (l : List Ret) (r : Ret) (p : Int) : verP (l ++ [r]) p = if r.p = p then r.v else verP l p := by
  rw [verP_lat, latP_snoc, verP_lat]; split <;> rfl
theorem hasP_mem {l : List Ret} {p : Int} : hasP l p = true ↔ ∃ r ∈ l, r.p = p := by
  unfold hasP ofP
  simp [List.filter_eq_nil_iff]
theorem latP_mem {l : List Ret} {p : Int} (h : hasP l p = true) : latP l p ∈ l ∧ (latP l p).p = p := by
  unfold hasP at h
  unfold latP
  cases hl : (ofP l p).getLast? with
  | none => rw [List.getLast?_eq_none_iff] at hl; rw [hl] at h; cases h
  | some r =>
    have hm := List.mem_of_getLast? hl
    unfold ofP at hm
    rw [List.mem_filter] at hm
    exact ⟨hm.1, by simpa using hm.2⟩
theorem latP_no {l : List Ret} {p : Int} (h : hasP l p = false) : latP l p = ⟨0, 0, []⟩ := by
  unfold hasP at h
  unfold latP
  simp only [Bool.not_eq_false', List.isEmpty_iff] at h
  rw [h]; rfl

/-- returns as cells -/
def rets (ps : List (Ret × Value)) : List (List Value) := ps.map fun p => (p.1.vals p.2).toList
theorem rets_len (ps : List (Ret × Value)) : (rets ps).length = ps.length := by simp [rets]
theorem rets_append (a b : List (Ret × Value)) : rets (a ++ b) = rets a ++ rets b := by simp [rets]
theorem rets_at {ps : List (Ret × Value)} {k : Nat} (h : k < ps.length) : (rets ps)[k]? = some ((ps[k]).1.vals (ps[k]).2).toList := by simp [rets, h]
theorem CellsAt.ret {w : World} {b off : Nat} {ps : List (Ret × Value)} (h : CellsAt w 3 b off (rets ps)) {k : Nat} (hk : k < ps.length) :
    w.cell? ⟨b, off + k * 3, none⟩ = some (.int .i64 (ps[k]).1.p) ∧ w.cell? ⟨b, off + k * 3 + 1, none⟩ = some (.int .i64 (ps[k]).1.v) ∧ w.cell? ⟨b, off + k * 3 + 2, none⟩ = some (ps[k]).2 :=
  ⟨h.2 k _ (rets_at hk) 0 _ rfl, h.2 k _ (rets_at hk) 1 _ rfl, h.2 k _ (rets_at hk) 2 _ rfl⟩
theorem rowRet : RowTy Tryz.prog 47 25 3 40 := by
  obtain ⟨i, hi, hz, hs, hb⟩ := info_parts (show (Tryz.prog.info? 25).map (fun i => (i.zero, i.size, i.bytes)) = some (some (.agg #[.int .i64 0, .int .i64 0, .slice none 0 0]), 3, 40) by kernel_rfl)
  exact ⟨Tryz.underlying47, ⟨i, _, hi, hz, hs, hb, rfl⟩, by omega⟩
/-- a slice of returns -/
structure RetsAt (w : World) (v : Value) (ps : List (Ret × Value)) : Prop where
  sl : Sl w 3 v (rets ps)
  ln : ∀ p ∈ ps, Sl w 3 p.2 (lns p.1.l)
theorem RetsAt.below {w w' : World} {v : Value} {ps : List (Ret × Value)} (h : RetsAt w v ps) (hb : Below w.heap.size w w') : RetsAt w' v ps := ⟨h.sl.below hb, fun p hp => (h.ln p hp).below hb⟩
theorem Sl.is {w : World} {sz : Nat} {v : Value} {es : List (List Value)} (h : Sl w sz v es) : ∃ A n c, v = .slice A n c := by
  obtain ⟨A, c, h, _⟩ := h; exact ⟨A, _, c, h⟩
theorem rets_wide {ps : List (Ret × Value)} (h : ∀ p ∈ ps, ∃ A n c, p.2 = .slice A n c) : Wide 3 (rets ps) := fun x hx => by
  obtain ⟨p, hp, rfl⟩ := List.mem_map.1 hx
  obtain ⟨A, n, c, e⟩ := h p hp
  refine ⟨rfl, fun u hu => ?_⟩
  simp only [Ret.vals, List.mem_cons, List.not_mem_nil, or_false] at hu
  rcases hu with rfl | rfl | rfl
  · rfl
  · rfl
  · rw [e]; rfl
theorem RetsAt.wide {w : World} {v : Value} {ps : List (Ret × Value)} (h : RetsAt w v ps) : Wide 3 (rets ps) := rets_wide fun p hp => (h.ln p hp).is
theorem Sl.head {w : World} {sz n cap : Nat} {A : Option Addr} {es : List (List Value)} (h : Sl w sz (.slice A n cap) es) (k : Nat) (hk : k ≤ n) : Sl w sz (.slice A k cap) (es.take k) := by
  obtain ⟨A', cap', hv, h1, h2, h0, h3⟩ := h
  injection hv with hv1 hv2 hv3
  subst hv1 hv2 hv3
  have hl : (es.take k).length = k := by rw [List.length_take]; omega
  refine ⟨_, cap, by rw [hl], by omega, h2, h0, ?_⟩
  rcases h3 with rfl | ⟨b', off', hA, hcell⟩
  · exact .inl (by simp)
  · refine .inr ⟨b', off', hA, hcell.1, fun i e hi => hcell.2 i e ?_⟩
    rw [List.getElem?_take] at hi
    split at hi
    · exact hi
    · cases hi
theorem Sl.from {w : World} {sz n cap : Nat} {A : Option Addr} {es : List (List Value)} (h : Sl w sz (.slice A n cap) es) (j : Nat) (hj : j ≤ n) :
    Sl w sz (.slice (if cap = j then A else A.map (·.add (j * sz))) (n - j) (cap - j)) (es.drop j) := by
  obtain ⟨A', cap', he, h1, h2, h3, h4⟩ := h
  injection he with e1 e2 e3
  subst e1 e2 e3
  refine ⟨_, cap - j, by rw [List.length_drop], by rw [List.length_drop]; omega, by omega, fun hA => ?_, ?_⟩
  · cases A with
    | none => have := h3 rfl; omega
    | some a =>
      exfalso
      by_cases hc : cap = j
      · rw [if_pos hc] at hA; cases hA
      · rw [if_neg hc] at hA; cases hA
  · rcases h4 with rfl | ⟨b, off, rfl, h5, h6⟩
    · exact .inl (by simp)
    · by_cases hc : cap = j
      · left; rw [List.drop_of_length_le (by omega)]
      · right
        refine ⟨b, off + j * sz, ?_, h5, fun i e hi k u hk => ?_⟩
        · rw [if_neg hc]
          simp only [Option.map_some, Addr.add]
          by_cases h0 : j * sz = 0
          · rw [if_pos h0, h0]; rfl
          · rw [if_neg h0]
        · rw [List.getElem?_drop] at hi
          have := h6 (j + i) e hi k u hk
          rw [Nat.add_mul] at this
          rw [← this]
          congr 2
          omega
/-- no number and text lie side by side in block X: no line lies there -/
def NoLn (w : World) (X : Nat) : Prop := ∀ off x s, ¬ (w.cell? ⟨X, off, none⟩ = some (.int .i64 x) ∧ w.cell? ⟨X, off + 1, none⟩ = some (.string s))
theorem Sl.ln_far {w w' : World} {X : Nat} {v : Value} {l : List Ln} (h : Sl w 3 v (lns l)) (hg : w.grownBy w' (some X)) (hx : NoLn w X) : Sl w' 3 v (lns l) := by
  obtain ⟨A, cap, rfl, h1, h2, h0, h3⟩ := h
  refine ⟨A, cap, rfl, h1, h2, h0, ?_⟩
  rcases h3 with h3 | ⟨b, off, rfl, hc⟩
  · exact .inl h3
  · cases l with
    | nil => exact .inl rfl
    | cons p r =>
      have hbX : b ≠ X := fun e => by
        have h0 := hc.2 0 p.vals rfl 0 _ rfl
        have h1 := hc.2 0 p.vals rfl 1 _ rfl
        rw [e] at h0 h1
        exact hx (off + 0 * 3) _ _ ⟨h0, h1⟩
      exact .inr ⟨b, off, rfl, Nat.lt_of_lt_of_le hc.1 hg.size, fun i x hi j u hu => (World.cell?_of_block (w := w) (a := ⟨b, _, none⟩) (hg.block b hc.1 (fun e => hbX (Option.some.inj e)))).trans (hc.2 i x hi j u hu)⟩
theorem noLn_row1 {w : World} {X : Nat} {t : TypeId} {v : Value} (h : Row w X t #[v]) : NoLn w X := fun off x s hh => by
  rw [h.cell, h.cell] at hh
  have := hh.2
  simp at this
theorem noLn_map {w : World} {M n : Nat} {a : Array MapEntry} (h : w.heap[M]? = some (.map a n)) : NoLn w M := fun off x s hh => by
  have := hh.1
  simp [World.cell?, h] at this
end Go.Proofs.YtnkephafpebfkaaGreatDoor
