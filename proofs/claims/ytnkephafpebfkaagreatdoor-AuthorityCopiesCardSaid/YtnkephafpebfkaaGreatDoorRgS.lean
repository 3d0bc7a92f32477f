/- Valid lists of returns, as they are drawn; lists of returns of the call's own. -/
import Derived.Test.YtnkephafpebfkaaGreatDoorRLt
import Derived.Test.YtnkephafpebfkaaGreatDoorGb
import Derived.Test.YtnkephafpebfkaaGreatDoorDk
namespace Go.Proofs.YtnkephafpebfkaaGreatDoor
open Go.RowKit

/-- each return is valid and the next one of its period -/
def GoodRs (l : List Ret) : Prop := ∀ i (h : i < l.length), retB l[i] = true ∧ (0 ≤ (l[i]).p ∧ (l[i]).p ≤ 2) ∧ (l[i]).v = verP (l.take i) (l[i]).p + 1 ∧ (l[i]).l.length ≤ 3
theorem GoodRs.nil : GoodRs [] := fun i h => by simp at h
theorem GoodRs.snoc {l : List Ret} {r : Ret} (h : GoodRs l) (h1 : retB r = true) (h2 : 0 ≤ r.p ∧ r.p ≤ 2) (h3 : r.v = verP l r.p + 1) (h4 : r.l.length ≤ 3) : GoodRs (l ++ [r]) := fun i hi => by
  by_cases hl : i < l.length
  · rw [List.getElem_append_left hl, List.take_append_of_le_length (by omega)]
    exact h i hl
  · have : i = l.length := by simp at hi; omega
    subst this
    rw [List.getElem_concat_length rfl, List.take_append_of_le_length (Nat.le_refl _), List.take_length]
    exact ⟨h1, h2, h3, h4⟩
theorem GoodRs.take {l : List Ret} (h : GoodRs l) (k : Nat) : GoodRs (l.take k) := fun i hi => by
  have hi' : i < l.length := by rw [List.length_take] at hi; omega
  have hik : i < k := by rw [List.length_take] at hi; omega
  rw [List.getElem_take, List.take_take, show min i k = i by omega]
  exact h i hi'
theorem GoodRs.ver : ∀ (n : Nat) {l : List Ret}, GoodRs l → l.length = n → ∀ p, 0 ≤ verP l p ∧ verP l p ≤ n
  | 0, l, h, hl, p => by
    rw [List.eq_nil_of_length_eq_zero hl, verP_lat]
    exact ⟨by simp [latP, ofP], by simp [latP, ofP]⟩
  | n + 1, l, h, hl, p => by
    have e : l = l.take n ++ [l[n]'(by omega)] := by
      conv => lhs; rw [← List.take_length (l := l), hl]
      rw [List.take_succ_eq_append_getElem (by omega)]
    have ih := GoodRs.ver n (h.take n) (by rw [List.length_take]; omega)
    have hn := h n (by omega)
    rw [e, verP_snoc]
    split
    · have := ih (l[n]'(by omega)).p
      rw [hn.2.2.1]; omega
    · have := ih p
      omega
theorem GoodRs.mem {l : List Ret} (h : GoodRs l) {r : Ret} (hr : r ∈ l) : retB r = true ∧ (0 ≤ r.p ∧ r.p ≤ 2) ∧ r.l.length ≤ 3 := by
  obtain ⟨i, hi, rfl⟩ := List.getElem_of_mem hr
  have := h i hi
  exact ⟨this.1, this.2.1, this.2.2.2⟩
theorem GoodRs.lin {l : List Ret} (h : GoodRs l) (p : Int) : (linP l p).length ≤ 3 := by
  rw [linP_lat]
  cases hh : hasP l p
  · rw [latP_no hh]; simp
  · exact (h.mem (latP_mem hh).1).2.2
/-- slices of two types lie in two blocks -/
theorem own_types {w : World} {b1 b2 e1 e2 s1 s2 : Nat} {v1 v2 : Value} {l1 l2 : List (List Value)} (h1 : Own w b1 e1 s1 v1 l1) (h2 : Own w b2 e2 s2 v2 l2) (he : e1 ≠ e2) : v1.ownBlock = none ∨ v1.ownBlock ≠ v2.ownBlock := by
  cases hv1 : v1.ownBlock with
  | none => exact .inl rfl
  | some g =>
    refine .inr fun e => ?_
    rcases h1.1.2 with ⟨rfl, _⟩ | ⟨g1, c1, cur1, rfl, _, hg1, _⟩
    · simp [Value.ownBlock] at hv1
    · rcases h2.1.2 with ⟨rfl, _⟩ | ⟨g2, c2, cur2, rfl, _, hg2, _⟩
      · simp [Value.ownBlock] at e
      · simp only [Value.ownBlock, Option.some.injEq] at hv1 e
        subst hv1
        rw [← e, hg1] at hg2
        simp only [Option.some.injEq, Obj.cells.injEq] at hg2
        exact he hg2.2.1
theorem Own.keepD2 {w w' : World} {base e sz D : Nat} {v : Value} {es : List (List Value)} (h : Own w base e sz v es) (hg : w.grownBy w' (Option.some D)) (hD : D < base) : Own w' base e sz v es :=
  h.keepG hg (by
    cases hv : v.ownBlock with
    | none => exact .inl rfl
    | some g => exact .inr fun e => by have := (h.1.lt g hv).1; injection e with e; omega)
/-- returns of the call's own -/
structure RetsOwn (w : World) (base : Nat) (v : Value) (ps : List (Ret × Value)) : Prop where
  own : Own w base 25 3 v (rets ps)
  ln : ∀ p ∈ ps, Own w base 56 3 p.2 (lns p.1.l)
theorem RetsOwn.at {w : World} {base : Nat} {v : Value} {ps : List (Ret × Value)} (h : RetsOwn w base v ps) : RetsAt w v ps := ⟨h.own.sl (by omega), fun p hp => (h.ln p hp).sl (by omega)⟩
theorem RetsOwn.kept {w w' : World} {base : Nat} {v : Value} {ps : List (Ret × Value)} (h : RetsOwn w base v ps) (hb : Below w.heap.size w w') : RetsOwn w' base v ps := ⟨h.own.kept hb, fun p hp => (h.ln p hp).kept hb⟩
theorem RetsOwn.keepD {w w' : World} {base D : Nat} {v : Value} {ps : List (Ret × Value)} (h : RetsOwn w base v ps) (hg : w.grownBy w' (some D)) (hD : D < base) : RetsOwn w' base v ps := ⟨h.own.keepD2 hg hD, fun p hp => (h.ln p hp).keepD2 hg hD⟩
theorem RetsOwn.more {w : World} {base base' : Nat} {v : Value} {ps : List (Ret × Value)} (h : RetsOwn w base v ps) (hb : base' ≤ base) : RetsOwn w base' v ps := ⟨h.own.more hb, fun p hp => (h.ln p hp).more hb⟩
theorem rets_one (r : Ret) (v : Value) (h : ∃ A n c, v = .slice A n c) : Wide 3 (rets [(r, v)]) := rets_wide fun p hp => by rw [List.mem_singleton.1 hp]; exact h
/-- a return appended -/
theorem RetsOwn.app {w W w' : World} {base : Nat} {v v' vl : Value} {ps : List (Ret × Value)} {r : Ret} (h : RetsOwn w base v ps) (hW : Below w.heap.size w W) (hl : Own w base 56 3 vl (lns r.l))
    (ho : Own w' base 25 3 v' (rets ps ++ rets [(r, vl)])) (hg : W.grownBy w' v.ownBlock) : RetsOwn w' base v' (ps ++ [(r, vl)]) := by
  have h2 := h.kept hW
  refine ⟨by rw [rets_append]; exact ho, fun p hp => ?_⟩
  rcases List.mem_append.1 hp with hp | hp
  · exact (h2.ln p hp).keepG hg (own_types (h2.ln p hp) h2.own (by decide))
  · rw [List.mem_singleton.1 hp]
    exact (hl.kept hW).keepG hg (own_types (hl.kept hW) h2.own (by decide))
/-- the lines drawn so far: of the kinds below k -/
structure GoodA (l : List Ln) (k : Int) : Prop where
  ord : ordB l = true
  lo : ∀ y ∈ l, filedB y.kind = true ∧ y.kind < k ∧ (1 ≤ y.amt ∧ y.amt ≤ 1000)
  len : (l.length : Int) + 4 ≤ k
theorem GoodA.nil : GoodA [] 4 := ⟨rfl, (fun _ h => by cases h), by simp⟩
theorem GoodA.skip {l : List Ln} {k : Int} (h : GoodA l k) : GoodA l (k + 1) := ⟨h.ord, fun y hy => ⟨(h.lo y hy).1, by have := (h.lo y hy).2.1; omega, (h.lo y hy).2.2⟩, by have := h.len; omega⟩
theorem GoodA.snoc {l : List Ln} {k : Int} (h : GoodA l k) {x : Ln} (hk : x.kind = k) (hf : filedB k = true) (hx : formB x = true) (ha : 1 ≤ x.amt ∧ x.amt ≤ 1000) : GoodA (l ++ [x]) (k + 1) := by
  have ho := (ordB_iff l).1 h.ord
  refine ⟨(ordB_iff _).2 ⟨fun j hj => ?_, fun j hj => ?_⟩, fun y hy => ?_, by have := h.len; simp; omega⟩
  · by_cases hl : j < l.length
    · rw [List.getElem_append_left hl]; exact ho.1 j hl
    · have : j = l.length := by simp at hj; omega
      subst this
      rw [List.getElem_concat_length rfl]; exact hx
  · have hjl : j < l.length := by simp at hj; omega
    rw [List.getElem_append_left hjl]
    by_cases hl : j + 1 < l.length
    · rw [List.getElem_append_left hl]; exact ho.2 j hl
    · have e : (l ++ [x])[j + 1] = x := by
        have : j + 1 = l.length := by simp at hj; omega
        simp [this]
      rw [e, lnLt_iff]
      have := (h.lo _ (List.getElem_mem hjl)).2.1
      exact .inl (by omega)
  · rcases List.mem_append.1 hy with hy | hy
    · exact ⟨(h.lo y hy).1, by have := (h.lo y hy).2.1; omega, (h.lo y hy).2.2⟩
    · rw [List.mem_singleton.1 hy, hk]; exact ⟨hf, by omega, ha⟩
theorem GoodA.ret {l : List Ln} (h : GoodA l 7) {p v : Int} (hp : 0 ≤ p ∧ p ≤ 84005) (hv : 1 ≤ v ∧ v ≤ 65536) : retB ⟨p, v, l⟩ = true :=
  (retB_iff _).2 ⟨hp.1, hp.2, hv.1, hv.2, by have := h.len; simp only; omega, fun x hx => (h.lo x hx).1, h.ord⟩
end Go.Proofs.YtnkephafpebfkaaGreatDoor
