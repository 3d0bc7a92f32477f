/- Inserting into sorted lists of changes, as the reference does: no program in sight. -/
import Derived.Test.YtnmbaeahnfbfiaaChgT
namespace Go.Proofs.Ytnmbaeahnfbfiaa

/-- where a change is inserted -/
theorem insC_at {c : Chg} : ∀ {l : List Chg} {k : Nat} (_ : k ≤ l.length) (_ : ∀ j (hj : j < l.length), j < k → ltC l[j] c) (_ : ∀ h : k < l.length, ¬ ltC l[k] c), (l[k]? = some c → insC c l = l) ∧ (¬ l[k]? = some c → insC c l = l.take k ++ c :: l.drop k)
  | [], k, hk, _, _ => by
    have : k = 0 := by simpa using hk
    subst this; simp [insC]
  | x :: r, 0, _, _, h2 => by
    have h := h2 (by simp)
    simp only [List.getElem_cons_zero] at h
    simp only [List.getElem?_cons_zero, Option.some.injEq, List.take_zero, List.nil_append, List.drop_zero]
    constructor
    · intro e
      subst e
      unfold insC
      rw [if_neg (ltC_irr x), if_neg (ltC_irr x)]
    · intro e
      have hc : ltC c x := Classical.byContradiction fun h' => e (ltC_total h h')
      unfold insC
      rw [if_neg h, if_pos hc]
  | x :: r, k + 1, hk, h1, h2 => by
    have hx := h1 0 (by simp) (by omega)
    simp only [List.getElem_cons_zero] at hx
    have ih := insC_at (c := c) (l := r) (k := k) (by simpa using hk) (fun j hj hjk => h1 (j + 1) (by simpa using hj) (by omega)) (fun h => h2 (by simpa using h))
    have e1 : insC c (x :: r) = x :: insC c r := by
      conv => lhs; unfold insC
      rw [if_pos hx]
    simp only [List.getElem?_cons_succ]
    exact ⟨fun h => by rw [e1, ih.1 h], fun h => by rw [e1, ih.2 h]; simp⟩
theorem ascC_snoc (l : List Chg) (c : Chg) : ascC (l ++ [c]) = insC c (ascC l) := by rw [ascC, List.foldl_append]; rfl
theorem asc_days {l : List Chg} (h : l.Pairwise (fun a b => a.f < b.f)) : l.Pairwise ltC := h.imp fun hab => .inl hab
/-- what in has after k changes -/
def InTo (l : List Chg) (kn : Int) (k : Nat) (o : List Chg) : Prop := o.Pairwise (fun a b => a.f < b.f) ∧ ∀ c, c ∈ o ↔ c ∈ l.take k ∧ pB l kn c = true
theorem inTo_start (l : List Chg) (kn : Int) : InTo l kn 0 [] := ⟨.nil, fun c => by simp⟩
theorem inTo_end {l o : List Chg} {kn : Int} {k : Nat} (h : InTo l kn k o) (hk : l.length ≤ k) : o = inC l kn := by
  refine asc_unique (asc_days h.1) (asc_inC l kn) fun x => ?_
  rw [h.2, List.take_of_length_le hk, mem_inC, pB, Bool.and_eq_true, Bool.not_eq_true']
theorem take_mem {l : List Chg} {k : Nat} (hk : k < l.length) {c : Chg} : c ∈ l.take (k + 1) ↔ c ∈ l.take k ∨ c = l[k] := by
  rw [List.take_succ_eq_append_getElem hk, List.mem_append, List.mem_singleton]
theorem inTo_skip {l o : List Chg} {kn : Int} {k : Nat} (h : InTo l kn k o) (hk : k < l.length) (hp : pB l kn l[k] = false) : InTo l kn (k + 1) o :=
  ⟨h.1, fun c => by
    rw [h.2, take_mem hk]
    constructor
    · rintro ⟨h1, h2⟩; exact ⟨.inl h1, h2⟩
    · rintro ⟨h1 | h1, h2⟩
      · exact ⟨h1, h2⟩
      · rw [h1, hp] at h2; cases h2⟩
theorem pB_cnt {l : List Chg} {kn : Int} {c : Chg} (h : pB l kn c = true) : cntB l kn c = true := by
  rw [pB, Bool.and_eq_true] at h; exact h.1
theorem inTo_same {l o : List Chg} {kn : Int} {k j : Nat} (h : InTo l kn k o) (hk : k < l.length) (hp : pB l kn l[k] = true) (hj : j < o.length) (hf : (o[j]).f = (l[k]).f) : InTo l kn (k + 1) o := by
  have ho := (h.2 o[j]).1 (List.getElem_mem hj)
  have he : o[j] = l[k] := cnt_unique (List.mem_of_mem_take ho.1) (List.getElem_mem hk) (pB_cnt ho.2) (pB_cnt hp) hf
  refine ⟨h.1, fun c => ?_⟩
  rw [h.2, take_mem hk]
  constructor
  · rintro ⟨h1, h2⟩; exact ⟨.inl h1, h2⟩
  · rintro ⟨h1 | h1, h2⟩
    · exact ⟨h1, h2⟩
    · rw [h1, ← he]; exact ho
theorem inTo_ins {l o : List Chg} {kn : Int} {k j : Nat} (h : InTo l kn k o) (hk : k < l.length) (hp : pB l kn l[k] = true) (hj : j ≤ o.length) (h1 : ∀ i (hi : i < o.length), i < j → (o[i]).f < (l[k]).f) (h2 : ∀ hi : j < o.length, ¬ (o[j]).f < (l[k]).f ∧ ¬ (o[j]).f = (l[k]).f) :
    InTo l kn (k + 1) (o.take j ++ l[k] :: o.drop j) := by
  have hgt : ∀ x ∈ o.drop j, (l[k]).f < x.f := fun x hx => by
    obtain ⟨i, hi, rfl⟩ := List.mem_iff_getElem.1 hx
    rw [List.length_drop] at hi
    rw [List.getElem_drop]
    have h3 := h2 (by omega)
    by_cases e : i = 0
    · subst e; simp only [Nat.add_zero]; omega
    · have := List.pairwise_iff_getElem.1 h.1 j (j + i) (by omega) (by omega) (by omega)
      omega
  have hlt : ∀ x ∈ o.take j, x.f < (l[k]).f := fun x hx => by
    obtain ⟨i, hi, rfl⟩ := List.mem_iff_getElem.1 hx
    rw [List.length_take] at hi
    rw [List.getElem_take]
    exact h1 i (by omega) (by omega)
  refine ⟨?_, fun c => ?_⟩
  · rw [List.pairwise_append]
    refine ⟨h.1.sublist (List.take_sublist _ _), ?_, ?_⟩
    · rw [List.pairwise_cons]
      exact ⟨hgt, h.1.sublist (List.drop_sublist _ _)⟩
    · intro a ha b hb
      rcases List.mem_cons.1 hb with rfl | hb
      · exact hlt a ha
      · have := hlt a ha; have := hgt b hb; omega
  · rw [List.mem_append, List.mem_cons, take_mem hk]
    have hmem : c ∈ o ↔ c ∈ o.take j ∨ c ∈ o.drop j := by rw [← List.mem_append, List.take_append_drop]
    have h3 := h.2 c
    constructor
    · rintro (hc | rfl | hc)
      · have := h3.1 (hmem.2 (.inl hc)); exact ⟨.inl this.1, this.2⟩
      · exact ⟨.inr rfl, hp⟩
      · have := h3.1 (hmem.2 (.inr hc)); exact ⟨.inl this.1, this.2⟩
    · rintro ⟨hc | rfl, hcp⟩
      · rcases hmem.1 (h3.2 ⟨hc, hcp⟩) with hc | hc
        · exact .inl hc
        · exact .inr (.inr hc)
      · exact .inr (.inl rfl)
end Go.Proofs.Ytnmbaeahnfbfiaa
