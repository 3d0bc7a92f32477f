/- Changes and their order: no program in sight. -/
import Derived.Test.YtaafihdegnaokaaGreatDoorKit
namespace Go.Proofs.YtaafihdegnaokaaGreatDoor

/-- a change: from, known, value, delete -/
structure Chg where
  f : Int
  k : Int
  v : Int
  d : Bool
theorem Chg.ext' {a b : Chg} (h1 : a.f = b.f) (h2 : a.k = b.k) (h3 : a.v = b.v) (h4 : a.d = b.d) : a = b := by cases a; cases b; simp_all
def nb (b : Bool) : Int := if b then 1 else 0
theorem nb_inj {a b : Bool} (h : nb a = nb b) : a = b := by revert h; cases a <;> cases b <;> decide
/-- one change comes before another one -/
def ltC (a b : Chg) : Prop := a.f < b.f ∨ a.f = b.f ∧ (a.k < b.k ∨ a.k = b.k ∧ (nb a.d < nb b.d ∨ nb a.d = nb b.d ∧ a.v < b.v))
instance (a b : Chg) : Decidable (ltC a b) := by unfold ltC; infer_instance
def cmpC (a b : Chg) : Int := if ltC a b then -1 else if ltC b a then 1 else 0
theorem ltC_irr (a : Chg) : ¬ ltC a a := by unfold ltC; omega
theorem ltC_trans {a b c : Chg} (h1 : ltC a b) (h2 : ltC b c) : ltC a c := by unfold ltC at *; omega
theorem ltC_asym {a b : Chg} (h : ltC a b) : ¬ ltC b a := fun k => ltC_irr a (ltC_trans h k)
theorem ltC_total {a b : Chg} (h1 : ¬ ltC a b) (h2 : ¬ ltC b a) : a = b := by
  unfold ltC at h1 h2
  have e : a.f = b.f ∧ a.k = b.k ∧ nb a.d = nb b.d ∧ a.v = b.v := by omega
  exact Chg.ext' e.1 e.2.1 e.2.2.2 (nb_inj e.2.2.1)
theorem ltC_ntrans {a b c : Chg} (h1 : ¬ ltC b a) (h2 : ¬ ltC c b) : ¬ ltC c a := by
  unfold ltC at *; omega
theorem cmpC_zero {a b : Chg} : cmpC a b = 0 ↔ a = b := by
  unfold cmpC
  constructor
  · intro h
    split at h
    · cases h
    · split at h
      · cases h
      · exact ltC_total ‹_› ‹_›
  · rintro rfl; simp [ltC_irr]
theorem cmpC_neg {a b : Chg} : cmpC a b < 0 ↔ ltC a b := by
  unfold cmpC
  split
  · simp [*]
  · split <;> simp [*]
theorem cmpC_pos {a b : Chg} : 0 < cmpC a b ↔ ltC b a := by
  unfold cmpC
  split
  · rename_i h; simp [ltC_asym h]
  · split <;> simp [*]
/-- strictly ascending lists with the same members are equal -/
theorem asc_unique : ∀ {l m : List Chg}, l.Pairwise ltC → m.Pairwise ltC → (∀ x, x ∈ l ↔ x ∈ m) → l = m
  | [], [], _, _, _ => rfl
  | [], b :: m, _, _, h => absurd ((h b).2 (by simp)) (by simp)
  | a :: l, [], _, _, h => absurd ((h a).1 (by simp)) (by simp)
  | a :: l, b :: m, hl, hm, h => by
    rw [List.pairwise_cons] at hl hm
    have e : a = b := by
      have h1 : a ∈ b :: m := (h a).1 (by simp)
      have h2 : b ∈ a :: l := (h b).2 (by simp)
      rcases List.mem_cons.1 h1 with h1 | h1
      · exact h1
      · rcases List.mem_cons.1 h2 with h2 | h2
        · exact h2.symm
        · exact absurd (ltC_trans (hm.1 a h1) (hl.1 b h2)) (ltC_irr b)
    subst e
    congr 1
    refine asc_unique hl.2 hm.2 fun x => ?_
    constructor
    · intro hx
      rcases List.mem_cons.1 ((h x).1 (by simp [hx])) with rfl | hm'
      · exact absurd (hl.1 x hx) (ltC_irr x)
      · exact hm'
    · intro hx
      rcases List.mem_cons.1 ((h x).2 (by simp [hx])) with rfl | hl'
      · exact absurd (hm.1 x hx) (ltC_irr x)
      · exact hl'
/-- a change put into its place -/
def insC (c : Chg) : List Chg → List Chg
  | [] => [c]
  | x :: r => if ltC x c then x :: insC c r else if ltC c x then c :: x :: r else x :: r
theorem mem_insC {c x : Chg} : ∀ {l : List Chg}, x ∈ insC c l ↔ x = c ∨ x ∈ l
  | [] => by simp [insC]
  | y :: r => by
    unfold insC
    split
    · rw [List.mem_cons, mem_insC]; simp only [List.mem_cons]
      constructor
      · rintro (h | h | h)
        · exact .inr (.inl h)
        · exact .inl h
        · exact .inr (.inr h)
      · rintro (h | h | h)
        · exact .inr (.inl h)
        · exact .inl h
        · exact .inr (.inr h)
    · split
      · simp only [List.mem_cons]
      · have e : y = c := ltC_total ‹_› ‹_›
        subst e
        simp only [List.mem_cons]
        constructor
        · intro h; exact .inr h
        · rintro (h | h)
          · exact .inl h
          · exact h
theorem asc_insC {c : Chg} : ∀ {l : List Chg}, l.Pairwise ltC → (insC c l).Pairwise ltC
  | [], _ => by simp [insC]
  | y :: r, h => by
    rw [List.pairwise_cons] at h
    unfold insC
    split
    · rw [List.pairwise_cons]
      refine ⟨fun z hz => ?_, asc_insC h.2⟩
      rcases mem_insC.1 hz with rfl | hz
      · assumption
      · exact h.1 z hz
    · split
      · rw [List.pairwise_cons]
        refine ⟨fun z hz => ?_, by rw [List.pairwise_cons]; exact h⟩
        rcases List.mem_cons.1 hz with rfl | hz
        · assumption
        · exact ltC_trans ‹_› (h.1 z hz)
      · rw [List.pairwise_cons]; exact h
/-- the changes of a list, each once, in their order -/
def ascC (l : List Chg) : List Chg := l.foldl (fun m c => insC c m) []
theorem foldl_mem {x : Chg} : ∀ (l m : List Chg), x ∈ l.foldl (fun m c => insC c m) m ↔ x ∈ l ∨ x ∈ m
  | [], m => by simp
  | c :: r, m => by
    rw [List.foldl_cons, foldl_mem r, mem_insC, List.mem_cons]
    constructor
    · rintro (h | h | h)
      · exact .inl (.inr h)
      · exact .inl (.inl h)
      · exact .inr h
    · rintro ((h | h) | h)
      · exact .inr (.inl h)
      · exact .inl h
      · exact .inr (.inr h)
theorem mem_ascC {x : Chg} {l : List Chg} : x ∈ ascC l ↔ x ∈ l := by rw [ascC, foldl_mem]; simp
theorem foldl_asc : ∀ (l m : List Chg), m.Pairwise ltC → (l.foldl (fun m c => insC c m) m).Pairwise ltC
  | [], _, h => h
  | _ :: r, _, h => foldl_asc r _ (asc_insC h)
theorem asc_ascC (l : List Chg) : (ascC l).Pairwise ltC := foldl_asc l [] .nil
theorem ascC_unique {l m : List Chg} (hm : m.Pairwise ltC) (h : ∀ x, x ∈ m ↔ x ∈ l) : m = ascC l :=
  asc_unique hm (asc_ascC l) fun x => (h x).trans mem_ascC.symm
theorem ascC_congr {l m : List Chg} (h : ∀ x, x ∈ l ↔ x ∈ m) : ascC l = ascC m :=
  ascC_unique (asc_ascC l) fun x => mem_ascC.trans (h x)
/-- neighbours that are equal, once -/
def cpt : List Chg → List Chg
  | [] => []
  | [x] => [x]
  | x :: y :: r => if cmpC x y = 0 then cpt (y :: r) else x :: cpt (y :: r)
theorem mem_cpt {x : Chg} : ∀ {l : List Chg}, x ∈ cpt l ↔ x ∈ l
  | [] => by simp [cpt]
  | [y] => by simp [cpt]
  | y :: z :: r => by
    unfold cpt
    split
    · rename_i h
      have e := cmpC_zero.1 h
      subst e
      rw [mem_cpt]; simp only [List.mem_cons]
      constructor
      · rintro (h | h)
        · exact .inl h
        · exact .inr (.inr h)
      · rintro (h | h | h)
        · exact .inl h
        · exact .inl h
        · exact .inr h
    · rw [List.mem_cons, mem_cpt]; simp only [List.mem_cons]
theorem asc_cpt : ∀ {l : List Chg}, l.Pairwise (fun a b => ¬ ltC b a) → (cpt l).Pairwise ltC
  | [], _ => .nil
  | [y], _ => by simp [cpt]
  | y :: z :: r, h => by
    have h' := h
    rw [List.pairwise_cons] at h
    unfold cpt
    split
    · exact asc_cpt h.2
    · rename_i hne
      rw [List.pairwise_cons]
      refine ⟨fun x hx => ?_, asc_cpt h.2⟩
      have hx' := mem_cpt.1 hx
      have n1 := h.1 x hx'
      rcases Classical.em (ltC y x) with hlt | hlt
      · exact hlt
      · have e := ltC_total hlt n1
        subst e
        rcases List.mem_cons.1 hx' with e | hr
        · exact absurd (cmpC_zero.2 e) hne
        · have h3 := (List.pairwise_cons.1 h.2).1 y hr
          have h4 := h.1 z (by simp)
          exact absurd (cmpC_zero.2 (ltC_total h3 h4)) hne
end Go.Proofs.YtaafihdegnaokaaGreatDoor
