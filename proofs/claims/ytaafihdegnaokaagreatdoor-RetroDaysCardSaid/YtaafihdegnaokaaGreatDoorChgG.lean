/- Groups of changes of one day in a sorted list; how many steps lie up to a day: no program in sight. -/
import Derived.Test.YtaafihdegnaokaaGreatDoorChgT
namespace Go.Proofs.YtaafihdegnaokaaGreatDoor

theorem filter_split {L : List Chg} (hs : L.Pairwise (fun a b => a.f < b.f)) (P : Chg → Bool) (f0 : Int) (hP : ∀ c ∈ L, P c = true → c.f < f0) :
    L.filter (fun c => P c || decide (c.f = f0)) = L.filter P ++ L.filter (fun c => decide (c.f = f0)) := by
  induction L with
  | nil => rfl
  | cons a r ih =>
    rw [List.pairwise_cons] at hs
    have ih := ih hs.2 (fun c hc => hP c (by simp [hc]))
    by_cases h1 : P a = true
    · have := hP a (by simp) h1
      have h2 : ¬ a.f = f0 := by omega
      simp [h1, h2, ih]
    · by_cases h2 : a.f = f0
      · have h3 : r.filter P = [] := by
          rw [List.filter_eq_nil_iff]
          intro c hc hp
          have := hs.1 c hc
          have := hP c (by simp [hc]) hp
          omega
        simp [h1, h2, ih, h3]
      · simp [h1, h2, ih]
theorem filter_one {L : List Chg} (hs : L.Pairwise (fun a b => a.f < b.f)) {c : Chg} (hc : c ∈ L) : L.filter (fun x => decide (x.f = c.f)) = [c] := by
  induction L with
  | nil => cases hc
  | cons a r ih =>
    rw [List.pairwise_cons] at hs
    rcases List.mem_cons.1 hc with rfl | hc
    · have : r.filter (fun x => decide (x.f = c.f)) = [] := by
        rw [List.filter_eq_nil_iff]
        intro x hx hp
        have := hs.1 x hx
        simp at hp; omega
      simp [this]
    · have h1 := hs.1 c hc
      have h2 : ¬ a.f = c.f := by omega
      simp [h2, ih hs.2 hc]
/-- the days of the first changes -/
def seenB (s : List Chg) (i : Nat) (c : Chg) : Bool := (s.take i).any fun x => decide (x.f = c.f)
theorem seen_iff {s : List Chg} {i : Nat} {c : Chg} : seenB s i c = true ↔ ∃ t, ∃ h : t < s.length, t < i ∧ (s[t]).f = c.f := by
  simp only [seenB, List.any_eq_true, decide_eq_true_eq]
  constructor
  · rintro ⟨x, hx, e⟩
    obtain ⟨t, ht, rfl⟩ := List.getElem_of_mem hx
    rw [List.length_take] at ht
    exact ⟨t, by omega, by omega, by rw [← e]; simp⟩
  · rintro ⟨t, h, hi, e⟩
    refine ⟨s[t], ?_, e⟩
    rw [List.mem_take_iff_getElem]
    exact ⟨t, by omega, rfl⟩
/-- the steps of the first changes -/
def stepsTo (l s : List Chg) (kn : Int) (i : Nat) : List Chg := (inC l kn).filter (seenB s i)
theorem steps_start (l s : List Chg) (kn : Int) : stepsTo l s kn 0 = [] := by
  rw [stepsTo, List.filter_eq_nil_iff]
  intro c _ h
  simp [seenB] at h
theorem steps_end {l s : List Chg} {kn : Int} (hm : ∀ x, x ∈ s ↔ x ∈ l) : stepsTo l s kn s.length = inC l kn := by
  rw [stepsTo, List.filter_eq_self]
  intro c hc
  have := (hm c).2 (mem_inC.1 hc).1
  simp only [seenB, List.take_length, List.any_eq_true, decide_eq_true_eq]
  exact ⟨c, this, rfl⟩
theorem sorted_le {s : List Chg} (hs : s.Pairwise (fun a b => ¬ ltC b a)) {i j : Nat} (hij : i ≤ j) (hj : j < s.length) : (s[i]'(by omega)).f ≤ (s[j]).f ∧ ¬ ltC (s[j]) (s[i]'(by omega)) := by
  rcases Nat.lt_or_ge i j with h | h
  · have := (List.pairwise_iff_getElem.1 hs) i j (by omega) hj h
    refine ⟨?_, this⟩
    unfold ltC at this; omega
  · have : i = j := by omega
    subst this
    exact ⟨Int.le_refl _, ltC_irr _⟩
/-- a group of changes of one day: from i up to j; t: the last one that is known -/
theorem steps_group {l s : List Chg} {kn : Int} (hm : ∀ x, x ∈ s ↔ x ∈ l) (hs : s.Pairwise (fun a b => ¬ ltC b a)) {i j : Nat} (hij : i < j) (hj : j ≤ s.length)
    (hb : ∀ (h : 0 < i), (s[i - 1]'(by omega)).f < (s[i]'(by omega)).f) (hg : ∀ t (_h1 : i ≤ t) (h2 : t < j), (s[t]'(by omega)).f = (s[i]'(by omega)).f) (he : ∀ h : j < s.length, (s[i]'(by omega)).f < (s[j]).f) :
    (∀ t (_h1 : i ≤ t) (h2 : t < j), (s[t]'(by omega)).k ≤ kn → (∀ u (_h3 : t < u) (h4 : u < j), ¬ (s[u]'(by omega)).k ≤ kn) →
      stepsTo l s kn j = stepsTo l s kn i ++ if (s[t]'(by omega)).d then [] else [s[t]'(by omega)]) ∧
    ((∀ t (_h1 : i ≤ t) (h2 : t < j), ¬ (s[t]'(by omega)).k ≤ kn) → stepsTo l s kn j = stepsTo l s kn i) := by
  obtain ⟨f0, hf0⟩ : ∃ f0, f0 = (s[i]'(by omega)).f := ⟨_, rfl⟩
  have hgrp : ∀ t (h : t < s.length), (s[t]).f = f0 ↔ i ≤ t ∧ t < j := by
    intro t h
    constructor
    · intro e
      constructor
      · rcases Nat.lt_or_ge t i with h' | h'
        · have h1 := hb (by omega)
          have h2 := (sorted_le hs (show t ≤ i - 1 by omega) (by omega)).1
          omega
        · exact h'
      · rcases Nat.lt_or_ge t j with h' | h'
        · exact h'
        · have h1 := he (by omega)
          have h2 := (sorted_le hs h' h).1
          omega
    · rintro ⟨h1, h2⟩
      rw [hg t h1 h2, hf0]
  have hsplit : stepsTo l s kn j = stepsTo l s kn i ++ (inC l kn).filter fun c => decide (c.f = f0) := by
    rw [stepsTo, stepsTo, ← filter_split (days_inC l kn)]
    · apply List.filter_congr
      intro c _
      rw [Bool.eq_iff_iff, Bool.or_eq_true, seen_iff, seen_iff, decide_eq_true_eq]
      constructor
      · rintro ⟨t, h, h1, e⟩
        rcases Nat.lt_or_ge t i with h' | h'
        · exact .inl ⟨t, h, h', e⟩
        · right; rw [← e]; exact (hgrp t h).2 ⟨h', h1⟩
      · rintro (⟨t, h, h1, e⟩ | e)
        · exact ⟨t, h, by omega, e⟩
        · exact ⟨i, by omega, hij, by rw [e, hf0]⟩
    · intro c _ hc
      obtain ⟨t, h, h1, e⟩ := seen_iff.1 hc
      rw [← e]
      have h2 := hb (by omega)
      have h3 := (sorted_le hs (show t ≤ i - 1 by omega) (by omega)).1
      omega
  refine ⟨fun t h1 h2 hk hlast => ?_, fun hnone => ?_⟩
  · rw [hsplit]
    congr 1
    have htl : t < s.length := by omega
    have hmem : s[t] ∈ l := (hm _).1 (List.getElem_mem htl)
    have hft : (s[t]).f = f0 := (hgrp t htl).2 ⟨h1, h2⟩
    have hcnt : cntB l kn s[t] = true := by
      rw [cnt_iff]
      refine ⟨hk, fun x hx e1 e2 => ?_⟩
      obtain ⟨u, hu, rfl⟩ := List.getElem_of_mem ((hm x).2 hx)
      obtain ⟨g1, g2⟩ := (hgrp u hu).1 (e1.trans hft)
      rcases Nat.lt_or_ge t u with h' | h'
      · exact absurd e2 (hlast u h' g2)
      · exact (sorted_le hs h' htl).2
    cases hd : (s[t]).d
    · rw [if_neg (by simp)]
      have := filter_one (days_inC l kn) (mem_inC.2 ⟨hmem, hcnt, hd⟩)
      rw [hft] at this; exact this
    · rw [if_pos rfl, List.filter_eq_nil_iff]
      intro c hc e
      obtain ⟨c1, c2, c3⟩ := mem_inC.1 hc
      have : c = s[t] := cnt_unique c1 hmem c2 hcnt (by rw [hft]; simpa using e)
      subst this
      rw [hd] at c3; cases c3
  · rw [hsplit]
    have : ((inC l kn).filter fun c => decide (c.f = f0)) = [] := by
      rw [List.filter_eq_nil_iff]
      intro c hc e
      obtain ⟨c1, c2, _⟩ := mem_inC.1 hc
      obtain ⟨u, hu, rfl⟩ := List.getElem_of_mem ((hm c).2 c1)
      obtain ⟨g1, g2⟩ := (hgrp u hu).1 (by simpa using e)
      exact hnone u g1 g2 (cnt_iff.1 c2).1
    rw [this, List.append_nil]
/-- the steps up to a day are the first ones -/
theorem upTo_take {L : List Chg} (hs : L.Pairwise (fun a b => a.f < b.f)) (day : Int) : L.filter (fun c => decide (c.f ≤ day)) = L.take (L.filter fun c => decide (c.f ≤ day)).length := by
  induction L with
  | nil => rfl
  | cons a r ih =>
    rw [List.pairwise_cons] at hs
    by_cases h : a.f ≤ day
    · simp only [List.filter_cons, h, decide_true, if_true, List.length_cons, List.take_succ_cons]
      rw [← ih hs.2]
    · have : r.filter (fun c => decide (c.f ≤ day)) = [] := by
        rw [List.filter_eq_nil_iff]
        intro x hx e
        have := hs.1 x hx
        simp at e; omega
      simp [h, this]
theorem upTo_lt {L : List Chg} (hs : L.Pairwise (fun a b => a.f < b.f)) (day : Int) (i : Nat) (hi : i < L.length) : (L[i]).f ≤ day ↔ i < (L.filter fun c => decide (c.f ≤ day)).length := by
  induction L generalizing i with
  | nil => simp at hi
  | cons a r ih =>
    rw [List.pairwise_cons] at hs
    by_cases h : a.f ≤ day
    · cases i with
      | zero => simp [h]
      | succ i =>
        have := ih hs.2 i (by simpa using hi)
        simp only [List.getElem_cons_succ, List.filter_cons, h, decide_true, if_true, List.length_cons]
        omega
    · have hr : r.filter (fun c => decide (c.f ≤ day)) = [] := by
        rw [List.filter_eq_nil_iff]
        intro x hx e
        have := hs.1 x hx
        simp at e; omega
      simp only [List.filter_cons, h, decide_false, hr]
      simp
      cases i with
      | zero => simpa using Int.not_le.1 h
      | succ i =>
        have hl : i < r.length := by simpa using hi
        have := hs.1 r[i] (List.getElem_mem hl)
        simp only [List.getElem_cons_succ]; omega
end Go.Proofs.YtaafihdegnaokaaGreatDoor
