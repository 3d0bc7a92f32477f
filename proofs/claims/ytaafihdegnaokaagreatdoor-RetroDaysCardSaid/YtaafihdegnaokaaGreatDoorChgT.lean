/- The value of a day at a knowledge: no program in sight. -/
import Derived.Test.YtaafihdegnaokaaGreatDoorChgS
namespace Go.Proofs.YtaafihdegnaokaaGreatDoor

/-- a change counts for its day at a knowledge -/
def cntB (l : List Chg) (kn : Int) (c : Chg) : Bool := decide (c.k ≤ kn) && l.all fun x => !(decide (x.f = c.f) && decide (x.k ≤ kn) && decide (ltC c x))
theorem cnt_iff {l : List Chg} {kn : Int} {c : Chg} : cntB l kn c = true ↔ c.k ≤ kn ∧ ∀ x ∈ l, x.f = c.f → x.k ≤ kn → ¬ ltC c x := by
  simp only [cntB, Bool.and_eq_true, decide_eq_true_eq, List.all_eq_true, Bool.not_eq_true', Bool.and_eq_false_iff, decide_eq_false_iff_not]
  constructor
  · rintro ⟨h1, h2⟩
    refine ⟨h1, fun x hx e1 e2 => ?_⟩
    rcases h2 x hx with (h | h) | h
    · exact absurd e1 h
    · exact absurd e2 h
    · exact h
  · rintro ⟨h1, h2⟩
    refine ⟨h1, fun x hx => ?_⟩
    by_cases e1 : x.f = c.f
    · by_cases e2 : x.k ≤ kn
      · exact .inr (h2 x hx e1 e2)
      · exact .inl (.inr e2)
    · exact .inl (.inl e1)
def pB (l : List Chg) (kn : Int) (c : Chg) : Bool := cntB l kn c && !c.d
theorem cnt_unique {l : List Chg} {kn : Int} {c e : Chg} (hc : c ∈ l) (he : e ∈ l) (h1 : cntB l kn c = true) (h2 : cntB l kn e = true) (hf : c.f = e.f) : c = e := by
  obtain ⟨a1, a2⟩ := cnt_iff.1 h1
  obtain ⟨b1, b2⟩ := cnt_iff.1 h2
  exact ltC_total (a2 e he hf.symm b1) (b2 c hc hf a1)
theorem cnt_congr {l m : List Chg} (h : ∀ x, x ∈ l ↔ x ∈ m) (kn : Int) (c : Chg) : cntB l kn c = cntB m kn c := by
  rw [Bool.eq_iff_iff, cnt_iff, cnt_iff]
  exact ⟨fun ⟨a, b⟩ => ⟨a, fun x hx => b x ((h x).2 hx)⟩, fun ⟨a, b⟩ => ⟨a, fun x hx => b x ((h x).1 hx)⟩⟩
/-- the counting changes that do not delete, in the order of their days -/
def inC (l : List Chg) (kn : Int) : List Chg := (ascC l).filter (pB l kn)
theorem mem_inC {l : List Chg} {kn : Int} {c : Chg} : c ∈ inC l kn ↔ c ∈ l ∧ cntB l kn c = true ∧ c.d = false := by
  rw [inC, List.mem_filter, mem_ascC, pB, Bool.and_eq_true, Bool.not_eq_true']
theorem asc_inC (l : List Chg) (kn : Int) : (inC l kn).Pairwise ltC := (asc_ascC l).filter _
theorem inC_congr {l m : List Chg} (h : ∀ x, x ∈ l ↔ x ∈ m) (kn : Int) : inC l kn = inC m kn := by
  refine asc_unique (asc_inC _ _) (asc_inC _ _) fun x => ?_
  rw [mem_inC, mem_inC, h, cnt_congr h]
/-- their days ascend -/
theorem days_inC (l : List Chg) (kn : Int) : (inC l kn).Pairwise (fun a b => a.f < b.f) := by
  refine (List.Pairwise.and_mem.1 (asc_inC l kn)).imp ?_
  rintro a b ⟨ha, hb, hlt⟩
  obtain ⟨a1, a2, _⟩ := mem_inC.1 ha
  obtain ⟨b1, b2, _⟩ := mem_inC.1 hb
  rcases Int.lt_or_le a.f b.f with h | h
  · exact h
  · have hf : a.f = b.f := by unfold ltC at hlt; omega
    have := cnt_unique a1 b1 a2 b2 hf
    subst this
    exact absurd hlt (ltC_irr a)
/-- up to a day -/
def upTo (l : List Chg) (kn day : Int) : List Chg := (inC l kn).filter fun c => decide (c.f ≤ day)
def vAt (l : List Chg) (kn day : Int) : Option Int := (upTo l kn day).getLast?.map (·.v)
theorem mem_upTo {l : List Chg} {kn day : Int} {c : Chg} : c ∈ upTo l kn day ↔ (c ∈ l ∧ cntB l kn c = true ∧ c.d = false) ∧ c.f ≤ day := by
  rw [upTo, List.mem_filter, mem_inC, decide_eq_true_eq]
theorem upTo_unique {l m : List Chg} {kn kn' day : Int} (h : ∀ c, c ∈ upTo l kn day ↔ c ∈ upTo m kn' day) : upTo l kn day = upTo m kn' day :=
  asc_unique ((asc_inC _ _).filter _) ((asc_inC _ _).filter _) h
theorem vAt_congr {l m : List Chg} (h : ∀ x, x ∈ l ↔ x ∈ m) (kn day : Int) : vAt l kn day = vAt m kn day := by
  rw [vAt, vAt, upTo, upTo, inC_congr h]
/-- what becomes known later does not count -/
theorem vAt_later {l : List Chg} {c : Chg} {kn : Int} (h : kn < c.k) (day : Int) : vAt (l ++ [c]) kn day = vAt l kn day := by
  rw [vAt, vAt, upTo_unique]
  intro x
  rw [mem_upTo, mem_upTo, cnt_iff, cnt_iff]
  constructor
  · rintro ⟨⟨h1, ⟨h2, h3⟩, h4⟩, h5⟩
    refine ⟨⟨?_, ⟨h2, fun y hy => h3 y (by simp [hy])⟩, h4⟩, h5⟩
    rcases List.mem_append.1 h1 with h1 | h1
    · exact h1
    · rw [List.mem_singleton] at h1; subst h1; omega
  · rintro ⟨⟨h1, ⟨h2, h3⟩, h4⟩, h5⟩
    refine ⟨⟨by simp [h1], ⟨h2, fun y hy e1 e2 => ?_⟩, h4⟩, h5⟩
    rcases List.mem_append.1 hy with hy | hy
    · exact h3 y hy e1 e2
    · rw [List.mem_singleton] at hy; subst hy; omega
/-- the days ahead of a change are as they were -/
theorem vAt_ahead {l : List Chg} {c : Chg} {kn day : Int} (h : day < c.f) : vAt (l ++ [c]) kn day = vAt l kn day := by
  rw [vAt, vAt, upTo_unique]
  intro x
  rw [mem_upTo, mem_upTo, cnt_iff, cnt_iff]
  constructor
  · rintro ⟨⟨h1, ⟨h2, h3⟩, h4⟩, h5⟩
    refine ⟨⟨?_, ⟨h2, fun y hy => h3 y (by simp [hy])⟩, h4⟩, h5⟩
    rcases List.mem_append.1 h1 with h1 | h1
    · exact h1
    · rw [List.mem_singleton] at h1; subst h1; omega
  · rintro ⟨⟨h1, ⟨h2, h3⟩, h4⟩, h5⟩
    refine ⟨⟨by simp [h1], ⟨h2, fun y hy e1 e2 => ?_⟩, h4⟩, h5⟩
    rcases List.mem_append.1 hy with hy | hy
    · exact h3 y hy e1 e2
    · rw [List.mem_singleton] at hy; subst hy; omega
theorem getLast_max {l : List Chg} {c : Chg} (hs : l.Pairwise (fun a b => a.f < b.f)) (hc : c ∈ l) (hm : ∀ x ∈ l, x.f ≤ c.f) : l.getLast? = some c := by
  induction l with
  | nil => cases hc
  | cons a r ih =>
    rw [List.pairwise_cons] at hs
    cases r with
    | nil => rw [List.mem_singleton] at hc; subst hc; rfl
    | cons b r =>
      rw [List.getLast?_cons_cons]
      refine ih hs.2 ?_ (fun x hx => hm x (by simp [hx]))
      rcases List.mem_cons.1 hc with rfl | hc
      · have h1 := hs.1 b (by simp)
        have h2 := hm b (by simp)
        omega
      · exact hc
/-- the day of a change that counts has its value -/
theorem vAt_self {l : List Chg} {c : Chg} {kn : Int} (hk : c.k ≤ kn) (hd : c.d = false) (h : ∀ x ∈ l, x.f = c.f → x.k ≤ kn → ¬ ltC c x) : vAt (l ++ [c]) kn c.f = some c.v := by
  have hc : c ∈ upTo (l ++ [c]) kn c.f := by
    rw [mem_upTo, cnt_iff]
    refine ⟨⟨by simp, ⟨hk, fun x hx e1 e2 => ?_⟩, hd⟩, Int.le_refl _⟩
    rcases List.mem_append.1 hx with hx | hx
    · exact h x hx e1 e2
    · rw [List.mem_singleton] at hx; subst hx; exact ltC_irr x
  have hl := getLast_max ((days_inC (l ++ [c]) kn).filter (fun x => decide (x.f ≤ c.f))) hc (fun x hx => (mem_upTo.1 hx).2)
  rw [vAt]
  show (List.getLast? (List.filter _ (inC (l ++ [c]) kn))).map _ = _
  rw [hl]; rfl
end Go.Proofs.YtaafihdegnaokaaGreatDoor
