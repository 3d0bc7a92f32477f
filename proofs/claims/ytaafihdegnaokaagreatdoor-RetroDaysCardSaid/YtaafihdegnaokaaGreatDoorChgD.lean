/- Ranges of days with one value, and days whose values differ: no program in sight. -/
import Derived.Test.YtaafihdegnaokaaGreatDoorChgG
namespace Go.Proofs.YtaafihdegnaokaaGreatDoor

/-- a range of days with a value -/
structure Pc where
  b : Int
  e : Int
  v : Int
/-- the least day of a list behind a day, or the one behind the end -/
def nxtD (L : List Chg) (day to : Int) : Int := L.foldl (fun n c => if day < c.f ∧ c.f < n then c.f else n) (to + 1)
def nxtN (day : Int) (L : List Chg) (n : Int) : Int := L.foldl (fun n c => if day < c.f ∧ c.f < n then c.f else n) n
/-- the last step up to a day -/
def valD (L : List Chg) (day : Int) : Option Int := (L.filter fun c => decide (c.f ≤ day)).getLast?.map (·.v)
/-- the end of a step's days -/
def endD (r : List Chg) (to : Int) : Int := match r with | [] => to | c :: _ => min to (c.f - 1)
def pcs (L : List Chg) (day to : Int) : List Pc := match L with
  | [] => []
  | c :: r => if max c.f day ≤ endD r to then ⟨max c.f day, endD r to, c.v⟩ :: pcs r day to else pcs r day to
theorem nxtN_far {day n : Int} : ∀ {L : List Chg}, (∀ c ∈ L, n ≤ c.f) → nxtN day L n = n
  | [], _ => rfl
  | c :: r, h => by
    have := h c (by simp)
    rw [nxtN, List.foldl_cons, if_neg (by omega)]
    exact nxtN_far (L := r) (fun x hx => h x (by simp [hx]))
theorem pcs_far {to : Int} : ∀ {L : List Chg} {day : Int}, (∀ c ∈ L, to < c.f) → pcs L day to = []
  | [], _, _ => rfl
  | c :: r, day, h => by
    have h1 := h c (by simp)
    have h2 : endD r to ≤ to := by unfold endD; split <;> omega
    rw [pcs, if_neg (by omega), pcs_far (fun x hx => h x (by simp [hx]))]
theorem pcs_raise {to d1 d2 : Int} : ∀ {L : List Chg}, (∀ c ∈ L, d1 ≤ c.f ∧ d2 ≤ c.f) → pcs L d1 to = pcs L d2 to
  | [], _ => rfl
  | c :: r, h => by
    have h1 := h c (by simp)
    have e1 : max c.f d1 = c.f := by omega
    have e2 : max c.f d2 = c.f := by omega
    rw [pcs, pcs, e1, e2, pcs_raise (L := r) (fun x hx => h x (by simp [hx]))]
theorem nxtN_pass {day n : Int} {c : Chg} {r : List Chg} (h : c.f ≤ day) : nxtN day (c :: r) n = nxtN day r n := by
  rw [nxtN, List.foldl_cons, if_neg (by omega)]; rfl
theorem nxtN_bounds {day : Int} : ∀ {L : List Chg} {n : Int}, day < n → day < nxtN day L n ∧ nxtN day L n ≤ n
  | [], n, h => ⟨h, Int.le_refl _⟩
  | c :: r, n, h => by
    rw [nxtN, List.foldl_cons]
    by_cases hc : day < c.f ∧ c.f < n
    · rw [if_pos hc]
      have := nxtN_bounds (L := r) (n := c.f) hc.1
      exact ⟨this.1, by have := this.2; unfold nxtN at this; omega⟩
    · rw [if_neg hc]; exact nxtN_bounds (L := r) h
theorem valD_none {L : List Chg} {day : Int} (h : ∀ c ∈ L, day < c.f) : valD L day = none := by
  have : (L.filter fun c => decide (c.f ≤ day)) = [] := by
    rw [List.filter_eq_nil_iff]; intro c hc e; have := h c hc; simp at e; omega
  rw [valD, this]; rfl
theorem pcs_yes {c : Chg} {r : List Chg} {day to B E : Int} (hE : endD r to = E) (hB : max c.f day = B) (h : B ≤ E) : pcs (c :: r) day to = ⟨B, E, c.v⟩ :: pcs r day to := by
  subst hE; subst hB; rw [pcs, if_pos h]
theorem pcs_no {c : Chg} {r : List Chg} {day to B E : Int} (hE : endD r to = E) (hB : max c.f day = B) (h : E < B) : pcs (c :: r) day to = pcs r day to := by
  subst hE; subst hB; rw [pcs, if_neg (by omega)]
/-- the first range from a day on -/
theorem pcs_step {to : Int} : ∀ {L : List Chg} {day : Int}, L.Pairwise (fun a b => a.f < b.f) → day ≤ to →
    pcs L day to = (match valD L day with | some v => [⟨day, nxtN day L (to + 1) - 1, v⟩] | none => []) ++ pcs L (nxtN day L (to + 1)) to
  | [], day, _, _ => by simp [pcs, valD]
  | c :: r, day, hs, hd => by
    rw [List.pairwise_cons] at hs
    rcases Int.lt_or_le day c.f with hlt | hle
    · have hall : ∀ x ∈ c :: r, day < x.f := by
        intro x hx
        rcases List.mem_cons.1 hx with rfl | hx
        · exact hlt
        · have := hs.1 x hx; omega
      rw [valD_none hall]
      rcases Int.lt_or_le to c.f with h2 | h2
      · have hto : ∀ x ∈ c :: r, to < x.f := by
          intro x hx
          rcases List.mem_cons.1 hx with rfl | hx
          · exact h2
          · have := hs.1 x hx; omega
        rw [pcs_far hto, pcs_far hto]; rfl
      · have hn : nxtN day (c :: r) (to + 1) = c.f := by
          rw [nxtN, List.foldl_cons, if_pos ⟨hlt, by omega⟩]
          exact nxtN_far (L := r) (fun x hx => by have := hs.1 x hx; omega)
        rw [hn]
        exact pcs_raise (fun x hx => by
          rcases List.mem_cons.1 hx with rfl | hx
          · omega
          · have := hs.1 x hx; omega)
    · have hnb := nxtN_bounds (L := r) (day := day) (n := to + 1) (by omega)
      rw [nxtN_pass hle]
      cases r with
      | nil =>
        have hn : nxtN day [] (to + 1) = to + 1 := rfl
        rw [hn]
        have hv : valD [c] day = some c.v := by simp [valD, hle]
        rw [hv]
        rw [pcs_yes (E := to) (B := day) rfl (by omega) hd, pcs_no (E := to) (B := to + 1) rfl (by omega) (by omega)]
        simp [pcs]
      | cons g r =>
        have hg := hs.1 g (by simp)
        have hs2 := List.pairwise_cons.1 hs.2
        rcases Int.lt_or_le day g.f with h2 | h2
        · have hrest : ∀ x ∈ g :: r, day < x.f := by
            intro x hx
            rcases List.mem_cons.1 hx with rfl | hx
            · exact h2
            · have := hs2.1 x hx; omega
          have hv : valD (c :: g :: r) day = some c.v := by
            have : ((g :: r).filter fun c => decide (c.f ≤ day)) = [] := by
              rw [List.filter_eq_nil_iff]; intro x hx e; have := hrest x hx; simp at e; omega
            unfold valD
            rw [List.filter_cons_of_pos (by simpa using hle), this]; rfl
          rw [hv]
          have m1 : max c.f day = day := by omega
          have hn : nxtN day (g :: r) (to + 1) = min (to + 1) g.f := by
            rcases Int.lt_or_le to g.f with h3 | h3
            · rw [nxtN_far (fun x hx => by
                rcases List.mem_cons.1 hx with rfl | hx
                · omega
                · have := hs2.1 x hx; omega)]; omega
            · rw [nxtN, List.foldl_cons, if_pos ⟨h2, by omega⟩]
              have := nxtN_far (day := day) (n := g.f) (L := r) (fun x hx => by have := hs2.1 x hx; omega)
              unfold nxtN at this
              rw [this]; omega
          rw [hn]
          rw [pcs_yes (E := min to (g.f - 1)) (B := day) rfl m1 (by omega), pcs_no (E := min to (g.f - 1)) (B := max c.f (min (to + 1) g.f)) rfl rfl (by omega)]
          simp only [List.singleton_append]
          congr 1
          · congr 1; omega
          · rcases Int.lt_or_le to g.f with h3 | h3
            · have hto : ∀ x ∈ g :: r, to < x.f := by
                intro x hx
                rcases List.mem_cons.1 hx with rfl | hx
                · exact h3
                · have := hs2.1 x hx; omega
              rw [pcs_far hto, pcs_far hto]
            · exact pcs_raise (fun x hx => by
                rcases List.mem_cons.1 hx with rfl | hx
                · omega
                · have := hs2.1 x hx; omega)
        · have ih := pcs_step (to := to) (L := g :: r) hs.2 hd
          have hv : valD (c :: g :: r) day = valD (g :: r) day := by
            unfold valD
            rw [List.filter_cons_of_pos (by simpa using hle), List.filter_cons_of_pos (by simpa using h2)]
            rw [List.getLast?_cons_cons]
          rw [hv]
          have m1 : max c.f day = day := by omega
          have hnb2 := nxtN_bounds (L := g :: r) (day := day) (n := to + 1) (by omega)
          rw [pcs_no (E := min to (g.f - 1)) (B := day) rfl m1 (by omega), pcs_no (c := c) (E := min to (g.f - 1)) (B := max c.f (nxtN day (g :: r) (to + 1))) rfl rfl (by omega)]
          exact ih
end Go.Proofs.YtaafihdegnaokaaGreatDoor
