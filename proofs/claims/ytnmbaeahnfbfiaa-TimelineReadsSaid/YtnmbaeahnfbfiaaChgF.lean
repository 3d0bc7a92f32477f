/- The ranges of Slices, step by step: no program in sight. -/
import Derived.Test.YtnmbaeahnfbfiaaChgE
namespace Go.Proofs.Ytnmbaeahnfbfiaa

/-- the day behind the first i steps -/
def sD (L : List Chg) (f t : Int) (i : Nat) : Int := match L[i]? with | none => t + 1 | some c => max f (min (t + 1) c.f)
def slTo (L : List Chg) (f t : Int) (i : Nat) : List Pc := runs (valD L) f (sD L f t i - f).toNat
/-- the last day of step i -/
def eD (L : List Chg) (t : Int) (i : Nat) : Int := match L[i + 1]? with | none => t | some c => min t (c.f - 1)
theorem sD_in {L : List Chg} {f t : Int} {i : Nat} (h : i < L.length) : sD L f t i = max f (min (t + 1) (L[i]).f) := by rw [sD, List.getElem?_eq_getElem h]
theorem sD_out {L : List Chg} {f t : Int} {i : Nat} (h : ¬ i < L.length) : sD L f t i = t + 1 := by rw [sD, List.getElem?_eq_none (by omega)]
theorem eD_in {L : List Chg} {t : Int} {i : Nat} (h : i + 1 < L.length) : eD L t i = min t ((L[i + 1]).f - 1) := by rw [eD, List.getElem?_eq_getElem h]
theorem eD_out {L : List Chg} {t : Int} {i : Nat} (h : ¬ i + 1 < L.length) : eD L t i = t := by rw [eD, List.getElem?_eq_none (by omega)]
theorem dayd_le {L : List Chg} (hs : L.Pairwise (fun a b => a.f < b.f)) {i j : Nat} (hij : i ≤ j) (hj : j < L.length) : (L[i]'(by omega)).f ≤ (L[j]).f := by
  by_cases e : i = j
  · subst e; exact Int.le_refl _
  · exact Int.le_of_lt (List.pairwise_iff_getElem.1 hs i j (by omega) hj (by omega))
theorem slTo_zero {L : List Chg} (hs : L.Pairwise (fun a b => a.f < b.f)) {f t : Int} (_hft : f ≤ t) : slTo L f t 0 = [] := by
  rw [slTo]
  refine (runs_none (n := 0) (Nat.zero_le _) fun x h1 h2 => ?_).trans rfl
  refine valD_none fun c hc => ?_
  obtain ⟨j, hj, rfl⟩ := List.mem_iff_getElem.1 hc
  have h0 := dayd_le hs (Nat.zero_le j) hj
  rw [sD_in (show 0 < L.length by omega)] at h2
  omega
theorem slTo_end {L : List Chg} {f t : Int} {i : Nat} (h : ¬ i < L.length) : slTo L f t i = runs (valD L) f (t + 1 - f).toNat := by rw [slTo, sD_out h]
theorem slTo_skip {L : List Chg} (hs : L.Pairwise (fun a b => a.f < b.f)) {f t : Int} (hft : f ≤ t) {i : Nat} (hi : i < L.length) (h : eD L t i < max (L[i]).f f) : slTo L f t (i + 1) = slTo L f t i := by
  have e : sD L f t (i + 1) = sD L f t i := by
    rw [sD_in hi]
    by_cases h1 : i + 1 < L.length
    · have h2 := List.pairwise_iff_getElem.1 hs i (i + 1) hi h1 (by omega)
      rw [eD_in h1] at h
      rw [sD_in h1]
      omega
    · rw [eD_out h1] at h
      rw [sD_out h1]
      omega
  rw [slTo, slTo, e]
theorem slTo_step {L : List Chg} (hs : L.Pairwise (fun a b => a.f < b.f)) {f t : Int} (hft : f ≤ t) {i : Nat} (hi : i < L.length) (h : max (L[i]).f f ≤ eD L t i) : slTo L f t (i + 1) = addS (slTo L f t i) (max (L[i]).f f) (eD L t i) (L[i]).v := by
  have hle : eD L t i ≤ t := by
    by_cases h1 : i + 1 < L.length
    · rw [eD_in h1]; omega
    · rw [eD_out h1]; omega
  have e1 : sD L f t i = max (L[i]).f f := by rw [sD_in hi]; omega
  have e2 : sD L f t (i + 1) = eD L t i + 1 := by
    by_cases h1 : i + 1 < L.length
    · rw [eD_in h1] at h ⊢
      rw [sD_in h1]
      omega
    · rw [eD_out h1, sD_out h1]
  have hv : ∀ x, max (L[i]).f f ≤ x → x ≤ eD L t i → valD L x = some (L[i]).v := fun x h1 h2 => by
    have hn : (L.filter fun c => decide (c.f ≤ x)).length = i + 1 := by
      have h3 := upTo_lt hs x
      have hle2 := List.length_filter_le (fun c : Chg => decide (c.f ≤ x)) L
      have h4 := (h3 i hi).1 (by omega)
      rcases Nat.lt_or_ge (i + 1) L.length with h5 | h5
      · have h6 : ¬ i + 1 < (L.filter fun c => decide (c.f ≤ x)).length := fun hh => by
          have := (h3 (i + 1) h5).2 hh
          rw [eD_in h5] at h2
          omega
        omega
      · omega
    rw [valD, upTo_take hs x, hn, List.take_succ_eq_append_getElem hi, List.getLast?_append]; simp
  rw [slTo, slTo, e1, e2]
  have hr := runs_some (V := valD L) (f := f) (v := (L[i]).v) (n := (max (L[i]).f f - f).toNat) (m := (eD L t i + 1 - f).toNat) (by omega) (fun x h1 h2 => hv x (by omega) (by omega))
  rw [hr]
  congr 1 <;> omega
end Go.Proofs.Ytnmbaeahnfbfiaa
