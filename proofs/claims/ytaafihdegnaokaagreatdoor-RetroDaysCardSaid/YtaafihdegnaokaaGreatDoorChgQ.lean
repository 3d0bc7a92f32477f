/- The days of marks: the first one, the neighbours, the last one. -/
import Derived.Test.YtaafihdegnaokaaGreatDoorChgI
import Derived.Test.YtaafihdegnaokaaGreatDoorChgE
namespace Go.Proofs.YtaafihdegnaokaaGreatDoor

theorem asc_le {M : List Int} (hs : M.Pairwise (· < ·)) {i j : Nat} (hij : i ≤ j) (hj : j < M.length) : M[i]'(by omega) ≤ M[j] := by
  by_cases e : i = j
  · subst e; exact Int.le_refl _
  · exact Int.le_of_lt (List.pairwise_iff_getElem.1 hs i j (by omega) hj (by omega))
theorem asc_gap {M : List Int} (hs : M.Pairwise (· < ·)) {i : Nat} (hi : i + 1 < M.length) {x : Int} (hx : x ∈ M) : ¬ (M[i] < x ∧ x < M[i + 1]) := by
  obtain ⟨j, hj, rfl⟩ := List.mem_iff_getElem.1 hx
  rintro ⟨h1, h2⟩
  by_cases h : j ≤ i
  · have := asc_le hs h (by omega); omega
  · have := asc_le hs (show i + 1 ≤ j by omega) hj; omega
theorem asc_last {M : List Int} (hs : M.Pairwise (· < ·)) {i : Nat} (hi : i + 1 = M.length) {x : Int} (hx : x ∈ M) : ¬ (M[i] < x) := by
  obtain ⟨j, hj, rfl⟩ := List.mem_iff_getElem.1 hx
  have := asc_le hs (show j ≤ i by omega) (by omega)
  omega
theorem marks_len (L : List Chg) (f t : Int) : 0 < (marksD L f t).length ∧ (marksD L f t).length ≤ L.length + 1 := by
  constructor
  · have := (marks_spec L f t).2 f
    exact List.length_pos_of_mem (this.2 (.inl rfl))
  · have h1 := compact_len ((daysL L f t).mergeSort fun x y => decide (x ≤ y))
    have h2 := days_len L f t
    rw [List.length_mergeSort] at h1
    rw [marksD]; omega
theorem marks_range {L : List Chg} {f t : Int} (hft : f ≤ t) {i : Nat} (hi : i < (marksD L f t).length) : f ≤ (marksD L f t)[i] ∧ (marksD L f t)[i] ≤ t := by
  have := ((marks_spec L f t).2 _).1 (List.getElem_mem hi)
  omega
theorem marks_head {L : List Chg} {f t : Int} (hft : f ≤ t) (h : 0 < (marksD L f t).length) : (marksD L f t)[0] = f := by
  have h1 := ((marks_spec L f t).2 f).2 (.inl rfl)
  obtain ⟨j, hj, hf⟩ := List.mem_iff_getElem.1 h1
  have h2 := asc_le (marks_spec L f t).1 (Nat.zero_le j) hj
  have h3 := (marks_range hft h).1
  rw [hf] at h2
  omega
/-- the last day of a segment -/
def mEnd (M : List Int) (t : Int) (i : Nat) : Int := match M[i + 1]? with | none => t | some x => x - 1
theorem mEnd_in {M : List Int} {t : Int} {i : Nat} (h : i + 1 < M.length) : mEnd M t i = M[i + 1] - 1 := by
  rw [mEnd, List.getElem?_eq_getElem h]
theorem mEnd_out {M : List Int} {t : Int} {i : Nat} (h : ¬ i + 1 < M.length) : mEnd M t i = t := by
  rw [mEnd, List.getElem?_eq_none (by omega)]
theorem marks_seg {L : List Chg} {f t : Int} (hft : f ≤ t) {i : Nat} (hi : i < (marksD L f t).length) :
    (marksD L f t)[i] ≤ mEnd (marksD L f t) t i ∧ mEnd (marksD L f t) t i ≤ t ∧ ∀ c ∈ L, ¬ ((marksD L f t)[i] < c.f ∧ c.f ≤ mEnd (marksD L f t) t i) := by
  have hs := (marks_spec L f t).1
  have hr := marks_range hft hi
  have hm : ∀ c ∈ L, f < c.f → c.f ≤ t → c.f ∈ marksD L f t := fun c hc h1 h2 => ((marks_spec L f t).2 c.f).2 (.inr ⟨⟨h1, h2⟩, c, hc, rfl⟩)
  by_cases h : i + 1 < (marksD L f t).length
  · have h1 := List.pairwise_iff_getElem.1 hs i (i + 1) hi h (by omega)
    have h2 := (marks_range hft h).2
    rw [mEnd_in h]
    exact ⟨by omega, by omega, fun c hc hh => asc_gap hs h (hm c hc (by omega) (by omega)) ⟨hh.1, by omega⟩⟩
  · rw [mEnd_out h]
    exact ⟨by omega, by omega, fun c hc hh => asc_last hs (show i + 1 = _ by omega) (hm c hc (by omega) (by omega)) hh.1⟩
/-- the day behind the first i segments -/
def mDay (M : List Int) (t : Int) (i : Nat) : Int := match M[i]? with | none => t + 1 | some x => x
theorem mDay_next (M : List Int) (t : Int) (i : Nat) : mDay M t (i + 1) = mEnd M t i + 1 := by
  rw [mDay, mEnd]
  cases M[i + 1]? with
  | none => rfl
  | some x => simp only; omega
theorem mDay_in {M : List Int} {t : Int} {i : Nat} (h : i < M.length) : mDay M t i = M[i] := by rw [mDay, List.getElem?_eq_getElem h]
theorem mDay_out {M : List Int} {t : Int} {i : Nat} (h : ¬ i < M.length) : mDay M t i = t + 1 := by rw [mDay, List.getElem?_eq_none (by omega)]
/-- the ranges behind the first i segments -/
def difTo (A B : List Chg) (M : List Int) (f t : Int) (i : Nat) : List Pc := runs (difV A B) f (mDay M t i - f).toNat
/-- the differing ranges -/
def difR (A B : List Chg) (f t : Int) : List Pc := runs (difV A B) f (t + 1 - f).toNat
theorem difTo_zero {A B L : List Chg} {f t : Int} (hft : f ≤ t) : difTo A B (marksD L f t) f t 0 = [] := by
  have h := (marks_len L f t).1
  rw [difTo, mDay_in h, marks_head hft h]
  simp [runs]
theorem difTo_end {A B L : List Chg} {f t : Int} {i : Nat} (h : ¬ i < (marksD L f t).length) : difTo A B (marksD L f t) f t i = difR A B f t := by
  rw [difTo, mDay_out h, difR]
theorem difTo_same {A B : List Chg} {f t : Int} (hft : f ≤ t) {i : Nat} (hi : i < (marksD (A ++ B) f t).length) (hv : valD A ((marksD (A ++ B) f t)[i]) = valD B ((marksD (A ++ B) f t)[i])) :
    difTo A B (marksD (A ++ B) f t) f t (i + 1) = difTo A B (marksD (A ++ B) f t) f t i := by
  obtain ⟨h1, h2, h3⟩ := marks_seg hft hi
  have hr := marks_range hft hi
  rw [difTo, difTo, mDay_next, mDay_in hi]
  have := dif_none (A := A) (B := B) (f := f) (n := ((marksD (A ++ B) f t)[i] - f).toNat) (by omega) h1 h3 hv
  rw [← this]
  congr 1
  omega
theorem difTo_differ {A B : List Chg} {f t : Int} (hft : f ≤ t) {i : Nat} (hi : i < (marksD (A ++ B) f t).length) (hv : ¬ valD A ((marksD (A ++ B) f t)[i]) = valD B ((marksD (A ++ B) f t)[i])) :
    difTo A B (marksD (A ++ B) f t) f t (i + 1) = addS (difTo A B (marksD (A ++ B) f t) f t i) ((marksD (A ++ B) f t)[i]) (mEnd (marksD (A ++ B) f t) t i) 0 := by
  obtain ⟨h1, h2, h3⟩ := marks_seg hft hi
  have hr := marks_range hft hi
  rw [difTo, difTo, mDay_next, mDay_in hi]
  have := dif_some (A := A) (B := B) (f := f) (n := ((marksD (A ++ B) f t)[i] - f).toNat) (by omega) h1 h3 hv
  rw [← this]
  congr 1
  omega
theorem difTo_zeroV (A B : List Chg) (M : List Int) (f t : Int) (i : Nat) : ∀ p ∈ difTo A B M f t i, p.v = 0 := runs_zero A B f _
end Go.Proofs.YtaafihdegnaokaaGreatDoor
