/- Numbers in memory: slices.Sort and slices.Compact at int; the days of timeline.marks. -/
import Derived.Test.YtaafihdegnaokaaGreatDoorSrt
import Derived.Test.YtaafihdegnaokaaGreatDoorGb
import Derived.Test.YtaafihdegnaokaaGreatDoorChgK
import Derived.Test.YtaafihdegnaokaaGreatDoorLib
import Derived.Shelf.SortM.SortNone
namespace Go.Proofs.YtaafihdegnaokaaGreatDoor
open Go.RowKit Go.Sort Go.Shelf

theorem CellsAt.int {w : World} {b off : Nat} {l : List Int} (h : CellsAt w 1 b off (ints l)) {k : Nat} (hk : k < l.length) : w.cell? ⟨b, off + k, none⟩ = some (.int .i64 l[k]) := by
  have := h.2 k [.int .i64 l[k]] (by simp [ints, hk]) 0 _ rfl
  rwa [Nat.mul_one] at this
theorem ints_pos {l : List Int} {k : Nat} (hlt : k < l.length) (h : ints l = []) : False := by
  have := congrArg List.length h
  rw [ints_len] at this; simp only [List.length_nil] at this; omega
theorem ints_wide (l : List Int) : Wide 1 (ints l) := fun x hx => by
  obtain ⟨p, _, rfl⟩ := List.mem_map.1 hx
  exact ⟨rfl, by simp [Value.oneCell']⟩
theorem ints_append (l m : List Int) : ints (l ++ m) = ints l ++ ints m := by simp [ints]
theorem rowInt : RowTy Tryz.prog 22 3 1 8 := by
  obtain ⟨i, hi, hz, hs, hb⟩ := info_parts (show (Tryz.prog.info? 3).map (fun i => (i.zero, i.size, i.bytes)) = some (some (.int .i64 0), 1, 8) by kernel_rfl)
  exact ⟨Tryz.underlying22, ⟨i, _, hi, hz, hs, hb, rfl⟩, by omega⟩
def enI (z : Int) : List Value := [.int .i64 z]
theorem enI_len (z : Int) : (enI z).length = 1 := rfl
theorem enI_one (z : Int) : ∀ v ∈ enI z, v.oneCell' = true := by simp [enI, Value.oneCell']
theorem flatI_get (d : Array Int) (t : Nat) (h : t < d.size) : (flatK enI 1 d)[t]! = .int .i64 d[t]! := by
  rw [get_flatK _ _ _ _ (by omega), Nat.div_one, Nat.mod_one]; rfl
theorem putI_eq (W : World) (g : Nat) (d : Array Int) : putRow (Value.int .i64) W g 0 d = putRowK enI 1 W g 0 d := by
  unfold putRowK putRow
  congr 1
  funext c
  unfold putCells
  congr 1
  funext k x
  rw [size_flatK, Nat.mul_one]
  split
  · rename_i h
    rw [flatI_get d _ (by omega)]; rfl
  · rfl
theorem holdsI {w : World} {g : Nat} {d : Array Int} (h : HoldsK enI 1 w g 0 d) : Holds (Value.int .i64) w g 0 d := fun j hj => by
  have := h j (by rw [size_flatK]; omega)
  rw [flatI_get d j hj] at this
  exact this
theorem ints_map (l : List Int) : ints l = l.map enI := rfl

theorem sortI_any (l : List Int) (g cap base : Nat) (w : World) (hown : Own w base 3 1 (.slice (some ⟨g, 0, none⟩) l.length cap) (ints l)) (hl : l.length ≤ 4096) :
    Calls Tryz.prog 84 #[.slice (some ⟨g, 0, none⟩) l.length cap] w fun e w' => e = .returned (.tuple #[]) ∧ Own w' base 3 1 (.slice (some ⟨g, 0, none⟩) l.length cap) (ints (l.mergeSort fun x y => decide (x ≤ y))) ∧ w.grownBy w' (some g) := by
  rw [ints_map] at hown
  obtain ⟨hH, hlt⟩ := own_holds (enc := enI) (k := 1) (by omega) enI_len enI_one hown
  refine Calls.mono (R := _) (Tryz.slices_Sort_int g 0 cap l w (holdsI hH) hlt (by omega)) fun e w' hh => ?_
  obtain ⟨he, n, os, hw⟩ := hh
  subst hw
  have hk := own_sorted (enc := enI) (k := 1) (by omega) enI_len enI_one hown (l.mergeSort fun x y => decide (x ≤ y)).toArray (by simp [List.length_mergeSort]) n os
  rw [putI_eq]
  exact ⟨he, hk.1, hk.2⟩
theorem grow_none (w : World) : grow w #[] = w := by simp [grow]
theorem compactI_any (l : List Int) (g cap base : Nat) (w : World) (hown : Own w base 3 1 (.slice (some ⟨g, 0, none⟩) l.length cap) (ints l)) (hl : l.length ≤ 4096) (hc : l.length ≤ cap) (hcl : (Lib.compact l).length ≤ l.length) :
    Calls Tryz.prog 85 #[.slice (some ⟨g, 0, none⟩) l.length cap] w fun e w' => e = .returned (.slice (some ⟨g, 0, none⟩) (Lib.compact l).length cap) ∧ Own w' base 3 1 (.slice (some ⟨g, 0, none⟩) (Lib.compact l).length cap) (ints (Lib.compact l)) ∧ w.grownBy w' (some g) := by
  rw [ints_map] at hown
  obtain ⟨hH, hlt⟩ := own_holds (enc := enI) (k := 1) (by omega) enI_len enI_one hown
  refine Calls.mono (R := _) (Tryz.slices_Compact_int g 0 cap l w (holdsI hH) (by omega) hc) fun e w' hh => ?_
  obtain ⟨he, n, hw⟩ := hh
  subst hw
  have hk := own_sorted (enc := enI) (k := 1) (by omega) enI_len enI_one hown (Lib.compact l ++ List.replicate (l.length - (Lib.compact l).length) 0).toArray (by simp; omega) n #[]
  rw [sortWorldK, grow_none, ← putI_eq] at hk
  have h2 := hk.1.cut (Lib.compact l).length hcl
  refine ⟨he, ?_, hk.2⟩
  have e1 : List.take (Lib.compact l).length (List.map enI (Lib.compact l ++ List.replicate (l.length - (Lib.compact l).length) 0).toArray.toList) = ints (Lib.compact l) := by
    rw [ints_map, ← List.map_take]
    congr 1
    exact List.take_left
  rw [e1] at h2
  exact h2

theorem compact_mem {d : Array Int} (hs : ∀ i j, i < j → j < d.size → d[i]! ≤ d[j]!) : ∀ m, m ≤ d.size → (Lib.compactUpTo d m).Pairwise (· < ·) ∧ ∀ x, x ∈ Lib.compactUpTo d m ↔ ∃ j, j < m ∧ d[j]! = x
  | 0, _ => by simp [Lib.compactUpTo]
  | m + 1, hm => by
    obtain ⟨h1, h2⟩ := compact_mem hs m (by omega)
    rw [Lib.compactUpTo_succ]
    by_cases hk : Lib.keeps d m = true
    · rw [if_pos hk]
      have hk' : m = 0 ∨ d[m]! ≠ d[m - 1]! := by simpa [Lib.keeps] using hk
      refine ⟨List.pairwise_append.2 ⟨h1, by simp, fun a ha b hb => ?_⟩, fun x => ?_⟩
      · obtain ⟨j, hj, rfl⟩ := (h2 a).1 ha
        simp only [List.mem_singleton] at hb
        subst hb
        have hne : d[m]! ≠ d[m - 1]! := hk'.resolve_left (by omega)
        have h3 := hs (m - 1) m (by omega) (by omega)
        by_cases hj' : j = m - 1
        · subst hj'; omega
        · have := hs j (m - 1) (by omega) (by omega); omega
      · rw [List.mem_append, h2]
        simp only [List.mem_singleton]
        constructor
        · rintro (⟨j, hj, rfl⟩ | rfl)
          · exact ⟨j, by omega, rfl⟩
          · exact ⟨m, by omega, rfl⟩
        · rintro ⟨j, hj, rfl⟩
          by_cases hjm : j = m
          · subst hjm; exact .inr rfl
          · exact .inl ⟨j, by omega, rfl⟩
    · rw [if_neg hk, List.append_nil]
      have hk' : ¬ (m = 0 ∨ d[m]! ≠ d[m - 1]!) := by simpa [Lib.keeps] using hk
      have hm0 : m ≠ 0 := fun h => hk' (.inl h)
      have he : d[m]! = d[m - 1]! := Classical.byContradiction fun h => hk' (.inr h)
      refine ⟨h1, fun x => ?_⟩
      rw [h2]
      constructor
      · rintro ⟨j, hj, rfl⟩; exact ⟨j, by omega, rfl⟩
      · rintro ⟨j, hj, rfl⟩
        by_cases hjm : j = m
        · subst hjm; exact ⟨j - 1, by omega, he.symm⟩
        · exact ⟨j, by omega, rfl⟩

/-- the days of marks, as they come -/
def daysL (L : List Chg) (f t : Int) : List Int := f :: (L.filter fun c => decide (f < c.f ∧ c.f ≤ t)).map (·.f)
/-- the days of marks -/
def marksD (L : List Chg) (f t : Int) : List Int := Lib.compact ((daysL L f t).mergeSort fun x y => decide (x ≤ y))
theorem sorted_days (z : List Int) : (z.mergeSort fun x y => decide (x ≤ y)).Pairwise (fun x y => x ≤ y) := by
  have := List.pairwise_mergeSort (le := fun x y : Int => decide (x ≤ y)) (fun a b c h1 h2 => by simp only [decide_eq_true_eq] at *; omega) (fun a b => by simp only [Bool.or_eq_true, decide_eq_true_eq]; omega) z
  exact this.imp fun h => by simpa using h
theorem marks_spec (L : List Chg) (f t : Int) : (marksD L f t).Pairwise (· < ·) ∧ ∀ x, x ∈ marksD L f t ↔ x = f ∨ ((f < x ∧ x ≤ t) ∧ ∃ c ∈ L, c.f = x) := by
  obtain ⟨z, hz⟩ : ∃ z, (daysL L f t).mergeSort (fun x y => decide (x ≤ y)) = z := ⟨_, rfl⟩
  have hs : z.Pairwise (fun x y => x ≤ y) := hz ▸ sorted_days _
  have hm : ∀ x, x ∈ z ↔ x ∈ daysL L f t := fun x => by rw [← hz]; exact List.mem_mergeSort
  rw [marksD, hz, Lib.compact]
  have h := compact_mem (d := z.toArray) (fun i j hij hj => by
    have hj' : j < z.length := by simpa using hj
    have := List.pairwise_iff_getElem.1 hs i j (by omega) hj' hij
    rw [getElem!_pos z.toArray i (by simp; omega), getElem!_pos z.toArray j (by simpa using hj')]
    simpa using this) z.length (by simp)
  refine ⟨h.1, fun x => ?_⟩
  rw [h.2 x]
  have e1 : (∃ j, j < z.length ∧ z.toArray[j]! = x) ↔ x ∈ z := by
    rw [List.mem_iff_getElem]
    constructor
    · rintro ⟨j, hj, rfl⟩; exact ⟨j, hj, by rw [getElem!_pos z.toArray j (by simpa using hj)]; simp⟩
    · rintro ⟨j, hj, rfl⟩; exact ⟨j, hj, by rw [getElem!_pos z.toArray j (by simpa using hj)]; simp⟩
  rw [e1, hm, daysL, List.mem_cons, List.mem_map]
  constructor
  · rintro (h | ⟨c, hc, rfl⟩)
    · exact .inl h
    · rw [List.mem_filter, decide_eq_true_eq] at hc
      exact .inr ⟨hc.2, c, hc.1, rfl⟩
  · rintro (h | ⟨hx, c, hc, rfl⟩)
    · exact .inl h
    · exact .inr ⟨c, by rw [List.mem_filter, decide_eq_true_eq]; exact ⟨hc, hx⟩, rfl⟩
theorem compact_len (l : List Int) : (Lib.compact l).length ≤ l.length := by
  rw [Lib.compact, Lib.compactUpTo, List.length_map]
  have := List.length_filter_le (Lib.keeps l.toArray) (List.range l.length)
  simpa using this
theorem days_len (L : List Chg) (f t : Int) : (daysL L f t).length ≤ L.length + 1 := by
  rw [daysL, List.length_cons, List.length_map]
  have := List.length_filter_le (fun c : Chg => decide (f < c.f ∧ c.f ≤ t)) L
  omega
end Go.Proofs.YtaafihdegnaokaaGreatDoor
