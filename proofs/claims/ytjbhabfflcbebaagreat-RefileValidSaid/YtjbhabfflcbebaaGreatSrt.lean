/- A slice of the call's own, sorted by slices.SortFunc: what its contract says in the words of Own. -/
import Derived.Test.YtjbhabfflcbebaaGreatSlice
import Derived.Shelf.SlSortCmp.WholeK
namespace Go.Proofs.YtjbhabfflcbebaaGreat
open Go.RowKit Go.Sort

theorem wide_map {α : Type} {enc : α → List Value} {k : Nat} (hk : ∀ x, (enc x).length = k) (h1 : ∀ x, ∀ v ∈ enc x, v.oneCell' = true) (l : List α) : Wide k (l.map enc) := fun x hx => by
  obtain ⟨a, _, rfl⟩ := List.mem_map.1 hx
  exact ⟨hk a, h1 a⟩

theorem flat_eq {α : Type} [Inhabited α] {enc : α → List Value} {k : Nat} (hk0 : 0 < k) (hk : ∀ x, (enc x).length = k) (h1 : ∀ x, ∀ v ∈ enc x, v.oneCell' = true) (d : Array α) :
    (flatK enc k d).toList = (d.toList.map enc).flatten := by
  have hw := wide_map hk h1 d.toList
  apply List.ext_getElem?
  intro t
  rw [hw.get hk0]
  by_cases ht : t < d.size * k
  · have hd : t / k < d.size := (Nat.div_lt_iff_lt_mul hk0).2 ht
    have hm : t % k < k := Nat.mod_lt _ hk0
    have e := get_flatK enc k d t ht
    have ht' : t < (flatK enc k d).size := by simpa using ht
    rw [getElem!_pos _ t ht'] at e
    rw [Array.getElem?_toList, Array.getElem?_eq_getElem ht', e]
    have hx : (d.toList.map enc)[t / k]? = some (enc d[t / k]!) := by
      rw [List.getElem?_map, Array.getElem?_toList, Array.getElem?_eq_getElem hd, getElem!_pos d _ hd]; rfl
    rw [hx]
    show _ = (enc d[t / k]!)[t % k]?
    rw [List.getElem?_eq_getElem (by rw [hk]; exact hm), getElem!_pos (enc d[t / k]!) _ (by rw [hk]; exact hm)]
  · rw [Array.getElem?_toList, Array.getElem?_eq_none (by simpa using ht)]
    have hd : d.size ≤ t / k := by
      rw [Nat.le_div_iff_mul_le hk0]; omega
    rw [List.getElem?_eq_none (by simpa using hd)]; rfl

theorem own_holds {α : Type} [Inhabited α] {enc : α → List Value} {k : Nat} (hk0 : 0 < k) (hk : ∀ x, (enc x).length = k) (h1 : ∀ x, ∀ v ∈ enc x, v.oneCell' = true)
    {w : World} {base e g cap : Nat} {l : List α} (hown : Own w base e k (.slice (some ⟨g, 0, none⟩) l.length cap) (l.map enc)) : HoldsK enc k w g 0 l.toArray ∧ g < w.heap.size := by
  have hl : (l.map enc).length = l.length := by simp
  have ho := hown.1
  rw [hl] at ho
  refine ⟨fun j hj => ?_, ?_⟩
  · have hj' : j < l.length * k := by simpa using hj
    refine ⟨?_, ho.frozenAt _⟩
    rw [ho.cellAt _ (by omega), Nat.zero_add]
    have := flat_eq hk0 hk h1 l.toArray
    rw [show l.toArray.toList = l from rfl] at this
    rw [← this, Array.getElem?_toList, Array.getElem?_eq_getElem hj, getElem!_pos _ j hj]; rfl
  · rcases ho.2 with ⟨h', _⟩ | ⟨g', cap', cur, h', _, hg, _⟩
    · simp at h'
    · simp only [Value.slice.injEq, Option.some.injEq, Addr.mk.injEq, and_true, true_and] at h'
      obtain ⟨rfl, rfl⟩ := h'
      rcases Nat.lt_or_ge g w.heap.size with hlt | hge
      · exact hlt
      · rw [Array.getElem?_eq_none hge] at hg; cases hg

theorem own_sorted {α : Type} [Inhabited α] {enc : α → List Value} {k : Nat} (hk0 : 0 < k) (hk : ∀ x, (enc x).length = k) (h1 : ∀ x, ∀ v ∈ enc x, v.oneCell' = true)
    {w : World} {base e g cap : Nat} {l : List α} (hown : Own w base e k (.slice (some ⟨g, 0, none⟩) l.length cap) (l.map enc)) (d : Array α) (hd : d.size = l.length) (n : Nat) (os : Array Obj) :
    Own (sortWorldK enc k w g 0 n d os) base e k (.slice (some ⟨g, 0, none⟩) l.length cap) (d.toList.map enc) ∧ w.grownBy (sortWorldK enc k w g 0 n d os) (some g) := by
  have hlt := (own_holds hk0 hk h1 hown).2
  have hl : (l.map enc).length = l.length := by simp
  have hl2 : (d.toList.map enc).length = l.length := by simp [hd]
  have ho := hown.1
  rw [hl] at ho
  have hw := wide_map hk h1 d.toList
  refine ⟨⟨?_, hw⟩, ?_⟩
  · rw [hl2]
    refine ⟨by rw [hw.flat, hl2], .inr ?_⟩
    rcases ho.2 with ⟨h', _⟩ | ⟨g', cap', cur, h', hb, hg, hnc, hcm, hcs, ht⟩
    · simp at h'
    · simp only [Value.slice.injEq, Option.some.injEq, Addr.mk.injEq, and_true, true_and] at h'
      obtain ⟨rfl, rfl⟩ := h'
      refine ⟨g, cap, putCells id 0 (flatK enc k d) cur, rfl, hb, ?_, hnc, hcm, by simp [putCells, hcs], ?_⟩
      · unfold sortWorldK
        rw [heap_grow_old _ _ (by rw [putRowK, size_putRow]; exact hlt)]
        unfold putRowK putRow mapBlock
        rw [Array.getElem?_modify, if_pos rfl]
        show (w.heap[g]?).map _ = _
        rw [hg]; rfl
      · rw [← flat_eq hk0 hk h1 d]
        apply List.ext_getElem?
        intro t
        rw [List.getElem?_take]
        have hfs : (flatK enc k d).size = l.length * k := by rw [size_flatK, hd]
        by_cases h : t < l.length * k
        · rw [if_pos h]
          have htc : t < cur.size := by
            rw [hcs]; exact Nat.lt_of_lt_of_le h (Nat.mul_le_mul_right _ hnc)
          rw [Array.getElem?_toList, Array.getElem?_toList]
          unfold putCells
          rw [Array.getElem?_mapIdx, Array.getElem?_eq_getElem htc, Option.map_some, if_pos ⟨Nat.zero_le _, by rw [hfs]; omega⟩, Nat.sub_zero, Array.getElem?_eq_getElem (by rw [hfs]; exact h), getElem!_pos _ t (by rw [hfs]; exact h)]; rfl
        · rw [if_neg h, Array.getElem?_toList, Array.getElem?_eq_none (by rw [hfs]; omega)]
  · unfold sortWorldK
    refine ⟨rfl, rfl, rfl, by rw [size_grow, putRowK, size_putRow]; exact Nat.le_add_right _ _, fun b hb hne => ?_⟩
    rw [heap_grow_old _ _ (by rw [putRowK, size_putRow]; exact hb)]
    unfold putRowK putRow mapBlock
    rw [Array.getElem?_modify, if_neg (fun h => hne (by rw [h]))]; rfl

end Go.Proofs.YtjbhabfflcbebaaGreat
