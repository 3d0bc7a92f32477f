/- Storing one cell of an element into a slice of the call's own. -/
import Derived.Test.YtaafihdegnaokaaGreatDoorSet
namespace Go.Proofs.YtaafihdegnaokaaGreatDoor
open Go.RowKit

theorem Own.set1 {w : World} {base e sz g n cap : Nat} {es : List (List Value)} (hsz : 0 < sz) (h : Own w base e sz (.slice (some ⟨g, 0, none⟩) n cap) es) (i : Nat) {x : List Value} (hi : es[i]? = some x) (j : Nat) (hj : j < sz) (u : Value) (hu : u.oneCell' = true) :
    Own (w.setCell ⟨g, i * sz + j, none⟩ u) base e sz (.slice (some ⟨g, 0, none⟩) n cap) (es.set i (x.set j u)) ∧ w.grownBy (w.setCell ⟨g, i * sz + j, none⟩ u) (some g) := by
  have hn : n = es.length := by
    rcases h.1.2 with ⟨h', _⟩ | ⟨g', cap', cur, h', _⟩
    · simp at h'
    · injection h'
  subst hn
  have hil : i < es.length := (List.getElem?_eq_some_iff.1 hi).1
  have hx := h.2 x (List.mem_of_getElem? hi)
  obtain ⟨h1, h2⟩ := h.1.stored (i * sz + j) u
  have hf : es.flatten.set (i * sz + j) u = (es.set i (x.set j u)).flatten := by
    apply List.ext_getElem?
    intro t
    have hb : i * sz + sz ≤ es.flatten.length := by
      rw [h.2.flat]
      have : (i + 1) * sz ≤ es.length * sz := Nat.mul_le_mul_right _ hil
      rw [Nat.add_mul, Nat.one_mul] at this; exact this
    rw [List.getElem?_set, flatten_set hsz h.2 i hil _ (by rw [List.length_set]; exact hx.1)]
    by_cases ht : i * sz ≤ t ∧ t < i * sz + sz
    · rw [if_pos ht, List.getElem?_set]
      by_cases he : i * sz + j = t
      · rw [if_pos he, if_pos (by omega), if_pos (by omega), if_pos (by omega)]
      · rw [if_neg he, if_neg (by omega), h.2.get hsz]
        have e1 : t / sz = i := by
          have : t = sz * i + (t - i * sz) := by rw [Nat.mul_comm]; omega
          rw [this, Nat.mul_add_div hsz, Nat.div_eq_of_lt (by omega)]; rfl
        have e2 : t % sz = t - i * sz := by
          have : t = sz * i + (t - i * sz) := by rw [Nat.mul_comm]; omega
          conv => lhs; rw [this]
          rw [Nat.mul_add_mod, Nat.mod_eq_of_lt (by omega)]
        rw [e1, e2, hi]; rfl
    · rw [if_neg (by omega), if_neg ht]
  refine ⟨⟨?_, fun y hy => ?_⟩, h2⟩
  · rw [List.length_set, ← hf]; exact h1
  · rcases List.mem_or_eq_of_mem_set hy with hy | rfl
    · exact h.2 y hy
    · refine ⟨by rw [List.length_set]; exact hx.1, fun v hv => ?_⟩
      rcases List.mem_or_eq_of_mem_set hv with hv | rfl
      · exact hx.2 v hv
      · exact hu
theorem Sl.cells {w : World} {sz n cap : Nat} {A : Option Addr} {es : List (List Value)} (h : Sl w sz (.slice A n cap) es) (h0 : 0 < es.length) : ∃ b off, A = some ⟨b, off, none⟩ ∧ CellsAt w sz b off es := by
  obtain ⟨A', cap', hv, _, _, _, hc⟩ := h
  injection hv with hv1 hv2 hv3
  subst hv1
  rcases hc with rfl | hc
  · exact absurd h0 (by simp)
  · exact hc
end Go.Proofs.YtaafihdegnaokaaGreatDoor
