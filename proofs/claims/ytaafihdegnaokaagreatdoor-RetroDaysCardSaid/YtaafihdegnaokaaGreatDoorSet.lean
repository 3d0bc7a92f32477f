/- Storing an element into a slice of the call's own; slices of such a slice. -/
import Derived.Test.YtaafihdegnaokaaGreatDoorSlice
namespace Go.Proofs.YtaafihdegnaokaaGreatDoor
open Go.RowKit

theorem flatten_set {sz : Nat} (hsz : 0 < sz) {es : List (List Value)} (h : Wide sz es) (i : Nat) (hi : i < es.length) (x : List Value) (hx : x.length = sz) (j : Nat) :
    (es.set i x).flatten[j]? = if i * sz ≤ j ∧ j < i * sz + sz then x[j - i * sz]? else es.flatten[j]? := by
  have hw : ∀ y ∈ es.set i x, y.length = sz := fun y hy => by
    rcases List.mem_or_eq_of_mem_set hy with hy | rfl
    · exact (h y hy).1
    · exact hx
  have hget : ∀ (fs : List (List Value)), (∀ y ∈ fs, y.length = sz) → ∀ j, fs.flatten[j]? = (fs[j / sz]?).bind (·[j % sz]?) := by
    intro fs hfs
    induction fs with
    | nil => simp
    | cons y r ih =>
      intro j
      have hy := hfs y (by simp)
      rw [List.flatten_cons]
      by_cases hj : j < sz
      · rw [List.getElem?_append_left (by omega), Nat.div_eq_of_lt hj, Nat.mod_eq_of_lt hj]; simp
      · rw [List.getElem?_append_right (by omega), ih (fun z hz => hfs z (by simp [hz])), hy]
        have e1 : j / sz = (j - sz) / sz + 1 := by
          have : j = (j - sz) + sz := by omega
          conv => lhs; rw [this]
          rw [Nat.add_div_right _ hsz]
        have e2 : j % sz = (j - sz) % sz := by
          have : j = (j - sz) + sz := by omega
          conv => lhs; rw [this]
          rw [Nat.add_mod_right]
        rw [e1, e2, List.getElem?_cons_succ]
  rw [hget _ hw, hget _ (fun y hy => (h y hy).1), List.getElem?_set]
  by_cases hc : i * sz ≤ j ∧ j < i * sz + sz
  · have hd : j / sz = i := by
      obtain ⟨h1, h2⟩ := hc
      exact Nat.div_eq_of_lt_le (by omega) (by rw [Nat.add_mul, Nat.one_mul]; omega)
    rw [if_pos hd.symm, if_pos hi, if_pos hc]
    show x[j % sz]? = _
    rw [← hd, Nat.mod_eq_sub_div_mul]
  · rw [if_neg, if_neg hc]
    intro hd
    apply hc
    have a := Nat.div_mul_le_self j sz
    have b := Nat.lt_mul_div_succ j hsz
    rw [Nat.mul_add, Nat.mul_one, Nat.mul_comm] at b
    rw [hd]; exact ⟨a, b⟩

/-- a run of stores into a list -/
def setRun (xs : List Value) (j : Nat) : List Value → List Value
  | [] => xs
  | u :: r => setRun (xs.set j u) (j + 1) r
theorem setRun_get (us : List Value) : ∀ (xs : List Value) (j t : Nat), j + us.length ≤ xs.length → (setRun xs j us)[t]? = if j ≤ t ∧ t < j + us.length then us[t - j]? else xs[t]? := by
  induction us with
  | nil => intro xs j t _; rw [if_neg (by simp only [List.length_nil]; omega)]; rfl
  | cons u r ih =>
    intro xs j t h
    simp only [List.length_cons] at h ⊢
    rw [setRun, ih _ _ _ (by rw [List.length_set]; omega), List.getElem?_set]
    by_cases h1 : j + 1 ≤ t ∧ t < j + 1 + r.length
    · rw [if_pos h1, if_pos (by omega), show t - j = (t - (j + 1)) + 1 by omega, List.getElem?_cons_succ]
    · rw [if_neg h1]
      by_cases h2 : j = t
      · subst h2; rw [if_pos rfl, if_pos (by omega), if_pos (by omega)]; simp
      · rw [if_neg h2, if_neg (by omega)]
theorem setRun_flat {sz : Nat} (hsz : 0 < sz) {es : List (List Value)} (h : Wide sz es) (i : Nat) (hi : i < es.length) (x : List Value) (hx : x.length = sz) : setRun es.flatten (i * sz) x = (es.set i x).flatten := by
  apply List.ext_getElem?
  intro j
  have hl : i * sz + x.length ≤ es.flatten.length := by
    rw [h.flat, hx]
    have : (i + 1) * sz ≤ es.length * sz := Nat.mul_le_mul_right _ hi
    rw [Nat.add_mul, Nat.one_mul] at this; exact this
  rw [setRun_get _ _ _ _ hl, flatten_set hsz h i hi x hx, hx]
/-- a run of stores into a world -/
def storeRun (w : World) (g j : Nat) : List Value → World
  | [] => w
  | u :: r => storeRun (w.setCell ⟨g, j, none⟩ u) g (j + 1) r
theorem storeRun_own (us : List Value) : ∀ {w : World} {base e sz g n cap : Nat} {xs : List Value} (j : Nat), w.ownsRow base e sz (.slice (some ⟨g, 0, none⟩) n cap) n xs →
    (storeRun w g j us).ownsRow base e sz (.slice (some ⟨g, 0, none⟩) n cap) n (setRun xs j us) ∧ w.grownBy (storeRun w g j us) (some g) := by
  induction us with
  | nil => intro w base e sz g n cap xs j h; exact ⟨h, World.grownBy.refl _ _⟩
  | cons u r ih =>
    intro w base e sz g n cap xs j h
    obtain ⟨h1, h2⟩ := h.stored j u
    obtain ⟨h3, h4⟩ := ih (j + 1) h1
    exact ⟨h3, h2.trans h4⟩
theorem Own.store {w : World} {base e sz g n cap : Nat} {es : List (List Value)} (hsz : 0 < sz) (h : Own w base e sz (.slice (some ⟨g, 0, none⟩) n cap) es) (i : Nat) (hi : i < es.length) (x : List Value) (hx : x.length = sz) (hx1 : ∀ u ∈ x, u.oneCell' = true) :
    Own (storeRun w g (i * sz) x) base e sz (.slice (some ⟨g, 0, none⟩) n cap) (es.set i x) ∧ w.grownBy (storeRun w g (i * sz) x) (some g) := by
  have hn : n = es.length := by
    rcases h.1.2 with ⟨h', _⟩ | ⟨g', cap', cur, h', _⟩
    · simp at h'
    · injection h'
  subst hn
  obtain ⟨h1, h2⟩ := storeRun_own x (i * sz) h.1
  refine ⟨⟨?_, fun y hy => ?_⟩, h2⟩
  · rw [List.length_set, ← setRun_flat hsz h.2 i hi x hx]; exact h1
  · rcases List.mem_or_eq_of_mem_set hy with hy | rfl
    · exact h.2 y hy
    · exact ⟨hx, hx1⟩
/-- a cell of an element of an own slice -/
theorem Own.cellE {w : World} {base e sz g n cap : Nat} {es : List (List Value)} (hsz : 0 < sz) (h : Own w base e sz (.slice (some ⟨g, 0, none⟩) n cap) es) {i : Nat} {x : List Value} (hi : es[i]? = some x) {j : Nat} {u : Value} (hj : x[j]? = some u) : w.cell? ⟨g, i * sz + j, none⟩ = some u := by
  obtain ⟨A, cap', hv, _, _, _, hc⟩ := h.sl hsz
  injection hv with hv1 hv2 hv3
  subst hv1
  rcases hc with rfl | ⟨b, off, hA, hc⟩
  · simp at hi
  · injection hA with hA
    injection hA with h1 h2
    subst h1 h2
    have := hc.2 i x hi j u hj
    rwa [Nat.zero_add] at this
theorem Own.frozenE {w : World} {base e sz g n cap : Nat} {es : List (List Value)} (h : Own w base e sz (.slice (some ⟨g, 0, none⟩) n cap) es) (j : Nat) : w.frozen? ⟨g, j, none⟩ = false := by
  have hn : n = es.length := by
    rcases h.1.2 with ⟨h', _⟩ | ⟨g', cap', cur, h', _⟩
    · simp at h'
    · injection h'
  subst hn
  exact h.1.frozenAt j
/-- the first k elements -/
theorem Sl.take {w : World} {sz b off n cap : Nat} {es : List (List Value)} (h : Sl w sz (.slice (some ⟨b, off, none⟩) n cap) es) (k : Nat) (hk : k ≤ n) (c : Nat) (hc : k ≤ c) (hc2 : c ≤ maxLen) : Sl w sz (.slice (some ⟨b, off, none⟩) k c) (es.take k) := by
  obtain ⟨A, cap', hv, h1, h2, h0, h3⟩ := h
  injection hv with hv1 hv2 hv3
  subst hv1 hv2 hv3
  have hl : (es.take k).length = k := by rw [List.length_take]; omega
  refine ⟨_, c, by rw [hl], by omega, hc2, (fun h => by cases h), ?_⟩
  rcases h3 with rfl | ⟨b', off', hA, hcell⟩
  · exact .inl (by simp)
  · refine .inr ⟨b', off', hA, hcell.1, fun i e hi => hcell.2 i e ?_⟩
    rw [List.getElem?_take] at hi
    split at hi
    · exact hi
    · cases hi
/-- the elements from k on -/
theorem Sl.drop {w : World} {sz b off n cap : Nat} {es : List (List Value)} (h : Sl w sz (.slice (some ⟨b, off, none⟩) n cap) es) (k : Nat) (hk : k ≤ n) : Sl w sz (.slice (some ⟨b, off + k * sz, none⟩) (n - k) (cap - k)) (es.drop k) := by
  obtain ⟨A, cap', hv, h1, h2, h0, h3⟩ := h
  injection hv with hv1 hv2 hv3
  subst hv1 hv2 hv3
  refine ⟨_, cap - k, by rw [List.length_drop], by rw [List.length_drop]; omega, by omega, (fun h => by cases h), ?_⟩
  rcases h3 with rfl | ⟨b', off', hA, hcell⟩
  · exact .inl (by simp)
  · injection hA with hA
    injection hA with e1 e2
    subst e1 e2
    refine .inr ⟨b, off + k * sz, rfl, hcell.1, fun i e hi j u hu => ?_⟩
    rw [List.getElem?_drop] at hi
    have := hcell.2 (k + i) e hi j u hu
    rwa [Nat.add_mul, ← Nat.add_assoc] at this

/-- the cells that make lays -/
theorem made_flat (z : Array Value) (hz : 0 < z.size) (h1 : ∀ u ∈ z.toList, u.oneCell' = true) (n : Nat) : (madeCells z (n * z.size)).toList = (List.replicate n z.toList).flatten := by
  have hw : Wide z.size (List.replicate n z.toList) := fun x hx => by rw [(List.mem_replicate.1 hx).2]; exact ⟨by simp, h1⟩
  apply List.ext_getElem?
  intro j
  rw [hw.get hz]
  by_cases hj : j < n * z.size
  · have hd : j / z.size < n := (Nat.div_lt_iff_lt_mul hz).2 hj
    have hm : j % z.size < z.size := Nat.mod_lt _ hz
    simp [madeCells, hj, hd, getElem!_pos, hm]
  · have hd : n ≤ j / z.size := by rw [Nat.le_div_iff_mul_le hz]; omega
    rw [List.getElem?_eq_none (by simp [madeCells]; omega), List.getElem?_eq_none (by simpa using hd)]; rfl

end Go.Proofs.YtaafihdegnaokaaGreatDoor
