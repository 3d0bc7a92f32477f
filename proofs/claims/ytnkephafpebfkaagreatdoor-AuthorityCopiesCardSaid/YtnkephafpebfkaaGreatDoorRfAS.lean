/- The reference's authority: returns by ascending periods. No program in sight. -/
import Derived.Test.YtnkephafpebfkaaGreatDoorAuS
namespace Go.Proofs.YtnkephafpebfkaaGreatDoor

/-- strictly ascending by period -/
def AscR (l : List Ret) : Prop := l.Pairwise fun a b => a.p < b.p
theorem AscR.dist {l : List Ret} (h : AscR l) : DistR l := h.imp fun h => by omega
theorem ofP_one {l : List Ret} (h : DistR l) (p : Int) : ofP l p = [] ∨ ∃ r ∈ l, r.p = p ∧ ofP l p = [r] := by
  cases hh : hasP l p
  · left
    unfold hasP at hh
    simpa using hh
  · obtain ⟨r, hr, rfl⟩ := hasP_mem.1 hh
    exact .inr ⟨r, hr, rfl, h.one hr⟩
theorem ofP_perm {a b : List Ret} (h : a.Perm b) (ha : DistR a) (p : Int) : ofP a p = ofP b p := by
  have hp : (ofP a p).Perm (ofP b p) := h.filter _
  rcases ofP_one ha p with h1 | ⟨r, _, _, h1⟩
  · rw [h1] at hp ⊢; exact hp.symm.eq_nil.symm
  · rw [h1] at hp ⊢; exact (List.perm_singleton.1 hp.symm).symm
theorem DistR.perm {a b : List Ret} (h : DistR a) (hp : a.Perm b) : DistR b := hp.pairwise h fun h => h.symm
theorem latP_perm {a b : List Ret} (h : a.Perm b) (ha : DistR a) (p : Int) : latP a p = latP b p ∧ verP a p = verP b p ∧ hasP a p = hasP b p := by
  unfold latP verP hasP
  rw [ofP_perm h ha p]
  exact ⟨rfl, rfl, rfl⟩
theorem subE_perm {a b : List Ret} (h : a.Perm b) (ha : DistR a) (s : List UInt8) : subE a s = subE b s := by
  unfold subE
  rw [(latP_perm h ha _).2.1]
theorem putR_perm {a b : List Ret} (h : a.Perm b) (ha : DistR a) (r : Ret) : (putR a r).Perm (putR b r) := by
  unfold putR
  rw [(latP_perm h ha _).2.2]
  split
  · exact h.map _
  · exact h.append_right _
theorem subA_perm {a b : List Ret} (h : a.Perm b) (ha : DistR a) (s : List UInt8) : (subA a s).Perm (subA b s) := by
  unfold subA
  rw [subE_perm h ha]
  split
  · exact putR_perm h ha _
  · exact h
/-- the place of a period -/
def PlaceR (l : List Ret) (p : Int) (k : Nat) : Prop := k ≤ l.length ∧ (∀ i (h : i < k) (h' : i < l.length), (l[i]).p < p) ∧ ∀ h : k < l.length, p ≤ (l[k]).p
theorem place_no {l : List Ret} (ha : AscR l) {p : Int} {k : Nat} (h : PlaceR l p k) (hn : ∀ h : k < l.length, ¬ (l[k]).p = p) : hasP l p = false ∧ verP l p = 0 := by
  have hno : ∀ r ∈ l, r.p ≠ p := fun r hr e => by
    obtain ⟨i, hi, rfl⟩ := List.getElem_of_mem hr
    obtain ⟨h1, h2, h3⟩ := h
    rcases Nat.lt_trichotomy i k with hik | rfl | hik
    · have := h2 i hik hi; omega
    · exact hn hi e
    · have := h3 (by omega)
      have := (List.pairwise_iff_getElem.1 ha) k i (by omega) hi hik
      omega
  unfold hasP verP
  rw [ofP_none hno]
  exact ⟨rfl, rfl⟩
theorem place_yes {l : List Ret} (ha : AscR l) {p : Int} {k : Nat} (hk : k < l.length) (he : (l[k]).p = p) : hasP l p = true ∧ verP l p = (l[k]).v := by
  have := ha.dist.lat (List.getElem_mem hk)
  rw [he] at this
  exact ⟨this.2.2, this.2.1⟩
theorem set_map {l : List Ret} (hd : DistR l) {r : Ret} {k : Nat} (hk : k < l.length) (he : (l[k]).p = r.p) : l.set k r = l.map fun g => if g.p = r.p then r else g := by
  apply List.ext_getElem (by simp)
  intro i h1 h2
  rw [List.getElem_set, List.getElem_map]
  simp only [List.length_set] at h1
  by_cases hik : k = i
  · subst hik; rw [if_pos rfl, if_pos he]
  · rw [if_neg hik, if_neg]
    intro e
    rcases Nat.lt_or_gt_of_ne hik with h | h
    · exact (List.pairwise_iff_getElem.1 hd) k i hk h1 h (he.trans e.symm)
    · exact (List.pairwise_iff_getElem.1 hd) i k h1 hk h (e.trans he.symm)
theorem put_yes {l : List Ret} (ha : AscR l) {r : Ret} {k : Nat} (hk : k < l.length) (he : (l[k]).p = r.p) : putR l r = l.set k r ∧ AscR (l.set k r) := by
  have h1 := (place_yes ha hk he).1
  refine ⟨?_, ?_⟩
  · rw [putR, if_pos h1, set_map ha.dist hk he]
  · unfold AscR at ha ⊢
    rw [List.pairwise_iff_getElem] at ha ⊢
    intro i j hi hj hij
    simp only [List.length_set] at hi hj
    rw [List.getElem_set, List.getElem_set]
    have := ha i j hi hj hij
    split
    · rename_i e; subst e
      rw [if_neg (by omega), ← he]; exact this
    · split
      · rename_i e; subst e
        rw [← he]; exact this
      · exact this
theorem put_no {l : List Ret} (ha : AscR l) {r : Ret} {k : Nat} (h : PlaceR l r.p k) (hn : ∀ h : k < l.length, ¬ (l[k]).p = r.p) : (l.take k ++ r :: l.drop k).Perm (putR l r) ∧ AscR (l.take k ++ r :: l.drop k) := by
  have hh := (place_no ha h hn).1
  obtain ⟨h1, h2, h3⟩ := h
  have hT : ∀ a ∈ l.take k, a.p < r.p := fun a hm => by
    obtain ⟨i, hi, rfl⟩ := List.getElem_of_mem hm
    rw [List.length_take] at hi
    rw [List.getElem_take]
    exact h2 i (by omega) (by omega)
  have hD : ∀ a ∈ l.drop k, r.p < a.p := fun a hm => by
    obtain ⟨i, hi, rfl⟩ := List.getElem_of_mem hm
    rw [List.length_drop] at hi
    rw [List.getElem_drop]
    have h0 := h3 (by omega)
    have h4 := hn (by omega)
    by_cases e : i = 0
    · subst e; simp only [Nat.add_zero]; omega
    · have := (List.pairwise_iff_getElem.1 ha) k (k + i) (by omega) (by omega) (by omega)
      omega
  refine ⟨?_, ?_⟩
  · rw [putR, hh, if_neg (by simp)]
    have : (l.take k ++ r :: l.drop k).Perm (l.take k ++ (l.drop k ++ [r])) := List.Perm.append_left _ (List.perm_append_comm (l₁ := [r]) (l₂ := l.drop k))
    rwa [← List.append_assoc, List.take_append_drop] at this
  · unfold AscR at ha ⊢
    rw [List.pairwise_append]
    refine ⟨ha.sublist (List.take_sublist k l), List.pairwise_cons.2 ⟨hD, ha.sublist (List.drop_sublist k l)⟩, fun a h b hb => ?_⟩
    rcases List.mem_cons.1 hb with rfl | hb
    · exact hT a h
    · exact Int.lt_trans (hT a h) (hD b hb)
theorem ascR_perm_eq {a b : List Ret} (ha : AscR a) (hb : AscR b) (h : a.Perm b) : a = b := by
  induction a generalizing b with
  | nil => rw [h.symm.eq_nil]
  | cons x r ih =>
    cases b with
    | nil => exact absurd h.eq_nil (by simp)
    | cons y s =>
      unfold AscR at ha hb ih
      have ha' := List.pairwise_cons.1 ha
      have hb' := List.pairwise_cons.1 hb
      have e : x = y := by
        have h1 := h.mem_iff.1 (List.mem_cons_self (a := x) (l := r))
        have h2 := h.mem_iff.2 (List.mem_cons_self (a := y) (l := s))
        rcases List.mem_cons.1 h1 with e | h1
        · exact e
        · rcases List.mem_cons.1 h2 with e | h2
          · exact e.symm
          · have := hb'.1 x h1; have := ha'.1 y h2; omega
      subst e
      rw [ih ha'.2 hb'.2 ((List.perm_cons _).1 h)]
end Go.Proofs.YtnkephafpebfkaaGreatDoor
