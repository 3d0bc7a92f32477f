/- Laws of arithmetic on fractions: no program in sight. -/
import Derived.Test.YtkdmbkhgcahpiaaDoorRat
namespace Go.Proofs.YtkdmbkhgcahpiaaDoor

theorem frOf_ok {q : Rat} (h : (frOf q).e = 0) : fitsB q = true ∧ frOf q = ⟨q.num, q.den, 0⟩ ∧ vldB (frOf q).n (frOf q).d = true ∧ rq (frOf q).n (frOf q).d = q := by
  unfold frOf at h ⊢
  by_cases hf : fitsB q = true
  · rw [if_pos hf]
    exact ⟨hf, rfl, frOf_valid hf⟩
  · rw [if_neg hf] at h; cases h
theorem frOf_rq {a b : Int} (h : vldB a b = true) : frOf (rq a b) = ⟨a, b, 0⟩ := by
  obtain ⟨e1, e2⟩ := rq_num h
  rw [frOf, if_pos (rq_fits h), e1, e2]
theorem two_yes {a b c d : Int} (h1 : vldB a b = true) (h2 : vldB c d = true) (q : Rat) : two a b c d q = frOf q := by rw [two, h1, h2]; rfl
theorem addF_comm (a b c d : Int) : addF c d a b = addF a b c d := by rw [addF, addF, two, two, Bool.and_comm, Rat.add_comm]
theorem mulF_comm (a b c d : Int) : mulF c d a b = mulF a b c d := by rw [mulF, mulF, two, two, Bool.and_comm, Rat.mul_comm]
section
variable {a1 a2 b1 b2 c1 c2 : Int}
theorem addF_ok (h1 : vldB a1 a2 = true) (h2 : vldB b1 b2 = true) (h : (addF a1 a2 b1 b2).e = 0) : vldB (addF a1 a2 b1 b2).n (addF a1 a2 b1 b2).d = true ∧ rq (addF a1 a2 b1 b2).n (addF a1 a2 b1 b2).d = rq a1 a2 + rq b1 b2 := by
  rw [addF, two_yes h1 h2] at h ⊢
  exact (frOf_ok h).2.2
theorem mulF_ok (h1 : vldB a1 a2 = true) (h2 : vldB b1 b2 = true) (h : (mulF a1 a2 b1 b2).e = 0) : vldB (mulF a1 a2 b1 b2).n (mulF a1 a2 b1 b2).d = true ∧ rq (mulF a1 a2 b1 b2).n (mulF a1 a2 b1 b2).d = rq a1 a2 * rq b1 b2 := by
  rw [mulF, two_yes h1 h2] at h ⊢
  exact (frOf_ok h).2.2
theorem field_dist (h1 : vldB a1 a2 = true) (h2 : vldB b1 b2 = true) (h3 : vldB c1 c2 = true)
    (g : (mulF a1 a2 b1 b2).e = 0) (i : (addF b1 b2 c1 c2).e = 0) (m : (mulF a1 a2 c1 c2).e = 0) :
    mulF a1 a2 (addF b1 b2 c1 c2).n (addF b1 b2 c1 c2).d = addF (mulF a1 a2 b1 b2).n (mulF a1 a2 b1 b2).d (mulF a1 a2 c1 c2).n (mulF a1 a2 c1 c2).d := by
  obtain ⟨g1, g2⟩ := mulF_ok h1 h2 g
  obtain ⟨i1, i2⟩ := addF_ok h2 h3 i
  obtain ⟨m1, m2⟩ := mulF_ok h1 h3 m
  have l : mulF a1 a2 (addF b1 b2 c1 c2).n (addF b1 b2 c1 c2).d = frOf (rq a1 a2 * (rq b1 b2 + rq c1 c2)) := by
    rw [← i2]; exact two_yes h1 i1 _
  have r : addF (mulF a1 a2 b1 b2).n (mulF a1 a2 b1 b2).d (mulF a1 a2 c1 c2).n (mulF a1 a2 c1 c2).d = frOf (rq a1 a2 * rq b1 b2 + rq a1 a2 * rq c1 c2) := by
    rw [← g2, ← m2]; exact two_yes g1 m1 _
  rw [l, r, Rat.mul_add]
theorem field_sub (h1 : vldB a1 a2 = true) (h2 : vldB b1 b2 = true) (g : (addF a1 a2 b1 b2).e = 0) : subF (addF a1 a2 b1 b2).n (addF a1 a2 b1 b2).d b1 b2 = ⟨a1, a2, 0⟩ := by
  obtain ⟨g1, g2⟩ := addF_ok h1 h2 g
  rw [subF, two_yes g1 h2, g2, Rat.add_sub_cancel, frOf_rq h1]
theorem rq_zero {a b : Int} (h : vldB a b = true) : rq a b = 0 ↔ a = 0 := by
  rw [← Rat.num_eq_zero, (rq_num h).1]
theorem field_zero (h1 : vldB a1 a2 = true) (h2 : vldB 0 b2 = true) : divF a1 a2 0 b2 = ⟨0, 0, 5⟩ := by rw [divF, h1, h2]; rfl
theorem field_div (h1 : vldB a1 a2 = true) (h2 : vldB b1 b2 = true) (hb : b1 ≠ 0) (g : (mulF a1 a2 b1 b2).e = 0) : divF (mulF a1 a2 b1 b2).n (mulF a1 a2 b1 b2).d b1 b2 = ⟨a1, a2, 0⟩ := by
  obtain ⟨g1, g2⟩ := mulF_ok h1 h2 g
  rw [divF, g1, h2, if_neg hb, g2, Rat.mul_div_cancel (fun e => hb ((rq_zero h2).1 e)), frOf_rq h1]
  rfl
/-- -1, 0 or 1 -/
def cmpQ (p q : Rat) : Int := if p < q then -1 else if q < p then 1 else 0
theorem cmpF_eq (h1 : vldB a1 a2 = true) (h2 : vldB b1 b2 = true) : cmpF a1 a2 b1 b2 = cmpQ (rq a1 a2) (rq b1 b2) := by rw [cmpF, h1, h2]; rfl
theorem cmpQ_neg (p q : Rat) : -cmpQ q p = cmpQ p q := by
  unfold cmpQ
  by_cases h : p < q
  · have h' : ¬ q < p := Rat.not_lt.2 (Rat.le_of_lt h)
    simp [h, h']
  · by_cases h' : q < p <;> simp [h, h']
theorem cmpQ_le {p q : Rat} : cmpQ p q ≤ 0 ↔ p ≤ q := by
  unfold cmpQ
  by_cases h : p < q
  · simp [h, Rat.le_of_lt h]
  · by_cases h' : q < p
    · simp [h, h', Rat.not_le.2 h']
    · simp [h, h', Rat.not_lt.1 h']
theorem cmpQ_zero {p q : Rat} : cmpQ p q = 0 ↔ p = q := by
  constructor
  · intro h
    exact Rat.le_antisymm (cmpQ_le.1 (by omega)) (cmpQ_le.1 (by have := cmpQ_neg p q; omega))
  · rintro rfl
    simp [cmpQ, Rat.lt_irrefl]
theorem cmpQ_congr {p q r s : Rat} (h : p < q ↔ r < s) (h' : q < p ↔ s < r) : cmpQ p q = cmpQ r s := by simp [cmpQ, h, h']
theorem order_neg (h1 : vldB a1 a2 = true) (h2 : vldB b1 b2 = true) : -cmpF b1 b2 a1 a2 = cmpF a1 a2 b1 b2 := by rw [cmpF_eq h1 h2, cmpF_eq h2 h1, cmpQ_neg]
theorem order_eq (h1 : vldB a1 a2 = true) (h2 : vldB b1 b2 = true) : cmpF a1 a2 b1 b2 = 0 ↔ a1 = b1 ∧ a2 = b2 := by
  rw [cmpF_eq h1 h2, cmpQ_zero]
  exact ⟨rq_inj h1 h2, fun ⟨e, f⟩ => by subst e; subst f; rfl⟩
theorem order_trans (h1 : vldB a1 a2 = true) (h2 : vldB b1 b2 = true) (h3 : vldB c1 c2 = true) (h : cmpF a1 a2 b1 b2 ≤ 0) (k : cmpF b1 b2 c1 c2 ≤ 0) : cmpF a1 a2 c1 c2 ≤ 0 := by
  rw [cmpF_eq h1 h2, cmpQ_le] at h
  rw [cmpF_eq h2 h3, cmpQ_le] at k
  rw [cmpF_eq h1 h3, cmpQ_le]
  exact Rat.le_trans h k
theorem order_add (h1 : vldB a1 a2 = true) (h2 : vldB b1 b2 = true) (h3 : vldB c1 c2 = true) (e : (addF a1 a2 c1 c2).e = 0) (f : (addF b1 b2 c1 c2).e = 0) :
    cmpF (addF a1 a2 c1 c2).n (addF a1 a2 c1 c2).d (addF b1 b2 c1 c2).n (addF b1 b2 c1 c2).d = cmpF a1 a2 b1 b2 := by
  obtain ⟨e1, e2⟩ := addF_ok h1 h3 e
  obtain ⟨f1, f2⟩ := addF_ok h2 h3 f
  rw [cmpF_eq e1 f1, cmpF_eq h1 h2, e2, f2]
  exact cmpQ_congr Rat.add_lt_add_right Rat.add_lt_add_right
theorem order_mul (h1 : vldB a1 a2 = true) (h2 : vldB b1 b2 = true) (h3 : vldB c1 c2 = true) (hc : 0 < c1) (e : (mulF a1 a2 c1 c2).e = 0) (f : (mulF b1 b2 c1 c2).e = 0) :
    cmpF (mulF a1 a2 c1 c2).n (mulF a1 a2 c1 c2).d (mulF b1 b2 c1 c2).n (mulF b1 b2 c1 c2).d = cmpF a1 a2 b1 b2 := by
  obtain ⟨e1, e2⟩ := mulF_ok h1 h3 e
  obtain ⟨f1, f2⟩ := mulF_ok h2 h3 f
  have hp : 0 < rq c1 c2 := by
    have h0 : 0 ≤ rq c1 c2 := Rat.num_nonneg.1 (by rw [(rq_num h3).1]; omega)
    exact Rat.lt_of_le_of_ne h0 fun e => by have := (rq_zero h3).1 e.symm; omega
  rw [cmpF_eq e1 f1, cmpF_eq h1 h2, e2, f2]
  exact cmpQ_congr (Rat.mul_lt_mul_right hp) (Rat.mul_lt_mul_right hp)
theorem flr_bound (h1 : vldB a1 a2 = true) : flrF a1 a2 = a1 / a2 ∧ -1000000000000 ≤ flrF a1 a2 ∧ flrF a1 a2 ≤ 1000000000000 := by
  obtain ⟨i1, i2, i3, i4, _⟩ := vld_iff.1 h1
  have e : flrF a1 a2 = a1 / a2 := by rw [flrF, h1, if_pos rfl, rq_floor h1]
  refine ⟨e, ?_, ?_⟩ <;> rw [e]
  · exact Int.le_ediv_of_mul_le (by omega) (by have : (1000000000000 : Int) * 1 ≤ 1000000000000 * a2 := Int.mul_le_mul_of_nonneg_left i1 (by omega); omega)
  · by_cases h0 : 0 ≤ a1
    · have := Int.ediv_le_self a2 h0; omega
    · have := Int.ediv_neg_of_neg_of_pos (a := a1) (b := a2) (by omega) (by omega); omega
theorem vld_int {n : Int} (h : -1000000000000 ≤ n) (h' : n ≤ 1000000000000) : vldB n 1 = true := vld_iff.2 ⟨by omega, by omega, h, h', by simp⟩
theorem rq_one (n : Int) : rq n 1 = (n : Rat) := by
  apply Rat.ext
  · rw [rq, show (1 : Int) = ((1 : Nat) : Int) from rfl, Rat.divInt_ofNat, Rat.num_mkRat]; simp
  · rw [rq, show (1 : Int) = ((1 : Nat) : Int) from rfl, Rat.divInt_ofNat, Rat.den_mkRat]; simp
theorem order_floor (h1 : vldB a1 a2 = true) : cmpF (flrF a1 a2) 1 a1 a2 ≤ 0 := by
  obtain ⟨_, b, c⟩ := flr_bound h1
  have e : flrF a1 a2 = (rq a1 a2).floor := by rw [flrF, h1]; rfl
  rw [cmpF_eq (vld_int b c) h1, cmpQ_le, rq_one, e]
  exact Rat.floor_le _
theorem order_above (h1 : vldB a1 a2 = true) (hn : flrF a1 a2 < 1000000000000) : 0 < cmpF (flrF a1 a2 + 1) 1 a1 a2 := by
  obtain ⟨_, b, c⟩ := flr_bound h1
  have e : flrF a1 a2 = (rq a1 a2).floor := by rw [flrF, h1]; rfl
  have : ¬ cmpF (flrF a1 a2 + 1) 1 a1 a2 ≤ 0 := by
    rw [cmpF_eq (vld_int (by omega) (by omega)) h1, cmpQ_le, rq_one, e]
    exact Rat.not_le.2 (Rat.lt_floor_add_one _)
  omega
end
end Go.Proofs.YtkdmbkhgcahpiaaDoor
