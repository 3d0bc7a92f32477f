/- Plain facts on fractions: no program in sight. -/
import Derived.Test.YtkdmbkhgcahpiaaDoorKit
namespace Go.Proofs.YtkdmbkhgcahpiaaDoor

/-- a fraction and an error number -/
structure Frac where
  n : Int
  d : Int
  e : Int
def fitsB (q : Rat) : Bool := decide (q.num.natAbs ≤ 1000000000000) && decide (q.den ≤ 1000000)
/-- the fraction of a rational number, or the error -/
def frOf (q : Rat) : Frac := if fitsB q then ⟨q.num, q.den, 0⟩ else ⟨0, 0, 4⟩
/-- (n, d) is a valid fraction -/
def vldB (n d : Int) : Bool := decide (1 ≤ d) && decide (d ≤ 1000000) && decide (-1000000000000 ≤ n) && decide (n ≤ 1000000000000) && decide (Nat.gcd n.natAbs d.natAbs = 1)
/-- the rational number of a fraction -/
def rq (n d : Int) : Rat := Rat.divInt n d
def sgn (neg : Bool) (n : Nat) : Int := if neg then -(n : Int) else n
def fitF (neg : Bool) (n d : Nat) : Frac := frOf (mkRat (sgn neg n) d)
def newF (n d : Int) : Frac := if d = 0 then ⟨0, 0, 5⟩ else frOf (Rat.divInt n d)
def two (a b c d : Int) (q : Rat) : Frac := if vldB a b && vldB c d then frOf q else ⟨0, 0, 1⟩
def addF (a b c d : Int) : Frac := two a b c d (rq a b + rq c d)
def subF (a b c d : Int) : Frac := two a b c d (rq a b - rq c d)
def mulF (a b c d : Int) : Frac := two a b c d (rq a b * rq c d)
def divF (a b c d : Int) : Frac := if vldB a b && vldB c d then (if c = 0 then ⟨0, 0, 5⟩ else frOf (rq a b / rq c d)) else ⟨0, 0, 1⟩
def negF (a b : Int) : Frac := if vldB a b then ⟨-a, b, 0⟩ else ⟨0, 0, 1⟩
def cmpF (a b c d : Int) : Int := if vldB a b && vldB c d then (if rq a b < rq c d then -1 else if rq c d < rq a b then 1 else 0) else 0
def flrF (a b : Int) : Int := if vldB a b then (rq a b).floor else 0

theorem sgn_abs (neg : Bool) (n : Nat) : (sgn neg n).natAbs = n := by
  unfold sgn; cases neg <;> simp
theorem fitF_num (neg : Bool) (n d : Nat) (hd : d ≠ 0) : (mkRat (sgn neg n) d).num = sgn neg (n / Nat.gcd n d) := by
  have hg : ((d.gcd n : Nat) : Int) ∣ (n : Int) := Int.natCast_dvd_natCast.2 (Nat.gcd_dvd_right d n)
  rw [Rat.num_mkRat, if_neg hd, sgn_abs, Nat.gcd_comm n d]
  cases neg
  · simp [sgn]
  · simp only [sgn, if_true]
    rw [Int.neg_ediv_of_dvd hg]; simp
theorem fitF_den (neg : Bool) (n d : Nat) (hd : d ≠ 0) : (mkRat (sgn neg n) d).den = d / Nat.gcd n d := by
  rw [Rat.den_mkRat, if_neg hd, sgn_abs, Nat.gcd_comm]
theorem fitF_yes (neg : Bool) (n d : Nat) (hd : d ≠ 0) (h1 : n / Nat.gcd n d ≤ 1000000000000) (h2 : d / Nat.gcd n d ≤ 1000000) : fitF neg n d = ⟨sgn neg (n / Nat.gcd n d), (d / Nat.gcd n d : Nat), 0⟩ := by
  have e1 := fitF_num neg n d hd
  have e2 := fitF_den neg n d hd
  have hf : fitsB (mkRat (sgn neg n) d) = true := by
    rw [fitsB, e1, e2, sgn_abs]; simp [h1, h2]
  rw [fitF, frOf, if_pos hf, e1, e2]
theorem fitF_no (neg : Bool) (n d : Nat) (hd : d ≠ 0) (h : 1000000000000 < n / Nat.gcd n d ∨ 1000000 < d / Nat.gcd n d) : fitF neg n d = ⟨0, 0, 4⟩ := by
  have e1 := fitF_num neg n d hd
  have e2 := fitF_den neg n d hd
  have hf : ¬ fitsB (mkRat (sgn neg n) d) = true := by
    rw [fitsB, e1, e2, sgn_abs]; simp; omega
  rw [fitF, frOf, if_neg hf]
theorem divInt_sgn (n d : Int) : Rat.divInt n d = mkRat (sgn (decide (n < 0) != decide (d < 0)) n.natAbs) d.natAbs := by
  by_cases hd : d < 0
  · obtain ⟨k, rfl⟩ : ∃ k : Nat, d = -(k : Int) := ⟨d.natAbs, by omega⟩
    rw [Rat.divInt_neg', Rat.divInt_ofNat, Int.natAbs_neg, Int.natAbs_natCast]
    congr 1
    by_cases hn : n < 0 <;> simp [sgn, hn] <;> omega
  · obtain ⟨k, rfl⟩ : ∃ k : Nat, d = (k : Int) := ⟨d.natAbs, by omega⟩
    rw [Rat.divInt_ofNat, Int.natAbs_natCast]
    congr 1
    by_cases hn : n < 0 <;> simp [sgn, hn] <;> omega
theorem newF_eq (n d : Int) (hd : d ≠ 0) : newF n d = fitF (decide (n < 0) != decide (d < 0)) n.natAbs d.natAbs := by
  rw [newF, if_neg hd, fitF, divInt_sgn]

theorem vld_iff {n d : Int} : vldB n d = true ↔ 1 ≤ d ∧ d ≤ 1000000 ∧ -1000000000000 ≤ n ∧ n ≤ 1000000000000 ∧ Nat.gcd n.natAbs d.natAbs = 1 := by
  simp [vldB, and_assoc]
theorem rq_num {n d : Int} (h : vldB n d = true) : (rq n d).num = n ∧ ((rq n d).den : Int) = d := by
  obtain ⟨h1, h2, h3, h4, h5⟩ := vld_iff.1 h
  obtain ⟨k, rfl⟩ : ∃ k : Nat, d = (k : Int) := ⟨d.natAbs, by omega⟩
  rw [Int.natAbs_natCast] at h5
  rw [rq, Rat.divInt_ofNat, Rat.num_mkRat, Rat.den_mkRat, Nat.gcd_comm, h5]
  have hk : k ≠ 0 := by omega
  simp [hk]
theorem rq_fits {n d : Int} (h : vldB n d = true) : fitsB (rq n d) = true := by
  obtain ⟨e1, e2⟩ := rq_num h
  obtain ⟨h1, h2, h3, h4, h5⟩ := vld_iff.1 h
  rw [fitsB, e1]; simp; omega
theorem frOf_valid {q : Rat} (h : fitsB q = true) : vldB q.num q.den = true ∧ rq q.num q.den = q := by
  simp only [fitsB, Bool.and_eq_true, decide_eq_true_eq] at h
  have hp := q.den_pos
  refine ⟨vld_iff.2 ⟨by omega, by omega, by omega, by omega, by rw [Int.natAbs_natCast]; exact q.reduced⟩, by rw [rq]; exact Rat.num_divInt_den q⟩
theorem rq_inj {a b c d : Int} (h1 : vldB a b = true) (h2 : vldB c d = true) (h : rq a b = rq c d) : a = c ∧ b = d := by
  obtain ⟨e1, e2⟩ := rq_num h1
  obtain ⟨f1, f2⟩ := rq_num h2
  rw [h] at e1 e2
  exact ⟨e1.symm.trans f1, e2.symm.trans f2⟩
theorem rq_add {a b c d : Int} (h1 : vldB a b = true) (h2 : vldB c d = true) : rq a b + rq c d = Rat.divInt (a * d + c * b) (b * d) := by
  obtain ⟨i1, i2, _⟩ := vld_iff.1 h1
  obtain ⟨j1, j2, _⟩ := vld_iff.1 h2
  exact Rat.divInt_add_divInt a c (by omega) (by omega)
theorem rq_sub {a b c d : Int} (h1 : vldB a b = true) (h2 : vldB c d = true) : rq a b - rq c d = Rat.divInt (a * d - c * b) (b * d) := by
  obtain ⟨i1, i2, _⟩ := vld_iff.1 h1
  obtain ⟨j1, j2, _⟩ := vld_iff.1 h2
  exact Rat.divInt_sub_divInt a c (by omega) (by omega)
theorem rq_mul (a b c d : Int) : rq a b * rq c d = Rat.divInt (a * c) (b * d) := Rat.divInt_mul_divInt a c
theorem rq_div (a b c d : Int) : rq a b / rq c d = Rat.divInt (a * d) (b * c) := by
  rw [Rat.div_def, rq, rq, Rat.inv_divInt, Rat.divInt_mul_divInt]
theorem rq_lt {a b c d : Int} (h1 : vldB a b = true) (h2 : vldB c d = true) : rq a b < rq c d ↔ a * d < c * b := by
  obtain ⟨e1, e2⟩ := rq_num h1
  obtain ⟨f1, f2⟩ := rq_num h2
  rw [Rat.lt_iff, e1, e2, f1, f2]
theorem rq_floor {a b : Int} (h1 : vldB a b = true) : (rq a b).floor = a / b := by
  obtain ⟨e1, e2⟩ := rq_num h1
  rw [Rat.floor_def, e1, e2]
/-- the parts of a product, behind the division by the common divisors -/
theorem prod_parts {n1 d1 n2 d2 : Nat} (h1 : d1 ≠ 0) (h2 : d2 ≠ 0) (c1 : Nat.gcd n1 d1 = 1) (c2 : Nat.gcd n2 d2 = 1) :
    Nat.gcd (n1 / Nat.gcd n1 d2 * (n2 / Nat.gcd n2 d1)) (d1 / Nat.gcd n2 d1 * (d2 / Nat.gcd n1 d2)) = 1 ∧ d1 / Nat.gcd n2 d1 * (d2 / Nat.gcd n1 d2) ≠ 0 ∧
    ∀ neg, fitF neg (n1 * n2) (d1 * d2) = fitF neg (n1 / Nat.gcd n1 d2 * (n2 / Nat.gcd n2 d1)) (d1 / Nat.gcd n2 d1 * (d2 / Nat.gcd n1 d2)) := by
  obtain ⟨g, hg⟩ : ∃ g, g = Nat.gcd n1 d2 := ⟨_, rfl⟩
  obtain ⟨h, hh⟩ : ∃ h, h = Nat.gcd n2 d1 := ⟨_, rfl⟩
  have gp : 0 < g := by rw [hg]; exact Nat.gcd_pos_of_pos_right _ (by omega)
  have hp : 0 < h := by rw [hh]; exact Nat.gcd_pos_of_pos_right _ (by omega)
  have q1 : Nat.gcd (n1 / g) (d2 / g) = 1 := by rw [hg]; exact Nat.gcd_div_gcd_div_gcd_of_pos_right (by omega)
  have q2 : Nat.gcd (n2 / h) (d1 / h) = 1 := by rw [hh]; exact Nat.gcd_div_gcd_div_gcd_of_pos_right (by omega)
  obtain ⟨a, ha⟩ : g ∣ n1 := by rw [hg]; exact Nat.gcd_dvd_left _ _
  obtain ⟨b, hb⟩ : g ∣ d2 := by rw [hg]; exact Nat.gcd_dvd_right _ _
  obtain ⟨c, hc⟩ : h ∣ n2 := by rw [hh]; exact Nat.gcd_dvd_left _ _
  obtain ⟨d, hd⟩ : h ∣ d1 := by rw [hh]; exact Nat.gcd_dvd_right _ _
  rw [← hg, ← hh]
  clear hg hh
  subst ha; subst hb; subst hc; subst hd
  rw [Nat.mul_div_cancel_left _ gp, Nat.mul_div_cancel_left _ gp, Nat.mul_div_cancel_left _ hp, Nat.mul_div_cancel_left _ hp] at *
  have q3 : Nat.Coprime a d := (Nat.Coprime.coprime_mul_left (Nat.Coprime.coprime_mul_left_right c1))
  have q4 : Nat.Coprime c b := (Nat.Coprime.coprime_mul_left (Nat.Coprime.coprime_mul_left_right c2))
  have hdn : d * b ≠ 0 := by
    intro e
    rcases Nat.mul_eq_zero.1 e with e | e <;> subst e <;> simp at h1 h2
  refine ⟨?_, hdn, fun neg => ?_⟩
  · exact Nat.Coprime.mul_left (Nat.Coprime.mul_right q3 q1) (Nat.Coprime.mul_right q2 q4)
  · unfold fitF
    congr 1
    have e1 : g * a * (h * c) = g * h * (a * c) := by rw [Nat.mul_mul_mul_comm]
    have e2 : h * d * (g * b) = g * h * (d * b) := by rw [Nat.mul_mul_mul_comm, Nat.mul_comm h g]
    have e3 : sgn neg (g * h * (a * c)) = ((g * h : Nat) : Int) * sgn neg (a * c) := by
      unfold sgn; cases neg <;> simp [Int.mul_neg]
    rw [e1, e2, e3, Rat.mkRat_mul_left (by have := Nat.mul_pos gp hp; omega)]
theorem prod_big {n d : Nat} (neg : Bool) (hd : d ≠ 0) (hc : Nat.gcd n d = 1) (h : 1000000000000 < n ∨ 1000000 < d) : fitF neg n d = ⟨0, 0, 4⟩ :=
  fitF_no neg n d hd (by rw [hc, Nat.div_one, Nat.div_one]; exact h)
theorem prod_fit {n d : Nat} (neg : Bool) (hd : d ≠ 0) (hc : Nat.gcd n d = 1) (h1 : n ≤ 1000000000000) (h2 : d ≤ 1000000) : fitF neg n d = ⟨sgn neg n, d, 0⟩ := by
  have := fitF_yes neg n d hd (by rw [hc, Nat.div_one]; exact h1) (by rw [hc, Nat.div_one]; exact h2)
  rw [hc, Nat.div_one, Nat.div_one] at this; exact this
/-- a product of fractions, by its parts -/
theorem mulF_eq {a b c d : Int} (h1 : vldB a b = true) (h2 : vldB c d = true) : mulF a b c d = fitF (decide (a < 0) != decide (c < 0)) (a.natAbs * c.natAbs) (b.natAbs * d.natAbs) := by
  obtain ⟨i1, i2, _⟩ := vld_iff.1 h1
  obtain ⟨j1, j2, _⟩ := vld_iff.1 h2
  rw [mulF, two, h1, h2, rq_mul, divInt_sgn, fitF, Int.natAbs_mul, Int.natAbs_mul]
  simp only [Bool.and_self, if_true]
  have hbd : decide (b * d < 0) = false := by have := Int.mul_pos (a := b) (b := d) (by omega) (by omega); simp; omega
  rw [hbd]
  by_cases hz : a * c = 0
  · have : a.natAbs * c.natAbs = 0 := by rw [← Int.natAbs_mul, hz]; rfl
    rw [this]; simp [sgn]
  · congr 3
    have hs : decide (a * c < 0) = (decide (a < 0) != decide (c < 0)) := by
      by_cases ha : a < 0 <;> by_cases hc : c < 0
      · have := Int.mul_pos_of_neg_of_neg ha hc; simp [ha, hc]; omega
      · have hc' : 0 < c := by rcases Int.lt_or_eq_of_le (Int.not_lt.1 hc) with h | h; exact h; subst h; simp at hz
        have := Int.mul_neg_of_neg_of_pos ha hc'; simp [ha, hc, this]
      · have ha' : 0 < a := by rcases Int.lt_or_eq_of_le (Int.not_lt.1 ha) with h | h; exact h; subst h; simp at hz
        have := Int.mul_neg_of_pos_of_neg ha' hc; simp [ha, hc, this]
      · have := Int.mul_nonneg (Int.not_lt.1 ha) (Int.not_lt.1 hc); simp [ha, hc]; omega
    rw [hs]; simp
theorem divF_eq {a b c d : Int} (h1 : vldB a b = true) (h2 : vldB c d = true) (hc : c ≠ 0) : divF a b c d = newF (a * d) (b * c) ∧ divF a b c d = fitF (decide (a < 0) != decide (c < 0)) (a.natAbs * d.natAbs) (b.natAbs * c.natAbs) := by
  obtain ⟨i1, i2, _⟩ := vld_iff.1 h1
  obtain ⟨j1, j2, _⟩ := vld_iff.1 h2
  have hbc : b * c ≠ 0 := by intro e; rcases Int.mul_eq_zero.1 e with e | e <;> omega
  have e1 : divF a b c d = newF (a * d) (b * c) := by
    rw [divF, h1, h2, newF, if_neg hbc, if_neg hc, rq_div]; rfl
  refine ⟨e1, ?_⟩
  rw [e1, newF_eq _ _ hbc, Int.natAbs_mul, Int.natAbs_mul]
  congr 1
  have s1 : decide (a * d < 0) = decide (a < 0) := by
    by_cases ha : a < 0
    · have := Int.mul_neg_of_neg_of_pos ha (b := d) (by omega); simp [ha, this]
    · have := Int.mul_nonneg (Int.not_lt.1 ha) (b := d) (by omega); simp [ha]; omega
  have s2 : decide (b * c < 0) = decide (c < 0) := by
    by_cases hc' : c < 0
    · have := Int.mul_neg_of_pos_of_neg (a := b) (by omega) hc'; simp [hc', this]
    · have := Int.mul_nonneg (a := b) (by omega) (Int.not_lt.1 hc'); simp [hc']; omega
  rw [s1, s2]
end Go.Proofs.YtkdmbkhgcahpiaaDoor
