/- Days, months, years and periods: no program in sight. -/
import Derived.Test.YtaafihdegnaokaaGreatDoorKit
namespace Go.Proofs.YtaafihdegnaokaaGreatDoor

/-- leap years up to a year -/
def lp (y : Int) : Int := y / 4 - y / 100 + y / 400
/-- the number of January 1 of a year -/
def bg (y : Int) : Int := 365 * (y - 1970) + (lp (y - 1) - lp 1969)
def leapB (y : Int) : Bool := decide (y % 4 = 0) && (decide (y % 100 ≠ 0) || decide (y % 400 = 0))
/-- the days of a month -/
def mlen (y m : Int) : Int := if m = 2 then (if leapB y then 29 else 28) else if m = 4 ∨ m = 6 ∨ m = 9 ∨ m = 11 then 30 else 31
theorem leap_cases (y : Int) : (leapB y = true ∧ lp y = lp (y - 1) + 1) ∨ (leapB y = false ∧ lp y = lp (y - 1)) := by
  unfold leapB lp
  by_cases h1 : y % 4 = 0
  · by_cases h2 : y % 100 = 0
    · by_cases h3 : y % 400 = 0
      · left; simp [h1, h3]; omega
      · right; simp [h1, h2, h3]; omega
    · left; simp [h1, h2]; omega
  · right; simp [h1]; omega
theorem bg_step (y : Int) : bg (y + 1) = bg y + (if leapB y then 366 else 365) := by
  have h := leap_cases y
  unfold bg
  rw [show y + 1 - 1 = y by omega]
  rcases h with ⟨h1, h2⟩ | ⟨h1, h2⟩
  · rw [h1, h2]; simp only [if_true]; omega
  · rw [h1, h2]; simp only [Bool.false_eq_true, if_false]; omega
theorem bg_1970 : bg 1970 = 0 := by decide
theorem bg_2200 : bg 2200 = 84006 := by decide
theorem bg_lt (y : Int) : bg y + 365 ≤ bg (y + 1) ∧ bg (y + 1) ≤ bg y + 366 := by
  have := bg_step y
  split at this <;> omega
theorem bg_add (y : Int) (n : Nat) : bg y + 365 * n ≤ bg (y + n) ∧ bg (y + n) ≤ bg y + 366 * n := by
  induction n with
  | zero => simp
  | succ n ih =>
    have := bg_lt (y + n)
    rw [show y + ((n + 1 : Nat) : Int) = y + n + 1 by omega]
    omega
theorem bg_mono {y z : Int} (h : y < z) : bg y < bg z := by
  obtain ⟨n, rfl⟩ : ∃ n : Nat, z = y + n := ⟨(z - y).toNat, by omega⟩
  have := (bg_add y n).1
  omega
theorem bg_mono_le {y z : Int} (h : y ≤ z) : bg y ≤ bg z := by
  rcases Int.lt_or_eq_of_le h with h | rfl
  · exact Int.le_of_lt (bg_mono h)
  · exact Int.le_refl _
theorem bg_start {y : Int} (h : 1970 ≤ y) : 365 * (y - 1970) ≤ bg y ∧ bg y ≤ 366 * (y - 1970) := by
  obtain ⟨n, rfl⟩ : ∃ n : Nat, y = 1970 + n := ⟨(y - 1970).toNat, by omega⟩
  have := bg_add 1970 n
  rw [bg_1970] at this
  omega
/-- the days of the first months of a year -/
def cumN (y : Int) : Nat → Int
  | 0 => 0
  | k + 1 => cumN y k + mlen y (k + 1)
theorem mlen_pos (y m : Int) : 28 ≤ mlen y m ∧ mlen y m ≤ 31 := by
  unfold mlen; split
  · split <;> omega
  · split <;> omega
theorem cumN_pos (y : Int) (k : Nat) : 0 ≤ cumN y k ∧ cumN y k ≤ 31 * k := by
  induction k with
  | zero => simp [cumN]
  | succ k ih => have := mlen_pos y (k + 1); simp only [cumN]; omega
theorem cumN_mono (y : Int) (k n : Nat) : cumN y k + 28 * n ≤ cumN y (k + n) := by
  induction n with
  | zero => simp
  | succ n ih => have := mlen_pos y ((k + n : Nat) + 1); rw [show k + (n + 1) = k + n + 1 by omega, cumN]; omega
theorem cumN_12 (y : Int) : cumN y 12 = if leapB y then 366 else 365 := by
  simp only [cumN, mlen]
  cases leapB y <;> decide
theorem bg_cum (y : Int) : bg (y + 1) = bg y + cumN y 12 := by rw [bg_step, cumN_12]
/-- a day's date: year, months before it, day of the month -/
structure IsDate (d y : Int) (k : Nat) (t : Int) : Prop where
  y0 : 1970 ≤ y
  y1 : y ≤ 2199
  k1 : k < 12
  t0 : 1 ≤ t
  t1 : t ≤ mlen y (k + 1)
  eq : d = bg y + cumN y k + (t - 1)
theorem IsDate.lt {d y : Int} {k : Nat} {t : Int} (h : IsDate d y k t) : bg y ≤ d ∧ d < bg (y + 1) := by
  have h1 := cumN_pos y k
  have h2 := cumN_mono y (k + 1) (11 - k)
  have hk := h.k1
  rw [show k + 1 + (11 - k) = 12 by omega] at h2
  have h3 := bg_cum y
  have h4 : cumN y (k + 1) = cumN y k + mlen y (k + 1) := rfl
  have := h.t0; have := h.t1; have := h.eq
  omega
theorem IsDate.days {d y : Int} {k : Nat} {t : Int} (h : IsDate d y k t) : 0 ≤ d ∧ d ≤ 84005 := by
  have h1 := h.lt
  have h2 := bg_mono_le h.y0
  have h3 := bg_mono_le (show y + 1 ≤ 2200 by have := h.y1; omega)
  rw [bg_1970] at h2
  rw [bg_2200] at h3
  omega
theorem year_unique {d y z : Int} (h : bg y ≤ d ∧ d < bg (y + 1)) (h' : bg z ≤ d ∧ d < bg (z + 1)) : y = z := by
  rcases Int.lt_trichotomy y z with e | e | e
  · have := bg_mono_le (show y + 1 ≤ z by omega); omega
  · exact e
  · have := bg_mono_le (show z + 1 ≤ y by omega); omega
theorem month_unique {y r : Int} {j k : Nat} (h : cumN y j ≤ r ∧ r < cumN y (j + 1)) (h' : cumN y k ≤ r ∧ r < cumN y (k + 1)) : j = k := by
  rcases Nat.lt_trichotomy j k with e | e | e
  · have := cumN_mono y (j + 1) (k - (j + 1))
    rw [show j + 1 + (k - (j + 1)) = k by omega] at this; omega
  · exact e
  · have := cumN_mono y (k + 1) (j - (k + 1))
    rw [show k + 1 + (j - (k + 1)) = j by omega] at this; omega
theorem IsDate.unique {d y z : Int} {j k : Nat} {t u : Int} (h : IsDate d y j t) (h' : IsDate d z k u) : y = z ∧ j = k ∧ t = u := by
  obtain rfl := year_unique h.lt h'.lt
  have a1 := h.t0; have a2 := h.t1; have a3 := h.eq
  have b1 := h'.t0; have b2 := h'.t1; have b3 := h'.eq
  have c1 : cumN y (j + 1) = cumN y j + mlen y (j + 1) := rfl
  have c2 : cumN y (k + 1) = cumN y k + mlen y (k + 1) := rfl
  have e : j = k := month_unique (y := y) (r := d - bg y) (by omega) (by omega)
  subst e
  exact ⟨rfl, rfl, by omega⟩
theorem date_ex {d : Int} (h0 : 0 ≤ d) (h1 : d ≤ 84005) : ∃ y k t, IsDate d y k t := by
  have hy : ∃ n : Nat, n < 230 ∧ bg (1970 + n) ≤ d ∧ d < bg (1970 + n + 1) := by
    have key : ∀ n : Nat, d < bg (1970 + n) → ∃ m : Nat, m < n ∧ bg (1970 + m) ≤ d ∧ d < bg (1970 + m + 1) := by
      intro n
      induction n with
      | zero => intro h; rw [show (1970 : Int) + ((0 : Nat) : Int) = 1970 by decide, bg_1970] at h; omega
      | succ n ih =>
        intro h
        by_cases hn : d < bg (1970 + n)
        · obtain ⟨m, hm, hh⟩ := ih hn
          exact ⟨m, by omega, hh⟩
        · exact ⟨n, by omega, by omega, by rwa [show (1970 : Int) + ((n + 1 : Nat) : Int) = 1970 + n + 1 by omega] at h⟩
    obtain ⟨m, hm, hh⟩ := key 230 (by rw [show (1970 : Int) + ((230 : Nat) : Int) = 2200 by decide, bg_2200]; omega)
    exact ⟨m, hm, hh⟩
  obtain ⟨n, hn, hb1, hb2⟩ := hy
  obtain ⟨y, hye⟩ : ∃ y : Int, 1970 + (n : Int) = y := ⟨_, rfl⟩
  rw [hye] at hb1 hb2
  have hm : ∃ k : Nat, k < 12 ∧ cumN y k ≤ d - bg y ∧ d - bg y < cumN y (k + 1) := by
    have key : ∀ n : Nat, d - bg y < cumN y n → ∃ m : Nat, m < n ∧ cumN y m ≤ d - bg y ∧ d - bg y < cumN y (m + 1) := by
      intro n
      induction n with
      | zero => intro h; simp only [cumN] at h; omega
      | succ n ih =>
        intro h
        by_cases hn : d - bg y < cumN y n
        · obtain ⟨m, hm, hh⟩ := ih hn
          exact ⟨m, by omega, hh⟩
        · exact ⟨n, by omega, by omega, h⟩
    have := bg_cum y
    exact key 12 (by omega)
  obtain ⟨k, hk, hk1, hk2⟩ := hm
  have c1 : cumN y (k + 1) = cumN y k + mlen y (k + 1) := rfl
  exact ⟨y, k, d - bg y - cumN y k + 1, by omega, by omega, hk, by omega, by omega, by omega⟩
/-- the number of a day's month -/
def monOf (y : Int) (k : Nat) : Int := (y - 1970) * 12 + k
/-- the first day of a month -/
def fm (n : Nat) : Int := bg (1970 + (n / 12 : Nat)) + cumN (1970 + (n / 12 : Nat)) (n % 12)
def lm (n : Nat) : Int := mlen (1970 + (n / 12 : Nat)) ((n % 12 : Nat) + 1)
theorem fm_step (n : Nat) : fm (n + 1) = fm n + lm n := by
  unfold fm lm
  by_cases h : n % 12 = 11
  · rw [show (n + 1) / 12 = n / 12 + 1 by omega, show (n + 1) % 12 = 0 by omega, h]
    have := bg_cum (1970 + (n / 12 : Nat))
    have c : cumN (1970 + (n / 12 : Nat)) 12 = cumN (1970 + (n / 12 : Nat)) 11 + mlen (1970 + (n / 12 : Nat)) (((11 : Nat) : Int) + 1) := rfl
    rw [show (1970 : Int) + ((n / 12 + 1 : Nat) : Int) = 1970 + (n / 12 : Nat) + 1 by omega, this, c]
    simp only [cumN]; omega
  · rw [show (n + 1) / 12 = n / 12 by omega, show (n + 1) % 12 = n % 12 + 1 by omega]
    have c : cumN (1970 + (n / 12 : Nat)) (n % 12 + 1) = cumN (1970 + (n / 12 : Nat)) (n % 12) + mlen (1970 + (n / 12 : Nat)) ((n % 12 : Nat) + 1) := rfl
    rw [c]; omega
theorem lm_pos (n : Nat) : 28 ≤ lm n ∧ lm n ≤ 31 := mlen_pos _ _
theorem fm_0 : fm 0 = 0 := by decide
theorem fm_mono (n k : Nat) : fm n + 28 * k ≤ fm (n + k) := by
  induction k with
  | zero => simp
  | succ k ih => have := fm_step (n + k); have := lm_pos (n + k); rw [show n + (k + 1) = n + k + 1 by omega]; omega
theorem fm_2760 : fm 2760 = 84006 := by
  unfold fm
  rw [show 2760 / 12 = 230 by decide, show 2760 % 12 = 0 by decide, show (1970 : Int) + ((230 : Nat) : Int) = 2200 by decide, bg_2200]; rfl
/-- the month of a date -/
theorem IsDate.mon {d y : Int} {k : Nat} {t : Int} (h : IsDate d y k t) : ∃ n : Nat, n < 2760 ∧ monOf y k = n ∧ fm n ≤ d ∧ d < fm (n + 1) ∧ t = d - fm n + 1 := by
  have h0 := h.y0; have h1 := h.y1; have hk := h.k1
  have a1 := h.t0; have a2 := h.t1; have a3 := h.eq
  refine ⟨(y - 1970).toNat * 12 + k, by omega, by unfold monOf; omega, ?_⟩
  have e1 : ((y - 1970).toNat * 12 + k) / 12 = (y - 1970).toNat := by omega
  have e2 : ((y - 1970).toNat * 12 + k) % 12 = k := by omega
  have e3 : (1970 : Int) + ((y - 1970).toNat : Nat) = y := by omega
  have e4 : fm ((y - 1970).toNat * 12 + k) = bg y + cumN y k := by unfold fm; rw [e1, e2, e3]
  have e5 : lm ((y - 1970).toNat * 12 + k) = mlen y (k + 1) := by unfold lm; rw [e1, e2, e3]
  rw [fm_step, e4, e5]
  omega
theorem mon_unique {d : Int} {m n : Nat} (h : fm m ≤ d ∧ d < fm (m + 1)) (h' : fm n ≤ d ∧ d < fm (n + 1)) : m = n := by
  rcases Nat.lt_trichotomy m n with e | e | e
  · have := fm_mono (m + 1) (n - (m + 1))
    rw [show m + 1 + (n - (m + 1)) = n by omega] at this; omega
  · exact e
  · have := fm_mono (n + 1) (m - (n + 1))
    rw [show n + 1 + (m - (n + 1)) = m by omega] at this; omega
/-- leap years from 1972 on, counted up to a year -/
theorem bg_leaps {y : Int} (j : Nat) (hy : y = 1972 + 4 * j) : bg y = (y - 1970) * 365 + (((List.range j).filter fun i : Nat => leapB (1972 + 4 * (i : Int))).length : Int) := by
  induction j generalizing y with
  | zero => subst hy; decide
  | succ j ih =>
    have h := ih (y := 1972 + 4 * j) rfl
    rw [List.range_succ, List.filter_append, List.length_append]
    have hy' : y = 1972 + 4 * (j : Int) + 4 := by omega
    have s1 := bg_step (1972 + 4 * j)
    have s2 := bg_step (1972 + 4 * j + 1)
    have s3 := bg_step (1972 + 4 * j + 1 + 1)
    have s4 := bg_step (1972 + 4 * j + 1 + 1 + 1)
    have l2 : leapB (1972 + 4 * (j : Int) + 1) = false := by unfold leapB; rw [Bool.and_eq_false_iff]; left; rw [decide_eq_false_iff_not]; omega
    have l3 : leapB (1972 + 4 * (j : Int) + 1 + 1) = false := by unfold leapB; rw [Bool.and_eq_false_iff]; left; rw [decide_eq_false_iff_not]; omega
    have l4 : leapB (1972 + 4 * (j : Int) + 1 + 1 + 1) = false := by unfold leapB; rw [Bool.and_eq_false_iff]; left; rw [decide_eq_false_iff_not]; omega
    rw [l2] at s2; rw [l3] at s3; rw [l4] at s4
    simp only [Bool.false_eq_true, if_false] at s2 s3 s4
    rw [hy', show (1972 : Int) + 4 * j + 4 = 1972 + 4 * j + 1 + 1 + 1 + 1 by omega, s4, s3, s2, s1, h]
    cases hl : leapB (1972 + 4 * (j : Int))
    · simp [hl]; omega
    · simp [hl]; omega
def lcnt (j : Nat) : Int := (((List.range j).filter fun i : Nat => leapB (1972 + 4 * (i : Int))).length : Int)
theorem lcnt_succ (j : Nat) : lcnt (j + 1) = lcnt j + (if leapB (1972 + 4 * (j : Int)) then 1 else 0) := by
  unfold lcnt
  rw [List.range_succ, List.filter_append, List.length_append]
  cases hl : leapB (1972 + 4 * (j : Int)) <;> simp [hl]
theorem lcnt_le (j : Nat) : 0 ≤ lcnt j ∧ lcnt j ≤ j := by
  induction j with
  | zero => decide
  | succ j ih => rw [lcnt_succ]; split <;> omega
theorem bg_cnt (j r : Nat) (hr : r ≤ 3) {y : Int} (hy : y = 1972 + 4 * j - r) : bg y = (y - 1970) * 365 + lcnt j := by
  have h0 := bg_leaps j (y := 1972 + 4 * j) rfl
  have nl : ∀ q : Int, 1 ≤ q → q ≤ 3 → leapB (1972 + 4 * (j : Int) - q) = false := fun q h1 h2 => by
    unfold leapB; rw [Bool.and_eq_false_iff]; left; rw [decide_eq_false_iff_not]; omega
  have s1 := bg_step (1972 + 4 * j - 1)
  have s2 := bg_step (1972 + 4 * j - 2)
  have s3 := bg_step (1972 + 4 * j - 3)
  rw [nl 1 (by omega) (by omega), show (1972 : Int) + 4 * j - 1 + 1 = 1972 + 4 * j by omega] at s1
  rw [nl 2 (by omega) (by omega), show (1972 : Int) + 4 * j - 2 + 1 = 1972 + 4 * j - 1 by omega] at s2
  rw [nl 3 (by omega) (by omega), show (1972 : Int) + 4 * j - 3 + 1 = 1972 + 4 * j - 2 by omega] at s3
  simp only [Bool.false_eq_true, if_false] at s1 s2 s3
  have hl : lcnt j = (((List.range j).filter fun i : Nat => leapB (1972 + 4 * (i : Int))).length : Int) := rfl
  rw [← hl] at h0
  match r, hr with
  | 0, _ => rw [show y = 1972 + 4 * (j : Int) by omega]; omega
  | 1, _ => rw [show y = 1972 + 4 * (j : Int) - 1 by omega]; omega
  | 2, _ => rw [show y = 1972 + 4 * (j : Int) - 2 by omega]; omega
  | 3, _ => rw [show y = 1972 + 4 * (j : Int) - 3 by omega]; omega

/-- the length of a period of days -/
def perL (kind : Int) : Int := if kind = 2 then 14 else 7
/-- by how many days the first period is shorter -/
def perS (kind anc : Int) : Int := (perL kind - anc) % perL kind
structure CalOk (kind anc : Int) : Prop where
  k0 : 0 ≤ kind
  k1 : kind ≤ 3
  a0 : 0 ≤ anc
  a1 : anc ≤ if kind = 2 then 13 else if kind = 3 then 6 else 0
def calB (kind anc : Int) : Bool := decide (0 ≤ kind) && (decide (kind ≤ 3) && (decide (0 ≤ anc) && decide (anc ≤ if kind = 2 then 13 else if kind = 3 then 6 else 0)))
theorem calB_iff (kind anc : Int) : calB kind anc = true ↔ CalOk kind anc := by
  unfold calB
  simp only [Bool.and_eq_true, decide_eq_true_eq]
  exact ⟨fun ⟨a, b, c, d⟩ => ⟨a, b, c, d⟩, fun ⟨a, b, c, d⟩ => ⟨a, b, c, d⟩⟩
/-- where a period begins, the first one maybe ahead of the day 0 -/
def bnd (kind anc : Int) (n : Nat) : Int := if kind = 0 then fm n else if kind = 1 then fm (n / 2) + 15 * (n % 2 : Nat) else n * perL kind - perS kind anc
def cntP (kind anc : Int) : Int := if kind = 0 then 2760 else if kind = 1 then 5520 else (84005 + perS kind anc) / perL kind + 1
theorem perS_le {kind anc : Int} (_h : CalOk kind anc) : 0 ≤ perS kind anc ∧ perS kind anc < perL kind := by
  unfold perS perL
  split <;> omega
theorem perL_cases (kind : Int) : perL kind = 14 ∨ perL kind = 7 := by unfold perL; split <;> simp
theorem bnd_step {kind anc : Int} (_h : CalOk kind anc) (n : Nat) : bnd kind anc n + 7 ≤ bnd kind anc (n + 1) := by
  unfold bnd
  by_cases h0 : kind = 0
  · rw [if_pos h0, if_pos h0]
    have := fm_step n; have := lm_pos n; omega
  · rw [if_neg h0, if_neg h0]
    by_cases h1 : kind = 1
    · rw [if_pos h1, if_pos h1]
      by_cases hm : n % 2 = 0
      · rw [show (n + 1) / 2 = n / 2 by omega, show (n + 1) % 2 = 1 by omega, hm]; omega
      · rw [show (n + 1) / 2 = n / 2 + 1 by omega, show (n + 1) % 2 = 0 by omega, show n % 2 = 1 by omega]
        have := fm_step (n / 2); have := lm_pos (n / 2); omega
    · rw [if_neg h1, if_neg h1]
      rcases perL_cases kind with e | e <;> rw [e] <;> omega
theorem bnd_mono {kind anc : Int} (h : CalOk kind anc) (n k : Nat) : bnd kind anc n + 7 * k ≤ bnd kind anc (n + k) := by
  induction k with
  | zero => simp
  | succ k ih => have := bnd_step h (n + k); rw [show n + (k + 1) = n + k + 1 by omega]; omega
theorem bnd_lt {kind anc : Int} (h : CalOk kind anc) {m n : Nat} (hmn : m < n) : bnd kind anc m < bnd kind anc n := by
  have := bnd_mono h m (n - m)
  rw [show m + (n - m) = n by omega] at this; omega
theorem bnd_le {kind anc : Int} (h : CalOk kind anc) {m n : Nat} (hmn : m ≤ n) : bnd kind anc m ≤ bnd kind anc n := by
  have := bnd_mono h m (n - m)
  rw [show m + (n - m) = n by omega] at this; omega
theorem bnd_0 {kind anc : Int} (h : CalOk kind anc) : bnd kind anc 0 ≤ 0 ∧ 0 < bnd kind anc 1 := by
  unfold bnd
  by_cases h0 : kind = 0
  · rw [if_pos h0, if_pos h0]
    have a := fm_step 0
    have b := lm_pos 0
    rw [fm_0] at a ⊢
    rw [Nat.zero_add] at a
    omega
  · rw [if_neg h0, if_neg h0]
    by_cases h1 : kind = 1
    · rw [if_pos h1, if_pos h1]
      show fm 0 + 15 * ((0 : Nat) : Int) ≤ 0 ∧ 0 < fm 0 + 15 * ((1 : Nat) : Int)
      rw [fm_0]; omega
    · rw [if_neg h1, if_neg h1]
      have := perS_le h
      rcases perL_cases kind with e | e <;> rw [e] at this ⊢ <;> omega
theorem cnt_pos {kind anc : Int} (h : CalOk kind anc) : 1 ≤ cntP kind anc ∧ cntP kind anc ≤ 13000 := by
  unfold cntP
  split
  · omega
  · split
    · omega
    · have := perS_le h
      rcases perL_cases kind with e | e <;> rw [e] at this ⊢ <;> omega
theorem bnd_cnt {kind anc : Int} (h : CalOk kind anc) {N : Nat} (hN : (N : Int) = cntP kind anc) : bnd kind anc N > 84005 ∧ ∀ n : Nat, n < N → bnd kind anc n ≤ 84005 := by
  have key : bnd kind anc N > 84005 ∧ bnd kind anc (N - 1) ≤ 84005 := by
    unfold cntP at hN
    unfold bnd
    by_cases h0 : kind = 0
    · rw [if_pos h0] at hN
      rw [if_pos h0, if_pos h0]
      obtain rfl : N = 2760 := by omega
      have := fm_step 2759
      have := lm_pos 2759
      rw [fm_2760] at *
      exact ⟨by omega, by show fm 2759 ≤ 84005; omega⟩
    · rw [if_neg h0] at hN
      rw [if_neg h0, if_neg h0]
      by_cases h1 : kind = 1
      · rw [if_pos h1] at hN
        rw [if_pos h1, if_pos h1]
        obtain rfl : N = 5520 := by omega
        have := fm_step 2759
        have := lm_pos 2759
        rw [fm_2760] at *
        refine ⟨?_, ?_⟩
        · show fm 2760 + 15 * ((0 : Nat) : Int) > 84005
          rw [fm_2760]; omega
        · show fm 2759 + 15 * ((1 : Nat) : Int) ≤ 84005
          omega
      · rw [if_neg h1] at hN
        rw [if_neg h1, if_neg h1]
        have := perS_le h
        rcases perL_cases kind with e | e <;> rw [e] at this hN ⊢ <;> omega
  refine ⟨key.1, fun n hn => ?_⟩
  have := bnd_le h (show n ≤ N - 1 by omega)
  omega
/-- the days of a period -/
def loP (kind anc : Int) (n : Nat) : Int := max (bnd kind anc n) 0
def hiP (kind anc : Int) (n : Nat) : Int := min (bnd kind anc (n + 1) - 1) 84005
/-- the period of a day -/
structure IsPer (kind anc d : Int) (n : Nat) : Prop where
  lo : bnd kind anc n ≤ d
  hi : d < bnd kind anc (n + 1)
theorem IsPer.unique {kind anc d : Int} (h : CalOk kind anc) {m n : Nat} (h1 : IsPer kind anc d m) (h2 : IsPer kind anc d n) : m = n := by
  rcases Nat.lt_trichotomy m n with e | e | e
  · have := bnd_le h (show m + 1 ≤ n by omega); have := h1.hi; have := h2.lo; omega
  · exact e
  · have := bnd_le h (show n + 1 ≤ m by omega); have := h2.hi; have := h1.lo; omega
theorem per_ex {kind anc d : Int} (h : CalOk kind anc) (h0 : 0 ≤ d) (h1 : d ≤ 84005) : ∃ n : Nat, (n : Int) < cntP kind anc ∧ IsPer kind anc d n := by
  obtain ⟨N, hN⟩ : ∃ N : Nat, (N : Int) = cntP kind anc := ⟨(cntP kind anc).toNat, by have := cnt_pos h; omega⟩
  have hc := bnd_cnt h hN
  have hb := bnd_0 h
  have key : ∀ n : Nat, d < bnd kind anc n → ∃ m : Nat, m < n ∧ IsPer kind anc d m := by
    intro n
    induction n with
    | zero => intro hh; omega
    | succ n ih =>
      intro hh
      by_cases hn : d < bnd kind anc n
      · obtain ⟨m, hm, hx⟩ := ih hn
        exact ⟨m, by omega, hx⟩
      · exact ⟨n, by omega, by omega, hh⟩
  obtain ⟨m, hm, hx⟩ := key N (by omega)
  exact ⟨m, by omega, hx⟩
theorem IsPer.span {kind anc d : Int} {n : Nat} (h : IsPer kind anc d n) (h0 : 0 ≤ d) (h1 : d ≤ 84005) : loP kind anc n ≤ d ∧ d ≤ hiP kind anc n := by
  have := h.lo; have := h.hi
  unfold loP hiP
  omega
theorem span_per {kind anc d : Int} {n : Nat} (h : loP kind anc n ≤ d ∧ d ≤ hiP kind anc n) : IsPer kind anc d n := by
  unfold loP hiP at h
  exact ⟨by omega, by omega⟩
theorem span_ok {kind anc : Int} (h : CalOk kind anc) {n : Nat} (hn : (n : Int) < cntP kind anc) : 0 ≤ loP kind anc n ∧ loP kind anc n ≤ hiP kind anc n ∧ hiP kind anc n ≤ 84005 := by
  obtain ⟨N, hN⟩ : ∃ N : Nat, (N : Int) = cntP kind anc := ⟨(cntP kind anc).toNat, by have := cnt_pos h; omega⟩
  have h1 := (bnd_cnt h hN).2 n (by omega)
  have h2 := bnd_step h n
  have h3 := bnd_0 h
  have h4 := bnd_le h (show 1 ≤ n + 1 by omega)
  unfold loP hiP
  omega
end Go.Proofs.YtaafihdegnaokaaGreatDoor
