/- Plain: the period of a day, the days of a period. -/
import Derived.Test.YtaafihdegnaokaaGreatDoorCalS
namespace Go.Proofs.YtaafihdegnaokaaGreatDoor

theorem per_half {a d : Int} {n : Nat} (h : IsPer 1 a d n) : fm (n / 2) ≤ d ∧ d < fm (n / 2 + 1) ∧ ((n % 2 = 0 ∧ d - fm (n / 2) + 1 ≤ 15) ∨ (n % 2 = 1 ∧ 15 < d - fm (n / 2) + 1)) := by
  obtain ⟨h0, h1⟩ := h
  unfold bnd at h0 h1
  simp only [show ¬ (1 : Int) = 0 by decide, if_false, if_true] at h0 h1
  have m1 := fm_mono (n / 2) 1
  rcases Nat.mod_two_eq_zero_or_one n with e | e
  · rw [e] at h0
    rw [show (n + 1) / 2 = n / 2 by omega, show (n + 1) % 2 = 1 by omega] at h1
    refine ⟨by omega, by omega, .inl ⟨e, by omega⟩⟩
  · rw [e] at h0
    rw [show (n + 1) / 2 = n / 2 + 1 by omega, show (n + 1) % 2 = 0 by omega] at h1
    refine ⟨by omega, by omega, .inr ⟨e, by omega⟩⟩
theorem per_days {k a d : Int} {n : Nat} (hk : k ≠ 0) (hk1 : k ≠ 1) (h : IsPer k a d n) : (d + perS k a) / perL k = n := by
  obtain ⟨h0, h1⟩ := h
  unfold bnd at h0 h1
  simp only [hk, hk1, if_false] at h0 h1
  rcases perL_cases k with e | e <;> rw [e] at h0 h1 ⊢ <;> omega
theorem per_mon {a d : Int} {n : Nat} (h : IsPer 0 a d n) : fm n ≤ d ∧ d < fm (n + 1) := by
  obtain ⟨h0, h1⟩ := h
  unfold bnd at h0 h1
  simpa using ⟨h0, h1⟩
theorem fm_lt {n : Nat} {d : Int} (h : fm n ≤ d) (hd : d ≤ 84005) : n < 2760 := by
  rcases Nat.lt_or_ge n 2760 with h1 | h1
  · exact h1
  · have := fm_mono 2760 (n - 2760)
    rw [show 2760 + (n - 2760) = n by omega, fm_2760] at this
    omega
theorem per_last {k a : Int} (h : CalOk k a) : ∃ n : Nat, IsPer k a 84005 n ∧ (n : Int) + 1 = cntP k a := by
  obtain ⟨n, hn, hp⟩ := per_ex h (d := 84005) (by omega) (by omega)
  obtain ⟨N, hN⟩ : ∃ N : Nat, (N : Int) = cntP k a := ⟨(cntP k a).toNat, by have := cnt_pos h; omega⟩
  obtain ⟨_, h2⟩ := bnd_cnt h hN
  refine ⟨n, hp, ?_⟩
  rcases Nat.lt_or_ge (n + 1) N with hl | hl
  · have := h2 _ hl; have := hp.hi; omega
  · omega
theorem span_mon (a : Int) {n : Nat} (hn : n < 2760) : loP 0 a n = fm n ∧ hiP 0 a n = fm n + lm n - 1 := by
  have h0 := fm_mono 0 n
  have h1 := fm_mono (n + 1) (2760 - (n + 1))
  rw [fm_0, Nat.zero_add] at h0
  rw [show n + 1 + (2760 - (n + 1)) = 2760 by omega, fm_2760] at h1
  have h2 := fm_step n
  unfold loP hiP bnd
  simp only [if_true]
  omega
theorem span_half (a : Int) {n : Nat} (hn : n < 5520) :
    (n % 2 = 0 ∧ loP 1 a n = fm (n / 2) ∧ hiP 1 a n = fm (n / 2) + 15 - 1) ∨ (n % 2 = 1 ∧ loP 1 a n = fm (n / 2) + 15 ∧ hiP 1 a n = fm (n / 2) + lm (n / 2) - 1) := by
  have h0 := fm_mono 0 (n / 2)
  have h1 := fm_mono (n / 2 + 1) (2760 - (n / 2 + 1))
  rw [fm_0, Nat.zero_add] at h0
  rw [show n / 2 + 1 + (2760 - (n / 2 + 1)) = 2760 by omega, fm_2760] at h1
  have h2 := fm_step (n / 2)
  have h3 := lm_pos (n / 2)
  unfold loP hiP bnd
  simp only [show ¬ (1 : Int) = 0 by decide, if_false, if_true]
  rcases Nat.mod_two_eq_zero_or_one n with e | e
  · left
    rw [e, show (n + 1) / 2 = n / 2 by omega, show (n + 1) % 2 = 1 by omega]
    omega
  · right
    rw [e, show (n + 1) / 2 = n / 2 + 1 by omega, show (n + 1) % 2 = 0 by omega]
    omega
theorem span_days {k a : Int} (hk : k ≠ 0) (hk1 : k ≠ 1) (n : Nat) : loP k a n = max (n * perL k - perS k a) 0 ∧ hiP k a n = min (n * perL k - perS k a + perL k - 1) 84005 := by
  unfold loP hiP bnd
  simp only [hk, hk1, if_false]
  refine ⟨trivial, ?_⟩
  have : ((n + 1 : Nat) : Int) * perL k = n * perL k + perL k := by rw [show ((n + 1 : Nat) : Int) = (n : Int) + 1 by omega, Int.add_mul]; omega
  rw [this]
  congr 1
  omega
/-- the periods of a calendar, and the error of a period's number -/
def cntV (k a : Int) : Int := if calB k a then cntP k a else 0
def spE (k a n : Int) : Int := if calB k a && (decide (0 ≤ n) && decide (n < cntP k a)) then 0 else 2
def spLo (k a n : Int) : Int := if spE k a n = 0 then loP k a n.toNat else 0
def spHi (k a n : Int) : Int := if spE k a n = 0 then hiP k a n.toNat else 0
theorem spE_ok {k a n : Int} : spE k a n = 0 ↔ CalOk k a ∧ 0 ≤ n ∧ n < cntP k a := by
  rw [← calB_iff]
  unfold spE
  split
  · rename_i h
    simp only [Bool.and_eq_true, decide_eq_true_eq] at h
    exact ⟨fun _ => ⟨h.1, h.2.1, h.2.2⟩, fun _ => rfl⟩
  · rename_i h
    simp only [Bool.and_eq_true, decide_eq_true_eq] at h
    exact ⟨fun h' => absurd h' (by decide), fun h' => absurd ⟨h'.1, h'.2.1, h'.2.2⟩ h⟩
theorem spE_two {k a n : Int} (h : ¬ (CalOk k a ∧ 0 ≤ n ∧ n < cntP k a)) : spE k a n = 2 ∧ spLo k a n = 0 ∧ spHi k a n = 0 := by
  have h1 : ¬ spE k a n = 0 := fun e => h (spE_ok.1 e)
  have h2 : spE k a n = 2 := by unfold spE at *; split at h1 <;> simp_all
  exact ⟨h2, by unfold spLo; rw [if_neg h1], by unfold spHi; rw [if_neg h1]⟩
theorem sp_ok {k a : Int} {n : Nat} (hc : CalOk k a) (hn : (n : Int) < cntP k a) : spE k a n = 0 ∧ spLo k a n = loP k a n ∧ spHi k a n = hiP k a n := by
  have h : spE k a n = 0 := spE_ok.2 ⟨hc, by omega, hn⟩
  exact ⟨h, by unfold spLo; rw [if_pos h]; simp, by unfold spHi; rw [if_pos h]; simp⟩
/-- the period of a day, and the error -/
def ofE (k a d : Int) : Int := if calB k a && (decide (0 ≤ d) && decide (d ≤ 84005)) then 0 else 2
noncomputable def ofV (k a d : Int) : Int := open Classical in if h : CalOk k a ∧ 0 ≤ d ∧ d ≤ 84005 then ((Classical.choose (per_ex h.1 h.2.1 h.2.2) : Nat) : Int) else 0
theorem of_yes {k a d : Int} {n : Nat} (hc : CalOk k a) (h0 : 0 ≤ d) (h1 : d ≤ 84005) (hp : IsPer k a d n) : ofV k a d = n ∧ ofE k a d = 0 := by
  constructor
  · unfold ofV
    rw [dif_pos ⟨hc, h0, h1⟩]
    have := (Classical.choose_spec (per_ex hc h0 h1)).2
    rw [this.unique hc hp]
  · unfold ofE
    rw [(calB_iff k a).2 hc, decide_eq_true h0, decide_eq_true h1]
    rfl
theorem of_no2 {k a d : Int} (h : d < 0 ∨ 84005 < d) : ofV k a d = 0 ∧ ofE k a d = 2 := by
  constructor
  · unfold ofV
    rw [dif_neg (fun ⟨_, h1, h2⟩ => by omega)]
  · unfold ofE
    rw [if_neg (by simp only [Bool.and_eq_true, decide_eq_true_eq]; omega)]
theorem of_no1 {k a : Int} (d : Int) (h : calB k a = false) : ofV k a d = 0 ∧ ofE k a d = 2 := by
  constructor
  · unfold ofV
    rw [dif_neg (fun ⟨h1, _⟩ => by rw [(calB_iff k a).2 h1] at h; cases h)]
  · unfold ofE
    rw [h]; rfl
theorem of_ok {k a d : Int} (h : ofE k a d = 0) : CalOk k a ∧ 0 ≤ d ∧ d ≤ 84005 := by
  unfold ofE at h
  split at h
  · rename_i q
    simp only [Bool.and_eq_true, decide_eq_true_eq] at q
    exact ⟨(calB_iff k a).1 q.1, q.2.1, q.2.2⟩
  · cases h
theorem perL_pos (k : Int) : 7 ≤ perL k ∧ perL k ≤ 14 := by rcases perL_cases k with e | e <;> rw [e] <;> decide
end Go.Proofs.YtaafihdegnaokaaGreatDoor
