/- Canonical decimals of at most 18 digits, or 10^18: no program in sight. -/
import Derived.Test.YtnkephafpebfkaaGreatDoorTxt
namespace Go.Proofs.YtnkephafpebfkaaGreatDoor

/-- the number of a text that is its decimal: from -10^18 to 10^18 -/
def numZ (l : List UInt8) : Option Int := match Lib.atoiAll l with
  | .ok v => if -1000000000000000000 ≤ v ∧ v ≤ 1000000000000000000 ∧ Lib.itoa v = l then some v else none
  | _ => none
theorem numZ_iff {l : List UInt8} {n : Int} : numZ l = some n ↔ l = Lib.itoa n ∧ -1000000000000000000 ≤ n ∧ n ≤ 1000000000000000000 := by
  constructor
  · intro h
    unfold numZ at h
    split at h
    · split at h
      · rename_i hc; injection h with h; subst h; exact ⟨hc.2.2.symm, hc.1, hc.2.1⟩
      · cases h
    · cases h
  · rintro ⟨rfl, h0, h1⟩
    rw [numZ, atoi_itoa n (by omega) (by omega)]
    exact if_pos ⟨h0, h1, rfl⟩
/-- the value of digits behind a number -/
def vD (n : Nat) (l : List UInt8) : Nat := l.foldl (fun a c => a * 10 + (c.toNat - 48)) n
theorem vD_snoc (n : Nat) (l : List UInt8) (c : UInt8) : vD n (l ++ [c]) = vD n l * 10 + (c.toNat - 48) := by
  simp [vD, List.foldl_append]
def isD (c : UInt8) : Prop := 48 ≤ c.toNat ∧ c.toNat ≤ 57
theorem vD_lt : ∀ (k : Nat) (l : List UInt8), l.length = k → (∀ c ∈ l, isD c) → vD 0 l < 10 ^ k
  | 0, l, h, _ => by
    obtain rfl := List.eq_nil_of_length_eq_zero h
    simp [vD]
  | k + 1, l, h, hd => by
    have hne : l ≠ [] := fun e => by rw [e] at h; simp at h
    have e := List.dropLast_concat_getLast hne
    have ih := vD_lt k l.dropLast (by simp; omega) (fun c hc => hd c (List.dropLast_subset _ hc))
    have hc := hd _ (List.getLast_mem hne)
    rw [← e, vD_snoc, Nat.pow_succ]
    unfold isD at hc
    omega
theorem dec_head : ∀ (u : Nat), 0 < u → (Lib.decDigits u).head? ≠ some 48 := by
  intro u
  induction u using Nat.strongRecOn with
  | ind u ih =>
    intro h0
    by_cases hu : u < 10
    · rw [dec_small u hu]
      intro e
      simp only [List.head?_cons, Option.some.injEq] at e
      have := congrArg UInt8.toNat e
      rw [digit_nat hu] at this
      have h48 : (48 : UInt8).toNat = 48 := rfl
      omega
    · have := ih (u / 10) (by omega) (by omega)
      rw [dec_big u (by omega), List.head?_append]
      cases hh : (Lib.decDigits (u / 10)).head? with
      | none => rw [List.head?_eq_none_iff] at hh; exact absurd hh (dec_ne _)
      | some x => rw [hh] at this; simpa using this
/-- canonical digits are the decimal of their value -/
theorem dec_vD : ∀ (k : Nat) (l : List UInt8), l.length = k → l ≠ [] → (∀ c ∈ l, isD c) → (l.head? = some 48 → l.length = 1) → Lib.decDigits (vD 0 l) = l := by
  intro k
  induction k with
  | zero => intro l h hne; exact absurd (List.eq_nil_of_length_eq_zero h) hne
  | succ k ih =>
    intro l h hne hd hh
    have e := List.dropLast_concat_getLast hne
    obtain ⟨r, hr⟩ : ∃ r, l.dropLast = r := ⟨_, rfl⟩
    obtain ⟨c, hc⟩ : ∃ c, l.getLast hne = c := ⟨_, rfl⟩
    have hcd := hd _ (List.getLast_mem hne)
    have hrl : r.length = k := by rw [← hr]; simp; omega
    have hrd : ∀ c ∈ r, isD c := fun x hx => hd x (by rw [← hr] at hx; exact List.dropLast_subset _ hx)
    rw [hr, hc] at e
    rw [hc] at hcd
    unfold isD at hcd
    clear hr hc
    subst e
    rw [vD_snoc]
    have hof : UInt8.ofNat (48 + (c.toNat - 48)) = c := by
      apply UInt8.toNat_inj.1
      rw [UInt8.toNat_ofNat']; omega
    by_cases hrn : r = []
    · subst hrn
      have : vD 0 [] = 0 := rfl
      rw [this, Nat.zero_mul, Nat.zero_add, dec_small _ (by omega), hof]; rfl
    · have hr48 : r.head? ≠ some 48 := fun e => by
        have := hh (by rw [List.head?_append, e]; rfl)
        rw [List.length_append, List.length_singleton] at this
        have := List.length_pos_iff.2 hrn
        omega
      have hv := ih r hrl hrn hrd (fun e => absurd e hr48)
      have hpos : 0 < vD 0 r := by
        rcases Nat.eq_zero_or_pos (vD 0 r) with h0 | h0
        · rw [h0] at hv
          have : Lib.decDigits 0 = [48] := by rw [dec_small 0 (by omega)]; rfl
          rw [this] at hv
          rw [← hv] at hr48
          exact absurd rfl hr48
        · exact h0
      rw [dec_big _ (by omega)]
      have e1 : (vD 0 r * 10 + (c.toNat - 48)) / 10 = vD 0 r := by omega
      have e2 : (vD 0 r * 10 + (c.toNat - 48)) % 10 = c.toNat - 48 := by omega
      rw [e1, e2, hv, hof]
/-- 10^18 -/
def topD : List UInt8 := [49, 48, 48, 48, 48, 48, 48, 48, 48, 48, 48, 48, 48, 48, 48, 48, 48, 48, 48]
theorem dec_top : Lib.decDigits 1000000000000000000 = topD := dec_vD 19 topD rfl (by decide) (by unfold isD; decide) (by decide)
theorem dec_short (u : Nat) (k : Nat) (h : u < 10 ^ (k + 1)) : (Lib.decDigits u).length ≤ k + 1 := by
  induction k generalizing u with
  | zero => simp at h; rw [dec_small u h]; simp
  | succ k ih =>
    by_cases hu : u < 10
    · rw [dec_small u hu]; simp
    · rw [dec_big u (by omega), List.length_append, List.length_singleton]
      have := ih (u / 10) (by rw [Nat.pow_succ] at h; omega)
      omega
/-- the sign and the digits of a text -/
def ngB (l : List UInt8) : Bool := decide (1 < l.length) && decide (l.head? = some 45)
def dgL (l : List UInt8) : List UInt8 := if ngB l then l.tail else l
structure NumOk (l : List UInt8) : Prop where
  ne : dgL l ≠ []
  le : (dgL l).length ≤ 19
  top : (dgL l).length = 19 → dgL l = topD
  lead : (dgL l).head? = some 48 → (dgL l).length = 1 ∧ ngB l = false
  dig : ∀ c ∈ dgL l, isD c
theorem dec_dig (u : Nat) : ∀ c ∈ Lib.decDigits u, isD c := dec_digits u
theorem dec_ok (u : Nat) (h : u ≤ 1000000000000000000) : (Lib.decDigits u).length ≤ 19 ∧ ((Lib.decDigits u).length = 19 → Lib.decDigits u = topD) := by
  by_cases hu : u = 1000000000000000000
  · subst hu; rw [dec_top]; exact ⟨by decide, fun _ => rfl⟩
  · have := dec_short u 17 (by omega)
    exact ⟨by omega, fun h => by omega⟩
theorem num_ok {l : List UInt8} {n : Int} (h : numZ l = some n) : NumOk l ∧ ngB l = decide (n < 0) ∧ dgL l = Lib.decDigits n.natAbs := by
  obtain ⟨rfl, h0, h1⟩ := numZ_iff.1 h
  by_cases hn : n < 0
  · have e := itoa_neg' n hn
    have hd : 0 < (Lib.decDigits n.natAbs).length := List.length_pos_iff.2 (dec_ne _)
    have hng : ngB (Lib.itoa n) = true := by rw [e, ngB]; simp; exact hd
    have hdg : dgL (Lib.itoa n) = Lib.decDigits n.natAbs := by rw [dgL, hng, if_pos rfl, e]; rfl
    have hk := dec_ok n.natAbs (by omega)
    refine ⟨⟨by rw [hdg]; exact dec_ne _, by rw [hdg]; exact hk.1, by rw [hdg]; exact hk.2, fun hh => ?_, by rw [hdg]; exact dec_dig _⟩, by rw [hng]; simpa using hn, hdg⟩
    rw [hdg] at hh
    exact absurd hh (dec_head _ (by omega))
  · have e := itoa_pos' n (by omega)
    have hng : ngB (Lib.itoa n) = false := by
      rw [ngB, Bool.and_eq_false_iff]
      right
      rw [decide_eq_false_iff_not, e]
      intro hh
      have := dec_digits n.natAbs 45 (List.mem_of_mem_head? hh)
      have h45 : (45 : UInt8).toNat = 45 := rfl
      omega
    have hdg : dgL (Lib.itoa n) = Lib.decDigits n.natAbs := by rw [dgL, hng, if_neg (by simp), e]
    have hk := dec_ok n.natAbs (by omega)
    refine ⟨⟨by rw [hdg]; exact dec_ne _, by rw [hdg]; exact hk.1, by rw [hdg]; exact hk.2, fun hh => ?_, by rw [hdg]; exact dec_dig _⟩, by rw [hng]; simp; omega, hdg⟩
    rw [hdg] at hh
    rcases Nat.eq_zero_or_pos n.natAbs with h0 | h0
    · rw [hdg, h0, dec_small 0 (by omega)]; exact ⟨rfl, hng⟩
    · exact absurd hh (dec_head _ h0)
theorem top_take : ∀ i, i ≤ 19 → vD 0 (topD.take i) ≤ 1000000000000000000 := by decide
theorem NumOk.small {l : List UInt8} (h : NumOk l) (i : Nat) (hi : i ≤ (dgL l).length) : vD 0 ((dgL l).take i) ≤ 1000000000000000000 := by
  by_cases h19 : (dgL l).length = 19
  · rw [h.top h19]; exact top_take i (by omega)
  · have h1 := vD_lt i ((dgL l).take i) (by rw [List.length_take]; omega) (fun c hc => h.dig c (List.mem_of_mem_take hc))
    have h2 : 10 ^ i ≤ 10 ^ 18 := Nat.pow_le_pow_right (by omega) (by have := h.le; omega)
    omega
theorem NumOk.val {l : List UInt8} (h : NumOk l) : vD 0 (dgL l) ≤ 1000000000000000000 := by
  have := h.small (dgL l).length (Nat.le_refl _)
  rwa [List.take_length] at this
theorem num_val {l : List UInt8} (h : NumOk l) : numZ l = some (if ngB l then -(vD 0 (dgL l) : Int) else (vD 0 (dgL l) : Int)) := by
  have hv := h.val
  have hd := dec_vD _ (dgL l) rfl h.ne h.dig (fun e => (h.lead e).1)
  rw [numZ_iff]
  cases hg : ngB l
  · simp only [Bool.false_eq_true, if_false]
    refine ⟨?_, by omega, by omega⟩
    have e : dgL l = l := by rw [dgL, hg]; rfl
    rw [itoa_pos' _ (by omega), Int.natAbs_natCast, hd, e]
  · simp only [if_true]
    refine ⟨?_, by omega, by omega⟩
    have hpos : 0 < vD 0 (dgL l) := by
      rcases Nat.eq_zero_or_pos (vD 0 (dgL l)) with h0 | h0
      · rw [h0, dec_small 0 (by omega)] at hd
        have := (h.lead (by rw [← hd]; rfl)).2
        rw [hg] at this; cases this
      · exact h0
    have e : dgL l = l.tail := by rw [dgL, hg]; rfl
    have hl : l = 45 :: l.tail := by
      rw [ngB, Bool.and_eq_true, decide_eq_true_eq, decide_eq_true_eq] at hg
      cases l with
      | nil => simp at hg
      | cons a r => simp at hg; rw [hg.2]; rfl
    rw [itoa_neg' _ (by omega), Int.natAbs_neg, Int.natAbs_natCast, hd, e]
    exact hl
theorem num_bad {l : List UInt8} (h : ¬ NumOk l) : numZ l = none := by
  cases hz : numZ l with
  | none => rfl
  | some n => exact absurd (num_ok hz).1 h
end Go.Proofs.YtnkephafpebfkaaGreatDoor
