/- Plain facts on decimal texts: no program in sight. -/
import Derived.Test.YtnkephafpebfkaaGreatDoorKit
import Derived.Lib.ItoaNum
import Derived.Lib.AtoiAllCases
namespace Go.Proofs.YtnkephafpebfkaaGreatDoor

theorem digit_nat {d : Nat} (h : d < 10) : (UInt8.ofNat (48 + d)).toNat = 48 + d := by
  rw [UInt8.toNat_ofNat']; omega
theorem dec_digits (u : Nat) : ∀ c ∈ Lib.decDigits u, 48 ≤ c.toNat ∧ c.toNat ≤ 57 := by
  induction u using Nat.strongRecOn with
  | ind u ih =>
    intro c hc
    rw [Lib.decDigits] at hc
    by_cases hu : u < 10
    · rw [dif_pos hu, List.mem_singleton] at hc
      subst hc; rw [digit_nat hu]; omega
    · rw [dif_neg hu, List.mem_append, List.mem_singleton] at hc
      rcases hc with hc | hc
      · exact ih (u / 10) (by omega) c hc
      · subst hc; rw [digit_nat (by omega)]; omega
theorem dec_ne (u : Nat) : Lib.decDigits u ≠ [] := by
  rw [Lib.decDigits]; split <;> simp
theorem parse_snoc (l : List UInt8) : ∀ (c : UInt8) (acc v : Nat), Lib.parseUint10 acc l = .ok v → Lib.parseUint10 acc (l ++ [c]) = Lib.parseUint10 v [c] := by
  induction l with
  | nil => intro c acc v h; simp only [Lib.parseUint10] at h; injection h with h; subst h; rfl
  | cons a r ih =>
    intro c acc v h
    rw [List.cons_append]
    unfold Lib.parseUint10 at h ⊢
    split at h
    · rename_i h1
      split at h
      · cases h
      · rename_i h2
        split at h
        · cases h
        · rename_i h3
          rw [if_pos h1, if_neg h2, if_neg h3, ih c _ v h]
          rfl
    · cases h
theorem parse_dec (u : Nat) (h : u < 18446744073709551616) : Lib.parseUint10 0 (Lib.decDigits u) = .ok u := by
  induction u using Nat.strongRecOn with
  | ind u ih =>
    rw [Lib.decDigits]
    by_cases hu : u < 10
    · rw [dif_pos hu]
      simp only [Lib.parseUint10, digit_nat hu]
      rw [if_pos (by omega), if_neg (by omega), if_neg (by omega)]
      congr 1; omega
    · rw [dif_neg hu, parse_snoc _ _ _ (u / 10) (ih (u / 10) (by omega) (by omega))]
      simp only [Lib.parseUint10, digit_nat (show u % 10 < 10 by omega)]
      rw [if_pos (by omega), if_neg (by omega), if_neg (by omega)]
      congr 1; omega
theorem mag_dec (u : Nat) (h : u < 18446744073709551616) : Lib.parseMag (Lib.decDigits u) = .ok u := by
  rw [Lib.parseMag, if_neg (dec_ne u), parse_dec u h]
theorem atoi_itoa (n : Int) (h0 : -9223372036854775808 ≤ n) (h1 : n ≤ 9223372036854775807) : Lib.atoiAll (Lib.itoa n) = .ok n := by
  unfold Lib.itoa
  by_cases hn : n < 0
  · rw [if_pos hn, Lib.atoiAll_minus, mag_dec _ (by omega)]
    simp only [Lib.signed]
    rw [if_neg (by omega)]
    congr 1; omega
  · rw [if_neg hn]
    cases hd : Lib.decDigits n.toNat with
    | nil => exact absurd hd (dec_ne _)
    | cons c r =>
      have hc := dec_digits n.toNat c (by rw [hd]; simp)
      rw [Lib.atoiAll_plain c r (by omega) (by omega), ← hd, mag_dec _ (by omega)]
      simp only [Lib.signless]
      rw [if_neg (by omega)]
      congr 1; omega
theorem itoa_inj {n m : Int} (h0 : -9223372036854775808 ≤ n) (h1 : n ≤ 9223372036854775807) (k0 : -9223372036854775808 ≤ m) (k1 : m ≤ 9223372036854775807) (h : Lib.itoa n = Lib.itoa m) : n = m := by
  have a := atoi_itoa n h0 h1
  rw [h, atoi_itoa m k0 k1] at a
  injection a with a
  exact a.symm
theorem itoa_bytes (n : Int) : ∀ c ∈ Lib.itoa n, c.toNat = 45 ∨ 48 ≤ c.toNat ∧ c.toNat ≤ 57 := by
  intro c hc
  unfold Lib.itoa at hc
  split at hc
  · rcases List.mem_cons.1 hc with rfl | hc
    · exact .inl rfl
    · exact .inr (dec_digits _ c hc)
  · exact .inr (dec_digits _ c hc)
theorem itoa_ne (n : Int) : Lib.itoa n ≠ [] := by
  unfold Lib.itoa; split
  · simp
  · exact dec_ne _
theorem itoa_neg' (n : Int) (h : n < 0) : Lib.itoa n = 45 :: Lib.decDigits n.natAbs := by rw [Lib.itoa, if_pos h]
theorem itoa_pos' (n : Int) (h : 0 ≤ n) : Lib.itoa n = Lib.decDigits n.natAbs := by rw [Lib.itoa, if_neg (by omega)]; congr 1; omega
theorem dec_big (u : Nat) (h : 10 ≤ u) : Lib.decDigits u = Lib.decDigits (u / 10) ++ [UInt8.ofNat (48 + u % 10)] := by
  rw [Lib.decDigits, dif_neg (by omega)]
theorem dec_small (u : Nat) (h : u < 10) : Lib.decDigits u = [UInt8.ofNat (48 + u)] := by rw [Lib.decDigits, dif_pos h]
end Go.Proofs.YtnkephafpebfkaaGreatDoor
