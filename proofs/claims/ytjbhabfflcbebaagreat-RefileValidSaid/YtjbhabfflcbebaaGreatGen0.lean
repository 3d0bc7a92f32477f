/- Remainders. -/
import Derived.Test.YtjbhabfflcbebaaGreatKit
import Derived.Test.YtjbhabfflcbebaaGreatRows
namespace Go.Proofs.YtjbhabfflcbebaaGreat
open Go.RowKit

theorem tmod_lo (v n : Int) (hn : 0 < n) : -n < v.tmod n := by
  have := Int.tmod_lt_of_pos (-v) hn
  rw [Int.neg_tmod] at this; omega
theorem emod_of_tmod (v n : Int) (hn : 0 < n) : v % n = if v.tmod n < 0 then v.tmod n + n else v.tmod n := by
  rw [Int.emod_eq_tmod]
  have h1 := Int.tmod_lt_of_pos v hn
  have h2 := tmod_lo v n hn
  by_cases h0 : 0 ≤ v
  · rw [if_pos (.inl h0)]
    have h3 := Int.tmod_nonneg n h0
    rw [if_neg (by omega)]; omega
  · by_cases hd : n ∣ v
    · rw [if_pos (.inr hd)]
      have h3 : v.tmod n = 0 := Int.tmod_eq_zero_of_dvd hd
      rw [h3]; simp
    · rw [if_neg (by simp [h0, hd])]
      have h3 : v.tmod n ≤ 0 := by
        have := Int.tmod_nonneg n (show 0 ≤ -v by omega)
        rw [Int.neg_tmod] at this; omega
      have h4 : v.tmod n ≠ 0 := fun h => hd (Int.dvd_of_tmod_eq_zero h)
      rw [if_pos (by omega)]
      have : (n.natAbs : Int) = n := by omega
      omega

end Go.Proofs.YtjbhabfflcbebaaGreat
