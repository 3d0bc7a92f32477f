/- Contracts of package paygen: Mod. -/
import Derived.Test.YtlchelgibilacaaKit
import Derived.Test.YtlchelgibilacaaRows
namespace Go.Proofs.Ytlchelgibilacaa
open Go.RowKit

theorem tmod_lo (v n : Int) (hn : 0 < n) : -n < v.tmod n := by
  have := Int.tmod_lt_of_pos (-v) hn
  rw [Int.neg_tmod] at this; omega
theorem emod_of_tmod (v n : Int) (hn : 0 < n) : v % n = if v.tmod n < 0 then v.tmod n + n else v.tmod n := by
  rw [Int.emod_eq_tmod]
  have h1 := Int.tmod_lt_of_pos v hn
  have h2 := tmod_lo v n hn
  by_cases h0 : 0 ≤ v
  · rw [if_pos (.inl h0)]
    have h3 := Int.tmod_nonneg n h0
    rw [if_neg (by omega)]; omega
  · by_cases hd : n ∣ v
    · rw [if_pos (.inr hd)]
      have h3 : v.tmod n = 0 := Int.tmod_eq_zero_of_dvd hd
      rw [h3]; simp
    · rw [if_neg (by simp [h0, hd])]
      have h3 : v.tmod n ≤ 0 := by
        have := Int.tmod_nonneg n (show 0 ≤ -v by omega)
        rw [Int.neg_tmod] at this; omega
      have h4 : v.tmod n ≠ 0 := fun h => hd (Int.dvd_of_tmod_eq_zero h)
      rw [if_pos (by omega)]
      have : (n.natAbs : Int) = n := by omega
      omega

theorem Mod_any (v n : Int) (w : World) (hn : 0 < n) (hn2 : n ≤ 1099511627776) :
    Calls Try.prog 10 #[.int .i64 v, .int .i64 n] w fun e w' => e = .returned (.int .i64 (v % n)) ∧ w = w' := by
  have h1 := Int.tmod_lt_of_pos v hn
  have h2 := tmod_lo v n hn
  have H := Lib.hid (emod_of_tmod v n hn)
  have hz : (n == 0) = false := beq_eq_false_iff_ne.2 (by omega)
  by_cases h0 : v.tmod n < 0
  · go_enter Try.func10, Try.ntmps10
    go_wp2
    go_ret
    exact ⟨ret_int (by rw [H.out, if_pos (by omega)]), rfl⟩
  · go_enter Try.func10, Try.ntmps10
    go_wp2
    go_ret
    exact ⟨ret_int (by rw [H.out, if_neg (by omega)]), rfl⟩

end Go.Proofs.Ytlchelgibilacaa
