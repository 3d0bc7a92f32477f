/- Contracts of package payrollref1: size, common, Valid, New. -/
import Derived.Test.YtkdmbkhgcahpiaaDoorRat2
namespace Go.Proofs.YtkdmbkhgcahpiaaDoor
open Go.RowKit

set_option maxRecDepth 100000 in
set_option maxHeartbeats 800000 in
theorem common_any (a b : Nat) (w : World) (ha : a < 18446744073709551616) (hb : b < 18446744073709551616) :
    Calls Tryd.prog 33 #[.int .u64 a, .int .u64 b] w fun e w' => e = .returned (.int .u64 (Nat.gcd a b : Nat)) ∧ ∃ n, w' = w.drewN n := by
  go_enter Tryd.func33, Tryd.ntmps33
  go_wp2
  go_loopw [0, 1] (fun x y wr => ∃ p q n : Nat, x = .int .u64 p ∧ y = .int .u64 q ∧ p < 18446744073709551616 ∧ q < 18446744073709551616 ∧ Nat.gcd p q = Nat.gcd a b ∧ wr = w.drewN n) (fun _ y _ => (intOf y).toNat)
  case atStart => exact ⟨a, b, 0, rfl, rfl, ha, hb, rfl, rfl⟩
  case round =>
    obtain ⟨p, q, n, rfl, rfl, hp, hq, hg, rfl⟩ := hrel
    have HG := Lib.hid hg
    clear hg
    by_cases hz : q = 0
    · subst hz
      go_wp2
      go_ret
      exact ⟨by rw [← HG.out]; simp, n, rfl⟩
    · have hz1 : ((q : Int) != 0) = true := by simpa using hz
      have hz2 : ((q : Int) == 0) = false := by simpa using hz
      have hq1 : 0 < q := by omega
      clear hz
      go_wp2
      go_region
      all_goals
        go_wp2
        go_roundw
        case rel => exact ⟨q, p % q, n + 1, rfl, by go_num, hq, by have := Nat.mod_lt p hq1; omega, by rw [← HG.out, Nat.gcd_comm p q, Nat.gcd_rec q p, Nat.gcd_comm], rfl⟩
        case measure => simp [intOf]; exact Nat.mod_lt p hq1
theorem u64_add {n : Int} (h : n < 0) (h0 : -9223372036854775808 ≤ n) : IntKind.u64.wrap (-(n + 1) + 1) = (n.natAbs : Nat) := by
  simp [IntKind.wrap, IntKind.bits, IntKind.signed]; omega
theorem size_any (n : Int) (w : World) (h0 : -9223372036854775808 ≤ n) (h1 : n ≤ 9223372036854775807) :
    Calls Tryd.prog 32 #[.int .i64 n] w fun e w' => e = .returned (.int .u64 (n.natAbs : Nat)) ∧ w' = w := by
  by_cases hn : n < 0
  · go_enter Tryd.func32, Tryd.ntmps32
    go_wp2
    go_ret
    exact ⟨ret_int (by omega), rfl⟩
  · go_enter Tryd.func32, Tryd.ntmps32
    go_wp2
    go_ret
    exact ⟨ret_int (by omega), rfl⟩
set_option maxRecDepth 100000 in
set_option maxHeartbeats 1600000 in
theorem refValid_any (n d : Int) (w : World) :
    Calls Tryd.prog 21 #[.agg #[.int .i64 n, .int .i64 d]] w fun e w' => e = .returned (.bool (vldB n d)) ∧ Below w.heap.size w w' := by
  by_cases hr : 1 ≤ d ∧ d ≤ 1000000 ∧ -1000000000000 ≤ n ∧ n ≤ 1000000000000
  · obtain ⟨h1, h2, h3, h4⟩ := hr
    have HV := Lib.hid (vld_yes h1 h2 h3 h4)
    have d1 : decide (1 ≤ d) = true := by simpa using h1
    have d2 : decide (d ≤ 1000000) = true := by simpa using h2
    have d3 : decide (-1000000000000 ≤ n) = true := by simpa using h3
    have d4 : decide (n ≤ 1000000000000) = true := by simpa using h4
    go_enter Tryd.func21, Tryd.ntmps21
    go_wp2_with fail
    go_quiet ((first | (go_at_call 32; exact Calls.quiet_of_same (size_any _ _ (by omega) (by omega))) | (go_at_call 33; exact Calls.quiet_of (common_any _ _ _ (by omega) (by omega)))))
    go_wp2
    go_ret
    exact ⟨ret_bool (by rw [HV.out, eq1_dec]), Below.draws ((Below.refl _ _).alloc (Nat.le_refl _) _) _⟩
  · have HV := Lib.hid (vld_no hr)
    by_cases h1 : 1 ≤ d
    · by_cases h2 : d ≤ 1000000
      · by_cases h3 : -1000000000000 ≤ n
        · have d1 : decide (1 ≤ d) = true := by simpa using h1
          have d2 : decide (d ≤ 1000000) = true := by simpa using h2
          have d3 : decide (-1000000000000 ≤ n) = true := by simpa using h3
          have d4 : decide (n ≤ 1000000000000) = false := by simp; omega
          clear hr h1 h2 h3
          go_enter Tryd.func21, Tryd.ntmps21
          go_wp2_with fail
          go_quiet (fail)
          go_wp2
          go_ret
          exact ⟨ret_bool HV.out.symm, Below.draws ((Below.refl _ _).alloc (Nat.le_refl _) _) _⟩
        · have d1 : decide (1 ≤ d) = true := by simpa using h1
          have d2 : decide (d ≤ 1000000) = true := by simpa using h2
          have d3 : decide (-1000000000000 ≤ n) = false := by simpa using h3
          clear hr h1 h2 h3
          go_enter Tryd.func21, Tryd.ntmps21
          go_wp2_with fail
          go_quiet (fail)
          go_wp2
          go_ret
          exact ⟨ret_bool HV.out.symm, Below.draws ((Below.refl _ _).alloc (Nat.le_refl _) _) _⟩
      · have d1 : decide (1 ≤ d) = true := by simpa using h1
        have d2 : decide (d ≤ 1000000) = false := by simpa using h2
        clear hr h1 h2
        go_enter Tryd.func21, Tryd.ntmps21
        go_wp2_with fail
        go_quiet (fail)
        go_wp2
        go_ret
        exact ⟨ret_bool HV.out.symm, Below.draws ((Below.refl _ _).alloc (Nat.le_refl _) _) _⟩
    · have d1 : decide (1 ≤ d) = false := by simpa using h1
      clear hr h1
      go_enter Tryd.func21, Tryd.ntmps21
      go_wp2_with fail
      go_quiet (fail)
      go_wp2
      go_ret
      exact ⟨ret_bool HV.out.symm, Below.draws ((Below.refl _ _).alloc (Nat.le_refl _) _) _⟩

set_option maxRecDepth 100000 in
set_option maxHeartbeats 1600000 in
theorem refNew_any (a b : Int) (w : World) (ha : -9223372036854775808 ≤ a ∧ a ≤ 9223372036854775807) (hb : -9223372036854775808 ≤ b ∧ b ≤ 9223372036854775807) :
    Calls Tryd.prog 10 #[.int .i64 a, .int .i64 b] w (RetF (newF a b) w) := by
  by_cases h0 : b = 0
  · subst h0
    go_enter Tryd.func10, Tryd.ntmps10
    go_wp2_with fail
    refine bodyPost_ret (v := .tuple #[.agg #[.int .i64 0, .int .i64 0], .int .i64 5]) (by simp [results, Tryd.results10, go_sem]) rfl (RetF.of rfl ?_)
    exact (Below.refl _ _).alloc (Nat.le_refl _) _
  · have HN := Lib.hid (newF_eq a b h0)
    have h1 : (b == 0) = false := by simpa using h0
    obtain ⟨n, hn'⟩ : ∃ n, n = a.natAbs := ⟨_, rfl⟩
    obtain ⟨d, hd'⟩ : ∃ d, d = b.natAbs := ⟨_, rfl⟩
    have hn : n < 18446744073709551616 := by omega
    have hd : d < 18446744073709551616 := by omega
    have h0d : 0 < d := by omega
    rw [← hn', ← hd'] at HN
    have HN' := Lib.hid hn'
    have HD' := Lib.hid hd'
    clear hn' hd' h0
    have hgp : 0 < Nat.gcd n d := Nat.gcd_pos_of_pos_right _ h0d
    obtain ⟨g, hg⟩ : ∃ g, g = Nat.gcd n d := ⟨_, rfl⟩
    have HG := Lib.hid hg
    rw [← hg] at hgp
    have hgd : g ≤ d := by rw [hg]; exact Nat.gcd_le_right _ h0d
    clear hg
    have hg1 : ((g : Int) == 0) = false := by simp; omega
    obtain ⟨p, hp⟩ : ∃ p, p = n / g := ⟨_, rfl⟩
    obtain ⟨q, hq⟩ : ∃ q, q = d / g := ⟨_, rfl⟩
    have hp1 : p ≤ n := by rw [hp]; exact Nat.div_le_self _ _
    have hq1 : q ≤ d := by rw [hq]; exact Nat.div_le_self _ _
    have W1 : IntKind.u64.wrap ((n : Int) / (g : Int)) = (p : Int) := by rw [hp, ← Int.natCast_ediv, u64_in]; exact Nat.lt_of_le_of_lt (Nat.div_le_self _ _) hn
    have W2 : IntKind.u64.wrap ((d : Int) / (g : Int)) = (q : Int) := by rw [hq, ← Int.natCast_ediv, u64_in]; exact Nat.lt_of_le_of_lt (Nat.div_le_self _ _) hd
    have HP : Hid (p = n / Nat.gcd n d) := by rw [Hid, hp, HG.out]
    have HQ : Hid (q = d / Nat.gcd n d) := by rw [Hid, hq, HG.out]
    clear hp hq
    by_cases hA : p ≤ 1000000000000 ∧ q ≤ 1000000
    · obtain ⟨hA1, hA2⟩ := hA
      have HF := Lib.hid (fitF_yes (decide (a < 0) != decide (b < 0)) n d (by omega) (by rw [← HP.out]; exact hA1) (by rw [← HQ.out]; exact hA2))
      cases ea : decide (a < 0) <;> cases eb : decide (b < 0)
      all_goals
        go_enter Tryd.func10, Tryd.ntmps10
        go_wp2_with fail
        refine (size_any a _ ha.1 ha.2).mono ?_
        rintro e w' ⟨rfl, rfl⟩
        rw [← HN'.out]
        go_wp2_with fail
        refine (size_any b _ hb.1 hb.2).mono ?_
        rintro e w' ⟨rfl, rfl⟩
        rw [← HD'.out]
        go_wp2_with fail
        refine (common_any _ _ _ hn hd).mono ?_
        rintro e w' ⟨rfl, k, rfl⟩
        rw [← HG.out]
        go_wp2_with fail
        go_region
        clear W1 W2
        go_wp2_with fail
      · refine bodyPost_ret (v := .tuple #[.agg #[.int .i64 (p : Int), .int .i64 (q : Int)], .int .i64 0]) (by simp [results, Tryd.results10, go_sem]) rfl (RetF.of (by rw [HN.out, HF.out, ← HP.out, ← HQ.out]; simp [sgn, ea, eb]) ?_)
        exact (Below.set2 (Below.draws ((Below.refl _ _).alloc (Nat.le_refl _) _) _) (Nat.le_refl _) _ _).alloc (by simp) _
      · refine bodyPost_ret (v := .tuple #[.agg #[.int .i64 (-(p : Int)), .int .i64 (q : Int)], .int .i64 0]) (by simp [results, Tryd.results10, go_sem]) rfl (RetF.of (by rw [HN.out, HF.out, ← HP.out, ← HQ.out]; simp [sgn, ea, eb]) ?_)
        exact (Below.set2 (Below.draws ((Below.refl _ _).alloc (Nat.le_refl _) _) _) (Nat.le_refl _) _ _).alloc (by simp) _
      · refine bodyPost_ret (v := .tuple #[.agg #[.int .i64 (-(p : Int)), .int .i64 (q : Int)], .int .i64 0]) (by simp [results, Tryd.results10, go_sem]) rfl (RetF.of (by rw [HN.out, HF.out, ← HP.out, ← HQ.out]; simp [sgn, ea, eb]) ?_)
        exact (Below.set2 (Below.draws ((Below.refl _ _).alloc (Nat.le_refl _) _) _) (Nat.le_refl _) _ _).alloc (by simp) _
      · refine bodyPost_ret (v := .tuple #[.agg #[.int .i64 (p : Int), .int .i64 (q : Int)], .int .i64 0]) (by simp [results, Tryd.results10, go_sem]) rfl (RetF.of (by rw [HN.out, HF.out, ← HP.out, ← HQ.out]; simp [sgn, ea, eb]) ?_)
        exact (Below.set2 (Below.draws ((Below.refl _ _).alloc (Nat.le_refl _) _) _) (Nat.le_refl _) _ _).alloc (by simp) _
    · have HF := Lib.hid (fitF_no (decide (a < 0) != decide (b < 0)) n d (by omega) (by rw [← HP.out, ← HQ.out]; omega))
      have hA' : 1000000000000 < p ∨ 1000000 < q := by omega
      clear hA
      go_enter Tryd.func10, Tryd.ntmps10
      go_wp2_with fail
      refine (size_any a _ ha.1 ha.2).mono ?_
      rintro e w' ⟨rfl, rfl⟩
      rw [← HN'.out]
      go_wp2_with fail
      refine (size_any b _ hb.1 hb.2).mono ?_
      rintro e w' ⟨rfl, rfl⟩
      rw [← HD'.out]
      go_wp2_with fail
      refine (common_any _ _ _ hn hd).mono ?_
      rintro e w' ⟨rfl, k, rfl⟩
      rw [← HG.out]
      go_wp2_with fail
      go_region
      clear W1 W2
      go_wp2_with fail
      all_goals (first | (exfalso; omega) | skip)
      all_goals
        refine bodyPost_ret (v := .tuple #[.agg #[.int .i64 0, .int .i64 0], .int .i64 4]) (by simp [results, Tryd.results10, go_sem]) rfl (RetF.of (by rw [HN.out, HF.out]) ?_)
        exact Below.set2 (Below.draws ((Below.refl _ _).alloc (Nat.le_refl _) _) _) (Nat.le_refl _) _ _
end Go.Proofs.YtkdmbkhgcahpiaaDoor
