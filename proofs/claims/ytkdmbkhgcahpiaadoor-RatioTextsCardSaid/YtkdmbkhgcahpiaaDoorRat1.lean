/- Contracts of package ratio: gcd, magnitude, fit. -/
import Derived.Test.YtkdmbkhgcahpiaaDoorRat
import Derived.LoopTactic
import Derived.RegionTactic
import Derived.Deep.QuietTactic
import Derived.BigQuiet
import Derived.Test.YtkdmbkhgcahpiaaDoorProg
namespace Go.Proofs.YtkdmbkhgcahpiaaDoor
open Go.RowKit

theorem u64_in {n : Nat} (h : n < 18446744073709551616) : IntKind.u64.wrap (n : Int) = n := by
  simp [IntKind.wrap, IntKind.bits, IntKind.signed]; omega

set_option maxRecDepth 100000 in
set_option maxHeartbeats 800000 in
theorem gcd_any (a b : Nat) (w : World) (ha : a < 18446744073709551616) (hb : b < 18446744073709551616) :
    Calls Tryd.prog 40 #[.int .u64 a, .int .u64 b] w fun e w' => e = .returned (.int .u64 (Nat.gcd a b : Nat)) ∧ ∃ n, w' = w.drewN n := by
  go_enter Tryd.func40, Tryd.ntmps40
  go_wp2
  go_loopw [0, 1] (fun x y wr => ∃ p q n : Nat, x = .int .u64 p ∧ y = .int .u64 q ∧ p < 18446744073709551616 ∧ q < 18446744073709551616 ∧ Nat.gcd p q = Nat.gcd a b ∧ wr = w.drewN n) (fun _ y _ => (intOf y).toNat)
  case atStart => exact ⟨a, b, 0, rfl, rfl, ha, hb, rfl, rfl⟩
  case round =>
    obtain ⟨p, q, n, rfl, rfl, hp, hq, hg, rfl⟩ := hrel
    have HG := Lib.hid hg
    clear hg
    by_cases hz : q = 0
    · subst hz
      go_wp2
      go_ret
      exact ⟨by rw [← HG.out]; simp, n, rfl⟩
    · have hz1 : ((q : Int) != 0) = true := by simpa using hz
      have hz2 : ((q : Int) == 0) = false := by simpa using hz
      have hq1 : 0 < q := by omega
      clear hz
      go_wp2
      go_region
      all_goals
        go_wp2
        go_roundw
        case rel => exact ⟨q, p % q, n + 1, rfl, by go_num, hq, by have := Nat.mod_lt p hq1; omega, by rw [← HG.out, Nat.gcd_comm p q, Nat.gcd_rec q p, Nat.gcd_comm], rfl⟩
        case measure => simp [intOf]; exact Nat.mod_lt p hq1

theorem u64_neg {n : Int} (h : n < 0) (h0 : -9223372036854775808 ≤ n) : IntKind.u64.wrap (-IntKind.u64.wrap n) = (n.natAbs : Nat) := by
  simp [IntKind.wrap, IntKind.bits, IntKind.signed]; omega
theorem mag_any (n : Int) (w : World) (h0 : -9223372036854775808 ≤ n) (h1 : n ≤ 9223372036854775807) :
    Calls Tryd.prog 31 #[.int .i64 n] w fun e w' => e = .returned (.int .u64 (n.natAbs : Nat)) ∧ w' = w := by
  by_cases hn : n < 0
  · go_enter Tryd.func31, Tryd.ntmps31
    go_wp2
    go_ret
    exact ⟨ret_int (u64_neg hn h0), rfl⟩
  · go_enter Tryd.func31, Tryd.ntmps31
    go_wp2
    go_ret
    exact ⟨ret_int (by omega), rfl⟩
/-- the call returns a fraction and an error number -/
def RetF (x : Frac) (w : World) (e : Ending) (w' : World) : Prop := e = .returned (.tuple #[.agg #[.int .i64 x.n, .int .i64 x.d], .int .i64 x.e]) ∧ Below w.heap.size w w'
theorem RetF.of {x : Frac} {n d e : Int} {w w' : World} (h : x = ⟨n, d, e⟩) (hb : Below w.heap.size w w') : RetF x w (.returned (.tuple #[.agg #[.int .i64 n, .int .i64 d], .int .i64 e])) w' := by subst h; exact ⟨rfl, hb⟩
set_option maxRecDepth 100000 in
set_option maxHeartbeats 800000 in
theorem fit_any (neg : Bool) (n d : Nat) (w : World) (hn : n < 18446744073709551616) (hd : d < 18446744073709551616) (h0 : 0 < d) :
    Calls Tryd.prog 30 #[.bool neg, .int .u64 n, .int .u64 d] w (RetF (fitF neg n d) w) := by
  have hgp : 0 < Nat.gcd n d := Nat.gcd_pos_of_pos_right _ h0
  obtain ⟨g, hg⟩ : ∃ g, g = Nat.gcd n d := ⟨_, rfl⟩
  have HG := Lib.hid hg
  rw [← hg] at hgp
  have hgd : g ≤ d := by rw [hg]; exact Nat.gcd_le_right _ h0
  clear hg
  have hg1 : ((g : Int) == 0) = false := by simp; omega
  obtain ⟨p, hp⟩ : ∃ p, p = n / g := ⟨_, rfl⟩
  obtain ⟨q, hq⟩ : ∃ q, q = d / g := ⟨_, rfl⟩
  have hp1 : p ≤ n := by rw [hp]; exact Nat.div_le_self _ _
  have hq1 : q ≤ d := by rw [hq]; exact Nat.div_le_self _ _
  have W1 : IntKind.u64.wrap ((n : Int) / (g : Int)) = (p : Int) := by rw [hp, ← Int.natCast_ediv, u64_in]; exact Nat.lt_of_le_of_lt (Nat.div_le_self _ _) hn
  have W2 : IntKind.u64.wrap ((d : Int) / (g : Int)) = (q : Int) := by rw [hq, ← Int.natCast_ediv, u64_in]; exact Nat.lt_of_le_of_lt (Nat.div_le_self _ _) hd
  have HP : Hid (p = n / Nat.gcd n d) := by rw [Hid, hp, HG.out]
  have HQ : Hid (q = d / Nat.gcd n d) := by rw [Hid, hq, HG.out]
  clear hp hq
  by_cases hA : p ≤ 1000000000000 ∧ q ≤ 1000000
  · obtain ⟨hA1, hA2⟩ := hA
    have HF := Lib.hid (fitF_yes neg n d (by omega) (by rw [← HP.out]; exact hA1) (by rw [← HQ.out]; exact hA2))
    cases neg
    all_goals
      go_enter Tryd.func30, Tryd.ntmps30
      go_wp2_with fail
      refine (gcd_any _ _ _ hn hd).mono ?_
      rintro e w' ⟨rfl, k, rfl⟩
      rw [← HG.out]
      go_wp2_with fail
      go_region
      clear W1 W2
      go_wp2_with fail
    · refine bodyPost_ret (v := .tuple #[.agg #[.int .i64 (p : Int), .int .i64 (q : Int)], .int .i64 0]) (by simp [results, Tryd.results30, go_sem]) rfl (RetF.of (by rw [HF.out, ← HP.out, ← HQ.out]; rfl) ?_)
      exact (((Below.draws ((Below.refl _ _).alloc (Nat.le_refl _) _) _).setCell (by simp) _).setCell (by simp) _)
    · refine bodyPost_ret (v := .tuple #[.agg #[.int .i64 (-(p : Int)), .int .i64 (q : Int)], .int .i64 0]) (by simp [results, Tryd.results30, go_sem]) rfl (RetF.of (by rw [HF.out, ← HP.out, ← HQ.out]; rfl) ?_)
      exact (((Below.draws ((Below.refl _ _).alloc (Nat.le_refl _) _) _).setCell (by simp) _).setCell (by simp) _)
  · have HF := Lib.hid (fitF_no neg n d (by omega) (by rw [← HP.out, ← HQ.out]; omega))
    by_cases hA1 : p ≤ 1000000000000
    · have hA2 : 1000000 < q := by omega
      clear hA
      go_enter Tryd.func30, Tryd.ntmps30
      go_wp2_with fail
      refine (gcd_any _ _ _ hn hd).mono ?_
      rintro e w' ⟨rfl, k, rfl⟩
      rw [← HG.out]
      go_wp2_with fail
      go_region
      clear W1 W2
      go_wp2_with fail
      refine bodyPost_ret (v := .tuple #[.agg #[.int .i64 0, .int .i64 0], .int .i64 4]) (by simp [results, Tryd.results30, go_sem]) rfl (RetF.of HF.out ?_)
      exact (((Below.draws ((Below.refl _ _).alloc (Nat.le_refl _) _) _).setCell (by simp) _).setCell (by simp) _)
    · have hA2 : 1000000000000 < p := by omega
      clear hA hA1
      go_enter Tryd.func30, Tryd.ntmps30
      go_wp2_with fail
      refine (gcd_any _ _ _ hn hd).mono ?_
      rintro e w' ⟨rfl, k, rfl⟩
      rw [← HG.out]
      go_wp2_with fail
      go_region
      clear W1 W2
      go_wp2_with fail
      refine bodyPost_ret (v := .tuple #[.agg #[.int .i64 0, .int .i64 0], .int .i64 4]) (by simp [results, Tryd.results30, go_sem]) rfl (RetF.of HF.out ?_)
      exact (((Below.draws ((Below.refl _ _).alloc (Nat.le_refl _) _) _).setCell (by simp) _).setCell (by simp) _)
end Go.Proofs.YtkdmbkhgcahpiaaDoor
