/- Contracts of product, Mul and Div of package ratio. -/
import Derived.Test.YtkdmbkhgcahpiaaDoorRat4
import Derived.Test.YtkdmbkhgcahpiaaDoorLib
import Derived.Deep.RegionWith
namespace Go.Proofs.YtkdmbkhgcahpiaaDoor
open Go.RowKit

set_option maxRecDepth 100000 in
set_option maxHeartbeats 1600000 in
theorem product_any (neg : Bool) (n1 d1 n2 d2 : Nat) (w : World) (h1 : n1 ≤ 1000000000000) (h2 : n2 ≤ 1000000000000) (k1 : d1 ≤ 1000000000000) (k2 : d2 ≤ 1000000000000) (z1 : 0 < d1) (z2 : 0 < d2)
    (c1 : Nat.gcd n1 d1 = 1) (c2 : Nat.gcd n2 d2 = 1) (hD : d1 * d2 < 18446744073709551616) :
    Calls Tryd.prog 41 #[.bool neg, .int .u64 n1, .int .u64 d1, .int .u64 n2, .int .u64 d2] w (RetF (fitF neg (n1 * n2) (d1 * d2)) w) := by
  obtain ⟨hc0, HD, hf0⟩ := prod_parts (n1 := n1) (n2 := n2) (d1 := d1) (d2 := d2) (by omega) (by omega) c1 c2
  have gp : 0 < Nat.gcd n1 d2 := Nat.gcd_pos_of_pos_right _ z2
  have hp : 0 < Nat.gcd n2 d1 := Nat.gcd_pos_of_pos_right _ z1
  have HF := Lib.hid (hf0 neg)
  have HC := Lib.hid hc0
  clear hf0 hc0
  have C1 := Lib.hid (gcd_any n1 d2)
  have C2 := Lib.hid (gcd_any n2 d1)
  obtain ⟨g, hg⟩ : ∃ g, g = Nat.gcd n1 d2 := ⟨_, rfl⟩
  obtain ⟨h, hh⟩ : ∃ h, h = Nat.gcd n2 d1 := ⟨_, rfl⟩
  rw [← hg, ← hh] at HC HD HF
  rw [← hg] at gp C1
  rw [← hh] at hp C2
  have gl : g ≤ d2 := by rw [hg]; exact Nat.gcd_le_right _ z2
  have hl : h ≤ d1 := by rw [hh]; exact Nat.gcd_le_right _ z1
  clear hg hh c1 c2
  obtain ⟨p1, e1⟩ : ∃ p, p = n1 / g := ⟨_, rfl⟩
  obtain ⟨p2, e2⟩ : ∃ p, p = n2 / h := ⟨_, rfl⟩
  obtain ⟨q1, e3⟩ : ∃ p, p = d1 / h := ⟨_, rfl⟩
  obtain ⟨q2, e4⟩ : ∃ p, p = d2 / g := ⟨_, rfl⟩
  have b1 : p1 ≤ n1 := by rw [e1]; exact Nat.div_le_self _ _
  have b2 : p2 ≤ n2 := by rw [e2]; exact Nat.div_le_self _ _
  have b3 : q1 ≤ d1 := by rw [e3]; exact Nat.div_le_self _ _
  have b4 : q2 ≤ d2 := by rw [e4]; exact Nat.div_le_self _ _
  have hg1 : ((g : Int) == 0) = false := by simp; omega
  have hh1 : ((h : Int) == 0) = false := by simp; omega
  have W1 : IntKind.u64.wrap ((n1 : Int) / (g : Int)) = (p1 : Int) := by rw [e1, ← Int.natCast_ediv, u64_in]; have := Nat.div_le_self n1 g; omega
  have W2 : IntKind.u64.wrap ((n2 : Int) / (h : Int)) = (p2 : Int) := by rw [e2, ← Int.natCast_ediv, u64_in]; have := Nat.div_le_self n2 h; omega
  have W3 : IntKind.u64.wrap ((d1 : Int) / (h : Int)) = (q1 : Int) := by rw [e3, ← Int.natCast_ediv, u64_in]; have := Nat.div_le_self d1 h; omega
  have W4 : IntKind.u64.wrap ((d2 : Int) / (g : Int)) = (q2 : Int) := by rw [e4, ← Int.natCast_ediv, u64_in]; have := Nat.div_le_self d2 g; omega
  rw [← e1, ← e2, ← e3, ← e4] at HC HF
  rw [← e3, ← e4] at HD
  have hQ : q1 * q2 < 18446744073709551616 := Nat.lt_of_le_of_lt (Nat.mul_le_mul b3 b4) hD
  clear e1 e2 e3 e4
  obtain ⟨nh, enh⟩ : ∃ x, x = p1 * p2 / 18446744073709551616 := ⟨_, rfl⟩
  obtain ⟨nl, enl⟩ : ∃ x, x = p1 * p2 % 18446744073709551616 := ⟨_, rfl⟩
  have M1 := Lib.hid (Tryd.bits_Mul64 p1 p2 (by omega) (by omega))
  have M2 := Lib.hid (Tryd.bits_Mul64 q1 q2 (by omega) (by omega))
  rw [← enh, ← enl] at M1
  obtain ⟨D, eD⟩ : ∃ x, x = q1 * q2 := ⟨_, rfl⟩
  rw [← eD, Nat.div_eq_of_lt (by omega), Nat.mod_eq_of_lt (by omega)] at M2
  rw [← eD] at HC HD HF hQ
  clear eD
  by_cases hz : p1 * p2 < 18446744073709551616
  · have z0 : nh = 0 := by rw [enh]; exact Nat.div_eq_of_lt hz
    have zl : nl = p1 * p2 := by rw [enl]; exact Nat.mod_eq_of_lt hz
    rw [← zl] at HF hz
    subst z0
    clear enh enl zl
    go_enter Tryd.func41, Tryd.ntmps41
    go_wp2_with fail
    refine (C1.out _ (by omega) (by omega)).mono ?_
    rintro e w' ⟨rfl, x1, rfl⟩
    go_wp2_with fail
    refine (C2.out _ (by omega) (by omega)).mono ?_
    rintro e w' ⟨rfl, x2, rfl⟩
    have rR : Row ((w.alloc (Obj.cells #[Value.int .i64 0, Value.int .i64 0] 23)).drewN (x1 + x2)) w.heap.size 23 #[.int .i64 0, .int .i64 0] := Row.new w _ _
    have hb : Below w.heap.size w ((w.alloc (Obj.cells #[Value.int .i64 0, Value.int .i64 0] 23)).drewN (x1 + x2)) := Below.draws ((Below.refl _ _).alloc (Nat.le_refl _) _) _
    go_wp2_with fail
    generalize ((w.alloc (Obj.cells #[Value.int .i64 0, Value.int .i64 0] 23)).drewN (x1 + x2)) = wz at rR hb ⊢
    go_quiet ((go_at_call 54; exact Calls.quiet_of_same (M1.out _)))
    go_wp2_with fail
    have rR1 : Row (wz.drewN nq) w.heap.size 23 #[.int .i64 0, .int .i64 0] := rR
    have hb1 : Below w.heap.size w (wz.drewN nq) := Below.draws hb _
    generalize wz.drewN nq = wy at rR1 hb1 ⊢
    clear rR hb
    go_quiet ((go_at_call 54; exact Calls.quiet_of_same (M2.out _)))
    clear W1 W2 W3 W4
    have rR2 : Row (wy.drewN nq) w.heap.size 23 #[.int .i64 0, .int .i64 0] := rR1
    have hb2 : Below w.heap.size w (wy.drewN nq) := Below.draws hb1 _
    generalize wy.drewN nq = wx at rR2 hb2 ⊢
    clear rR1 hb1
    obtain ⟨c0, c1, f0, f1⟩ := pair_cells rR2
    have hs2 := hb2.size
    go_wp2_with fail
    refine (fit_any neg nl D _ hz hQ (by omega)).mono ?_
    rintro e w3 ⟨rfl, hb3⟩
    rw [← HF.out]
    have hB3 := below_after hb2 hb3 hs2
    obtain ⟨c0', c1', f0', f1'⟩ := pair_cells (rR2.below hb3 rR2.lt)
    clear c0 c1 f0 f1
    go_wp2_with fail
    refine bodyPost_ret (v := .tuple #[.agg #[.int .i64 (fitF neg (n1 * n2) (d1 * d2)).n, .int .i64 (fitF neg (n1 * n2) (d1 * d2)).d], .int .i64 (fitF neg (n1 * n2) (d1 * d2)).e]) (by simp [results, Tryd.results41, go_sem, c0', c1']) rfl (RetF.of rfl ?_)
    exact Below.set2 hB3 (Nat.le_refl _) _ _
  · have z0 : 0 < nh := by rw [enh]; exact Nat.div_pos (by omega) (by omega)
    have z1' : ((nh : Int) == 0) = false := by simp; omega
    have z2' : ((nh : Int) != 0) = true := by simp; omega
    have HE : Hid (fitF neg (n1 * n2) (d1 * d2) = ⟨0, 0, 4⟩) := by
      rw [Hid, HF.out]
      exact prod_big neg HD HC.out (.inl (by omega))
    clear enh enl hz HF
    go_enter Tryd.func41, Tryd.ntmps41
    go_wp2_with fail
    refine (C1.out _ (by omega) (by omega)).mono ?_
    rintro e w' ⟨rfl, x1, rfl⟩
    go_wp2_with fail
    refine (C2.out _ (by omega) (by omega)).mono ?_
    rintro e w' ⟨rfl, x2, rfl⟩
    have rR : Row ((w.alloc (Obj.cells #[Value.int .i64 0, Value.int .i64 0] 23)).drewN (x1 + x2)) w.heap.size 23 #[.int .i64 0, .int .i64 0] := Row.new w _ _
    have hb : Below w.heap.size w ((w.alloc (Obj.cells #[Value.int .i64 0, Value.int .i64 0] 23)).drewN (x1 + x2)) := Below.draws ((Below.refl _ _).alloc (Nat.le_refl _) _) _
    go_wp2_with fail
    generalize ((w.alloc (Obj.cells #[Value.int .i64 0, Value.int .i64 0] 23)).drewN (x1 + x2)) = wz at rR hb ⊢
    go_quiet ((go_at_call 54; exact Calls.quiet_of_same (M1.out _)))
    go_wp2_with fail
    have rR1 : Row (wz.drewN nq) w.heap.size 23 #[.int .i64 0, .int .i64 0] := rR
    have hb1 : Below w.heap.size w (wz.drewN nq) := Below.draws hb _
    generalize wz.drewN nq = wy at rR1 hb1 ⊢
    clear rR hb
    go_quiet ((go_at_call 54; exact Calls.quiet_of_same (M2.out _)))
    clear W1 W2 W3 W4
    have rR2 : Row (wy.drewN nq) w.heap.size 23 #[.int .i64 0, .int .i64 0] := rR1
    have hb2 : Below w.heap.size w (wy.drewN nq) := Below.draws hb1 _
    generalize wy.drewN nq = wx at rR2 hb2 ⊢
    clear rR1 hb1
    obtain ⟨c0, c1, f0, f1⟩ := pair_cells rR2
    have hs2 := hb2.size
    go_wp2_with fail
    refine bodyPost_ret (v := .tuple #[.agg #[.int .i64 0, .int .i64 0], .int .i64 4]) (by simp [results, Tryd.results41, go_sem, c0, c1]) rfl (RetF.of HE.out ?_)
    exact Below.set2 hb2 (Nat.le_refl _) _ _
end Go.Proofs.YtkdmbkhgcahpiaaDoor
