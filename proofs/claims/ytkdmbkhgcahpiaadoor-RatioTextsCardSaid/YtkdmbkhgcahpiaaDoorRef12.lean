/- Contract of Mul of package payrollref1. -/
import Derived.Test.YtkdmbkhgcahpiaaDoorRat6
namespace Go.Proofs.YtkdmbkhgcahpiaaDoor
open Go.RowKit

set_option maxRecDepth 100000 in
set_option maxHeartbeats 3200000 in
theorem refMul_any (a b c d : Int) (w : World) :
    Calls Tryd.prog 44 #[.agg #[.int .i64 a, .int .i64 b], .agg #[.int .i64 c, .int .i64 d]] w (RetF (mulF a b c d) w) := by
  cases hv1 : vldB a b
  · have HV1 := Lib.hid hv1
    have HE : Hid (mulF a b c d = ⟨0, 0, 1⟩) := mul_no (by rw [hv1]; rfl)
    clear hv1
    go_enter Tryd.func44, Tryd.ntmps44
    go_wp2_with fail
    obtain ⟨rA, rB, rR, hb0⟩ := rows3 w 23 #[.int .i64 a, .int .i64 b] #[.int .i64 c, .int .i64 d] #[.int .i64 0, .int .i64 0]
    generalize (((w.alloc (Obj.cells #[Value.int .i64 a, Value.int .i64 b] 23)).alloc (Obj.cells #[Value.int .i64 c, Value.int .i64 d] 23)).alloc (Obj.cells #[Value.int .i64 0, Value.int .i64 0] 23)) = w0 at rA rB rR hb0 ⊢
    have hs0 := hb0.size
    refine (refValid_any a b _).mono ?_
    rintro e w1 ⟨rfl, hb1⟩
    rw [HV1.out]
    have hB1 := below_after hb0 hb1 hs0
    have rA1 := rA.below hb1 rA.lt
    have rB1 := rB.below hb1 rB.lt
    have rR1 := rR.below hb1 rR.lt
    clear rA rB rR hb0 hb1 hs0
    obtain ⟨c0, c1, f0, f1⟩ := pair_cells rR1
    go_wp2_with fail
    refine bodyPost_ret (v := .tuple #[.agg #[.int .i64 0, .int .i64 0], .int .i64 1]) (by simp [results, Tryd.results44, go_sem, c0, c1]) rfl (RetF.of HE.out ?_)
    exact Below.set2 hB1 (by omega) _ _
  cases hv2 : vldB c d
  · have HV1 := Lib.hid hv1
    have HV2 := Lib.hid hv2
    have HE : Hid (mulF a b c d = ⟨0, 0, 1⟩) := mul_no (by rw [hv1, hv2]; rfl)
    clear hv1 hv2
    go_enter Tryd.func44, Tryd.ntmps44
    go_wp2_with fail
    obtain ⟨rA, rB, rR, hb0⟩ := rows3 w 23 #[.int .i64 a, .int .i64 b] #[.int .i64 c, .int .i64 d] #[.int .i64 0, .int .i64 0]
    generalize (((w.alloc (Obj.cells #[Value.int .i64 a, Value.int .i64 b] 23)).alloc (Obj.cells #[Value.int .i64 c, Value.int .i64 d] 23)).alloc (Obj.cells #[Value.int .i64 0, Value.int .i64 0] 23)) = w0 at rA rB rR hb0 ⊢
    have hs0 := hb0.size
    refine (refValid_any a b _).mono ?_
    rintro e w1 ⟨rfl, hb1⟩
    rw [HV1.out]
    have hB1 := below_after hb0 hb1 hs0
    have rA1 := rA.below hb1 rA.lt
    have rB1 := rB.below hb1 rB.lt
    have rR1 := rR.below hb1 rR.lt
    clear rA rB rR hb0 hb1 hs0
    obtain ⟨b0, b1, _, _⟩ := pair_cells rB1
    have hs1 := hB1.size
    go_wp2_with fail
    refine (refValid_any c d _).mono ?_
    rintro e w2 ⟨rfl, hb2⟩
    rw [HV2.out]
    have hB2 := below_after hB1 hb2 hs1
    have rA2 := rA1.below hb2 rA1.lt
    have rB2 := rB1.below hb2 rB1.lt
    have rR2 := rR1.below hb2 rR1.lt
    clear rA1 rB1 rR1 hB1 hb2 hs1 b0 b1
    obtain ⟨c0, c1, f0, f1⟩ := pair_cells rR2
    go_wp2_with fail
    refine bodyPost_ret (v := .tuple #[.agg #[.int .i64 0, .int .i64 0], .int .i64 1]) (by simp [results, Tryd.results44, go_sem, c0, c1]) rfl (RetF.of HE.out ?_)
    exact Below.set2 hB2 (by omega) _ _
  have HV1 := Lib.hid hv1
  have HV2 := Lib.hid hv2
  obtain ⟨i1, i2, i3, i4, i5⟩ := vld_iff.1 hv1
  obtain ⟨j1, j2, j3, j4, j5⟩ := vld_iff.1 hv2
  obtain ⟨hc0, HD, hf0⟩ := prod_parts (n1 := a.natAbs) (n2 := c.natAbs) (d1 := b.natAbs) (d2 := d.natAbs) (by omega) (by omega) i5 j5
  have HF := Lib.hid ((mulF_eq hv1 hv2).trans (hf0 _))
  have HC := Lib.hid hc0
  have z2 : 0 < d.natAbs := by omega
  have z1 : 0 < b.natAbs := by omega
  have gp : 0 < Nat.gcd a.natAbs d.natAbs := Nat.gcd_pos_of_pos_right _ z2
  have hp : 0 < Nat.gcd c.natAbs b.natAbs := Nat.gcd_pos_of_pos_right _ z1
  clear hf0 hc0 i5 j5 hv1 hv2
  have hD0 : b.natAbs * d.natAbs ≤ 1000000 * 1000000 := Nat.mul_le_mul (by omega) (by omega)
  obtain ⟨g, hg⟩ : ∃ g, g = Nat.gcd a.natAbs d.natAbs := ⟨_, rfl⟩
  obtain ⟨h, hh⟩ : ∃ h, h = Nat.gcd c.natAbs b.natAbs := ⟨_, rfl⟩
  rw [← hg, ← hh] at HC HD HF
  rw [← hg] at gp
  rw [← hh] at hp
  have HG := Lib.hid hg
  have HH := Lib.hid hh
  clear hg hh
  obtain ⟨p1, e1⟩ : ∃ p, p = a.natAbs / g := ⟨_, rfl⟩
  obtain ⟨p2, e2⟩ : ∃ p, p = c.natAbs / h := ⟨_, rfl⟩
  obtain ⟨q1, e3⟩ : ∃ p, p = b.natAbs / h := ⟨_, rfl⟩
  obtain ⟨q2, e4⟩ : ∃ p, p = d.natAbs / g := ⟨_, rfl⟩
  have b1 : p1 ≤ a.natAbs := by rw [e1]; exact Nat.div_le_self _ _
  have b2 : p2 ≤ c.natAbs := by rw [e2]; exact Nat.div_le_self _ _
  have b3 : q1 ≤ b.natAbs := by rw [e3]; exact Nat.div_le_self _ _
  have b4 : q2 ≤ d.natAbs := by rw [e4]; exact Nat.div_le_self _ _
  have hg1 : ((g : Int) == 0) = false := by simp; omega
  have hh1 : ((h : Int) == 0) = false := by simp; omega
  have W1 : IntKind.u64.wrap ((a.natAbs : Int) / (g : Int)) = (p1 : Int) := by rw [e1, ← Int.natCast_ediv, u64_in]; have := Nat.div_le_self a.natAbs g; omega
  have W2 : IntKind.u64.wrap ((c.natAbs : Int) / (h : Int)) = (p2 : Int) := by rw [e2, ← Int.natCast_ediv, u64_in]; have := Nat.div_le_self c.natAbs h; omega
  have W3 : IntKind.u64.wrap ((b.natAbs : Int) / (h : Int)) = (q1 : Int) := by rw [e3, ← Int.natCast_ediv, u64_in]; have := Nat.div_le_self b.natAbs h; omega
  have W4 : IntKind.u64.wrap ((d.natAbs : Int) / (g : Int)) = (q2 : Int) := by rw [e4, ← Int.natCast_ediv, u64_in]; have := Nat.div_le_self d.natAbs g; omega
  rw [← e1, ← e2, ← e3, ← e4] at HC HF
  rw [← e3, ← e4] at HD
  clear e1 e2 e3 e4
  obtain ⟨D, eD⟩ : ∃ x, x = q1 * q2 := ⟨_, rfl⟩
  have hDl : D ≤ 1000000000000 := by rw [eD]; exact Nat.le_trans (Nat.mul_le_mul b3 b4) hD0
  have W5 : IntKind.u64.wrap ((q1 : Int) * (q2 : Int)) = (D : Int) := by rw [eD, ← Int.natCast_mul, u64_in]; omega
  rw [← eD] at HC HD HF
  clear eD hD0
  go_enter Tryd.func44, Tryd.ntmps44
  go_wp2_with fail
  obtain ⟨rA, rB, rR, hb0⟩ := rows3 w 23 #[.int .i64 a, .int .i64 b] #[.int .i64 c, .int .i64 d] #[.int .i64 0, .int .i64 0]
  generalize (((w.alloc (Obj.cells #[Value.int .i64 a, Value.int .i64 b] 23)).alloc (Obj.cells #[Value.int .i64 c, Value.int .i64 d] 23)).alloc (Obj.cells #[Value.int .i64 0, Value.int .i64 0] 23)) = w0 at rA rB rR hb0 ⊢
  have hs0 := hb0.size
  refine (refValid_any a b _).mono ?_
  rintro e w1 ⟨rfl, hb1⟩
  rw [HV1.out]
  have hB1 := below_after hb0 hb1 hs0
  have rA1 := rA.below hb1 rA.lt
  have rB1 := rB.below hb1 rB.lt
  have rR1 := rR.below hb1 rR.lt
  clear rA rB rR hb0 hb1 hs0
  obtain ⟨b0, b1, _, _⟩ := pair_cells rB1
  have hs1 := hB1.size
  go_wp2_with fail
  refine (refValid_any c d _).mono ?_
  rintro e w2 ⟨rfl, hb2⟩
  rw [HV2.out]
  have hB2 := below_after hB1 hb2 hs1
  have rA2 := rA1.below hb2 rA1.lt
  have rB2 := rB1.below hb2 rB1.lt
  have rR2 := rR1.below hb2 rR1.lt
  clear rA1 rB1 rR1 hB1 hb2 hs1 b0 b1
  obtain ⟨a0, a1, _, _⟩ := pair_cells rA2
  obtain ⟨b0, b1', _, _⟩ := pair_cells rB2
  have hs2 := hB2.size
  go_wp2_with fail
  go_quiet ((first | (go_at_call 32; exact Calls.quiet_of_same (size_any _ _ (by omega) (by omega))) | (go_at_call 33; exact Calls.quiet_of (common_any _ _ _ (by omega) (by omega)))))
  rw [← HG.out, ← HH.out]
  have gen : ∀ n, Row (w2.drewN n) w.heap.size 23 #[.int .i64 a, .int .i64 b] ∧ Row (w2.drewN n) (w.heap.size + 1) 23 #[.int .i64 c, .int .i64 d] ∧ Row (w2.drewN n) (w.heap.size + 1 + 1) 23 #[.int .i64 0, .int .i64 0] ∧ Below w.heap.size w (w2.drewN n) := fun n => ⟨rA2, rB2, rR2, Below.draws hB2 n⟩
  obtain ⟨rA3, rB3, rR3, hB3⟩ := gen nq
  clear gen rA2 rB2 rR2 hB2 a0 a1 b0 b1'
  generalize w2.drewN nq = w3 at rA3 rB3 rR3 hB3 ⊢
  obtain ⟨a0, a1, _, _⟩ := pair_cells rA3
  obtain ⟨b0, b1', _, _⟩ := pair_cells rB3
  go_wp2_with fail
  go_quiet ((go_at_call 32; exact Calls.quiet_of_same (size_any _ _ (by omega) (by omega))))
  clear W1 W2
  have gen : ∀ n, Row (w3.drewN n) w.heap.size 23 #[.int .i64 a, .int .i64 b] ∧ Row (w3.drewN n) (w.heap.size + 1) 23 #[.int .i64 c, .int .i64 d] ∧ Row (w3.drewN n) (w.heap.size + 1 + 1) 23 #[.int .i64 0, .int .i64 0] ∧ Below w.heap.size w (w3.drewN n) := fun n => ⟨rA3, rB3, rR3, Below.draws hB3 n⟩
  obtain ⟨rA4, rB4, rR4, hB4⟩ := gen nq
  clear gen rA3 rB3 rR3 hB3 a0 a1 b0 b1'
  generalize w3.drewN nq = w4 at rA4 rB4 rR4 hB4 ⊢
  obtain ⟨a0, a1, _, _⟩ := pair_cells rA4
  obtain ⟨b0, b1', _, _⟩ := pair_cells rB4
  go_wp2_with fail
  go_quiet ((go_at_call 32; exact Calls.quiet_of_same (size_any _ _ (by omega) (by omega))))
  clear W3 W4 W5
  have gen : ∀ n, Row (w4.drewN n) w.heap.size 23 #[.int .i64 a, .int .i64 b] ∧ Row (w4.drewN n) (w.heap.size + 1) 23 #[.int .i64 c, .int .i64 d] ∧ Row (w4.drewN n) (w.heap.size + 1 + 1) 23 #[.int .i64 0, .int .i64 0] ∧ Below w.heap.size w (w4.drewN n) := fun n => ⟨rA4, rB4, rR4, Below.draws hB4 n⟩
  obtain ⟨rA5, rB5, rR5, hB5⟩ := gen nq
  clear gen rA4 rB4 rR4 hB4 a0 a1 b0 b1'
  generalize w4.drewN nq = w5 at rA5 rB5 rR5 hB5 ⊢
  have hs5 := hB5.size
  obtain ⟨a0, a1, _, _⟩ := pair_cells rA5
  obtain ⟨b0, b1', _, _⟩ := pair_cells rB5
  obtain ⟨c0, c1, f0, f1⟩ := pair_cells rR5
  by_cases z : p1 = 0 ∨ p2 = 0
  · have HE : Hid (mulF a b c d = ⟨0, 1, 0⟩) := by
      have hN : p1 * p2 = 0 := by rcases z with z | z <;> rw [z] <;> simp
      have hC := HC.out
      rw [hN, Nat.gcd_zero_left] at hC
      rw [Hid, HF.out, hN, hC, prod_fit _ (by omega) (by simp) (by omega) (by omega)]
      unfold sgn; split <;> rfl
    rcases z with z | z
    · subst z
      go_wp2_with fail
      refine bodyPost_ret (v := .tuple #[.agg #[.int .i64 0, .int .i64 1], .int .i64 0]) (by simp [results, Tryd.results44, go_sem, c0, c1]) rfl (RetF.of HE.out ?_)
      exact Below.set2 hB5 (by omega) _ _
    · subst z
      by_cases y : p1 = 0
      · subst y
        go_wp2_with fail
        refine bodyPost_ret (v := .tuple #[.agg #[.int .i64 0, .int .i64 1], .int .i64 0]) (by simp [results, Tryd.results44, go_sem, c0, c1]) rfl (RetF.of HE.out ?_)
        exact Below.set2 hB5 (by omega) _ _
      · have y1 : ((p1 : Int) == 0) = false := by simpa using y
        go_wp2_with fail
        refine bodyPost_ret (v := .tuple #[.agg #[.int .i64 0, .int .i64 1], .int .i64 0]) (by simp [results, Tryd.results44, go_sem, c0, c1]) rfl (RetF.of HE.out ?_)
        exact Below.set2 hB5 (by omega) _ _
  have hp1 : 0 < p1 := by omega
  have hp2 : 0 < p2 := by omega
  have y1 : ((p1 : Int) == 0) = false := by simp; omega
  have y2 : ((p2 : Int) == 0) = false := by simp; omega
  clear z
  obtain ⟨N, hN⟩ : ∃ N, N = p1 * p2 := ⟨_, rfl⟩
  obtain ⟨M, hM⟩ : ∃ M, M = 1000000000000 / p1 := ⟨_, rfl⟩
  have hMN : M < p2 ↔ 1000000000000 < N := by rw [hM, hN, Nat.mul_comm]; exact Nat.div_lt_iff_lt_mul hp1
  have W6 : (1000000000000 : Int) / (p1 : Int) = (M : Int) := by rw [hM]; rfl
  have W8 : (p1 : Int) * (p2 : Int) = (N : Int) := by rw [hN]; simp
  have hMl : M ≤ 1000000000000 := by rw [hM]; exact Nat.div_le_self _ _
  rw [← hN] at HF HC
  clear hN hM
  by_cases hbig : 1000000000000 < N ∨ 1000000 < D
  · have HE : Hid (mulF a b c d = ⟨0, 0, 4⟩) := by rw [Hid, HF.out]; exact prod_big _ HD HC.out hbig
    go_wp2_with fail
    all_goals (first | (exfalso; omega) | skip)
    all_goals
      refine bodyPost_ret (v := .tuple #[.agg #[.int .i64 0, .int .i64 0], .int .i64 4]) (by simp [results, Tryd.results44, go_sem, c0, c1]) rfl (RetF.of HE.out ?_)
      exact Below.set2 hB5 (by omega) _ _
  · have hb1 : N ≤ 1000000000000 := by omega
    have hb2 : D ≤ 1000000 := by omega
    have hb3 : p2 ≤ M := by omega
    have HE := Lib.hid ((HF.out).trans (prod_fit (decide (a < 0) != decide (c < 0)) HD HC.out hb1 hb2))
    clear hbig hMN
    have l0 := rA5.lt
    have l1 := rB5.lt
    have l2 := rR5.lt
    cases ea : decide (a < 0) <;> cases ec : decide (c < 0)
    all_goals
      go_wp2_with fail
    · refine bodyPost_ret (v := .tuple #[.agg #[.int .i64 (N : Int), .int .i64 (D : Int)], .int .i64 0]) (by simp [results, Tryd.results44, go_sem, c0, c1, l2]) rfl (RetF.of (by rw [HE.out]; simp [sgn, ea, ec]) ?_)
      exact (Below.set2 hB5 (by omega) _ _).alloc (by simpa using hs5) _
    · refine bodyPost_ret (v := .tuple #[.agg #[.int .i64 (-(N : Int)), .int .i64 (D : Int)], .int .i64 0]) (by simp [results, Tryd.results44, go_sem, c0, c1, l2]) rfl (RetF.of (by rw [HE.out]; simp [sgn, ea, ec]) ?_)
      exact (Below.set2 hB5 (by omega) _ _).alloc (by simpa using hs5) _
    · refine bodyPost_ret (v := .tuple #[.agg #[.int .i64 (-(N : Int)), .int .i64 (D : Int)], .int .i64 0]) (by simp [results, Tryd.results44, go_sem, c0, c1, l2]) rfl (RetF.of (by rw [HE.out]; simp [sgn, ea, ec]) ?_)
      exact (Below.set2 hB5 (by omega) _ _).alloc (by simpa using hs5) _
    · refine bodyPost_ret (v := .tuple #[.agg #[.int .i64 (N : Int), .int .i64 (D : Int)], .int .i64 0]) (by simp [results, Tryd.results44, go_sem, c0, c1, l2]) rfl (RetF.of (by rw [HE.out]; simp [sgn, ea, ec]) ?_)
      exact (Below.set2 hB5 (by omega) _ _).alloc (by simpa using hs5) _

end Go.Proofs.YtkdmbkhgcahpiaaDoor
