/- Contracts of package ratio: Valid, New, Add, Sub, Neg, Compare, Floor. -/
import Derived.Test.YtkdmbkhgcahpiaaDoorRat1
import Derived.Test.YtkdmbkhgcahpiaaDoorRow
namespace Go.Proofs.YtkdmbkhgcahpiaaDoor
open Go.RowKit

theorem pair_cells {w : World} {g : Nat} {t : TypeId} {x y : Value} (h : Row w g t #[x, y]) : w.cell? ⟨g, 0, none⟩ = some x ∧ w.cell? ⟨g, 1, none⟩ = some y ∧ w.frozen? ⟨g, 0, none⟩ = false ∧ w.frozen? ⟨g, 1, none⟩ = false := ⟨h.cell 0, h.cell 1, h.frozen 0, h.frozen 1⟩
theorem rows2 (w : World) (t : TypeId) (x y : Array Value) : Row ((w.alloc (.cells x t)).alloc (.cells y t)) w.heap.size t x ∧ Row ((w.alloc (.cells x t)).alloc (.cells y t)) (w.heap.size + 1) t y ∧ Below w.heap.size w ((w.alloc (.cells x t)).alloc (.cells y t)) := by
  have h := Row.new (w.alloc (.cells x t)) t y
  rw [show (w.alloc (.cells x t)).heap.size = w.heap.size + 1 by simp] at h
  exact ⟨(Row.new w t x).alloc _, h, ((Below.refl _ _).alloc (Nat.le_refl _) _).alloc (by simp) _⟩
theorem rows3 (w : World) (t : TypeId) (x y z : Array Value) : Row (((w.alloc (.cells x t)).alloc (.cells y t)).alloc (.cells z t)) w.heap.size t x ∧ Row (((w.alloc (.cells x t)).alloc (.cells y t)).alloc (.cells z t)) (w.heap.size + 1) t y ∧
    Row (((w.alloc (.cells x t)).alloc (.cells y t)).alloc (.cells z t)) (w.heap.size + 1 + 1) t z ∧ Below w.heap.size w (((w.alloc (.cells x t)).alloc (.cells y t)).alloc (.cells z t)) := by
  obtain ⟨h1, h2, h3⟩ := rows2 w t x y
  have h := Row.new ((w.alloc (.cells x t)).alloc (.cells y t)) t z
  rw [show ((w.alloc (.cells x t)).alloc (.cells y t)).heap.size = w.heap.size + 1 + 1 by simp] at h
  exact ⟨h1.alloc _, h2.alloc _, h, h3.alloc (by simp; omega) _⟩
/-- two cells of a call's own block -/
theorem Below.set2 {B b i j : Nat} {w w' : World} (h : Below B w w') (hb : B ≤ b) (x y : Value) : Below B w ((w'.setCell ⟨b, i, none⟩ x).setCell ⟨b, j, none⟩ y) := (h.setCell hb x).setCell hb y
theorem vld_no {n d : Int} (h : ¬ (1 ≤ d ∧ d ≤ 1000000 ∧ -1000000000000 ≤ n ∧ n ≤ 1000000000000)) : vldB n d = false := by
  rw [Bool.eq_false_iff]
  intro hv
  obtain ⟨h1, h2, h3, h4, _⟩ := vld_iff.1 hv
  exact h ⟨h1, h2, h3, h4⟩
theorem vld_yes {n d : Int} (h1 : 1 ≤ d) (h2 : d ≤ 1000000) (h3 : -1000000000000 ≤ n) (h4 : n ≤ 1000000000000) : vldB n d = decide (Nat.gcd n.natAbs d.natAbs = 1) := by
  simp [vldB, h1, h2, h3, h4]
theorem eq1_dec (g : Nat) : ((g : Int) == 1) = decide (g = 1) := by rw [Bool.eq_iff_iff]; simp; omega

set_option maxRecDepth 100000 in
set_option maxHeartbeats 800000 in
theorem Valid_any (n d : Int) (w : World) :
    Calls Tryd.prog 22 #[.agg #[.int .i64 n, .int .i64 d]] w fun e w' => e = .returned (.bool (vldB n d)) ∧ Below w.heap.size w w' := by
  by_cases hr : 1 ≤ d ∧ d ≤ 1000000 ∧ -1000000000000 ≤ n ∧ n ≤ 1000000000000
  · obtain ⟨h1, h2, h3, h4⟩ := hr
    have HV := Lib.hid (vld_yes h1 h2 h3 h4)
    obtain ⟨m, hm⟩ : ∃ m, m = n.natAbs := ⟨_, rfl⟩
    obtain ⟨k, rfl⟩ : ∃ k : Nat, d = (k : Int) := ⟨d.toNat, by omega⟩
    rw [Int.natAbs_natCast] at HV
    have hml : m ≤ 1000000000000 := by omega
    have HM := Lib.hid hm
    rw [← hm] at HV
    clear hm
    have W1 : IntKind.u64.wrap (k : Int) = (k : Int) := u64_in (by omega)
    have C1 : ∀ w, Calls Tryd.prog 31 #[.int .i64 n] w fun e w' => e = .returned (.int .u64 m) ∧ w' = w := fun w => by rw [HM.out]; exact mag_any n w (by omega) (by omega)
    have HC := Lib.hid C1
    clear C1
    go_enter Tryd.func22, Tryd.ntmps22
    go_wp2_with fail
    go_quiet ((first | (go_at_call 31; exact Calls.quiet_of_same (HC.out _)) | (go_at_call 40; exact Calls.quiet_of (gcd_any _ _ _ (by omega) (by omega)))))
    go_wp2
    go_ret
    exact ⟨ret_bool (by rw [HV.out, eq1_dec]), Below.draws ((Below.refl _ _).alloc (Nat.le_refl _) _) _⟩
  · have HV := Lib.hid (vld_no hr)
    have hr' : d < 1 ∨ 1000000 < d ∨ n < -1000000000000 ∨ 1000000000000 < n := by omega
    clear hr
    go_enter Tryd.func22, Tryd.ntmps22
    go_wp2
    all_goals (first | (exfalso; omega) | (go_ret; exact ⟨ret_bool HV.out.symm, (Below.refl _ _).alloc (Nat.le_refl _) _⟩))

set_option maxRecDepth 100000 in
set_option maxHeartbeats 800000 in
theorem New_any (n d : Int) (w : World) (hn : -9223372036854775808 ≤ n ∧ n ≤ 9223372036854775807) (hd : -9223372036854775808 ≤ d ∧ d ≤ 9223372036854775807) :
    Calls Tryd.prog 9 #[.int .i64 n, .int .i64 d] w (RetF (newF n d) w) := by
  by_cases h0 : d = 0
  · subst h0
    go_enter Tryd.func9, Tryd.ntmps9
    go_wp2_with fail
    refine bodyPost_ret (v := .tuple #[.agg #[.int .i64 0, .int .i64 0], .int .i64 5]) (by simp [results, Tryd.results9, go_sem]) rfl (RetF.of rfl ?_)
    exact (Below.refl _ _).alloc (Nat.le_refl _) _
  · have HF : Hid (newF n d = fitF (!decide (n < 0) == decide (d < 0)) n.natAbs d.natAbs) := newF_eq n d h0
    have h1 : (d == 0) = false := by simpa using h0
    go_enter Tryd.func9, Tryd.ntmps9
    go_wp2_with fail
    refine (mag_any n _ hn.1 hn.2).mono ?_
    rintro e w' ⟨rfl, rfl⟩
    go_wp2_with fail
    refine (mag_any d _ hd.1 hd.2).mono ?_
    rintro e w' ⟨rfl, rfl⟩
    go_wp2_with fail
    refine (fit_any _ _ _ _ (by omega) (by omega) (by omega)).mono ?_
    rintro e w1 ⟨rfl, hb⟩
    rw [← HF.out]
    obtain ⟨c0, c1, f0, f1⟩ := pair_cells ((Row.new w 23 #[.int .i64 0, .int .i64 0]).below hb (by simp))
    go_wp2_with fail
    refine bodyPost_ret (v := .tuple #[.agg #[.int .i64 (newF n d).n, .int .i64 (newF n d).d], .int .i64 (newF n d).e]) (by simp [results, Tryd.results9, go_sem, c0, c1]) rfl (RetF.of rfl ?_)
    exact Below.set2 (((Below.refl _ _).alloc (Nat.le_refl _) _).trans (hb.mono (by simp))) (Nat.le_refl _) _ _
end Go.Proofs.YtkdmbkhgcahpiaaDoor
