/- Contracts of payrollgen.Tape: Ratio, Fraction. -/
import Derived.Test.YtkdmbkhgcahpiaaDoorRat4
import Derived.Test.YtkdmbkhgcahpiaaDoorTape
namespace Go.Proofs.YtkdmbkhgcahpiaaDoor
open Go.RowKit

/-- the call draws a fraction -/
def TRatPost (w : World) (D : Nat) (e : Ending) (w' : World) : Prop :=
  ∃ n d : Int, vldB n d = true ∧ e = .returned (.agg #[.int .i64 n, .int .i64 d]) ∧ Tape w' D ∧ w.grownBy w' (some D)
theorem newF_ok {n d : Int} (h : (newF n d).e = 0) : vldB (newF n d).n (newF n d).d = true := by
  unfold newF at h ⊢
  split at h
  · cases h
  · rename_i hd; rw [if_neg hd]; exact (frOf_ok h).2.2.1
theorem vld_rem {n : Int} : vldB (n.tmod 1000) 1 = true := by
  have := tmod_bound (a := n) (b := 1000) (by omega)
  exact vld_int (by omega) (by omega)
theorem vld_rem' {n : Int} (_h : 0 ≤ n) : vldB (n % 1000) 1 = true := vld_int (by omega) (by omega)
theorem Row.keepD {w w' : World} {g D : Nat} {t : TypeId} {cs : Array Value} (h : Row w g t cs) (hg : w.grownBy w' (some D)) (hne : g ≠ D) : Row w' g t cs := h.keep hg (fun e => hne (by injection e))
theorem rat_end {w wz : World} {D : Nat} (ht : Tape wz D) (hg : w.grownBy wz (some D)) (hD : D < w.heap.size) (x y : Value) (o : Obj) :
    Tape (((wz.setCell ⟨w.heap.size, 0, none⟩ x).setCell ⟨w.heap.size, 1, none⟩ y).alloc o) D ∧ w.grownBy (((wz.setCell ⟨w.heap.size, 0, none⟩ x).setCell ⟨w.heap.size, 1, none⟩ y).alloc o) (some D) := by
  have g0 : wz.grownBy wz (some w.heap.size) := World.grownBy.refl _ _
  have g1 := gb_set g0 (p := ⟨w.heap.size, 0, none⟩) (.inl rfl) x
  have g2 := gb_set g1 (p := ⟨w.heap.size, 1, none⟩) (.inl rfl) y
  have g3 := gb_alloc g2 o
  have k1 := gb_set hg (p := ⟨w.heap.size, 0, none⟩) (.inr (Nat.le_refl _)) x
  have k2 := gb_set k1 (p := ⟨w.heap.size, 1, none⟩) (.inr (Nat.le_refl _)) y
  exact ⟨ht.keep g3 (fun k hk => by injection hk with hk; omega), gb_alloc k2 o⟩
theorem gb_size {w w' : World} {row : Option Nat} (h : w.grownBy w' row) : w.heap.size ≤ w'.heap.size := h.size

set_option maxRecDepth 100000 in
set_option maxHeartbeats 3200000 in
theorem TRat_any (D : Nat) (w : World) (hd : Tape w D) :
    Calls Tryd.prog 14 #[.pointer (some ⟨D, 0, none⟩)] w (TRatPost w D) := by
  have hDl := hd.lt
  have hg0 : w.grownBy (w.alloc (.cells #[.int .i64 0, .int .i64 0] 23)) (some D) := gb_alloc (World.grownBy.refl _ _) _
  have ht0 := hd.below ((Below.refl _ _).alloc (Nat.le_refl _) (.cells #[.int .i64 0, .int .i64 0] 23))
  have rR0 := Row.new w 23 #[.int .i64 0, .int .i64 0]
  go_enter Tryd.func14, Tryd.ntmps14
  go_wp2_with fail
  generalize w.alloc (Obj.cells #[Value.int .i64 0, Value.int .i64 0] 23) = w0 at hg0 ht0 rR0 ⊢
  refine (Draw_any D 41 _ ht0 (by omega) (by omega)).mono ?_
  rintro e w1 ⟨a, ⟨a1, a2⟩, rfl, ht1, hh⟩
  have hg1 := gb_trans hg0 hh
  have rR1 := rR0.keepD hh (by omega)
  clear hh ht0 hg0 rR0
  go_wp2_with fail
  refine (Draw_any D 12 _ ht1 (by omega) (by omega)).mono ?_
  rintro e w2 ⟨b, ⟨b1, b2⟩, rfl, ht2, hh⟩
  have hg2 := gb_trans hg1 hh
  have rR2 := rR1.keepD hh (by omega)
  clear hh ht1 hg1 rR1
  go_wp2_with fail
  refine (Draw_any D 8 _ ht2 (by omega) (by omega)).mono ?_
  rintro e w3 ⟨c, ⟨c1, c2⟩, rfl, ht3, hh⟩
  have hg3 := gb_trans hg2 hh
  have rR3 := rR2.keepD hh (by omega)
  clear hh ht2 hg2 rR2
  by_cases h5 : c = 5
  · subst h5
    go_wp2_with fail
    have hal : Below w3.heap.size w3 (w3.alloc (.cells #[.int .i64 1000000000000, .int .i64 (-1000000000000), .int .i64 999999999999, .int .i64 999999] 3)) := (Below.refl _ _).alloc (Nat.le_refl _) _
    have hsz := gb_size hg3
    refine (Choice_any D w3.heap.size 4 [1000000000000, -1000000000000, 999999999999, 999999] _ (ht3.below hal) (by simp) (by simp) ht3.lt (cellsAt_ints _ _ _ _ rfl)).mono ?_
    rintro e w4 ⟨p, pm, rfl, ht4, hh⟩
    have hg4 := gb_trans (gb_below hg3 hal) hh
    have rR4 := (rR3.below hal rR3.lt).keepD hh (by omega)
    have pb : -1000000000000 ≤ p ∧ p ≤ 1000000000000 := by simp at pm; omega
    clear hh ht3 hg3 rR3 hal hsz pm
    go_wp2_with fail
    have hal : Below w4.heap.size w4 (w4.alloc (.cells #[.int .i64 1, .int .i64 1000000, .int .i64 7, .int .i64 100] 3)) := (Below.refl _ _).alloc (Nat.le_refl _) _
    have hsz := gb_size hg4
    refine (Choice_any D w4.heap.size 4 [1, 1000000, 7, 100] _ (ht4.below hal) (by simp) (by simp) ht4.lt (cellsAt_ints _ _ _ _ rfl)).mono ?_
    rintro e w5 ⟨q, qm, rfl, ht5, hh⟩
    have hg5 := gb_trans (gb_below hg4 hal) hh
    have rR5 := (rR4.below hal rR4.lt).keepD hh (by omega)
    have qb : 1 ≤ q ∧ q ≤ 1000000 := by simp at qm; omega
    clear hh ht4 hg4 rR4 hal hsz qm
    have hlt := ht5.lt
    go_wp2_with fail
    refine (refNew_any (p) (q) _ (by omega) (by omega)).mono ?_
    rintro e wz ⟨rfl, hbz⟩
    have hgz := gb_below hg5 hbz
    have htz := ht5.below hbz
    have rRz := rR5.below hbz rR5.lt
    clear hbz
    have hlz := rRz.lt
    cases hE : decide ((newF (p) (q)).e = 0)
    · have q1 : ((newF (p) (q)).e != 0) = true := by rw [ne_dec]; simp only [decide_eq_false_iff_not] at hE; simp [hE]
      have q2 : ((newF (p) (q)).e == 0) = false := by rw [eq_dec]; exact hE
      clear hE
      generalize newF (p) (q) = F at q1 q2 ⊢
      obtain ⟨c0, c1, f0, f1⟩ := pair_cells rRz
      go_wp2_with fail
      refine bodyPost_ret (v := .agg #[.int .i64 ((p).tmod 1000), .int .i64 1]) (by simp [results, Tryd.results14, go_sem, c0, c1, hlz]) rfl ⟨_, _, vld_rem, rfl, ?_, ?_⟩
      · exact (rat_end htz hgz hDl _ _ _).1
      · exact (rat_end htz hgz hDl _ _ _).2
    · have HV := Lib.hid (newF_ok (of_decide_eq_true hE))
      have q1 : ((newF (p) (q)).e != 0) = false := by rw [ne_dec]; simp only [decide_eq_true_eq] at hE; simp [hE]
      have q2 : ((newF (p) (q)).e == 0) = true := by rw [eq_dec]; exact hE
      clear hE
      generalize newF (p) (q) = F at q1 q2 HV ⊢
      obtain ⟨c0, c1, f0, f1⟩ := pair_cells rRz
      go_wp2_with fail
      refine bodyPost_ret (v := .agg #[.int .i64 F.n, .int .i64 F.d]) (by simp [results, Tryd.results14, go_sem, c0, c1, hlz]) rfl ⟨_, _, HV.out, rfl, ?_, ?_⟩
      · exact (rat_end htz hgz hDl _ _ _).1
      · exact (rat_end htz hgz hDl _ _ _).2
  have n5 : (c == 5) = false := by simpa using h5
  by_cases h6 : c = 6
  · subst h6
    go_wp2_with fail
    refine (Draw_any D 200001 _ ht3 (by omega) (by omega)).mono ?_
    rintro e w4 ⟨p, ⟨p1, p2⟩, rfl, ht4, hh⟩
    have hg4 := gb_trans hg3 hh
    have rR4 := rR3.keepD hh (by omega)
    clear hh ht3 hg3 rR3
    have hlt := ht4.lt
    go_wp2_with fail
    refine (refNew_any (p - 100000) (100) _ (by omega) (by omega)).mono ?_
    rintro e wz ⟨rfl, hbz⟩
    have hgz := gb_below hg4 hbz
    have htz := ht4.below hbz
    have rRz := rR4.below hbz rR4.lt
    clear hbz
    have hlz := rRz.lt
    cases hE : decide ((newF (p - 100000) (100)).e = 0)
    · have q1 : ((newF (p - 100000) (100)).e != 0) = true := by rw [ne_dec]; simp only [decide_eq_false_iff_not] at hE; simp [hE]
      have q2 : ((newF (p - 100000) (100)).e == 0) = false := by rw [eq_dec]; exact hE
      clear hE
      generalize newF (p - 100000) (100) = F at q1 q2 ⊢
      obtain ⟨c0, c1, f0, f1⟩ := pair_cells rRz
      go_wp2_with fail
      refine bodyPost_ret (v := .agg #[.int .i64 ((p - 100000).tmod 1000), .int .i64 1]) (by simp [results, Tryd.results14, go_sem, c0, c1, hlz]) rfl ⟨_, _, vld_rem, rfl, ?_, ?_⟩
      · exact (rat_end htz hgz hDl _ _ _).1
      · exact (rat_end htz hgz hDl _ _ _).2
    · have HV := Lib.hid (newF_ok (of_decide_eq_true hE))
      have q1 : ((newF (p - 100000) (100)).e != 0) = false := by rw [ne_dec]; simp only [decide_eq_true_eq] at hE; simp [hE]
      have q2 : ((newF (p - 100000) (100)).e == 0) = true := by rw [eq_dec]; exact hE
      clear hE
      generalize newF (p - 100000) (100) = F at q1 q2 HV ⊢
      obtain ⟨c0, c1, f0, f1⟩ := pair_cells rRz
      go_wp2_with fail
      refine bodyPost_ret (v := .agg #[.int .i64 F.n, .int .i64 F.d]) (by simp [results, Tryd.results14, go_sem, c0, c1, hlz]) rfl ⟨_, _, HV.out, rfl, ?_, ?_⟩
      · exact (rat_end htz hgz hDl _ _ _).1
      · exact (rat_end htz hgz hDl _ _ _).2
  have n6 : (c == 6) = false := by simpa using h6
  by_cases h7 : c = 7
  · subst h7
    go_wp2_with fail
    refine (Draw_any D 1000 _ ht3 (by omega) (by omega)).mono ?_
    rintro e w4 ⟨p, ⟨p1, p2⟩, rfl, ht4, hh⟩
    have hg4 := gb_trans hg3 hh
    have rR4 := rR3.keepD hh (by omega)
    clear hh ht3 hg3 rR3
    go_wp2_with fail
    have hal : Below w4.heap.size w4 (w4.alloc (.cells #[.int .i64 1000000, .int .i64 999983, .int .i64 65536, .int .i64 1000] 3)) := (Below.refl _ _).alloc (Nat.le_refl _) _
    have hsz := gb_size hg4
    refine (Choice_any D w4.heap.size 4 [1000000, 999983, 65536, 1000] _ (ht4.below hal) (by simp) (by simp) ht4.lt (cellsAt_ints _ _ _ _ rfl)).mono ?_
    rintro e w5 ⟨q, qm, rfl, ht5, hh⟩
    have hg5 := gb_trans (gb_below hg4 hal) hh
    have rR5 := (rR4.below hal rR4.lt).keepD hh (by omega)
    have qb : 1000 ≤ q ∧ q ≤ 1000000 := by simp at qm; omega
    clear hh ht4 hg4 rR4 hal hsz qm
    have hlt := ht5.lt
    go_wp2_with fail
    refine (refNew_any (p) (q) _ (by omega) (by omega)).mono ?_
    rintro e wz ⟨rfl, hbz⟩
    have hgz := gb_below hg5 hbz
    have htz := ht5.below hbz
    have rRz := rR5.below hbz rR5.lt
    clear hbz
    have hlz := rRz.lt
    cases hE : decide ((newF (p) (q)).e = 0)
    · have q1 : ((newF (p) (q)).e != 0) = true := by rw [ne_dec]; simp only [decide_eq_false_iff_not] at hE; simp [hE]
      have q2 : ((newF (p) (q)).e == 0) = false := by rw [eq_dec]; exact hE
      clear hE
      generalize newF (p) (q) = F at q1 q2 ⊢
      obtain ⟨c0, c1, f0, f1⟩ := pair_cells rRz
      go_wp2_with fail
      refine bodyPost_ret (v := .agg #[.int .i64 (p % 1000), .int .i64 1]) (by simp [results, Tryd.results14, go_sem, c0, c1, hlz]) rfl ⟨_, _, vld_rem' (by omega), rfl, ?_, ?_⟩
      · exact (rat_end htz hgz hDl _ _ _).1
      · exact (rat_end htz hgz hDl _ _ _).2
    · have HV := Lib.hid (newF_ok (of_decide_eq_true hE))
      have q1 : ((newF (p) (q)).e != 0) = false := by rw [ne_dec]; simp only [decide_eq_true_eq] at hE; simp [hE]
      have q2 : ((newF (p) (q)).e == 0) = true := by rw [eq_dec]; exact hE
      clear hE
      generalize newF (p) (q) = F at q1 q2 HV ⊢
      obtain ⟨c0, c1, f0, f1⟩ := pair_cells rRz
      go_wp2_with fail
      refine bodyPost_ret (v := .agg #[.int .i64 F.n, .int .i64 F.d]) (by simp [results, Tryd.results14, go_sem, c0, c1, hlz]) rfl ⟨_, _, HV.out, rfl, ?_, ?_⟩
      · exact (rat_end htz hgz hDl _ _ _).1
      · exact (rat_end htz hgz hDl _ _ _).2
  have n7 : (c == 7) = false := by simpa using h7
  clear h5 h6 h7
  have hlt := ht3.lt
  go_wp2_with fail
  refine (refNew_any (a - 20) (1 + b) _ (by omega) (by omega)).mono ?_
  rintro e wz ⟨rfl, hbz⟩
  have hgz := gb_below hg3 hbz
  have htz := ht3.below hbz
  have rRz := rR3.below hbz rR3.lt
  clear hbz
  have hlz := rRz.lt
  cases hE : decide ((newF (a - 20) (1 + b)).e = 0)
  · have q1 : ((newF (a - 20) (1 + b)).e != 0) = true := by rw [ne_dec]; simp only [decide_eq_false_iff_not] at hE; simp [hE]
    have q2 : ((newF (a - 20) (1 + b)).e == 0) = false := by rw [eq_dec]; exact hE
    clear hE
    generalize newF (a - 20) (1 + b) = F at q1 q2 ⊢
    obtain ⟨c0, c1, f0, f1⟩ := pair_cells rRz
    go_wp2_with fail
    refine bodyPost_ret (v := .agg #[.int .i64 ((a - 20).tmod 1000), .int .i64 1]) (by simp [results, Tryd.results14, go_sem, c0, c1, hlz]) rfl ⟨_, _, vld_rem, rfl, ?_, ?_⟩
    · exact (rat_end htz hgz hDl _ _ _).1
    · exact (rat_end htz hgz hDl _ _ _).2
  · have HV := Lib.hid (newF_ok (of_decide_eq_true hE))
    have q1 : ((newF (a - 20) (1 + b)).e != 0) = false := by rw [ne_dec]; simp only [decide_eq_true_eq] at hE; simp [hE]
    have q2 : ((newF (a - 20) (1 + b)).e == 0) = true := by rw [eq_dec]; exact hE
    clear hE
    generalize newF (a - 20) (1 + b) = F at q1 q2 HV ⊢
    obtain ⟨c0, c1, f0, f1⟩ := pair_cells rRz
    go_wp2_with fail
    refine bodyPost_ret (v := .agg #[.int .i64 F.n, .int .i64 F.d]) (by simp [results, Tryd.results14, go_sem, c0, c1, hlz]) rfl ⟨_, _, HV.out, rfl, ?_, ?_⟩
    · exact (rat_end htz hgz hDl _ _ _).1
    · exact (rat_end htz hgz hDl _ _ _).2
end Go.Proofs.YtkdmbkhgcahpiaaDoor
