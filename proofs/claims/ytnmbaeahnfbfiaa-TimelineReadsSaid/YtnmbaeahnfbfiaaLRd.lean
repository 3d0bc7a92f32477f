/- payrolllaw6.reads and the law TimelineReads: they return true. -/
import Derived.Test.YtnmbaeahnfbfiaaRfD
import Derived.Test.YtnmbaeahnfbfiaaChgU
import Derived.Test.YtnmbaeahnfbfiaaChgN
import Derived.Test.YtnmbaeahnfbfiaaLPast
namespace Go.Proofs.Ytnmbaeahnfbfiaa
open Go.RowKit

theorem orL_zero : ∀ {l : List Int}, orL l = 0 → ∀ x ∈ l, x = 0
  | [], _, x, hx => by cases hx
  | a :: r, h, x, hx => by
    rw [orL] at h
    split at h
    · rename_i h0
      rcases List.mem_cons.1 hx with rfl | hx
      · exact h0
      · exact orL_zero h x hx
    · rename_i h0; exact absurd h h0
theorem valid_rng {l : List Chg} (h : validE l = 0) : ∀ c ∈ l, rngC c := fun c hc => by
  unfold validE at h
  split at h
  · cases h
  · have := orL_zero h (errC c) (List.mem_map.2 ⟨c, hc, rfl⟩)
    unfold errC at this
    split at this
    · assumption
    · cases this
theorem check_rng {l : List Chg} {f t : Int} : ∀ c ∈ l, 0 ≤ c.f ∧ c.f ≤ 84005 ∨ checkE l f t ≠ 0 := fun c hc => by
  by_cases h : checkE l f t = 0
  · left
    have h0 : validE l = 0 := by
      unfold checkE at h
      split at h
      · assumption
      · exact h
    have := valid_rng h0 c hc
    unfold rngC at this
    omega
  · exact .inr h
theorem neS (a b c : Int) (w : World) : (binOp .neq 65 (.agg #[.int .i64 a, .int .i64 b, .int .i64 c]) (.agg #[.int .i64 a, .int .i64 b, .int .i64 c])).run Try.prog w = .ok (.bool false) w := by simp [go_sem]
theorem neG (a b : Int) (w : World) : (binOp .neq 51 (.agg #[.int .i64 a, .int .i64 b]) (.agg #[.int .i64 a, .int .i64 b])).run Try.prog w = .ok (.bool false) w := by simp [go_sem]
theorem CellsAt.slc {w : World} {b off : Nat} {R : List Pc} (h : CellsAt w 3 b off (slcs R)) {k : Nat} (hk : k < R.length) :
    w.cell? ⟨b, off + k * 3, none⟩ = some (.int .i64 (R[k]).b) ∧ w.cell? ⟨b, off + k * 3 + 1, none⟩ = some (.int .i64 (R[k]).e) ∧ w.cell? ⟨b, off + k * 3 + 2, none⟩ = some (.int .i64 (R[k]).v) :=
  ⟨h.2 k _ (slcs_at hk) 0 _ rfl, h.2 k _ (slcs_at hk) 1 _ rfl, h.2 k _ (slcs_at hk) 2 _ rfl⟩
theorem CellsAt.rng {w : World} {b off : Nat} {R : List Pc} (h : CellsAt w 2 b off (rngs R)) {k : Nat} (hk : k < R.length) :
    w.cell? ⟨b, off + k * 2, none⟩ = some (.int .i64 (R[k]).b) ∧ w.cell? ⟨b, off + k * 2 + 1, none⟩ = some (.int .i64 (R[k]).e) :=
  ⟨h.2 k _ (rngs_at hk) 0 _ rfl, h.2 k _ (rngs_at hk) 1 _ rfl⟩
theorem slices_len (l : List Chg) (a f t : Int) : (slicesC l a f t).length ≤ 84006 := by
  unfold slicesC
  split
  · have h := checkE_ok (by assumption)
    have := runs_len (valD (inC l a)) f (t + 1 - f).toNat
    rw [slicesR]; omega
  · simp
theorem diff_len (l : List Chg) (a b f t : Int) : (diffC l a b f t).length ≤ 84006 := by
  unfold diffC
  split
  · have h := checkE_ok (by assumption)
    have := runs_len (difV (inC l a) (inC l b)) f (t + 1 - f).toNat
    rw [difR]; omega
  · simp

def RdL (w : World) (n : Nat) (i : Value) (wr : World) : Prop := ∃ k : Nat, k ≤ n ∧ i = .int .i64 k ∧ Below w.heap.size w wr
set_option maxRecDepth 100000 in
set_option maxHeartbeats 4000000 in
theorem reads_any (v : Value) (l : List Chg) (a b f t : Int) (w : World) (hv : Sl w 4 v (chgs l)) :
    Calls Try.prog 17 #[v, .int .i64 a, .int .i64 b, .int .i64 f, .int .i64 t] w fun e w' => e = .returned (.bool true) ∧ Below w.heap.size w w' := by
  have S0 := Lib.hid hv
  clear hv
  have HR := Lib.hid (check_rng (l := l) (f := f) (t := t))
  obtain ⟨o, ho⟩ : ∃ o, atO l f a = o := ⟨_, rfl⟩
  obtain ⟨eo, heo⟩ : ∃ o, atE l f = o := ⟨_, rfl⟩
  obtain ⟨ec, hec⟩ : ∃ o, checkE l f t = o := ⟨_, rfl⟩
  obtain ⟨ev, hev⟩ : ∃ o, validE l = o := ⟨_, rfl⟩
  obtain ⟨M, hM⟩ : ∃ o, slicesC l a f t = o := ⟨_, rfl⟩
  obtain ⟨N, hN⟩ : ∃ o, diffC l a b f t = o := ⟨_, rfl⟩
  have hMl := slices_len l a f t
  have hNl := diff_len l a b f t
  rw [hM] at hMl
  rw [hN] at hNl
  have HQ : Hid (atO l f a = o ∧ atE l f = eo ∧ checkE l f t = ec ∧ validE l = ev ∧ slicesC l a f t = M ∧ diffC l a b f t = N) := ⟨ho, heo, hec, hev, hM, hN⟩
  clear ho heo hec hev hM hN
  go_enter Try.func17, Try.ntmps17
  go_wp2_with fail
  refine (At_any _ l f a _ S0.out).mono ?_
  rw [HQ.out.1, HQ.out.2.1]
  rintro e w1 ⟨rfl, hb1⟩
  have S1 := Lib.hid (S0.out.below hb1)
  have B1 := Lib.hid hb1
  clear S0 hb1
  go_wp2_with fail
  refine (refAt_any _ l f a _ S1.out).mono ?_
  rw [HQ.out.1, HQ.out.2.1]
  rintro e w2 ⟨rfl, hb2⟩
  have S2 := Lib.hid (S1.out.below hb2)
  have B2 := Lib.hid (B1.out.trans (hb2.mono B1.out.size))
  clear S1 B1 hb2
  go_wp2_with fail
  refine (Slices_any _ l a f t _ S2.out HR.out).mono ?_
  rw [HQ.out.2.2.1, HQ.out.2.2.2.2.1]
  rintro e w3 ⟨m1, rfl, om1, hb3⟩
  have hq := om1.form
  rw [slcs_len] at hq
  obtain ⟨P1, c1, rfl⟩ := hq
  have S3 := Lib.hid (S2.out.below hb3)
  have B3 := Lib.hid (B2.out.trans (hb3.mono B2.out.size))
  have M3 := Lib.hid (om1.sl (by omega))
  clear S2 B2 hb3 om1
  go_wp2_with fail
  refine (refSlices_any _ l a f t _ S3.out).mono ?_
  rw [HQ.out.2.2.1, HQ.out.2.2.2.2.1]
  rintro e w4 ⟨m2, rfl, om2, hb4⟩
  have hq := om2.form
  rw [slcs_len] at hq
  obtain ⟨P2, c2, rfl⟩ := hq
  have S4 := Lib.hid (S3.out.below hb4)
  have B4 := Lib.hid (B3.out.trans (hb4.mono B3.out.size))
  have M4 := Lib.hid (M3.out.below hb4)
  have N4 := Lib.hid (om2.sl (by omega))
  clear S3 B3 M3 hb4 om2
  go_wp2_with fail
  refine (Diff_any _ l a b f t _ S4.out).mono ?_
  rw [HQ.out.2.2.1, HQ.out.2.2.2.2.2]
  rintro e w5 ⟨m3, rfl, om3, hb5⟩
  have hq := om3.form
  rw [rngs_len] at hq
  obtain ⟨P3, c3, rfl⟩ := hq
  have S5 := Lib.hid (S4.out.below hb5)
  have B5 := Lib.hid (B4.out.trans (hb5.mono B4.out.size))
  have M5 := Lib.hid (M4.out.below hb5)
  have N5 := Lib.hid (N4.out.below hb5)
  have O5 := Lib.hid (om3.sl (by omega))
  clear S4 B4 M4 N4 hb5 om3
  go_wp2_with fail
  refine (refDiff_any _ l a b f t _ S5.out).mono ?_
  rw [HQ.out.2.2.1, HQ.out.2.2.2.2.2]
  rintro e w6 ⟨m4, rfl, om4, hb6⟩
  have hq := om4.form
  rw [rngs_len] at hq
  obtain ⟨P4, c4, rfl⟩ := hq
  have S6 := Lib.hid (S5.out.below hb6)
  have B6 := Lib.hid (B5.out.trans (hb6.mono B5.out.size))
  have M6 := Lib.hid (M5.out.below hb6)
  have N6 := Lib.hid (N5.out.below hb6)
  have O6 := Lib.hid (O5.out.below hb6)
  have Q6 := Lib.hid (om4.sl (by omega))
  clear S5 B5 M5 N5 O5 hb6 om4
  go_wp2_with fail
  refine (valid_any _ l _ S6.out).mono ?_
  rw [HQ.out.2.2.2.1]
  rintro e w7 ⟨rfl, hb7⟩
  have S7 := Lib.hid (S6.out.below hb7)
  go_wp2_with fail
  refine (refValid_any _ l _ S7.out).mono ?_
  rw [HQ.out.2.2.2.1]
  rintro e w8 ⟨rfl, hb8⟩
  have hb68 := hb7.trans (hb8.mono hb7.size)
  have B8 := Lib.hid (B6.out.trans (hb68.mono B6.out.size))
  have M8 := Lib.hid (M6.out.below hb68)
  have N8 := Lib.hid (N6.out.below hb68)
  have O8 := Lib.hid (O6.out.below hb68)
  have Q8 := Lib.hid (Q6.out.below hb68)
  clear S6 S7 B6 M6 N6 O6 Q6 hb7 hb8 hb68
  go_wp2_with fail
  go_loopw [25] (fun i wr => RdL w8 M.length i wr) (fun i _ => M.length - (intOf i).toNat)
  case atStart => exact ⟨0, by omega, rfl, Below.refl _ _⟩
  case round =>
    obtain ⟨k, hk, rfl, hbl⟩ := hrel
    obtain ⟨wo, rfl⟩ : ∃ wo : World, wo = wr := ⟨_, rfl⟩
    by_cases hlt : k < M.length
    · obtain ⟨p, po, rfl, hp⟩ := (M8.out.below hbl).cells (by rw [slcs_len]; omega)
      obtain ⟨q, qo, rfl, hq⟩ := (N8.out.below hbl).cells (by rw [slcs_len]; omega)
      obtain ⟨p0, p1, p2⟩ := hp.slc hlt
      obtain ⟨q0, q1, q2⟩ := hq.slc hlt
      have i1 : (k : Int) < (M.length : Int) := by omega
      have E := fun W => neS (M[k]).b (M[k]).e (M[k]).v W
      clear hp hq
      go_wp2_with fail
      go_quiet (fail)
      go_wp2
      go_roundw
      case rel => exact ⟨k + 1, by omega, by go_num, Below.draws hbl _⟩
      case measure => simp [intOf]; omega
    · have hbq := Lib.hid hbl
      clear hbl
      go_wp2_with fail
      go_loopw [26] (fun i wr => RdL w8 N.length i wr) (fun i _ => N.length - (intOf i).toNat)
      case atStart => exact ⟨0, by omega, rfl, hbq.out⟩
      case round =>
        obtain ⟨k2, hk2, rfl, hbl⟩ := hrel
        obtain ⟨wp, rfl⟩ : ∃ wp : World, wp = wr := ⟨_, rfl⟩
        by_cases hlt2 : k2 < N.length
        · obtain ⟨p, po, rfl, hp⟩ := (O8.out.below hbl).cells (by rw [rngs_len]; omega)
          obtain ⟨q, qo, rfl, hq⟩ := (Q8.out.below hbl).cells (by rw [rngs_len]; omega)
          obtain ⟨p0, p1⟩ := hp.rng hlt2
          obtain ⟨q0, q1⟩ := hq.rng hlt2
          have i1 : (k2 : Int) < (N.length : Int) := by omega
          have E := fun W => neG (N[k2]).b (N[k2]).e W
          clear hp hq
          go_wp2_with fail
          go_quiet (fail)
          go_wp2
          go_roundw
          case rel => exact ⟨k2 + 1, by omega, by go_num, Below.draws hbl _⟩
          case measure => simp [intOf]; omega
        · go_wp2
          go_ret
          exact ⟨rfl, B8.out.trans (hbl.mono B8.out.size)⟩

def LrR (w1 : World) (D : Nat) (i : Value) (wr : World) : Prop := ∃ k : Nat, k ≤ 4 ∧ i = .int .i64 k ∧ Tape wr D ∧ w1.grownBy wr (some D)
set_option maxRecDepth 100000 in
set_option maxHeartbeats 4000000 in
theorem TReads_any (v : Value) (zs : List Int) (vl : Value) (l : List Chg) (a b f t : Int) (w : World) (hv : Sl w 1 v (ints zs)) (hl : Sl w 4 vl (chgs l)) :
    Calls Try.prog 6 #[v, vl, .int .i64 a, .int .i64 b, .int .i64 f, .int .i64 t] w fun e w' => e = .returned (.bool true) ∧ Below w.heap.size w w' := by
  have HV := Lib.hid hv
  have HL := Lib.hid hl
  have fl : ∃ P c, vl = .slice P l.length c := by obtain ⟨P, c, h, _⟩ := hl; rw [chgs_len] at h; exact ⟨P, c, h⟩
  obtain ⟨AL, cL, rfl⟩ := fl
  clear hv hl
  go_enter Try.func6, Try.ntmps6
  go_wp2_with fail
  refine (tapeNew_any v zs w HV.out).mono ?_
  rintro e w1 ⟨rfl, ht1, hb1⟩
  clear HV
  obtain ⟨D, hD⟩ : ∃ D, w.heap.size = D := ⟨_, rfl⟩
  rw [hD] at ht1
  have HD := Lib.hid hD
  have hD1 := ht1.lt
  clear hD
  rw [HD.out]
  have HT1 := Lib.hid ht1
  clear ht1
  go_wp2_with fail
  go_loopw [14] (fun i wr => LrR w1 D i wr) (fun i _ => 4 - (intOf i).toNat)
  case atStart => exact ⟨0, by omega, rfl, HT1.out, World.grownBy.refl _ _⟩
  case round =>
    obtain ⟨k, hk, rfl, ht, hg⟩ := hrel
    obtain ⟨wo, rfl⟩ : ∃ wo : World, wo = wr := ⟨_, rfl⟩
    have hzo := hg.size
    by_cases hlt : k < 4
    · go_wp2_with fail
      refine (TChg_any D 7 true wo ht (by omega) (by omega)).mono ?_
      rintro e w2 ⟨cs, x, rfl, hll, hm, s2⟩
      clear hm ht
      go_wp2_with fail
      refine (Draw_any D 9 _ s2.tape (by omega) (by omega)).mono ?_
      rintro e w3 ⟨r3, ⟨a3, b3⟩, rfl, t3, g3⟩
      have s3 := s2.draw t3 g3
      clear s2 t3 g3
      go_wp2_with fail
      refine (Draw_any D 8 _ s3.tape (by omega) (by omega)).mono ?_
      rintro e w4 ⟨r4, ⟨a4, b4⟩, rfl, t4, g4⟩
      have s4 := s3.draw t4 g4
      clear s3 t4 g4
      go_wp2_with fail
      refine (day_any D _ s4.tape).mono ?_
      rintro e w5 ⟨d5, ⟨a5, b5⟩, rfl, t5, g5⟩
      have s5 := s4.draw t5 g5
      clear s4 t5 g5
      go_wp2_with fail
      refine (day_any D _ s5.tape).mono ?_
      rintro e w6 ⟨d6, ⟨a6, b6⟩, rfl, t6, g6⟩
      have s6 := s5.draw t6 g6
      clear s5 t6 g6
      go_wp2_with fail
      refine (reads_any _ cs _ _ _ _ _ (s6.own.sl (by omega))).mono ?_
      rintro e w7 ⟨rfl, hb7⟩
      have s7 := s6.below hb7
      clear s6 hb7
      go_wp2
      go_roundw
      case rel => exact ⟨k + 1, by omega, by go_num, s7.tape, gb_trans hg s7.grown⟩
      case measure => simp [intOf]; omega
    · have hB := Lib.hid (hb1.grown hg hb1.size (fun g hg => by cases hg; rw [HD.out]; exact Nat.le_refl _))
      clear hg ht
      by_cases h40 : 40 < l.length
      · have d40 : decide ((40 : Int) < (l.length : Int)) = true := decide_eq_true (by omega)
        go_wp2
        go_ret
        exact ⟨rfl, hB.out⟩
      · have d40 : decide ((40 : Int) < (l.length : Int)) = false := decide_eq_false (by omega)
        go_wp2_with fail
        refine (reads_any _ l _ _ _ _ _ (HL.out.below hB.out)).mono ?_
        rintro e w7 ⟨rfl, hb7⟩
        have B7 := hB.out.trans (hb7.mono hB.out.size)
        clear hB hb7
        go_wp2_with fail
        refine (sane_any _).mono ?_
        rintro e w8 ⟨rfl, hb8⟩
        have B8 := B7.trans (hb8.mono B7.size)
        go_wp2
        go_ret
        exact ⟨rfl, B8⟩
end Go.Proofs.Ytnmbaeahnfbfiaa
