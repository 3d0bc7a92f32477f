/- The law BookReads: it returns true. -/
import Derived.Test.YtlchelgibilacaaGreatRefP
import Derived.Test.YtlchelgibilacaaGreatRefR
import Derived.Test.YtlchelgibilacaaGreatAwk
import Derived.Test.YtlchelgibilacaaGreatDeck4
import Derived.Deep.RegionHeld3
import Derived.Deep.CutBlock
import Derived.Deep.DeepCutAuto
namespace Go.Proofs.YtlchelgibilacaaGreat
open Go.RowKit

/-- w' extends w -/
def Lies (w w' : World) : Prop := Below w.heap.size w w'
theorem Lies.next {w w' w'' : World} (h : Lies w w') (hb : Below w'.heap.size w' w'') : Lies w w'' := Below.trans h (hb.mono (Below.size h))
theorem Lies.cell {w w' : World} {a : Addr} {v : Value} (h : Lies w w') (hb : a.block < w.heap.size) (hc : w.cell? a = some v) : w'.cell? a = some v := (Below.cell h hb).trans hc
/-- the drawn and the given parts of a round -/
def Parts (w : World) (L W N S : Nat) (k : Nat) : Prop := ∃ (X : Value) (l : List Pst) (n p r : Int), Sl w 6 X (psts l) ∧ w.cell? ⟨L, k, none⟩ = some X ∧ w.cell? ⟨W, k, none⟩ = some (.int .i64 n) ∧ w.cell? ⟨N, k, none⟩ = some (.int .i64 p) ∧ w.cell? ⟨S, k, none⟩ = some (.int .i64 r)
theorem Parts.lies {w w' : World} {L W N S k : Nat} (h : Parts w L W N S k) (hb : Lies w w') (h1 : L < w.heap.size) (h2 : W < w.heap.size) (h3 : N < w.heap.size) (h4 : S < w.heap.size) : Parts w' L W N S k := by
  obtain ⟨X, l, n, p, r, a0, a1, a2, a3, a4⟩ := h
  exact ⟨X, l, n, p, r, a0.below hb, hb.cell h1 a1, hb.cell h2 a2, hb.cell h3 a3, hb.cell h4 a4⟩

theorem keep2 {w w' : World} {a b : Addr} {x y : Value} (h1 : w.cell? a = some x) (h2 : w.cell? b = some y) (g1 : a.block < w.heap.size) (g2 : b.block < w.heap.size) (h : Lies w w') : w'.cell? a = some x ∧ w'.cell? b = some y ∧ Lies w w' := ⟨h.cell g1 h1, h.cell g2 h2, h⟩

set_option maxRecDepth 100000 in
set_option maxHeartbeats 6400000 in
theorem BookReads_any (v : Value) (zs : List Int) (u : Value) (l : List Pst) (n p r : Int) (w : World) (hv : Sl w 1 v (ints zs)) (hu : Sl w 6 u (psts l)) :
    Calls Tryz.prog 3 #[v, u, .int .i64 n, .int .i64 p, .int .i64 r] w fun e w' => e = .returned (.bool true) ∧ Below w.heap.size w w' := by
  go_enter Tryz.func3, Tryz.ntmps3
  go_wp2_with fail
  refine (short_any u l w hu).mono ?_
  rintro e w1 ⟨rfl, hb1⟩
  have hs1 := hb1.size
  cases hsh : shortB l
  · go_wp2_with fail
    refine (awake_any _).mono ?_
    rintro e w6 ⟨rfl, hb6⟩
    go_wp2
    go_ret
    exact ⟨rfl, below_after hb1 hb6 hs1⟩
  have HV := Lib.hid (hv.below hb1)
  have HU := Lib.hid hu
  obtain ⟨A, cap, rfl, -⟩ := hu
  clear hv hsh
  go_wp2_with fail
  refine (new_any v zs w1 HV.out).mono ?_
  rintro e w2 ⟨rfl, hd2, hb2⟩
  obtain ⟨D, hDe⟩ : ∃ D, D = w1.heap.size := ⟨_, rfl⟩
  rw [← hDe] at hd2 ⊢
  have hDlo : w.heap.size ≤ D := by omega
  have hB2 := below_after hb1 hb2 hs1
  clear HV hb1 hb2 hDe
  have hs2 := hB2.size
  have hDlt := hd2.lt
  go_wp2_with fail
  refine (DBook_any D 0 5 w2 hd2 (by omega) (by omega)).mono ?_
  rintro e w3 ⟨x, b, R, d3, rfl, hgood, hR, hlen, hown3, hd3, hdd3, hg3⟩
  have hB3 := hB2.grown hg3 hs2 (fun g hg => by cases hg; exact hDlo)
  have hs3 := hB3.size
  have hs23 := hg3.size
  have hDl3 := hd3.lt
  clear hB2 hg3 hd2 hgood hR
  obtain ⟨Y, cy, rfl⟩ := hown3.form
  go_wp2_with fail
  obtain ⟨w4, hw4⟩ : ∃ w4, w4 = w3.alloc (Obj.cells #[Value.slice Y (psts b).length cy, Value.slice A (psts l).length cap] 23) := ⟨_, rfl⟩
  rw [← hw4]
  have hB4 : Below w.heap.size w w4 := by rw [hw4]; exact hB3.alloc hs3 _
  have hd4 : Deck w4 D d3 := by rw [hw4]; exact hd3.below ((Below.refl _ _).alloc (Nat.le_refl _) _)
  have hown4 : Own w4 w2.heap.size 45 6 (.slice Y (psts b).length cy) (psts b) := by rw [hw4]; exact hown3.alloc _
  have hL4 : Row w4 w3.heap.size 23 #[Value.slice Y (psts b).length cy, Value.slice A (psts l).length cap] := by rw [hw4]; exact Row.new _ _ _
  have hs4 : w4.heap.size = w3.heap.size + 1 := by rw [hw4]; simp
  have hs4' : w3.heap.size < w4.heap.size := by omega
  clear hw4 hs4 hown3 hd3 hB3
  refine (Next_any D d3 _ w4 hd4 (by omega) (by omega) (by omega)).mono ?_
  rintro e w5 ⟨m1, ⟨hm1, hm2⟩, rfl, hd5, hg5⟩
  have hB5 := hB4.grown hg5 hB4.size (fun g hg => by cases hg; exact hDlo)
  have hs45 := hg5.size
  have hown5 := hown4.keepD hg5 hDlt
  have hL5 := hL4.keep hg5 (fun e => by injection e with e; omega)
  have hDl5 := hd5.lt
  clear hB4 hg5 hd4 hown4 hL4
  go_wp2_with fail
  have hW5 : Row (w5.alloc (Obj.cells #[Value.int IntKind.i64 (1 + m1), Value.int IntKind.i64 n] 3)) w5.heap.size 3 #[Value.int IntKind.i64 (1 + m1), Value.int IntKind.i64 n] := Row.new _ _ _
  have hs5 := hB5.size
  refine (Next_any D (d3 + 1) _ _ (hd5.below ((Below.refl _ _).alloc (Nat.le_refl _) _)) (by omega) (by omega) (by omega)).mono ?_
  rintro e w6 ⟨m2, ⟨hm3, hm4⟩, rfl, hd6, hg6⟩
  have hB6 := (hB5.alloc hs5 _).grown hg6 (by simp; omega) (fun g hg => by cases hg; exact hDlo)
  have hs56 : w5.heap.size < w6.heap.size := Nat.lt_of_lt_of_le (by simp) hg6.size
  have hown6 := (hown5.alloc _).keepD hg6 hDlt
  have hL6 := (hL5.alloc _).keep hg6 (fun e => by injection e with e; omega)
  have hW6 := hW5.keep hg6 (fun e => by injection e with e; omega)
  have hDl6 := hd6.lt
  clear hB5 hg6 hd5 hown5 hL5 hW5
  go_wp2_with fail
  have hN6 : Row (w6.alloc (Obj.cells #[Value.int IntKind.i64 m2, Value.int IntKind.i64 p] 3)) w6.heap.size 3 #[Value.int IntKind.i64 m2, Value.int IntKind.i64 p] := Row.new _ _ _
  have hs6 := hB6.size
  refine (Next_any D (d3 + 1 + 1) _ _ (hd6.below ((Below.refl _ _).alloc (Nat.le_refl _) _)) (by omega) (by omega) (by omega)).mono ?_
  rintro e w7 ⟨m3, ⟨hm5, hm6⟩, rfl, hd7, hg7⟩
  have hB7 := (hB6.alloc hs6 _).grown hg7 (by simp; omega) (fun g hg => by cases hg; exact hDlo)
  have hs67 : w6.heap.size < w7.heap.size := Nat.lt_of_lt_of_le (by simp) hg7.size
  have hown7 := (hown6.alloc _).keepD hg7 hDlt
  have hL7 := (hL6.alloc _).keep hg7 (fun e => by injection e with e; omega)
  have hW7 := (hW6.alloc _).keep hg7 (fun e => by injection e with e; omega)
  have hN7 := hN6.keep hg7 (fun e => by injection e with e; omega)
  clear hB6 hg7 hd6 hown6 hL6 hW6 hN6 hd7
  go_upto_region 6 with (fail)
  obtain ⟨w8, hw8⟩ : ∃ w8, w8 = w7.alloc (Obj.cells #[Value.int IntKind.i64 m3, Value.int IntKind.i64 r] 3) := ⟨_, rfl⟩
  rw [← hw8]
  have hB8 : Below w.heap.size w w8 := by rw [hw8]; exact hB7.alloc hB7.size _
  have hS8 : Row w8 w7.heap.size 3 #[Value.int IntKind.i64 m3, Value.int IntKind.i64 r] := by rw [hw8]; exact Row.new _ _ _
  have hL8 : Row w8 w3.heap.size 23 #[Value.slice Y (psts b).length cy, Value.slice A (psts l).length cap] := by rw [hw8]; exact hL7.alloc _
  have hW8 : Row w8 w5.heap.size 3 #[Value.int IntKind.i64 (1 + m1), Value.int IntKind.i64 n] := by rw [hw8]; exact hW7.alloc _
  have hN8 : Row w8 w6.heap.size 3 #[Value.int IntKind.i64 m2, Value.int IntKind.i64 p] := by rw [hw8]; exact hN7.alloc _
  have hO8 : Own w8 w2.heap.size 45 6 (.slice Y (psts b).length cy) (psts b) := by rw [hw8]; exact hown7.alloc _
  have HP : Hid (∀ k, k < 2 → Parts w8 w3.heap.size w5.heap.size w6.heap.size w7.heap.size k) := fun k hk => by
    obtain rfl | rfl : k = 0 ∨ k = 1 := by omega
    · exact ⟨_, b, _, _, _, hO8.sl (by omega), hL8.cell 0, hW8.cell 0, hN8.cell 0, hS8.cell 0⟩
    · exact ⟨_, l, _, _, _, HU.out.below hB8, hL8.cell 1, hW8.cell 1, hN8.cell 1, hS8.cell 1⟩
  have hl1 := hL8.lt
  have hl2 := hW8.lt
  have hl3 := hN8.lt
  have hl4 := hS8.lt
  have hs8 := hB8.size
  clear hw8 hS8 hL8 hW8 hN8 hO8 hB7 hL7 hW7 hN7 hown7
  generalize w3.heap.size = L at *
  generalize w5.heap.size = W at *
  generalize w6.heap.size = N at *
  generalize w7.heap.size = S at *
  go_wp2_with fail
  go_loopw [16] (fun i wr => ∃ k : Nat, k ≤ 2 ∧ i = .int .i64 k ∧ Lies w8 wr) (fun i _ => 2 - (intOf i).toNat)
  case atStart => exact ⟨0, by omega, rfl, Below.refl _ _⟩
  case round =>
    obtain ⟨w9, hw9⟩ : ∃ w9 : World, w9 = wr := ⟨_, rfl⟩
    subst hw9
    obtain ⟨k, hk, rfl, hb9⟩ := hrel
    by_cases hk2 : k < 2
    · have dk : decide ((k : Int) < 2) = true := decide_eq_true (by omega)
      obtain ⟨X, q, c1, c2, c3, hX, a1, a2, a3, a4⟩ := (HP.out k hk2).lies hb9 hl1 hl2 hl3 hl4
      have hz9 := Below.size hb9
      have HX := Lib.hid hX
      have g1 : L < w9.heap.size := by omega
      have g2 : W < w9.heap.size := by omega
      have g3 : N < w9.heap.size := by omega
      have g4 : S < w9.heap.size := by omega
      clear hX HP
      go_upto_region 10 with (fail)
      have A2 := Lib.hid a2
      have A3 := Lib.hid a3
      have A4 := Lib.hid a4
      clear a1 a2 a3 a4
      have i0 : (0 : Int) ≤ (k : Int) := by omega
      have i1 : (k : Int) < 2 := by omega
      have i2 : (k : Int) < ((2 : Nat) : Int) := by omega
      go_cut [101] (fun s wx => s = .bool false ∧ Lies w9 wx)
      case first =>
        go_region_held3 (fun w' => w'.cell? ⟨W, k, none⟩ = some (.int .i64 c1) ∧ w'.cell? ⟨N, k, none⟩ = some (.int .i64 c2) ∧ Lies w9 w') (exact keep2 A2.out A3.out g2 g3 (by first | assumption | exact (Below.refl _ _).drew))
          (first
            | (go_at_call 10; have hS0 := ‹_ ∧ _ ∧ Lies w9 _›; refine (Result_any X q c1 c2 _ (HX.out.below hS0.2.2)).mono ?_; rintro e wa ⟨ya, rfl, howna, hba⟩; have hla := Lies.next hS0.2.2 hba; clear hS0)
            | (go_at_call 11; have hS0 := ‹_ ∧ _ ∧ Lies w9 _›; refine (refResult_any X q c1 c2 _ (HX.out.below hS0.2.2)).mono ?_; rintro e wb ⟨yb, rfl, hownb, hbb⟩; have hlb := Lies.next hS0.2.2 hbb; have HYa := Lib.hid ((howna.sl (by omega)).below hbb); have HYb := Lib.hid (hownb.sl (by omega)); clear hS0 howna hownb)
            | (go_at_call 9; have hS0 := ‹_ ∧ _ ∧ Lies w9 _›; (with_reducible refine (SameL_any _ _ _ _ HYa.out HYb.out).mono ?_); rintro e wc ⟨rfl, hbc⟩; have hlc := Lies.next hS0.2.2 hbc; clear hS0 HYa HYb)
            | (go_at_call 12; have hS0 := ‹_ ∧ _ ∧ Lies w9 _›; refine (Period_any X q c2 _ (HX.out.below hS0.2.2)).mono ?_; rintro e wd ⟨yd, rfl, hownd, hbd⟩; have hld := Lies.next hS0.2.2 hbd; clear hS0)
            | (go_at_call 13; have hS0 := ‹_ ∧ _ ∧ Lies w9 _›; refine (refPeriod_any X q c2 _ (HX.out.below hS0.2.2)).mono ?_; rintro e we ⟨ye, rfl, howne, hbe⟩; have hle := Lies.next hS0.2.2 hbe; have HYd := Lib.hid ((hownd.sl (by omega)).below hbe); have HYe := Lib.hid (howne.sl (by omega)); clear hS0 hownd howne)
            | (go_at_call 9; have hS0 := ‹_ ∧ _ ∧ Lies w9 _›; (with_reducible refine (SameL_any _ _ _ _ HYd.out HYe.out).mono ?_); rintro e wf ⟨rfl, hbf⟩; have hlf := Lies.next hS0.2.2 hbf; clear hS0 HYd HYe)
            | (go_at_call 14; have hS0 := ‹_ ∧ _ ∧ Lies w9 _›; refine (Net_any X q c1 _ (HX.out.below hS0.2.2)).mono ?_; rintro e wg ⟨rfl, hbg⟩; have hlg := Lies.next hS0.2.2 hbg; clear hS0)
            | (go_at_call 15; have hS0 := ‹_ ∧ _ ∧ Lies w9 _›; refine (refNet_any X q c1 _ (HX.out.below hS0.2.2)).mono ?_; rintro e wh ⟨rfl, hbh⟩; have hlh := Lies.next hS0.2.2 hbh; clear hS0))
        go_wp2_with fail
        go_meet
        exact ⟨rfl, hlh⟩
      case rest =>
        obtain ⟨rfl, hl10⟩ := hcut
        obtain ⟨w10, hw10⟩ : ∃ w10 : World, w10 = wc := ⟨_, rfl⟩
        subst hw10
        go_upto_region 12 with (fail)
        go_cut [139] (fun s wx => s = .bool false ∧ Lies w9 wx)
        case first =>
          go_region_held3 (fun w' => w'.cell? ⟨W, k, none⟩ = some (.int .i64 c1) ∧ w'.cell? ⟨S, k, none⟩ = some (.int .i64 c3) ∧ Lies w9 w') (exact keep2 A2.out A4.out g2 g4 (by first | assumption | exact hl10.next (Below.refl _ _).drew))
            (first
              | (go_at_call 17; have hS0 := ‹_ ∧ _ ∧ Lies w9 _›; refine (Employees_any X q _ (HX.out.below hS0.2.2)).mono ?_; rintro e wa ⟨ya, rfl, howna, hba⟩; have hla := Lies.next hS0.2.2 hba; clear hS0)
              | (go_at_call 18; have hS0 := ‹_ ∧ _ ∧ Lies w9 _›; refine (refEmployees_any X q _ (HX.out.below hS0.2.2)).mono ?_; rintro e wb ⟨yb, rfl, hownb, hbb⟩; have hlb := Lies.next hS0.2.2 hbb; have HYa := Lib.hid ((howna.sl (by omega)).below hbb); have HYb := Lib.hid (hownb.sl (by omega)); clear hS0 howna hownb)
              | (go_at_call 16; have hS0 := ‹_ ∧ _ ∧ Lies w9 _›; (with_reducible refine (intsSame_any _ _ _ _ HYa.out HYb.out).mono ?_); rintro e wc ⟨rfl, hbc⟩; have hlc := Lies.next hS0.2.2 hbc; clear hS0 HYa HYb)
              | (go_at_call 19; have hS0 := ‹_ ∧ _ ∧ Lies w9 _›; refine (Periods_any X q c1 _ (HX.out.below hS0.2.2)).mono ?_; rintro e wd ⟨yd, rfl, hownd, hbd⟩; have hld := Lies.next hS0.2.2 hbd; clear hS0)
              | (go_at_call 20; have hS0 := ‹_ ∧ _ ∧ Lies w9 _›; refine (refPeriods_any X q c1 _ (HX.out.below hS0.2.2)).mono ?_; rintro e we ⟨ye, rfl, howne, hbe⟩; have hle := Lies.next hS0.2.2 hbe; have HYd := Lib.hid ((hownd.sl (by omega)).below hbe); have HYe := Lib.hid (howne.sl (by omega)); clear hS0 hownd howne)
              | (go_at_call 16; have hS0 := ‹_ ∧ _ ∧ Lies w9 _›; (with_reducible refine (intsSame_any _ _ _ _ HYd.out HYe.out).mono ?_); rintro e wf ⟨rfl, hbf⟩; have hlf := Lies.next hS0.2.2 hbf; clear hS0 HYd HYe)
              | (go_at_call 22; have hS0 := ‹_ ∧ _ ∧ Lies w9 _›; refine (AsOf_any X q c3 _ (HX.out.below hS0.2.2)).mono ?_; rintro e wg ⟨yg, rfl, howng, hbg⟩; have hlg := Lies.next hS0.2.2 hbg; clear hS0)
              | (go_at_call 23; have hS0 := ‹_ ∧ _ ∧ Lies w9 _›; refine (refAsOf_any X q c3 _ (HX.out.below hS0.2.2)).mono ?_; rintro e wh ⟨yh, rfl, hownh, hbh⟩; have hlh := Lies.next hS0.2.2 hbh; have HYg := Lib.hid ((howng.sl (by omega)).below hbh); have HYh := Lib.hid (hownh.sl (by omega)); clear hS0 howng hownh)
              | (go_at_call 21; have hS0 := ‹_ ∧ _ ∧ Lies w9 _›; refine (Same_any _ _ _ _ HYg.out HYh.out).mono ?_; rintro e wi ⟨rfl, hbi⟩; have hli := Lies.next hS0.2.2 hbi; clear hS0 HYg HYh))
          go_wp2_with fail
          go_meet
          exact ⟨rfl, hli⟩
        case rest =>
          obtain ⟨rfl, hl11⟩ := hcut
          have hl12 := Lies.next hb9 hl11
          go_wp2_with fail
          go_roundw
          case rel => exact ⟨k + 1, by omega, by go_num, hl12⟩
          case measure => simp [intOf]; omega
    · have dk : decide ((k : Int) < 2) = false := decide_eq_false (by omega)
      have hB := below_after hB8 hb9 hs8
      have hs := hB.size
      go_wp2_with fail
      refine (awake_any _).mono ?_
      rintro e w12 ⟨rfl, hb12⟩
      go_wp2
      go_ret
      exact ⟨rfl, below_after hB hb12 hs⟩
end Go.Proofs.YtlchelgibilacaaGreat
