/- Contracts and plain facts that the laws of this seat share, part 9. -/
import Derived.Test.YtogdefomigiepaaGreatDoorPkF
import Derived.Test.YtogdefomigiepaaGreatDoorPkH
set_option linter.unusedVariables false
set_option linter.unusedSimpArgs false
/- Contracts of payrollref30: Valid, tax, Lookup, Formula, Due, Cumulative, Withhold (what is returned, no more). Written by gen_r30.py. -/
namespace Go.Proofs.YtogdefomigiepaaGreatDoor
open Go.RowKit

theorem Tbl.more {A B A' B' : Int} {l : List (Int × Int)} (h : Tbl A B l) (hA : A ≤ A') (hB : B ≤ B') : Tbl A' B' l := ⟨h.pos, h.first, h.asc, fun p hp => by have := h.bound p hp; omega⟩
structure TfSl (w : World) (t : Tf) : Prop where
 brs : Sl w 2 t.bv (prs t.brs)
 rows : Sl w 2 t.rv (prs t.rows)
theorem TfSl.below {w w' : World} {t : Tf} (h : TfSl w t) (hb : Below w.heap.size w w') : TfSl w' t := ⟨h.brs.below hb, h.rows.below hb⟩
set_option maxRecDepth 100000 in
set_option maxHeartbeats 4000000 in
theorem TValid_ok (t : Tf) (ht : TfOk t) (w : World) (hs : TfSl w t)  :
    Calls Tryz.prog 94 #[.agg t.vals.toArray] w fun e w' => e = .returned (.bool true) ∧ Below w.heap.size w w' := by
  obtain ⟨me, bv, brs, al, cr, un, mo, rv, rows⟩ := t
  have H1 := Lib.hid fun (y : World) (hy : Below w.heap.size w y) => Brackets_ok brs bv y (hs.brs.below hy) (by have := ht.brs.2; dsimp only at this; omega) (ht.brs.1.more (by omega) (by omega))
  have H2 := Lib.hid fun w => in30_ok (n := al) (m := 1000000000) w (by have := ht.allow; dsimp only at this; omega)
  have H3 := Lib.hid fun w => in30_ok (n := cr) (m := 1000000000) w (by have := ht.credit; dsimp only at this; omega)
  have H4 := Lib.hid fun w => rMode_any mo w
  have hmo : modeB mo = true := ht.mode
  rw [hmo] at H4
  have H5 := Lib.hid fun (h1 : me = 1) (y : World) (hy : Below w.heap.size w y) => Table_ok rows rv y (hs.rows.below hy) (by have := (ht.rows.1 h1).2; dsimp only at this; omega) ((ht.rows.1 h1).1.more (by omega) (by omega))
  have H6 := Lib.hid fun (h1 : me ≠ 1) => (show ∃ A cap, rv = .slice A 0 cap by
    obtain ⟨A, cap, h, _⟩ := hs.rows
    have e0 := ht.rows.2 h1
    dsimp only at e0 h
    rw [e0] at h
    exact ⟨A, cap, h⟩)
  have hme := ht.method
  have hun := ht.unit
  have d1 : decide (me < 1) = false := decide_eq_false (by dsimp only at hme; omega)
  have d2 : decide ((3 : Int) < me) = false := decide_eq_false (by dsimp only at hme; omega)
  have d3 : decide (un < 1) = false := decide_eq_false (by dsimp only at hun; omega)
  have d4 : decide ((100 : Int) < un) = false := decide_eq_false (by dsimp only at hun; omega)
  clear hs hmo
  clear ht
  try dsimp only at *
  show Calls Tryz.prog 94 #[.agg #[.int .i64 me, bv, .int .i64 al, .int .i64 cr, .int .i64 un, .int .i64 mo, rv]] w _
  go_enter Tryz.func94, Tryz.ntmps94
  go_upto_region 1 with (fail)
  have kk : Below w.heap.size w (w.alloc (.cells #[.int .i64 me, bv, .int .i64 al, .int .i64 cr, .int .i64 un, .int .i64 mo, rv] 55)) := (Below.refl _ _).alloc (Nat.le_refl _) _
  have T_1 := Row.new w 55 #[.int .i64 me, bv, .int .i64 al, .int .i64 cr, .int .i64 un, .int .i64 mo, rv]
  have hsT : (w.alloc (.cells #[.int .i64 me, bv, .int .i64 al, .int .i64 cr, .int .i64 un, .int .i64 mo, rv] 55)).heap.size = w.heap.size + 1 := by simp
  obtain ⟨w1, hw⟩ : ∃ w1, w.alloc (.cells #[.int .i64 me, bv, .int .i64 al, .int .i64 cr, .int .i64 un, .int .i64 mo, rv] 55) = w1 := ⟨_, rfl⟩
  rw [hw] at kk T_1 hsT ⊢
  clear hw
  obtain ⟨gT, hg⟩ : ∃ gT, w.heap.size = gT := ⟨_, rfl⟩
  rw [hg] at T_1 hsT ⊢
  have zT : w.heap.size ≤ gT := by omega
  clear hg
  have b1 := Lib.hid kk
  clear kk
  have cT0 : w1.cell? ⟨gT, 0, none⟩ = some (.int .i64 me) := Row.cell T_1 0
  have cT1 : w1.cell? ⟨gT, 1, none⟩ = some (bv) := Row.cell T_1 1
  have cT2 : w1.cell? ⟨gT, 2, none⟩ = some (.int .i64 al) := Row.cell T_1 2
  have cT3 : w1.cell? ⟨gT, 3, none⟩ = some (.int .i64 cr) := Row.cell T_1 3
  have cT4 : w1.cell? ⟨gT, 4, none⟩ = some (.int .i64 un) := Row.cell T_1 4
  have cT5 : w1.cell? ⟨gT, 5, none⟩ = some (.int .i64 mo) := Row.cell T_1 5
  have cT6 : w1.cell? ⟨gT, 6, none⟩ = some (rv) := Row.cell T_1 6
  have lT := Row.lt T_1
  go_wp2_with fail
  refine (H1.out _ b1.out).mono ?_
  rintro e w2 ⟨rfl, k2⟩
  have T_2 := Row.below T_1 k2 T_1.lt
  have b2 := Lib.hid (below_after b1.out k2 b1.out.size)
  clear T_1 b1 k2
  have cT0 : w2.cell? ⟨gT, 0, none⟩ = some (.int .i64 me) := Row.cell T_2 0
  have cT1 : w2.cell? ⟨gT, 1, none⟩ = some (bv) := Row.cell T_2 1
  have cT2 : w2.cell? ⟨gT, 2, none⟩ = some (.int .i64 al) := Row.cell T_2 2
  have cT3 : w2.cell? ⟨gT, 3, none⟩ = some (.int .i64 cr) := Row.cell T_2 3
  have cT4 : w2.cell? ⟨gT, 4, none⟩ = some (.int .i64 un) := Row.cell T_2 4
  have cT5 : w2.cell? ⟨gT, 5, none⟩ = some (.int .i64 mo) := Row.cell T_2 5
  have cT6 : w2.cell? ⟨gT, 6, none⟩ = some (rv) := Row.cell T_2 6
  have lT := Row.lt T_2
  go_wp2_with fail
  refine (H2.out _).mono ?_
  rintro e _ ⟨rfl, rfl⟩
  go_wp2_with fail
  refine (H3.out _).mono ?_
  rintro e _ ⟨rfl, rfl⟩
  go_wp2_with fail
  refine (H4.out _).mono ?_
  rintro e _ ⟨rfl, rfl⟩
  by_cases h1 : me = 1
  · have q1 : (me == 1) = true := by simp [h1]
    have HT := Lib.hid (H5.out h1 _ b2.out)
    clear h1
    go_wp2_with fail
    refine HT.out.mono ?_
    rintro e w9 ⟨rfl, k9⟩
    have HE := Lib.hid (below_after b2.out k9 b2.out.size)
    clear k9
    go_wp2_with fail
    go_ret
    exact ⟨rfl, HE.out⟩
  · have q1 : (me == 1) = false := by simpa using h1
    obtain ⟨A, cap, rfl⟩ := H6.out h1
    clear h1
    go_wp2_with fail
    go_ret
    exact ⟨rfl, b2.out⟩
set_option maxRecDepth 100000 in
set_option maxHeartbeats 2000000 in
theorem tax30_ok (t : Tf) (ht : TfOk t) (w : World) (l : List (Int × Int)) (v : Value) (a c inc : Int) (hv : Sl w 2 v (prs l)) (hl : l.length ≤ 24) (htb : Tbl 1000000000000 1000000 l) (ha : 0 ≤ a ∧ a ≤ 1000000000) (hi : 0 ≤ inc ∧ inc ≤ 1000000000000) :
  Calls Tryz.prog 131 #[.agg t.vals.toArray, v, .int .i64 a, .int .i64 c, .int .i64 inc] w fun e w' => ∃ n : Int, e = .returned (.int .i64 n) ∧ Below w.heap.size w w' := by
 obtain ⟨me, bv, brs, al, cr, un, mo, rv, rows⟩ := t
 have H1 := Lib.hid fun (y : World) (hy : Below w.heap.size w y) => Tax_ok l v (max (inc - a) 0) un mo y (hv.below hy) hl htb (by omega) ht.unit ht.mode
 have e1 : IntKind.i64.wrap (inc - a) = inc - a := IntWalk.i64_in _ (by omega)
 clear htb hv
 clear ht
 try dsimp only at *
 show Calls Tryz.prog 131 #[.agg #[.int .i64 me, bv, .int .i64 al, .int .i64 cr, .int .i64 un, .int .i64 mo, rv], v, .int .i64 a, .int .i64 c, .int .i64 inc] w _
 go_enter Tryz.func131, Tryz.ntmps131
 go_upto_region 1 with (fail)
 have kk : Below w.heap.size w (w.alloc (.cells #[.int .i64 me, bv, .int .i64 al, .int .i64 cr, .int .i64 un, .int .i64 mo, rv] 55)) := (Below.refl _ _).alloc (Nat.le_refl _) _
 have T_1 := Row.new w 55 #[.int .i64 me, bv, .int .i64 al, .int .i64 cr, .int .i64 un, .int .i64 mo, rv]
 have hsT : (w.alloc (.cells #[.int .i64 me, bv, .int .i64 al, .int .i64 cr, .int .i64 un, .int .i64 mo, rv] 55)).heap.size = w.heap.size + 1 := by simp
 obtain ⟨w1, hw⟩ : ∃ w1, w.alloc (.cells #[.int .i64 me, bv, .int .i64 al, .int .i64 cr, .int .i64 un, .int .i64 mo, rv] 55) = w1 := ⟨_, rfl⟩
 rw [hw] at kk T_1 hsT ⊢
 clear hw
 obtain ⟨gT, hg⟩ : ∃ gT, w.heap.size = gT := ⟨_, rfl⟩
 rw [hg] at T_1 hsT ⊢
 have zT : w.heap.size ≤ gT := by omega
 clear hg
 have b1 := Lib.hid kk
 clear kk
 have cT0 : w1.cell? ⟨gT, 0, none⟩ = some (.int .i64 me) := Row.cell T_1 0
 have cT1 : w1.cell? ⟨gT, 1, none⟩ = some (bv) := Row.cell T_1 1
 have cT2 : w1.cell? ⟨gT, 2, none⟩ = some (.int .i64 al) := Row.cell T_1 2
 have cT3 : w1.cell? ⟨gT, 3, none⟩ = some (.int .i64 cr) := Row.cell T_1 3
 have cT4 : w1.cell? ⟨gT, 4, none⟩ = some (.int .i64 un) := Row.cell T_1 4
 have cT5 : w1.cell? ⟨gT, 5, none⟩ = some (.int .i64 mo) := Row.cell T_1 5
 have cT6 : w1.cell? ⟨gT, 6, none⟩ = some (rv) := Row.cell T_1 6
 have lT := Row.lt T_1
 go_wp2_with fail
 refine (H1.out _ b1.out).mono ?_
 rintro e w9 ⟨n, rfl, k9⟩
 have HE := Lib.hid (below_after b1.out k9 b1.out.size)
 clear k9 H1
 go_wp2_with fail
 go_ret
 first | exact ⟨_, rfl, HE.out⟩ | exact ⟨rfl, HE.out⟩ | exact ⟨⟨_, rfl⟩, HE.out⟩
set_option maxRecDepth 100000 in
set_option maxHeartbeats 2000000 in
theorem Lookup_ok (l : List (Int × Int)) (v : Value) (inc : Int) (w : World) (hv : Sl w 2 v (prs l)) (hl : l.length ≤ 256) (ht : Tbl 1000000000 1000000000 l) (hi : 0 ≤ inc ∧ inc ≤ 1000000000) :
  Calls Tryz.prog 96 #[v, .int .i64 inc] w fun e w' => ∃ n : Int, e = .returned (.tuple #[.int .i64 n, .int .i64 0]) ∧ Below w.heap.size w w' := by
 have H1 := Lib.hid (Table_ok l v w hv hl ht)
 have H2 := Lib.hid fun w => in30_ok (n := inc) (m := 1000000000) w hi
 have HV := Lib.hid hv
 obtain ⟨A, cap, rfl, h1, h2, _, _⟩ := hv
 rw [prs_len] at h1 H1 HV ⊢
 unfold maxLen at h2
 clear ht
 go_enter Tryz.func96, Tryz.ntmps96
 go_wp2_with fail
 refine H1.out.mono ?_
 rintro e w1 ⟨rfl, hb⟩
 have HB := Lib.hid hb
 clear hb H1
 go_wp2_with fail
 refine (H2.out _).mono ?_
 rintro e _ ⟨rfl, rfl⟩
 go_wp2_with fail
 go_loop [6, 7] (fun n i => ∃ (k : Nat) (m : Int), k ≤ l.length ∧ i = .int .i64 k ∧ n = .int .i64 m) (fun _ i => l.length - (intOf i).toNat)
 case atStart => exact ⟨0, 0, by omega, rfl, rfl⟩
 case round =>
  obtain ⟨k, m, hk, rfl, rfl⟩ := hrel
  by_cases hlt : k < l.length
  ·obtain ⟨bk, off, rfl, hc⟩ := (HV.out.below HB.out).cells (by rw [prs_len]; omega)
   have hbl := hc.1
   have i1 : (k : Int) < (l.length : Int) := by omega
   have c0 := hc.at (prs_at hlt) 0 rfl
   have c1 := hc.at (prs_at hlt) 1 rfl
   simp only [Nat.add_zero] at c0
   clear hc
   cases hle : decide (l[k].1 ≤ inc)
   ·go_wp2_with fail
    go_round
    case rel => exact ⟨k + 1, _, by omega, by go_num, rfl⟩
    case measure => simp [intOf]; omega
   ·go_wp2_with fail
    go_round
    case rel => exact ⟨k + 1, _, by omega, by go_num, rfl⟩
    case measure => simp [intOf]; omega
  ·obtain rfl : k = l.length := by omega
   go_wp2_with fail
   go_ret2
   first | exact ⟨_, rfl, HB.out⟩ | exact ⟨rfl, HB.out⟩ | exact ⟨⟨_, rfl⟩, HB.out⟩
set_option maxRecDepth 100000 in
set_option maxHeartbeats 2000000 in
theorem Formula_ok (t : Tf) (ht : TfOk t) (w : World) (hs : TfSl w t) (inc cnt : Int) (hi : 0 ≤ inc ∧ inc ≤ 1000000000) (hc : 1 ≤ cnt ∧ cnt ≤ 53) :
  Calls Tryz.prog 97 #[.agg t.vals.toArray, .int .i64 inc, .int .i64 cnt] w fun e w' => ∃ n : Int, e = .returned (.tuple #[.int .i64 n, .int .i64 0]) ∧ Below w.heap.size w w' := by
 obtain ⟨me, bv, brs, al, cr, un, mo, rv, rows⟩ := t
 have H1 := Lib.hid fun (y : World) (hy : Below w.heap.size w y) => TValid_ok ⟨me, bv, brs, al, cr, un, mo, rv, rows⟩ ht y (hs.below hy)
 have H2 := Lib.hid fun w => in30_ok (n := inc) (m := 1000000000) w hi
 have hp0 : 0 ≤ inc * cnt := Int.mul_nonneg hi.1 (by omega)
 have hp1 : inc * cnt ≤ 1000000000 * 53 := Int.le_trans (Int.mul_le_mul_of_nonneg_left hc.2 hi.1) (Int.mul_le_mul_of_nonneg_right hi.2 (by omega))
 obtain ⟨X, hX⟩ : ∃ X, inc * cnt = X := ⟨_, rfl⟩
 rw [hX] at hp0 hp1
 have H3 := Lib.hid fun (y : World) (hy : Below w.heap.size w y) => tax30_ok ⟨me, bv, brs, al, cr, un, mo, rv, rows⟩ ht y brs bv al cr X (hs.brs.below hy) (by have := ht.brs.2; dsimp only at this; omega) (ht.brs.1.more (by omega) (by omega)) (by have := ht.allow; dsimp only at this; omega) (by omega)
 simp only [Tf.vals] at H1 H3
 have e1 : IntKind.i64.wrap X = X := IntWalk.i64_in _ (by omega)
 have d1 : decide (cnt < 1) = false := decide_eq_false (by omega)
 have d2 : decide ((53 : Int) < cnt) = false := decide_eq_false (by omega)
 have d3 : ¬ cnt = 0 := by omega
 clear hs
 clear ht
 try dsimp only at *
 show Calls Tryz.prog 97 #[.agg #[.int .i64 me, bv, .int .i64 al, .int .i64 cr, .int .i64 un, .int .i64 mo, rv], .int .i64 inc, .int .i64 cnt] w _
 go_enter Tryz.func97, Tryz.ntmps97
 go_upto_region 1 with (fail)
 have kk : Below w.heap.size w (w.alloc (.cells #[.int .i64 me, bv, .int .i64 al, .int .i64 cr, .int .i64 un, .int .i64 mo, rv] 55)) := (Below.refl _ _).alloc (Nat.le_refl _) _
 have T_1 := Row.new w 55 #[.int .i64 me, bv, .int .i64 al, .int .i64 cr, .int .i64 un, .int .i64 mo, rv]
 have hsT : (w.alloc (.cells #[.int .i64 me, bv, .int .i64 al, .int .i64 cr, .int .i64 un, .int .i64 mo, rv] 55)).heap.size = w.heap.size + 1 := by simp
 obtain ⟨w1, hw⟩ : ∃ w1, w.alloc (.cells #[.int .i64 me, bv, .int .i64 al, .int .i64 cr, .int .i64 un, .int .i64 mo, rv] 55) = w1 := ⟨_, rfl⟩
 rw [hw] at kk T_1 hsT ⊢
 clear hw
 obtain ⟨gT, hg⟩ : ∃ gT, w.heap.size = gT := ⟨_, rfl⟩
 rw [hg] at T_1 hsT ⊢
 have zT : w.heap.size ≤ gT := by omega
 clear hg
 have b1 := Lib.hid kk
 clear kk
 have cT0 : w1.cell? ⟨gT, 0, none⟩ = some (.int .i64 me) := Row.cell T_1 0
 have cT1 : w1.cell? ⟨gT, 1, none⟩ = some (bv) := Row.cell T_1 1
 have cT2 : w1.cell? ⟨gT, 2, none⟩ = some (.int .i64 al) := Row.cell T_1 2
 have cT3 : w1.cell? ⟨gT, 3, none⟩ = some (.int .i64 cr) := Row.cell T_1 3
 have cT4 : w1.cell? ⟨gT, 4, none⟩ = some (.int .i64 un) := Row.cell T_1 4
 have cT5 : w1.cell? ⟨gT, 5, none⟩ = some (.int .i64 mo) := Row.cell T_1 5
 have cT6 : w1.cell? ⟨gT, 6, none⟩ = some (rv) := Row.cell T_1 6
 have lT := Row.lt T_1
 go_wp2_with fail
 refine (H1.out _ b1.out).mono ?_
 rintro e w2 ⟨rfl, k2⟩
 have T_2 := Row.below T_1 k2 T_1.lt
 have b2 := Lib.hid (below_after b1.out k2 b1.out.size)
 clear T_1 b1 k2
 have cT0 : w2.cell? ⟨gT, 0, none⟩ = some (.int .i64 me) := Row.cell T_2 0
 have cT1 : w2.cell? ⟨gT, 1, none⟩ = some (bv) := Row.cell T_2 1
 have cT2 : w2.cell? ⟨gT, 2, none⟩ = some (.int .i64 al) := Row.cell T_2 2
 have cT3 : w2.cell? ⟨gT, 3, none⟩ = some (.int .i64 cr) := Row.cell T_2 3
 have cT4 : w2.cell? ⟨gT, 4, none⟩ = some (.int .i64 un) := Row.cell T_2 4
 have cT5 : w2.cell? ⟨gT, 5, none⟩ = some (.int .i64 mo) := Row.cell T_2 5
 have cT6 : w2.cell? ⟨gT, 6, none⟩ = some (rv) := Row.cell T_2 6
 have lT := Row.lt T_2
 go_wp2_with fail
 refine (H2.out _).mono ?_
 rintro e _ ⟨rfl, rfl⟩
 go_wp2_with fail
 refine (H3.out _ b2.out).mono ?_
 rintro e w9 ⟨n, rfl, k9⟩
 have HE := Lib.hid (below_after b2.out k9 b2.out.size)
 clear k9 H3 H1 H2
 go_wp2_with fail
 go_ret2
 first | exact ⟨_, rfl, HE.out⟩ | exact ⟨rfl, HE.out⟩ | exact ⟨⟨_, rfl⟩, HE.out⟩
set_option maxRecDepth 100000 in
set_option maxHeartbeats 2000000 in
theorem Due_ok (t : Tf) (ht : TfOk t) (w : World) (hs : TfSl w t) (cnt k tot : Int) (hc : 1 ≤ cnt ∧ cnt ≤ 53) (hk : 1 ≤ k ∧ k ≤ cnt) (hi : 0 ≤ tot ∧ tot ≤ 1000000000000) :
  Calls Tryz.prog 132 #[.agg t.vals.toArray, .int .i64 cnt, .int .i64 k, .int .i64 tot] w fun e w' => ∃ n : Int, e = .returned (.tuple #[.int .i64 n, .int .i64 0]) ∧ Below w.heap.size w w' := by
 obtain ⟨me, bv, brs, al, cr, un, mo, rv, rows⟩ := t
 have H1 := Lib.hid fun (y : World) (hy : Below w.heap.size w y) => TValid_ok ⟨me, bv, brs, al, cr, un, mo, rv, rows⟩ ht y (hs.below hy)
 have H2 := Lib.hid fun w => in30_ok (n := tot) (m := 1000000000000) w hi
 have hal := ht.allow
 have hcr := ht.credit
 dsimp only at hal hcr
 have hp0 : 0 ≤ al * k := Int.mul_nonneg hal.1 (by omega)
 have hp1 : al * k ≤ al * cnt := Int.mul_le_mul_of_nonneg_left hk.2 hal.1
 have hp2 : al * k ≤ 1200000 * 53 := Int.le_trans (Int.mul_le_mul_of_nonneg_left (show k ≤ 53 by omega) hal.1) (Int.mul_le_mul_of_nonneg_right hal.2 (by omega))
 have hp3 : 0 ≤ cr * k := Int.mul_nonneg hcr.1 (by omega)
 have hp4 : cr * k ≤ 12000 * 53 := Int.le_trans (Int.mul_le_mul_of_nonneg_left (show k ≤ 53 by omega) hcr.1) (Int.mul_le_mul_of_nonneg_right hcr.2 (by omega))
 obtain ⟨X, hX⟩ : ∃ X, al * k = X := ⟨_, rfl⟩
 obtain ⟨Y, hY⟩ : ∃ Y, cr * k = Y := ⟨_, rfl⟩
 rw [hX] at hp0 hp2
 rw [hY] at hp3 hp4
 have hx0 : 0 ≤ X / cnt := Int.ediv_nonneg hp0 (by omega)
 have hx1 : X / cnt ≤ X := Int.ediv_le_self _ hp0
 have hy0 : 0 ≤ Y / cnt := Int.ediv_nonneg hp3 (by omega)
 have hy1 : Y / cnt ≤ Y := Int.ediv_le_self _ hp3
 have e1 : IntKind.i64.wrap X = X := IntWalk.i64_in _ (by omega)
 have e2 : IntKind.i64.wrap Y = Y := IntWalk.i64_in _ (by omega)
 have e3 : X.tdiv cnt = X / cnt := Int.tdiv_eq_ediv_of_nonneg hp0
 have e4 : Y.tdiv cnt = Y / cnt := Int.tdiv_eq_ediv_of_nonneg hp3
 have e5 : IntKind.i64.wrap (X / cnt) = X / cnt := IntWalk.i64_in _ (by omega)
 have e6 : IntKind.i64.wrap (Y / cnt) = Y / cnt := IntWalk.i64_in _ (by omega)
 have H3 := Lib.hid fun (y : World) (u : Value) (out : List (Int × Int)) (hu : Sl y 2 u (prs out)) (hb : Tbl 1000000000000 1000000 out) (hl : out.length ≤ 24) => tax30_ok ⟨me, bv, brs, al, cr, un, mo, rv, rows⟩ ht y out u (X / cnt) (Y / cnt) tot hu hl hb (by omega) hi
 have H4 := Lib.hid fun (y : World) (hy : Below w.heap.size w y) => Scale_ok brs bv k cnt y (hs.brs.below hy) (by have := ht.brs.2; dsimp only at this; omega) (ht.brs.1.more (by omega) (by omega)) hc (by omega)
 simp only [Tf.vals] at H1 H3
 have d1 : decide (cnt < 1) = false := decide_eq_false (by omega)
 have d2 : decide ((53 : Int) < cnt) = false := decide_eq_false (by omega)
 have d3 : ¬ cnt = 0 := by omega
 have d4 : decide (k < 1) = false := decide_eq_false (by omega)
 have d5 : decide (cnt < k) = false := decide_eq_false (by omega)
 clear hs hp1
 clear ht
 try dsimp only at *
 show Calls Tryz.prog 132 #[.agg #[.int .i64 me, bv, .int .i64 al, .int .i64 cr, .int .i64 un, .int .i64 mo, rv], .int .i64 cnt, .int .i64 k, .int .i64 tot] w _
 go_enter Tryz.func132, Tryz.ntmps132
 go_upto_region 1 with (fail)
 have kk : Below w.heap.size w (w.alloc (.cells #[.int .i64 me, bv, .int .i64 al, .int .i64 cr, .int .i64 un, .int .i64 mo, rv] 55)) := (Below.refl _ _).alloc (Nat.le_refl _) _
 have T_1 := Row.new w 55 #[.int .i64 me, bv, .int .i64 al, .int .i64 cr, .int .i64 un, .int .i64 mo, rv]
 have hsT : (w.alloc (.cells #[.int .i64 me, bv, .int .i64 al, .int .i64 cr, .int .i64 un, .int .i64 mo, rv] 55)).heap.size = w.heap.size + 1 := by simp
 obtain ⟨w1, hw⟩ : ∃ w1, w.alloc (.cells #[.int .i64 me, bv, .int .i64 al, .int .i64 cr, .int .i64 un, .int .i64 mo, rv] 55) = w1 := ⟨_, rfl⟩
 rw [hw] at kk T_1 hsT ⊢
 clear hw
 obtain ⟨gT, hg⟩ : ∃ gT, w.heap.size = gT := ⟨_, rfl⟩
 rw [hg] at T_1 hsT ⊢
 have zT : w.heap.size ≤ gT := by omega
 clear hg
 have b1 := Lib.hid kk
 clear kk
 have cT0 : w1.cell? ⟨gT, 0, none⟩ = some (.int .i64 me) := Row.cell T_1 0
 have cT1 : w1.cell? ⟨gT, 1, none⟩ = some (bv) := Row.cell T_1 1
 have cT2 : w1.cell? ⟨gT, 2, none⟩ = some (.int .i64 al) := Row.cell T_1 2
 have cT3 : w1.cell? ⟨gT, 3, none⟩ = some (.int .i64 cr) := Row.cell T_1 3
 have cT4 : w1.cell? ⟨gT, 4, none⟩ = some (.int .i64 un) := Row.cell T_1 4
 have cT5 : w1.cell? ⟨gT, 5, none⟩ = some (.int .i64 mo) := Row.cell T_1 5
 have cT6 : w1.cell? ⟨gT, 6, none⟩ = some (rv) := Row.cell T_1 6
 have lT := Row.lt T_1
 go_wp2_with fail
 refine (H1.out _ b1.out).mono ?_
 rintro e w2 ⟨rfl, k2⟩
 have T_2 := Row.below T_1 k2 T_1.lt
 have b2 := Lib.hid (below_after b1.out k2 b1.out.size)
 clear T_1 b1 k2
 have cT0 : w2.cell? ⟨gT, 0, none⟩ = some (.int .i64 me) := Row.cell T_2 0
 have cT1 : w2.cell? ⟨gT, 1, none⟩ = some (bv) := Row.cell T_2 1
 have cT2 : w2.cell? ⟨gT, 2, none⟩ = some (.int .i64 al) := Row.cell T_2 2
 have cT3 : w2.cell? ⟨gT, 3, none⟩ = some (.int .i64 cr) := Row.cell T_2 3
 have cT4 : w2.cell? ⟨gT, 4, none⟩ = some (.int .i64 un) := Row.cell T_2 4
 have cT5 : w2.cell? ⟨gT, 5, none⟩ = some (.int .i64 mo) := Row.cell T_2 5
 have cT6 : w2.cell? ⟨gT, 6, none⟩ = some (rv) := Row.cell T_2 6
 have lT := Row.lt T_2
 go_wp2_with fail
 refine (H2.out _).mono ?_
 rintro e _ ⟨rfl, rfl⟩
 go_wp2_with fail
 refine (H4.out _ b2.out).mono ?_
 rintro e w3 ⟨u, out, rfl, hot, hol, hown, k3⟩
 have T_3 := Row.below T_2 k3 T_2.lt
 have b3 := Lib.hid (below_after b2.out k3 b2.out.size)
 clear T_2 b2 k3
 have HOW := Lib.hid hown
 have HOT := Lib.hid hot
 clear hown hot H1 H2 H4
 have cT0 : w3.cell? ⟨gT, 0, none⟩ = some (.int .i64 me) := Row.cell T_3 0
 have cT1 : w3.cell? ⟨gT, 1, none⟩ = some (bv) := Row.cell T_3 1
 have cT2 : w3.cell? ⟨gT, 2, none⟩ = some (.int .i64 al) := Row.cell T_3 2
 have cT3 : w3.cell? ⟨gT, 3, none⟩ = some (.int .i64 cr) := Row.cell T_3 3
 have cT4 : w3.cell? ⟨gT, 4, none⟩ = some (.int .i64 un) := Row.cell T_3 4
 have cT5 : w3.cell? ⟨gT, 5, none⟩ = some (.int .i64 mo) := Row.cell T_3 5
 have cT6 : w3.cell? ⟨gT, 6, none⟩ = some (rv) := Row.cell T_3 6
 have lT := Row.lt T_3
 have HX := Lib.hid (H3.out w3.drew u out ((HOW.out.drew).sl (by omega)) HOT.out hol)
 have HBD := Lib.hid (Below.drew b3.out)
 clear H3 HOW HOT
 go_upto_region 6 with (fail)
 go_region_with (go_at_call 131; refine HX.out.mono ?_; rintro e w9 ⟨n, rfl, k9⟩; have HE := Lib.hid (below_after HBD.out k9 HBD.out.size); clear k9)
 all_goals
  go_wp2_with fail
  go_ret2
  first | exact ⟨_, rfl, HE.out⟩ | exact ⟨rfl, HE.out⟩ | exact ⟨⟨_, rfl⟩, HE.out⟩
set_option maxRecDepth 100000 in
set_option maxHeartbeats 2000000 in
theorem Cumulative_ok (t : Tf) (ht : TfOk t) (w : World) (hs : TfSl w t) (cnt k tot wh : Int) (hc : 1 ≤ cnt ∧ cnt ≤ 53) (hk : 1 ≤ k ∧ k ≤ cnt) (hi : 0 ≤ tot ∧ tot ≤ 1000000000000) (hw : -1000000000000 ≤ wh ∧ wh ≤ 1000000000000) :
  Calls Tryz.prog 98 #[.agg t.vals.toArray, .int .i64 cnt, .int .i64 k, .int .i64 tot, .int .i64 wh] w fun e w' => ∃ n : Int, e = .returned (.tuple #[.int .i64 n, .int .i64 0]) ∧ Below w.heap.size w w' := by
 obtain ⟨me, bv, brs, al, cr, un, mo, rv, rows⟩ := t
 have H1 := Lib.hid fun (y : World) (hy : Below w.heap.size w y) => Due_ok ⟨me, bv, brs, al, cr, un, mo, rv, rows⟩ ht y (hs.below hy) cnt k tot hc hk hi
 simp only [Tf.vals] at H1
 have d1 : decide (wh < -1000000000000) = false := decide_eq_false (by omega)
 have d2 : decide ((1000000000000 : Int) < wh) = false := decide_eq_false (by omega)
 clear hs
 clear ht
 try dsimp only at *
 show Calls Tryz.prog 98 #[.agg #[.int .i64 me, bv, .int .i64 al, .int .i64 cr, .int .i64 un, .int .i64 mo, rv], .int .i64 cnt, .int .i64 k, .int .i64 tot, .int .i64 wh] w _
 go_enter Tryz.func98, Tryz.ntmps98
 go_upto_region 1 with (fail)
 have kk : Below w.heap.size w (w.alloc (.cells #[.int .i64 me, bv, .int .i64 al, .int .i64 cr, .int .i64 un, .int .i64 mo, rv] 55)) := (Below.refl _ _).alloc (Nat.le_refl _) _
 have T_1 := Row.new w 55 #[.int .i64 me, bv, .int .i64 al, .int .i64 cr, .int .i64 un, .int .i64 mo, rv]
 have hsT : (w.alloc (.cells #[.int .i64 me, bv, .int .i64 al, .int .i64 cr, .int .i64 un, .int .i64 mo, rv] 55)).heap.size = w.heap.size + 1 := by simp
 obtain ⟨w1, hw⟩ : ∃ w1, w.alloc (.cells #[.int .i64 me, bv, .int .i64 al, .int .i64 cr, .int .i64 un, .int .i64 mo, rv] 55) = w1 := ⟨_, rfl⟩
 rw [hw] at kk T_1 hsT ⊢
 clear hw
 obtain ⟨gT, hg⟩ : ∃ gT, w.heap.size = gT := ⟨_, rfl⟩
 rw [hg] at T_1 hsT ⊢
 have zT : w.heap.size ≤ gT := by omega
 clear hg
 have b1 := Lib.hid kk
 clear kk
 have cT0 : w1.cell? ⟨gT, 0, none⟩ = some (.int .i64 me) := Row.cell T_1 0
 have cT1 : w1.cell? ⟨gT, 1, none⟩ = some (bv) := Row.cell T_1 1
 have cT2 : w1.cell? ⟨gT, 2, none⟩ = some (.int .i64 al) := Row.cell T_1 2
 have cT3 : w1.cell? ⟨gT, 3, none⟩ = some (.int .i64 cr) := Row.cell T_1 3
 have cT4 : w1.cell? ⟨gT, 4, none⟩ = some (.int .i64 un) := Row.cell T_1 4
 have cT5 : w1.cell? ⟨gT, 5, none⟩ = some (.int .i64 mo) := Row.cell T_1 5
 have cT6 : w1.cell? ⟨gT, 6, none⟩ = some (rv) := Row.cell T_1 6
 have lT := Row.lt T_1
 go_wp2_with fail
 refine (H1.out _ b1.out).mono ?_
 rintro e w9 ⟨n, rfl, k9⟩
 have HE := Lib.hid (below_after b1.out k9 b1.out.size)
 clear k9 H1
 go_wp2_with fail
 go_ret2
 first | exact ⟨_, rfl, HE.out⟩ | exact ⟨rfl, HE.out⟩ | exact ⟨⟨_, rfl⟩, HE.out⟩
set_option maxRecDepth 100000 in
set_option maxHeartbeats 4000000 in
theorem Withhold_ok (t : Tf) (ht : TfOk t) (w : World) (hs : TfSl w t) (cnt : Int) (k : Nat) (yi yw : Int) (iv tv : Value) (inc : Int) (hc : 1 ≤ cnt ∧ cnt ≤ 53) (hk : (k : Int) < cnt) (hyi : 0 ≤ yi ∧ yi ≤ 100000000) (hyw : 0 ≤ yw ∧ yw ≤ 100000000) (hi : 0 ≤ inc ∧ inc ≤ 1000000000) :
  Calls Tryz.prog 49 #[.agg t.vals.toArray, .int .i64 cnt, .agg #[.int .i64 (k : Int), .int .i64 yi, .int .i64 yw, iv, tv], .int .i64 inc] w fun e w' => ∃ n : Int, e = .returned (.tuple #[.int .i64 n, .int .i64 0]) ∧ Below w.heap.size w w' := by
 obtain ⟨me, bv, brs, al, cr, un, mo, rv, rows⟩ := t
 have H1 := Lib.hid fun (y : World) (hy : Below w.heap.size w y) => TValid_ok ⟨me, bv, brs, al, cr, un, mo, rv, rows⟩ ht y (hs.below hy)
 have H2 := Lib.hid fun w => in30_ok (n := inc) (m := 1000000000) w hi
 have H3 := Lib.hid fun w => in30_ok (n := yi) (m := 999000000000) w (by omega)
 have H4 := Lib.hid fun (h1 : me = 1) (y : World) (hy : Below w.heap.size w y) => Lookup_ok rows rv inc y (hs.rows.below hy) (by have := (ht.rows.1 h1).2; dsimp only at this; omega) ((ht.rows.1 h1).1.more (by omega) (by omega)) hi
 have H5 := Lib.hid fun (y : World) (hy : Below w.heap.size w y) => Formula_ok ⟨me, bv, brs, al, cr, un, mo, rv, rows⟩ ht y (hs.below hy) inc cnt hi hc
 have H6 := Lib.hid fun (y : World) (hy : Below w.heap.size w y) => Cumulative_ok ⟨me, bv, brs, al, cr, un, mo, rv, rows⟩ ht y (hs.below hy) cnt ((k : Int) + 1) (yi + inc) yw hc (by omega) (by omega) (by omega)
 simp only [Tf.vals] at H1 H5 H6
 have e1 : IntKind.i64.wrap ((k : Int) + 1) = (k : Int) + 1 := IntWalk.i64_in _ (by omega)
 have e2 : IntKind.i64.wrap (yi + inc) = yi + inc := IntWalk.i64_in _ (by omega)
 have d1 : decide (cnt < 1) = false := decide_eq_false (by omega)
 have d2 : decide ((53 : Int) < cnt) = false := decide_eq_false (by omega)
 have d3 : decide ((k : Int) < 0) = false := decide_eq_false (by omega)
 have d4 : decide (cnt ≤ (k : Int)) = false := decide_eq_false (by omega)
 have d5 : decide (yw < -1000000000000) = false := decide_eq_false (by omega)
 have d6 : decide ((1000000000000 : Int) < yw) = false := decide_eq_false (by omega)
 clear hs
 clear ht
 try dsimp only at *
 show Calls Tryz.prog 49 #[.agg #[.int .i64 me, bv, .int .i64 al, .int .i64 cr, .int .i64 un, .int .i64 mo, rv], .int .i64 cnt, .agg #[.int .i64 (k : Int), .int .i64 yi, .int .i64 yw, iv, tv], .int .i64 inc] w _
 go_enter Tryz.func49, Tryz.ntmps49
 go_upto_region 1 with (fail)
 have kk : Below w.heap.size w (w.alloc (.cells #[.int .i64 me, bv, .int .i64 al, .int .i64 cr, .int .i64 un, .int .i64 mo, rv] 55)) := (Below.refl _ _).alloc (Nat.le_refl _) _
 have T_1 := Row.new w 55 #[.int .i64 me, bv, .int .i64 al, .int .i64 cr, .int .i64 un, .int .i64 mo, rv]
 have hsT : (w.alloc (.cells #[.int .i64 me, bv, .int .i64 al, .int .i64 cr, .int .i64 un, .int .i64 mo, rv] 55)).heap.size = w.heap.size + 1 := by simp
 obtain ⟨w1, hw⟩ : ∃ w1, w.alloc (.cells #[.int .i64 me, bv, .int .i64 al, .int .i64 cr, .int .i64 un, .int .i64 mo, rv] 55) = w1 := ⟨_, rfl⟩
 rw [hw] at kk T_1 hsT ⊢
 clear hw
 obtain ⟨gT, hg⟩ : ∃ gT, w.heap.size = gT := ⟨_, rfl⟩
 rw [hg] at T_1 hsT ⊢
 have zT : w.heap.size ≤ gT := by omega
 clear hg
 have b1 := Lib.hid kk
 clear kk
 have kk : Below w1.heap.size w1 (w1.alloc (.cells #[.int .i64 (k : Int), .int .i64 yi, .int .i64 yw, iv, tv] 67)) := (Below.refl _ _).alloc (Nat.le_refl _) _
 have Y_2 := Row.new w1 67 #[.int .i64 (k : Int), .int .i64 yi, .int .i64 yw, iv, tv]
 have hsY : (w1.alloc (.cells #[.int .i64 (k : Int), .int .i64 yi, .int .i64 yw, iv, tv] 67)).heap.size = w1.heap.size + 1 := by simp
 obtain ⟨w2, hw⟩ : ∃ w2, w1.alloc (.cells #[.int .i64 (k : Int), .int .i64 yi, .int .i64 yw, iv, tv] 67) = w2 := ⟨_, rfl⟩
 rw [hw] at kk Y_2 hsY ⊢
 clear hw
 obtain ⟨gY, hg⟩ : ∃ gY, gT + 1 = gY := ⟨_, rfl⟩
 rw [hsT, hg] at Y_2 hsY
 rw [hg]
 have hg : w1.heap.size = gY := by rw [hsT, hg]
 have zY : w.heap.size ≤ gY := by have := b1.out.size; omega
 clear hg hsT
 have T_2 := Row.below T_1 kk T_1.lt
 have b2 := Lib.hid (below_after b1.out kk b1.out.size)
 clear T_1 b1 kk
 have cY0 : w2.cell? ⟨gY, 0, none⟩ = some (.int .i64 (k : Int)) := Row.cell Y_2 0
 have cY1 : w2.cell? ⟨gY, 1, none⟩ = some (.int .i64 yi) := Row.cell Y_2 1
 have cY2 : w2.cell? ⟨gY, 2, none⟩ = some (.int .i64 yw) := Row.cell Y_2 2
 have cY3 : w2.cell? ⟨gY, 3, none⟩ = some (iv) := Row.cell Y_2 3
 have cY4 : w2.cell? ⟨gY, 4, none⟩ = some (tv) := Row.cell Y_2 4
 have lY := Row.lt Y_2
 have cT0 : w2.cell? ⟨gT, 0, none⟩ = some (.int .i64 me) := Row.cell T_2 0
 have cT1 : w2.cell? ⟨gT, 1, none⟩ = some (bv) := Row.cell T_2 1
 have cT2 : w2.cell? ⟨gT, 2, none⟩ = some (.int .i64 al) := Row.cell T_2 2
 have cT3 : w2.cell? ⟨gT, 3, none⟩ = some (.int .i64 cr) := Row.cell T_2 3
 have cT4 : w2.cell? ⟨gT, 4, none⟩ = some (.int .i64 un) := Row.cell T_2 4
 have cT5 : w2.cell? ⟨gT, 5, none⟩ = some (.int .i64 mo) := Row.cell T_2 5
 have cT6 : w2.cell? ⟨gT, 6, none⟩ = some (rv) := Row.cell T_2 6
 have lT := Row.lt T_2
 go_wp2_with fail
 refine (H1.out _ b2.out).mono ?_
 rintro e w3 ⟨rfl, k3⟩
 have T_3 := Row.below T_2 k3 T_2.lt
 have Y_3 := Row.below Y_2 k3 Y_2.lt
 have b3 := Lib.hid (below_after b2.out k3 b2.out.size)
 clear T_2 Y_2 b2 k3
 have cT0 : w3.cell? ⟨gT, 0, none⟩ = some (.int .i64 me) := Row.cell T_3 0
 have cT1 : w3.cell? ⟨gT, 1, none⟩ = some (bv) := Row.cell T_3 1
 have cT2 : w3.cell? ⟨gT, 2, none⟩ = some (.int .i64 al) := Row.cell T_3 2
 have cT3 : w3.cell? ⟨gT, 3, none⟩ = some (.int .i64 cr) := Row.cell T_3 3
 have cT4 : w3.cell? ⟨gT, 4, none⟩ = some (.int .i64 un) := Row.cell T_3 4
 have cT5 : w3.cell? ⟨gT, 5, none⟩ = some (.int .i64 mo) := Row.cell T_3 5
 have cT6 : w3.cell? ⟨gT, 6, none⟩ = some (rv) := Row.cell T_3 6
 have lT := Row.lt T_3
 have cY0 : w3.cell? ⟨gY, 0, none⟩ = some (.int .i64 (k : Int)) := Row.cell Y_3 0
 have cY1 : w3.cell? ⟨gY, 1, none⟩ = some (.int .i64 yi) := Row.cell Y_3 1
 have cY2 : w3.cell? ⟨gY, 2, none⟩ = some (.int .i64 yw) := Row.cell Y_3 2
 have cY3 : w3.cell? ⟨gY, 3, none⟩ = some (iv) := Row.cell Y_3 3
 have cY4 : w3.cell? ⟨gY, 4, none⟩ = some (tv) := Row.cell Y_3 4
 have lY := Row.lt Y_3
 go_wp2_with fail
 refine (H2.out _).mono ?_
 rintro e _ ⟨rfl, rfl⟩
 go_wp2_with fail
 refine (H3.out _).mono ?_
 rintro e _ ⟨rfl, rfl⟩
 clear H1 H2 H3
 by_cases h1 : me = 1
 ·have q1 : (me == 1) = true := by simp [h1]
  have HT := Lib.hid (H4.out h1 _ b3.out)
  clear h1 H4 H5 H6
  go_wp2_with fail
  refine (HT.out).mono ?_
  rintro e w9 ⟨n, rfl, k9⟩
  have HE := Lib.hid (below_after b3.out k9 b3.out.size)
  clear k9
  go_wp2_with fail
  go_ret2
  first | exact ⟨_, rfl, HE.out⟩ | exact ⟨rfl, HE.out⟩ | exact ⟨⟨_, rfl⟩, HE.out⟩
 ·have q1 : (me == 1) = false := by simpa using h1
  by_cases h2 : me = 2
  ·have q2 : (me == 2) = true := by simp [h2]
   clear h1 h2 H4 H6
   go_wp2_with fail
   refine (H5.out _ b3.out).mono ?_
   rintro e w9 ⟨n, rfl, k9⟩
   have HE := Lib.hid (below_after b3.out k9 b3.out.size)
   clear k9
   go_wp2_with fail
   go_ret2
   first | exact ⟨_, rfl, HE.out⟩ | exact ⟨rfl, HE.out⟩ | exact ⟨⟨_, rfl⟩, HE.out⟩
  ·have q2 : (me == 2) = false := by simpa using h2
   clear h1 h2 H4 H5
   go_wp2_with fail
   refine (H6.out _ b3.out).mono ?_
   rintro e w9 ⟨n, rfl, k9⟩
   have HE := Lib.hid (below_after b3.out k9 b3.out.size)
   clear k9
   go_wp2_with fail
   go_ret2
   first | exact ⟨_, rfl, HE.out⟩ | exact ⟨rfl, HE.out⟩ | exact ⟨⟨_, rfl⟩, HE.out⟩
end Go.Proofs.YtogdefomigiepaaGreatDoor
/- Contracts of payrollref31: ValidShield, check, Lower, Protected, Claim. Written by gen_r31.py. -/
namespace Go.Proofs.YtogdefomigiepaaGreatDoor
open Go.RowKit

def Sh.vals (s : Sh) : List Value := [.int .i64 s.fixed, .int .i64 s.dep, .int .i64 s.lower, .int .i64 s.share, .int .i64 s.top]
set_option maxRecDepth 100000 in
set_option maxHeartbeats 2000000 in
theorem Shield_ok (s : Sh) (hs : ShOk s) (w : World)  :
    Calls Tryz.prog 99 #[.agg s.vals.toArray] w fun e w' => e = .returned (.bool true) ∧ Below w.heap.size w w' := by
  obtain ⟨fx, de, lo, sh, tp⟩ := s
  obtain ⟨⟨a1, a2⟩, ⟨b1, b2⟩, ⟨c1, c2⟩, ⟨d1, d2⟩, ⟨e1, e2⟩⟩ := hs
  dsimp only at a1 a2 b1 b2 c1 c2 d1 d2 e1 e2
  have H1 := Lib.hid fun w => in31_ok (n := fx) (m := 1000000000) w ⟨a1, by omega⟩
  have H2 := Lib.hid fun w => in31_ok (n := de) (m := 1000000000) w ⟨b1, by omega⟩
  have H3 := Lib.hid fun w => in31_ok (n := lo) (m := fx) w ⟨c1, c2⟩
  have H4 := Lib.hid fun w => in31_ok (n := tp) (m := 1000000000) w ⟨e1, by omega⟩
  have H5 := Lib.hid fun w => in31_ok (n := sh) (m := 1000000) w ⟨d1, d2⟩
  show Calls Tryz.prog 99 #[.agg #[.int .i64 fx, .int .i64 de, .int .i64 lo, .int .i64 sh, .int .i64 tp]] w _
  go_enter Tryz.func99, Tryz.ntmps99
  go_upto_region 1 with (fail)
  have kk : Below w.heap.size w (w.alloc (.cells #[.int .i64 fx, .int .i64 de, .int .i64 lo, .int .i64 sh, .int .i64 tp] 57)) := (Below.refl _ _).alloc (Nat.le_refl _) _
  have S_1 := Row.new w 57 #[.int .i64 fx, .int .i64 de, .int .i64 lo, .int .i64 sh, .int .i64 tp]
  have hsS : (w.alloc (.cells #[.int .i64 fx, .int .i64 de, .int .i64 lo, .int .i64 sh, .int .i64 tp] 57)).heap.size = w.heap.size + 1 := by simp
  obtain ⟨w1, hw⟩ : ∃ w1, w.alloc (.cells #[.int .i64 fx, .int .i64 de, .int .i64 lo, .int .i64 sh, .int .i64 tp] 57) = w1 := ⟨_, rfl⟩
  rw [hw] at kk S_1 hsS ⊢
  clear hw
  obtain ⟨gS, hg⟩ : ∃ gS, w.heap.size = gS := ⟨_, rfl⟩
  rw [hg] at S_1 hsS ⊢
  have zS : w.heap.size ≤ gS := by omega
  clear hg
  have b1 := Lib.hid kk
  clear kk
  have cS0 : w1.cell? ⟨gS, 0, none⟩ = some (.int .i64 fx) := Row.cell S_1 0
  have cS1 : w1.cell? ⟨gS, 1, none⟩ = some (.int .i64 de) := Row.cell S_1 1
  have cS2 : w1.cell? ⟨gS, 2, none⟩ = some (.int .i64 lo) := Row.cell S_1 2
  have cS3 : w1.cell? ⟨gS, 3, none⟩ = some (.int .i64 sh) := Row.cell S_1 3
  have cS4 : w1.cell? ⟨gS, 4, none⟩ = some (.int .i64 tp) := Row.cell S_1 4
  have lS := Row.lt S_1
  go_wp2_with fail
  refine (H1.out _).mono ?_
  rintro e _ ⟨rfl, rfl⟩
  go_wp2_with fail
  refine (H2.out _).mono ?_
  rintro e _ ⟨rfl, rfl⟩
  go_wp2_with fail
  refine (H3.out _).mono ?_
  rintro e _ ⟨rfl, rfl⟩
  go_wp2_with fail
  refine (H4.out _).mono ?_
  rintro e _ ⟨rfl, rfl⟩
  go_wp2_with fail
  refine (H5.out _).mono ?_
  rintro e _ ⟨rfl, rfl⟩
  go_wp2_with fail
  go_ret
  exact ⟨rfl, b1.out⟩
set_option maxRecDepth 100000 in
set_option maxHeartbeats 2000000 in
theorem check31_ok (s : Sh) (hs : ShOk s) (w : World) (net dp : Int) (hn : 0 ≤ net ∧ net ≤ 1000000000) (hd : 0 ≤ dp ∧ dp ≤ 20) :
  Calls Tryz.prog 134 #[.agg s.vals.toArray, .int .i64 net, .int .i64 dp] w fun e w' => e = .returned (.int .i64 0) ∧ Below w.heap.size w w' := by
 obtain ⟨fx, de, lo, sh, tp⟩ := s
 have H1 := Lib.hid fun y => Shield_ok ⟨fx, de, lo, sh, tp⟩ hs y
 simp only [Sh.vals] at H1
 have H2 := Lib.hid fun w => in31_ok (n := net) (m := 1000000000) w hn
 have H3 := Lib.hid fun w => in31_ok (n := dp) (m := 20) w hd
 clear hs
 show Calls Tryz.prog 134 #[.agg #[.int .i64 fx, .int .i64 de, .int .i64 lo, .int .i64 sh, .int .i64 tp], .int .i64 net, .int .i64 dp] w _
 go_enter Tryz.func134, Tryz.ntmps134
 go_upto_region 1 with (fail)
 have kk : Below w.heap.size w (w.alloc (.cells #[.int .i64 fx, .int .i64 de, .int .i64 lo, .int .i64 sh, .int .i64 tp] 57)) := (Below.refl _ _).alloc (Nat.le_refl _) _
 have S_1 := Row.new w 57 #[.int .i64 fx, .int .i64 de, .int .i64 lo, .int .i64 sh, .int .i64 tp]
 have hsS : (w.alloc (.cells #[.int .i64 fx, .int .i64 de, .int .i64 lo, .int .i64 sh, .int .i64 tp] 57)).heap.size = w.heap.size + 1 := by simp
 obtain ⟨w1, hw⟩ : ∃ w1, w.alloc (.cells #[.int .i64 fx, .int .i64 de, .int .i64 lo, .int .i64 sh, .int .i64 tp] 57) = w1 := ⟨_, rfl⟩
 rw [hw] at kk S_1 hsS ⊢
 clear hw
 obtain ⟨gS, hg⟩ : ∃ gS, w.heap.size = gS := ⟨_, rfl⟩
 rw [hg] at S_1 hsS ⊢
 have zS : w.heap.size ≤ gS := by omega
 clear hg
 have b1 := Lib.hid kk
 clear kk
 have cS0 : w1.cell? ⟨gS, 0, none⟩ = some (.int .i64 fx) := Row.cell S_1 0
 have cS1 : w1.cell? ⟨gS, 1, none⟩ = some (.int .i64 de) := Row.cell S_1 1
 have cS2 : w1.cell? ⟨gS, 2, none⟩ = some (.int .i64 lo) := Row.cell S_1 2
 have cS3 : w1.cell? ⟨gS, 3, none⟩ = some (.int .i64 sh) := Row.cell S_1 3
 have cS4 : w1.cell? ⟨gS, 4, none⟩ = some (.int .i64 tp) := Row.cell S_1 4
 have lS := Row.lt S_1
 go_wp2_with fail
 refine (H1.out _).mono ?_
 rintro e w2 ⟨rfl, k2⟩
 have S_2 := Row.below S_1 k2 S_1.lt
 have b2 := Lib.hid (below_after b1.out k2 b1.out.size)
 clear S_1 b1 k2
 go_wp2_with fail
 refine (H2.out _).mono ?_
 rintro e _ ⟨rfl, rfl⟩
 go_wp2_with fail
 refine (H3.out _).mono ?_
 rintro e _ ⟨rfl, rfl⟩
 go_wp2_with fail
 go_ret
 exact ⟨rfl, b2.out⟩
set_option maxRecDepth 100000 in
set_option maxHeartbeats 2000000 in
theorem Lower_ok (s : Sh) (hs : ShOk s) (w : World) (net dp : Int) (hn : 0 ≤ net ∧ net ≤ 1000000000) (hd : 0 ≤ dp ∧ dp ≤ 20) :
  Calls Tryz.prog 101 #[.agg s.vals.toArray, .int .i64 net, .int .i64 dp] w fun e w' => ∃ n : Int, (0 ≤ n ∧ n ≤ net) ∧ e = .returned (.tuple #[.int .i64 n, .int .i64 0]) ∧ Below w.heap.size w w' := by
 obtain ⟨fx, de, lo, sh, tp⟩ := s
 have H1 := Lib.hid fun y => check31_ok ⟨fx, de, lo, sh, tp⟩ hs y net dp hn hd
 simp only [Sh.vals] at H1
 obtain ⟨⟨a1, a2⟩, ⟨b1, b2⟩, ⟨c1, c2⟩, ⟨d1, d2⟩, ⟨e1, e2⟩⟩ := hs
 dsimp only at a1 a2 b1 b2 c1 c2 d1 d2 e1 e2
 have hp0 : 0 ≤ de * dp := Int.mul_nonneg b1 hd.1
 have hp1 : de * dp ≤ 30000 * 20 := Int.le_trans (Int.mul_le_mul_of_nonneg_left hd.2 b1) (Int.mul_le_mul_of_nonneg_right b2 (by omega))
 obtain ⟨X, hX⟩ : ∃ X, de * dp = X := ⟨_, rfl⟩
 rw [hX] at hp0 hp1
 have s1 : IntKind.i64.wrap X = X := IntWalk.i64_in _ (by omega)
 have s2 : IntKind.i64.wrap (lo + X) = lo + X := IntWalk.i64_in _ (by omega)
 have HM : Hid (0 ≤ min net (lo + X) ∧ min net (lo + X) ≤ net) := ⟨by omega, by omega⟩
 show Calls Tryz.prog 101 #[.agg #[.int .i64 fx, .int .i64 de, .int .i64 lo, .int .i64 sh, .int .i64 tp], .int .i64 net, .int .i64 dp] w _
 go_enter Tryz.func101, Tryz.ntmps101
 go_upto_region 1 with (fail)
 have kk : Below w.heap.size w (w.alloc (.cells #[.int .i64 fx, .int .i64 de, .int .i64 lo, .int .i64 sh, .int .i64 tp] 57)) := (Below.refl _ _).alloc (Nat.le_refl _) _
 have S_1 := Row.new w 57 #[.int .i64 fx, .int .i64 de, .int .i64 lo, .int .i64 sh, .int .i64 tp]
 have hsS : (w.alloc (.cells #[.int .i64 fx, .int .i64 de, .int .i64 lo, .int .i64 sh, .int .i64 tp] 57)).heap.size = w.heap.size + 1 := by simp
 obtain ⟨w1, hw⟩ : ∃ w1, w.alloc (.cells #[.int .i64 fx, .int .i64 de, .int .i64 lo, .int .i64 sh, .int .i64 tp] 57) = w1 := ⟨_, rfl⟩
 rw [hw] at kk S_1 hsS ⊢
 clear hw
 obtain ⟨gS, hg⟩ : ∃ gS, w.heap.size = gS := ⟨_, rfl⟩
 rw [hg] at S_1 hsS ⊢
 have zS : w.heap.size ≤ gS := by omega
 clear hg
 have b1 := Lib.hid kk
 clear kk
 have cS0 : w1.cell? ⟨gS, 0, none⟩ = some (.int .i64 fx) := Row.cell S_1 0
 have cS1 : w1.cell? ⟨gS, 1, none⟩ = some (.int .i64 de) := Row.cell S_1 1
 have cS2 : w1.cell? ⟨gS, 2, none⟩ = some (.int .i64 lo) := Row.cell S_1 2
 have cS3 : w1.cell? ⟨gS, 3, none⟩ = some (.int .i64 sh) := Row.cell S_1 3
 have cS4 : w1.cell? ⟨gS, 4, none⟩ = some (.int .i64 tp) := Row.cell S_1 4
 have lS := Row.lt S_1
 go_wp2_with fail
 refine (H1.out _).mono ?_
 rintro e w2 ⟨rfl, k2⟩
 have S_2 := Row.below S_1 k2 S_1.lt
 have b2 := Lib.hid (below_after b1.out k2 b1.out.size)
 clear S_1 b1 k2
 have cS0 : w2.cell? ⟨gS, 0, none⟩ = some (.int .i64 fx) := Row.cell S_2 0
 have cS1 : w2.cell? ⟨gS, 1, none⟩ = some (.int .i64 de) := Row.cell S_2 1
 have cS2 : w2.cell? ⟨gS, 2, none⟩ = some (.int .i64 lo) := Row.cell S_2 2
 have cS3 : w2.cell? ⟨gS, 3, none⟩ = some (.int .i64 sh) := Row.cell S_2 3
 have cS4 : w2.cell? ⟨gS, 4, none⟩ = some (.int .i64 tp) := Row.cell S_2 4
 have lS := Row.lt S_2
 go_wp2_with fail
 go_ret2
 first | exact ⟨_, HM.out, rfl, b2.out⟩ | exact ⟨HM.out, rfl, b2.out⟩
set_option maxRecDepth 100000 in
set_option maxHeartbeats 2000000 in
theorem Protected_ok (s : Sh) (hs : ShOk s) (w : World) (net dp : Int) (hn : 0 ≤ net ∧ net ≤ 1000000000) (hd : 0 ≤ dp ∧ dp ≤ 20) :
  Calls Tryz.prog 102 #[.agg s.vals.toArray, .int .i64 net, .int .i64 dp] w fun e w' => ∃ n : Int, (0 ≤ n ∧ n ≤ 2000000000) ∧ e = .returned (.tuple #[.int .i64 n, .int .i64 0]) ∧ Below w.heap.size w w' := by
 obtain ⟨fx, de, lo, sh, tp⟩ := s
 have H1 := Lib.hid fun y => check31_ok ⟨fx, de, lo, sh, tp⟩ hs y net dp hn hd
 simp only [Sh.vals] at H1
 obtain ⟨⟨a1, a2⟩, ⟨b1, b2⟩, ⟨c1, c2⟩, ⟨d1, d2⟩, ⟨e1, e2⟩⟩ := hs
 dsimp only at a1 a2 b1 b2 c1 c2 d1 d2 e1 e2
 have hp0 : 0 ≤ de * dp := Int.mul_nonneg b1 hd.1
 have hp1 : de * dp ≤ 30000 * 20 := Int.le_trans (Int.mul_le_mul_of_nonneg_left hd.2 b1) (Int.mul_le_mul_of_nonneg_right b2 (by omega))
 obtain ⟨X, hX⟩ : ∃ X, de * dp = X := ⟨_, rfl⟩
 rw [hX] at hp0 hp1
 have s1 : IntKind.i64.wrap X = X := IntWalk.i64_in _ (by omega)
 have s2 : IntKind.i64.wrap (fx + X) = fx + X := IntWalk.i64_in _ (by omega)
 obtain ⟨Q, hQ⟩ : ∃ Q, fx + X = Q := ⟨_, rfl⟩
 have hq : 0 ≤ Q ∧ Q ≤ 2000000 := by omega
 rw [hQ] at s2
 have s3 : IntKind.i64.wrap (min net (max tp Q) - Q) = min net (max tp Q) - Q := IntWalk.i64_in _ (by omega)
 have HPB := Lib.hid fun (h : Q < net) => partI_bounds (a := min net (max tp Q) - Q) (num := sh) (unit := 1) 3 (by omega) d1 d2 (by omega)
 have HPT := Lib.hid fun (h : Q < net) w => Part_any (min net (max tp Q) - Q) sh 1 3 w (by omega) ⟨d1, d2⟩ (by omega) (by decide)
 show Calls Tryz.prog 102 #[.agg #[.int .i64 fx, .int .i64 de, .int .i64 lo, .int .i64 sh, .int .i64 tp], .int .i64 net, .int .i64 dp] w _
 go_enter Tryz.func102, Tryz.ntmps102
 go_upto_region 1 with (fail)
 have kk : Below w.heap.size w (w.alloc (.cells #[.int .i64 fx, .int .i64 de, .int .i64 lo, .int .i64 sh, .int .i64 tp] 57)) := (Below.refl _ _).alloc (Nat.le_refl _) _
 have S_1 := Row.new w 57 #[.int .i64 fx, .int .i64 de, .int .i64 lo, .int .i64 sh, .int .i64 tp]
 have hsS : (w.alloc (.cells #[.int .i64 fx, .int .i64 de, .int .i64 lo, .int .i64 sh, .int .i64 tp] 57)).heap.size = w.heap.size + 1 := by simp
 obtain ⟨w1, hw⟩ : ∃ w1, w.alloc (.cells #[.int .i64 fx, .int .i64 de, .int .i64 lo, .int .i64 sh, .int .i64 tp] 57) = w1 := ⟨_, rfl⟩
 rw [hw] at kk S_1 hsS ⊢
 clear hw
 obtain ⟨gS, hg⟩ : ∃ gS, w.heap.size = gS := ⟨_, rfl⟩
 rw [hg] at S_1 hsS ⊢
 have zS : w.heap.size ≤ gS := by omega
 clear hg
 have b1 := Lib.hid kk
 clear kk
 have cS0 : w1.cell? ⟨gS, 0, none⟩ = some (.int .i64 fx) := Row.cell S_1 0
 have cS1 : w1.cell? ⟨gS, 1, none⟩ = some (.int .i64 de) := Row.cell S_1 1
 have cS2 : w1.cell? ⟨gS, 2, none⟩ = some (.int .i64 lo) := Row.cell S_1 2
 have cS3 : w1.cell? ⟨gS, 3, none⟩ = some (.int .i64 sh) := Row.cell S_1 3
 have cS4 : w1.cell? ⟨gS, 4, none⟩ = some (.int .i64 tp) := Row.cell S_1 4
 have lS := Row.lt S_1
 go_wp2_with fail
 refine (H1.out _).mono ?_
 rintro e w2 ⟨rfl, k2⟩
 have S_2 := Row.below S_1 k2 S_1.lt
 have b2 := Lib.hid (below_after b1.out k2 b1.out.size)
 clear S_1 b1 k2
 have cS0 : w2.cell? ⟨gS, 0, none⟩ = some (.int .i64 fx) := Row.cell S_2 0
 have cS1 : w2.cell? ⟨gS, 1, none⟩ = some (.int .i64 de) := Row.cell S_2 1
 have cS2 : w2.cell? ⟨gS, 2, none⟩ = some (.int .i64 lo) := Row.cell S_2 2
 have cS3 : w2.cell? ⟨gS, 3, none⟩ = some (.int .i64 sh) := Row.cell S_2 3
 have cS4 : w2.cell? ⟨gS, 4, none⟩ = some (.int .i64 tp) := Row.cell S_2 4
 have lS := Row.lt S_2
 by_cases hle : net ≤ Q
 ·have q1 : decide (net ≤ Q) = true := decide_eq_true hle
  have HM : Hid (0 ≤ net ∧ net ≤ 2000000000) := ⟨by omega, by omega⟩
  clear HPB HPT
  go_wp2_with fail
  go_ret2
  first | exact ⟨_, HM.out, rfl, b2.out⟩ | exact ⟨HM.out, rfl, b2.out⟩
 ·have q1 : decide (net ≤ Q) = false := decide_eq_false hle
  have hpb := HPB.out (by omega)
  have HP := Lib.hid (HPT.out (by omega))
  clear HPB HPT
  obtain ⟨Z, hZ⟩ : ∃ Z, partI (min net (max tp Q) - Q) sh 1 3 = Z := ⟨_, rfl⟩
  rw [hZ] at hpb HP
  have s4 : IntKind.i64.wrap (Q + Z) = Q + Z := IntWalk.i64_in _ (by omega)
  have HM : Hid (0 ≤ Q + Z ∧ Q + Z ≤ 2000000000) := ⟨by omega, by omega⟩
  clear hZ
  go_wp2_with fail
  refine (HP.out _).mono ?_
  rintro e _ ⟨rfl, rfl⟩
  go_wp2_with fail
  go_ret2
  first | exact ⟨_, HM.out, rfl, b2.out⟩ | exact ⟨HM.out, rfl, b2.out⟩
def clm (x : Od) : Int := if x.amt = 0 then x.total else min x.amt x.total
theorem clm_bound {x : Od} (h : OdOk x) : 0 ≤ clm x ∧ clm x ≤ 600000 := by
 have h1 := h.amt
 have h2 := h.total
 unfold clm
 split <;> omega
set_option maxRecDepth 100000 in
set_option maxHeartbeats 2000000 in
theorem Claim_ok (x : Od) (w : World) :
  Calls Tryz.prog 135 #[.agg x.vals.toArray] w fun e w' => e = .returned (.int .i64 (clm x)) ∧ Below w.heap.size w w' := by
 obtain ⟨code, rank, day, amt, total⟩ := x
 show Calls Tryz.prog 135 #[.agg #[.string code, .int .i64 rank, .int .i64 day, .int .i64 amt, .int .i64 total]] w fun e w' => e = .returned (.int .i64 (if amt = 0 then total else min amt total)) ∧ Below w.heap.size w w'
 by_cases h0 : amt = 0
 ·rw [if_pos h0]
  subst h0
  go_enter Tryz.func135, Tryz.ntmps135
  go_upto_region 1 with (fail)
  have kk : Below w.heap.size w (w.alloc (.cells #[.string code, .int .i64 rank, .int .i64 day, .int .i64 0, .int .i64 total] 202)) := (Below.refl _ _).alloc (Nat.le_refl _) _
  have S_1 := Row.new w 202 #[.string code, .int .i64 rank, .int .i64 day, .int .i64 0, .int .i64 total]
  have hsS : (w.alloc (.cells #[.string code, .int .i64 rank, .int .i64 day, .int .i64 0, .int .i64 total] 202)).heap.size = w.heap.size + 1 := by simp
  obtain ⟨w1, hw⟩ : ∃ w1, w.alloc (.cells #[.string code, .int .i64 rank, .int .i64 day, .int .i64 0, .int .i64 total] 202) = w1 := ⟨_, rfl⟩
  rw [hw] at kk S_1 hsS ⊢
  clear hw
  obtain ⟨gS, hg⟩ : ∃ gS, w.heap.size = gS := ⟨_, rfl⟩
  rw [hg] at S_1 hsS ⊢
  have zS : w.heap.size ≤ gS := by omega
  clear hg
  have b1 := Lib.hid kk
  clear kk
  have cS0 : w1.cell? ⟨gS, 0, none⟩ = some (.string code) := Row.cell S_1 0
  have cS1 : w1.cell? ⟨gS, 1, none⟩ = some (.int .i64 rank) := Row.cell S_1 1
  have cS2 : w1.cell? ⟨gS, 2, none⟩ = some (.int .i64 day) := Row.cell S_1 2
  have cS3 : w1.cell? ⟨gS, 3, none⟩ = some (.int .i64 0) := Row.cell S_1 3
  have cS4 : w1.cell? ⟨gS, 4, none⟩ = some (.int .i64 total) := Row.cell S_1 4
  have lS := Row.lt S_1
  go_wp2_with fail
  go_ret
  exact ⟨rfl, b1.out⟩
 ·rw [if_neg h0]
  have q1 : (amt == 0) = false := by simpa using h0
  clear h0
  go_enter Tryz.func135, Tryz.ntmps135
  go_upto_region 1 with (fail)
  have kk : Below w.heap.size w (w.alloc (.cells #[.string code, .int .i64 rank, .int .i64 day, .int .i64 amt, .int .i64 total] 202)) := (Below.refl _ _).alloc (Nat.le_refl _) _
  have S_1 := Row.new w 202 #[.string code, .int .i64 rank, .int .i64 day, .int .i64 amt, .int .i64 total]
  have hsS : (w.alloc (.cells #[.string code, .int .i64 rank, .int .i64 day, .int .i64 amt, .int .i64 total] 202)).heap.size = w.heap.size + 1 := by simp
  obtain ⟨w1, hw⟩ : ∃ w1, w.alloc (.cells #[.string code, .int .i64 rank, .int .i64 day, .int .i64 amt, .int .i64 total] 202) = w1 := ⟨_, rfl⟩
  rw [hw] at kk S_1 hsS ⊢
  clear hw
  obtain ⟨gS, hg⟩ : ∃ gS, w.heap.size = gS := ⟨_, rfl⟩
  rw [hg] at S_1 hsS ⊢
  have zS : w.heap.size ≤ gS := by omega
  clear hg
  have b1 := Lib.hid kk
  clear kk
  have cS0 : w1.cell? ⟨gS, 0, none⟩ = some (.string code) := Row.cell S_1 0
  have cS1 : w1.cell? ⟨gS, 1, none⟩ = some (.int .i64 rank) := Row.cell S_1 1
  have cS2 : w1.cell? ⟨gS, 2, none⟩ = some (.int .i64 day) := Row.cell S_1 2
  have cS3 : w1.cell? ⟨gS, 3, none⟩ = some (.int .i64 amt) := Row.cell S_1 3
  have cS4 : w1.cell? ⟨gS, 4, none⟩ = some (.int .i64 total) := Row.cell S_1 4
  have lS := Row.lt S_1
  go_wp2_with fail
  go_ret
  exact ⟨rfl, b1.out⟩
end Go.Proofs.YtogdefomigiepaaGreatDoor
