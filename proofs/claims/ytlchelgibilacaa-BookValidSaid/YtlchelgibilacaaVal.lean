/- The law BookValid: it returns true. -/
import Derived.Test.YtlchelgibilacaaAdds
import Derived.Deep.CutBlock
import Derived.Deep.DeepCutAuto
namespace Go.Proofs.Ytlchelgibilacaa
open Go.RowKit

/-- one number of a posting of an own slice is changed -/
theorem set_field {w w0 : World} {B base e g n cap : Nat} {c : List Pst} (h : Own w base e 6 (.slice (some ⟨g, 0, none⟩) n cap) (psts c)) {K : Nat} (hK : K < c.length) (j : Nat) (hj : j = 0 ∨ j = 1 ∨ j = 2 ∨ j = 5) (u : Int) (hb : Below B w0 w) (hB : B ≤ base) (hB2 : B ≤ w.heap.size) :
    ∃ b : List Pst, b.length = c.length ∧ Own (w.setCell ⟨g, K * 6 + j, none⟩ (.int .i64 u)) base e 6 (.slice (some ⟨g, 0, none⟩) n cap) (psts b) ∧ Below B w0 (w.setCell ⟨g, K * 6 + j, none⟩ (.int .i64 u)) := by
  have hg : base ≤ g := (h.1.lt g rfl).1
  have key : ∀ y : Pst, y.vals = ((c[K]).vals.set j (.int .i64 u)) → ∃ b : List Pst, b.length = c.length ∧ Own (w.setCell ⟨g, K * 6 + j, none⟩ (.int .i64 u)) base e 6 (.slice (some ⟨g, 0, none⟩) n cap) (psts b) ∧ Below B w0 (w.setCell ⟨g, K * 6 + j, none⟩ (.int .i64 u)) := fun y hy => by
    have h1 := h.store1 (by omega) K _ (psts_at hK) j (by omega) (.int .i64 u) rfl
    refine ⟨c.set K y, by simp, ?_, hb.grown h1.2 hB2 (fun k hk => by cases hk; omega)⟩
    rw [← psts_set, hy]; exact h1.1
  rcases hj with rfl | rfl | rfl | rfl
  · exact key ⟨u, (c[K]).emp, (c[K]).per, (c[K]).ln⟩ rfl
  · exact key ⟨(c[K]).run, u, (c[K]).per, (c[K]).ln⟩ rfl
  · exact key ⟨(c[K]).run, (c[K]).emp, u, (c[K]).ln⟩ rfl
  · exact key ⟨(c[K]).run, (c[K]).emp, (c[K]).per, ⟨(c[K]).ln.kind, (c[K]).ln.code, u⟩⟩ rfl

/-- an own slice of m postings, in a world like w0 below B -/
def FieldSet (w0 : World) (B base e g n cap m : Nat) (wx : World) : Prop := ∃ c : List Pst, c.length = m ∧ Own wx base e 6 (.slice (some ⟨g, 0, none⟩) n cap) (psts c) ∧ Below B w0 wx
theorem FieldSet.of {w w0 : World} {B base e g n cap : Nat} {c : List Pst} (h : Own w base e 6 (.slice (some ⟨g, 0, none⟩) n cap) (psts c)) {K : Nat} (hK : K < c.length) (j : Nat) (hj : j = 0 ∨ j = 1 ∨ j = 2 ∨ j = 5) (a : Nat) (ha : a = K * 6 + j) (hb : Below B w0 w) (hB : B ≤ base) (hB2 : B ≤ w.heap.size) (u : Int) (o : Obj) :
    FieldSet w0 B base e g n cap c.length ((w.setCell ⟨g, a, none⟩ (.int .i64 u)).alloc o) := by
  subst ha
  obtain ⟨b, e1, e2, e3⟩ := set_field h hK j hj u hb hB hB2
  exact ⟨b, e1, e2.alloc _, e3.alloc (by simpa using hB2) _⟩

set_option maxRecDepth 100000 in
set_option maxHeartbeats 1600000 in
theorem BookValid_any (u : Value) (l : List Pst) (x : Pst) (v : Value) (zs : List Int) (a f b : Int) (w : World) (hu : Sl w 6 u (psts l)) (hv : Sl w 1 v (ints zs)) :
    Calls Try.prog 4 #[u, .agg #[.int .i64 x.run, .int .i64 x.emp, .int .i64 x.per, .int .i64 x.ln.kind, .string x.ln.code, .int .i64 x.ln.amt], v, .int .i64 a, .int .i64 f, .int .i64 b] w fun e w' => e = .returned (.bool true) ∧ Below w.heap.size w w' := by
  go_enter Try.func4, Try.ntmps4
  go_wp2_with fail
  obtain ⟨w0, hw0⟩ : ∃ w0, w0 = w.alloc (Obj.cells #[Value.int IntKind.i64 x.run, Value.int IntKind.i64 x.emp, Value.int IntKind.i64 x.per, Value.int IntKind.i64 x.ln.kind, Value.string x.ln.code, Value.int IntKind.i64 x.ln.amt] 27) := ⟨_, rfl⟩
  rw [← hw0]
  have hb0 : Below w.heap.size w w0 := by rw [hw0]; exact (Below.refl _ _).alloc (Nat.le_refl _) _
  have hs0 : w.heap.size < w0.heap.size := by rw [hw0]; simp
  have HC0 : Hid (CellsAt w0 6 w.heap.size 0 (psts [x])) := by
    show CellsAt _ _ _ _ _
    rw [hw0]
    refine ⟨by simp, fun i e hi j u hj => ?_⟩
    match i, hi with
    | 0, hi =>
      simp only [psts, List.map_cons, List.map_nil, List.getElem?_cons_zero, Option.some.injEq] at hi
      subst hi
      rw [Nat.zero_mul, Nat.zero_add, World.cell?_alloc_new]
      simpa [Pst.vals] using hj
    | n + 1, hi => simp [psts] at hi
  clear hw0
  refine (short_any u l w0 (hu.below hb0)).mono ?_
  rintro e w1 ⟨rfl, hb1'⟩
  have hb1 := below_after hb0 hb1' (Nat.le_of_lt hs0)
  have hs1 := hb1.size
  have HC := Lib.hid (HC0.out.below hb1' hs0)
  have hs1' : w.heap.size < w1.heap.size := HC.out.1
  obtain ⟨c0, c1, c2, c3, c4, c5⟩ := HC.out.pst (k := 0) (by simp)
  simp only [Nat.zero_mul, Nat.add_zero, List.getElem_cons_zero] at c0 c1 c2 c3 c4 c5
  clear HC0 hb0 hs0 hb1'
  cases hsh : shortB l
  · go_wp2_with fail
    refine (awake_any _).mono ?_
    rintro e w6 ⟨rfl, hb6⟩
    go_wp2
    go_ret
    exact ⟨rfl, below_after hb1 hb6 hs1⟩
  by_cases hc : x.ln.code.size ≤ 60
  rotate_left
  · go_wp2_with fail
    refine (awake_any _).mono ?_
    rintro e w6 ⟨rfl, hb6⟩
    have d1 : decide ((60 : Int) < (x.ln.code.size : Int)) = true := decide_eq_true (by omega)
    go_wp2
    go_ret
    exact ⟨rfl, below_after hb1 hb6 hs1⟩
  have d1 : decide ((60 : Int) < (x.ln.code.size : Int)) = false := decide_eq_false (by omega)
  have HV := Lib.hid (hv.below hb1)
  have HU := Lib.hid hu
  clear hv hu hsh hc
  go_wp2_with fail
  clear c0 c1 c2 c3 c4 c5 d1
  refine (new_any v zs w1 HV.out).mono ?_
  rintro e w2 ⟨rfl, hd2, hb2⟩
  obtain ⟨D, hDe⟩ : ∃ D, D = w1.heap.size := ⟨_, rfl⟩
  rw [← hDe] at hd2 ⊢
  have hDlo : w.heap.size < D := by omega
  have hB2 := below_after hb1 hb2 hs1
  have HC2 := Lib.hid (HC.out.below hb2 hs1')
  clear HV hb1 hb2 hDe HC
  have hs2 := hB2.size
  have hDlt := hd2.lt
  go_wp2_with fail
  refine (DBook_any D 0 4 w2 hd2 (by omega) (by omega)).mono ?_
  rintro e w3 ⟨y, c, R, d3, rfl, hgood, hR, hlen, hown3, hd3, hdd3, hg3⟩
  have hB3 := hB2.grown hg3 hs2 (fun g hg => by cases hg; exact Nat.le_of_lt hDlo)
  have hBx : Below (w.heap.size + 1) w2 w3 := (Below.refl _ _).grown hg3 (by omega) (fun g hg => by cases hg; exact hDlo)
  have HC3 := Lib.hid (HC2.out.below hBx (by omega))
  have hs3 := hB3.size
  have hs23 := hg3.size
  clear hB2 hg3 hd2 hgood hR HC2 hBx hd3 hdd3
  obtain ⟨Y, cy, rfl⟩ := hown3.form
  rw [psts_len] at hown3 ⊢
  go_upto_if 32 with (fail)
  go_cut [14] (fun _ wx => ∃ c' : List Pst, c'.length = c.length ∧ Own wx w2.heap.size 27 6 (.slice Y c.length cy) (psts c') ∧ Below w.heap.size w wx ∧ Hid (CellsAt wx 6 w.heap.size 0 (psts [x])))
  case first =>
    by_cases hpos : 0 < c.length
    rotate_left
    · have dp : decide ((0 : Int) < (c.length : Int)) = false := decide_eq_false (by omega)
      go_wp2_with fail
      go_meet
      exact ⟨c, rfl, hown3, hB3, HC3⟩
    · have dp : decide ((0 : Int) < (c.length : Int)) = true := decide_eq_true (by omega)
      obtain ⟨g, rfl⟩ := hown3.some (by rw [psts_len]; omega)
      go_wp2_with fail
      refine (Mod_any a c.length w3 (by omega) (by omega)).mono ?_
      rintro e w4 ⟨rfl, rfl⟩
      obtain ⟨K, hK⟩ := Int.eq_ofNat_of_zero_le (Int.emod_nonneg a (show (c.length : Int) ≠ 0 by omega))
      have hKlt : K < c.length := by have := Int.emod_lt_of_pos a (show (0 : Int) < c.length by omega); omega
      rw [hK]
      clear hK
      go_wp2_with fail
      refine (Mod_any b 4 w3 (by omega) (by omega)).mono ?_
      rintro e w4 ⟨rfl, rfl⟩
      obtain ⟨J, hJ⟩ := Int.eq_ofNat_of_zero_le (Int.emod_nonneg b (show (4 : Int) ≠ 0 by omega))
      have hJlt : J < 4 := by omega
      rw [hJ]
      clear hJ
      go_wp2_with fail
      refine (Mod_any f 5 w3 (by omega) (by omega)).mono ?_
      rintro e w4 ⟨rfl, rfl⟩
      obtain ⟨I, hI⟩ := Int.eq_ofNat_of_zero_le (Int.emod_nonneg f (show (5 : Int) ≠ 0 by omega))
      have hIlt : I < 5 := by omega
      rw [hI]
      clear hI
      go_upto_block 0 with (fail)
      go_cut [] (fun wx => FieldSet w3 (w.heap.size + 1) w2.heap.size 27 g c.length cy c.length wx)
      case first =>
        have hg0 : g < w3.heap.size := (hown3.1.lt g rfl).2
        have f0 := hown3.frozenE (K * 6)
        have f1 := hown3.frozenE (K * 6 + 1)
        have f2 := hown3.frozenE (K * 6 + 2)
        have f5 := hown3.frozenE (K * 6 + 5)
        obtain ⟨c0, c1, c2, _, _, c5⟩ := hown3.pstE hKlt
        have S0 := Lib.hid (FieldSet.of hown3 hKlt 0 (.inl rfl) (K * 6) rfl (Below.refl (w.heap.size + 1) w3) (by omega) (by omega))
        have S1 := Lib.hid (FieldSet.of hown3 hKlt 1 (.inr (.inl rfl)) (K * 6 + 1) rfl (Below.refl (w.heap.size + 1) w3) (by omega) (by omega))
        have S2 := Lib.hid (FieldSet.of hown3 hKlt 2 (.inr (.inr (.inl rfl))) (K * 6 + 2) rfl (Below.refl (w.heap.size + 1) w3) (by omega) (by omega))
        have S5 := Lib.hid (FieldSet.of hown3 hKlt 5 (.inr (.inr (.inr rfl))) (K * 6 + 5) rfl (Below.refl (w.heap.size + 1) w3) (by omega) (by omega))
        obtain rfl | rfl | rfl | rfl | rfl : I = 0 ∨ I = 1 ∨ I = 2 ∨ I = 3 ∨ I = 4 := by omega
        rotate_right
        · go_wp2_with fail
          go_meet
          exact ⟨c, rfl, hown3, Below.refl _ _⟩
        all_goals obtain rfl | rfl | rfl | rfl : J = 0 ∨ J = 1 ∨ J = 2 ∨ J = 3 := by omega
        all_goals
          go_wp2_with fail
          go_meet
          first
            | (with_reducible exact S0.out _ _)
            | (with_reducible exact S1.out _ _)
            | (with_reducible exact S2.out _ _)
            | (with_reducible exact S5.out _ _)
      case rest =>
        obtain ⟨c', hc', hown', hbw⟩ := hcut
        have hbs := hbw.size
        have hK' : K < c'.length := by omega
        have hgl := (hown'.1.lt g rfl).2
        obtain ⟨c0, c1, c2, c3, c4, c5⟩ := hown'.pstE hK'
        have e0 := ext_cell hgl c0
        have e1 := ext_cell hgl c1
        have e2 := ext_cell hgl c2
        have e3 := ext_cell hgl c3
        have e4 := ext_cell hgl c4
        have e5 := ext_cell hgl c5
        have HF := Lib.hid hc'
        have HB' := Lib.hid (hB3.trans (hbw.mono (Nat.le_succ _)))
        have HC' := Lib.hid (HC3.out.below hbw (Nat.lt_succ_self _))
        have HO := Lib.hid hown'
        obtain ⟨q, hq⟩ : ∃ q, q = c'[K] := ⟨_, rfl⟩
        rw [← hq] at e0 e1 e2 e3 e4 e5
        clear hc' hq c0 c1 c2 c3 c4 c5 hbw hB3 HC3 hown3 hown'
        have HV1 := Lib.hid (fun y : Ext wc => Valid_any q y.val)
        have HV2 := Lib.hid (fun y : Ext wc => refValid_any q y.val)
        go_wp2_with fail
        refine region_ext (by kernel_rfl) (by kernel_rfl) ?_
        repeat (go_big_quiet_step ((first | (go_at_call 19; exact ext_call (HV1.out _)) | (go_at_call 20; exact ext_call (HV2.out _)))))
        refine wpQuiet_nil ?_
        rintro _ ⟨y, rfl⟩
        go_wp2_with fail
        go_meet
        exact ⟨c', HF.out, HO.out.kept y.property, HB'.out.trans (y.property.mono HB'.out.size), HC'.out.below y.property HC'.out.1⟩
  case rest =>
    obtain ⟨c', hc', hown', hB', HC'⟩ := hcut
    have hs' := hB'.size
    have hgl := HC'.out.1
    obtain ⟨c0, c1, c2, c3, c4, c5⟩ := HC'.out.pst (k := 0) (by simp)
    simp only [Nat.zero_mul, Nat.add_zero, List.getElem_cons_zero] at c0 c1 c2 c3 c4 c5
    have e0 := ext_cell hgl c0
    have e1 := ext_cell hgl c1
    have e2 := ext_cell hgl c2
    have e3 := ext_cell hgl c3
    have e4 := ext_cell hgl c4
    have e5 := ext_cell hgl c5
    have HV1 := Lib.hid (fun y : Ext wc => Valid_any x y.val)
    have HV2 := Lib.hid (fun y : Ext wc => refValid_any x y.val)
    have HB1 := Lib.hid (fun y : Ext wc => Book_any u l y.val ((HU.out.below hB').below y.property))
    have HB2 := Lib.hid (fun y : Ext wc => refBook_any u l y.val ((HU.out.below hB').below y.property))
    have HB3 := Lib.hid (fun y : Ext wc => Book_any _ c' y.val ((hown'.sl (by omega)).below y.property))
    have HB4 := Lib.hid (fun y : Ext wc => refBook_any _ c' y.val ((hown'.sl (by omega)).below y.property))
    have HA := Lib.hid (fun y : Ext wc => awake_any y.val)
    have HB' := Lib.hid hB'
    clear hc' hown' c0 c1 c2 c3 c4 c5 HC' HC3 hB' HU hown3 hB3
    go_wp2_with fail
    refine region_ext (by kernel_rfl) (by kernel_rfl) ?_
    repeat (go_big_quiet_step ((first | (go_at_call 19; exact ext_call (HV1.out _)) | (go_at_call 20; exact ext_call (HV2.out _)) | (go_at_call 13; first | (with_reducible exact ext_call (HB1.out _)) | (with_reducible exact ext_call (HB3.out _))) | (go_at_call 21; first | (with_reducible exact ext_call (HB2.out _)) | (with_reducible exact ext_call (HB4.out _))) | (go_at_call 15; exact ext_call (HA.out _)))))
    refine wpQuiet_nil ?_
    rintro _ ⟨y, rfl⟩
    go_wp2
    go_ret
    exact ⟨rfl, HB'.out.trans (y.property.mono hs')⟩

end Go.Proofs.Ytlchelgibilacaa
