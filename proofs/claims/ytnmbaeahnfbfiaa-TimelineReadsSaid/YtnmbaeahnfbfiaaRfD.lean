/- payrollref6.Diff. -/
import Derived.Test.YtnmbaeahnfbfiaaRfV
import Derived.Test.YtnmbaeahnfbfiaaChgB
namespace Go.Proofs.Ytnmbaeahnfbfiaa
open Go.RowKit

theorem bool_ne {a b : Bool} (h : (a != b) = true) : (a ^^ b) = true ∧ (a == b) = false := by cases a <;> cases b <;> simp_all
theorem opt_ways2 (o p : Option Int) : (o = p ∧ (o.getD 0 != p.getD 0) = false ∧ (o.isSome != p.isSome) = false) ∨ (¬ o = p ∧ (o.getD 0 != p.getD 0) = true) ∨ (¬ o = p ∧ (o.getD 0 != p.getD 0) = false ∧ (o.isSome != p.isSome) = true) := by
  cases o <;> cases p <;> simp <;> omega
def RdR (w : World) (A B : List Chg) (f t : Int) (r i : Value) (wr : World) : Prop :=
  ∃ n : Nat, ∃ d : Int, d = f + n ∧ d ≤ t + 1 ∧ i = .int .i64 d ∧ Own wr w.heap.size 51 2 r (rngs (runs (difV A B) f n)) ∧ Below w.heap.size w wr

set_option maxRecDepth 10000 in
set_option maxHeartbeats 2000000 in
theorem refDiff_any (v : Value) (l : List Chg) (a b f t : Int) (w : World) (hv : Sl w 4 v (chgs l)) :
    Calls Try.prog 31 #[v, .int .i64 a, .int .i64 b, .int .i64 f, .int .i64 t] w (RetOwn2 w 51 2 (rngs (diffC l a b f t)) (checkE l f t)) := by
  have V := refCheck_any v l f t w hv
  have HV := Lib.hid hv
  clear hv
  by_cases h0 : checkE l f t = 0
  · obtain ⟨hl, hf0, hft, ht⟩ := checkE_ok h0
    rw [diffC, if_pos h0, h0]
    rw [h0] at V
    have H := Lib.hid V
    clear V h0
    have hla := inC_len l a
    have hlb := inC_len l b
    have HSA := Lib.hid (days_inC l a)
    have HSB := Lib.hid (days_inC l b)
    obtain ⟨A, hA⟩ : ∃ A, inC l a = A := ⟨_, rfl⟩
    obtain ⟨B, hB⟩ : ∃ B, inC l b = B := ⟨_, rfl⟩
    rw [hA, hB]
    rw [hA] at hla HSA
    rw [hB] at hlb HSB
    have HA := Lib.hid hA
    have HB := Lib.hid hB
    clear hA hB
    go_enter Try.func31, Try.ntmps31
    go_wp2_with (go_at_call 47; (with_reducible refine H.out.mono ?_); rintro e w1 ⟨rfl, hb1⟩)
    go_wp2_with (go_at_call 46; (with_reducible refine (in_any _ l a _ (HV.out.below hb1) hl).mono ?_); rintro e w2 ⟨x2, rfl, hown2, hb2⟩; rw [HA.out] at hown2; have hB2 := hb1.trans (hb2.mono hb1.size))
    go_wp2_with (go_at_call 46; (with_reducible refine (in_any _ l b _ (HV.out.below hB2) hl).mono ?_); rintro e w3 ⟨x3, rfl, hown3, hb3⟩; rw [HB.out] at hown3; have hB3 := hB2.trans (hb3.mono hB2.size))
    have T2 := Lib.hid ((hown2.sl (by omega)).below hb3)
    have T3 := Lib.hid (hown3.sl (by omega))
    have hz3 := hB3.size
    have HB3 := Lib.hid hB3
    clear hown2 hown3 hb1 hb2 hb3 hB2 hB3
    go_loopw [15, 16] (fun r i wr => RdR w3 A B f t r i wr) (fun _ i _ => (t + 1 - intOf i).toNat)
    case atStart => exact ⟨0, f, by simp, by omega, rfl, Own.nil _ _ _ _, Below.refl _ _⟩
    case round =>
      obtain ⟨n, D, hDn, hD1, rfl, hown, hbl⟩ := hrel
      obtain ⟨wo, rfl⟩ : ∃ wo : World, wo = wr := ⟨_, rfl⟩
      have hbs := hbl.size
      by_cases hlt : D ≤ t
      · obtain ⟨a1, a2⟩ := nxtN_bounds (L := A) (show D < t + 1 by omega)
        obtain ⟨b1, b2⟩ := nxtN_bounds (L := B) (show D < t + 1 by omega)
        have hnone : ∀ c ∈ A ++ B, ¬ (D < c.f ∧ c.f ≤ min (nxtN D A (t + 1)) (nxtN D B (t + 1)) - 1) := fun c hc hh => by
          rcases List.mem_append.1 hc with hc | hc
          · exact nxt_none (L := A) (n := t + 1) c hc ⟨hh.1, by omega⟩
          · exact nxt_none (L := B) (n := t + 1) c hc ⟨hh.1, by omega⟩
        have hms := dif_none (A := A) (B := B) (n := n) hDn.symm (show D ≤ min (nxtN D A (t + 1)) (nxtN D B (t + 1)) - 1 by omega) hnone
        have hmd := dif_some (A := A) (B := B) (n := n) hDn.symm (show D ≤ min (nxtN D A (t + 1)) (nxtN D B (t + 1)) - 1 by omega) hnone
        obtain ⟨p1, hp1⟩ : ∃ x, nxtN D A (t + 1) = x := ⟨_, rfl⟩
        obtain ⟨p2, hp2⟩ : ∃ x, nxtN D B (t + 1) = x := ⟨_, rfl⟩
        rw [hp1] at hms hmd a1 a2
        rw [hp2] at hms hmd b1 b2
        have HP1 := Lib.hid hp1
        have HP2 := Lib.hid hp2
        clear hp1 hp2 hnone
        obtain ⟨E, hE⟩ : ∃ E, min p1 p2 = E + 1 := ⟨min p1 p2 - 1, by omega⟩
        have hE1 : D ≤ E := by omega
        have hE2 : E ≤ t := by omega
        have hD0 : 0 ≤ D := by omega
        have hE0 : 0 ≤ E := by omega
        have hD9 : D ≤ 84005 := by omega
        have hE9 : E ≤ 84005 := by omega
        rw [show min p1 p2 - 1 = E by omega] at hms hmd
        obtain ⟨m, hm⟩ : ∃ m, n + (E + 1 - D).toNat = m := ⟨_, rfl⟩
        rw [hm] at hms hmd
        have hmE : E + 1 = f + m := by omega
        have HMS := Lib.hid hms
        have HMD := Lib.hid hmd
        have HE := Lib.hid hE
        have HDN := Lib.hid hDn
        have HME := Lib.hid hmE
        have hRl : (runs (difV A B) f n).length ≤ 84006 := by have := runs_len (difV A B) f n; omega
        have HV0 := Lib.hid (runs_zero A B f n)
        have HBD : Hid (∀ p ∈ runs (difV A B) f n, f ≤ p.b ∧ p.b ≤ p.e ∧ p.e < D) := fun p hp => by
          have := runs_bounds (difV A B) f n p hp
          omega
        obtain ⟨R, hR⟩ : ∃ R, runs (difV A B) f n = R := ⟨_, rfl⟩
        rw [hR] at HMS HMD HV0 HBD hown hRl
        obtain ⟨o, ho⟩ : ∃ o, valD A D = o := ⟨_, rfl⟩
        obtain ⟨p, hp⟩ : ∃ p, valD B D = p := ⟨_, rfl⟩
        rw [ho, hp] at HMS HMD
        have HO := Lib.hid ho
        have HP := Lib.hid hp
        clear ho hp hR hm hmE hms hmd hDn hE
        obtain ⟨x1, hx1⟩ : ∃ x, o.getD 0 = x := ⟨_, rfl⟩
        obtain ⟨y1, hb1⟩ : ∃ x, o.isSome = x := ⟨_, rfl⟩
        obtain ⟨x2, hx2⟩ : ∃ x, p.getD 0 = x := ⟨_, rfl⟩
        obtain ⟨y2, hb2⟩ : ∃ x, p.isSome = x := ⟨_, rfl⟩
        have hw := opt_ways2 o p
        rw [hx1, hb1, hx2, hb2] at hw
        have HW := Lib.hid hw
        have HX1 := Lib.hid hx1
        have HX2 := Lib.hid hx2
        have HB1 := Lib.hid hb1
        have HB2 := Lib.hid hb2
        clear hw hx1 hb1 hx2 hb2
        have hmin := HE.out
        clear HE

        rcases HW.out with ⟨e1, e2, e3⟩ | ⟨e1, e2⟩ | ⟨e1, e2, e3⟩
        · have HA := Lib.hid (HMS.out e1)
          obtain rfl : x1 = x2 := by rw [← HX1.out, ← HX2.out, e1]
          obtain rfl : y1 = y2 := by rw [← HB1.out, ← HB2.out, e1]
          clear e1 e2 e3 HW HMS HMD
          obtain ⟨A7, cap7, rfl⟩ := hown.form
          rw [rngs_len] at hown ⊢

          go_wp2_with (go_at_call 45; (with_reducible refine (value_any _ A D _ (T2.out.below hbl) HSA.out (by omega)).mono ?_); rw [HO.out]; rintro e w5 ⟨he, hb5⟩; rw [HX1.out, HB1.out] at he; subst he; have hbl5 := hbl.trans (hb5.mono hbs); have hown5 := hown.kept hb5; have hbs5 := hbl5.size; clear hb5)
          go_wp2_with (go_at_call 45; (with_reducible refine (value_any _ B D _ (T3.out.below hbl5) HSB.out (by omega)).mono ?_); rw [HP.out]; rintro e w6 ⟨he, hb6⟩; rw [HX2.out, HB2.out] at he; subst he; have hbl6 := hbl5.trans (hb6.mono hbs5); have hown6 := hown5.kept hb6; have hbs6 := hbl6.size;  have q2 := Lib.hid (T2.out.below hbl6); have q3 := Lib.hid (T3.out.below hbl6); clear hb6 hown5 hbl5 hown hbl)
          go_wp2_with (go_at_call 48; (with_reducible refine (next_any _ A D t _ q2.out (by omega) (by omega) (by omega)).mono ?_); rw [HP1.out]; rintro e w7 ⟨rfl, rfl⟩; clear q2)
          go_wp2_with (go_at_call 48; (with_reducible refine (next_any _ B D t _ q3.out (by omega) (by omega) (by omega)).mono ?_); rw [HP2.out]; rintro e w7 ⟨rfl, rfl⟩; clear q3)
          go_roundw
          case rel => exact ⟨m, E + 1, HME.out, by omega, rfl, by rw [HA.out]; exact hown6, hbl6⟩
          case measure => simp [intOf]; omega
        · have HA := Lib.hid (HMD.out e1)
          clear e1 HW HMS HMD
          rcases Nat.eq_zero_or_pos R.length with h0 | h0
          · obtain rfl : R = [] := List.eq_nil_of_length_eq_zero h0
            have HQ : Hid (rngs (addS [] D E 0) = rngs [] ++ [[.int .i64 D, .int .i64 E]]) := rfl
            clear h0 HV0 HBD
            obtain ⟨A7, cap7, rfl⟩ := hown.form
            rw [rngs_len] at hown ⊢
            simp only [List.length_nil] at hown ⊢
            go_wp2_with (go_at_call 45; (with_reducible refine (value_any _ A D _ (T2.out.below hbl) HSA.out (by omega)).mono ?_); rw [HO.out]; rintro e w5 ⟨he, hb5⟩; rw [HX1.out, HB1.out] at he; subst he; have hbl5 := hbl.trans (hb5.mono hbs); have hown5 := hown.kept hb5; have hbs5 := hbl5.size; clear hb5)
            go_wp2_with (go_at_call 45; (with_reducible refine (value_any _ B D _ (T3.out.below hbl5) HSB.out (by omega)).mono ?_); rw [HP.out]; rintro e w6 ⟨he, hb6⟩; rw [HX2.out, HB2.out] at he; subst he; have hbl6 := hbl5.trans (hb6.mono hbs5); have hown6 := hown5.kept hb6; have hbs6 := hbl6.size;  have q2 := Lib.hid (T2.out.below hbl6); have q3 := Lib.hid (T3.out.below hbl6); clear hb6 hown5 hbl5 hown hbl)
            go_wp2_with (go_at_call 48; (with_reducible refine (next_any _ A D t _ q2.out (by omega) (by omega) (by omega)).mono ?_); rw [HP1.out]; rintro e w7 ⟨rfl, rfl⟩; clear q2)
            go_wp2_with (first | (go_at_call 48; (with_reducible refine (next_any _ B D t _ q3.out (by omega) (by omega) (by omega)).mono ?_); rw [HP2.out]; rintro e w7 ⟨rfl, rfl⟩; clear q3) | (at_builtin; (refine wpList_append_sl rfl (.tmp 91) (.tmp 96) rfl rowRng w3.heap.size _ _ _ [[.int .i64 D, .int .i64 E]] rfl (hown6.alloc _) rfl (Sl.one (by simp) rfl) (rng_wide D E) (by rw [rngs_len]; unfold maxLen; simp <;> omega) (by rw [rngs_len]; simp <;> omega) (by simp; omega) ?_); intro v3 w9 hown3 hg3 _; have hb3 := Own.grown (hown6.alloc _) (hbl6.alloc hbs6 _) hg3 (by simp; omega); rw [← HQ.out] at hown3))
            go_roundw
            case rel => exact ⟨m, E + 1, HME.out, by omega, rfl, by rw [HA.out]; exact hown3, hb3⟩
            case measure => simp [intOf]; omega

          · obtain ⟨j, hj⟩ : ∃ j, R.length = j + 1 := ⟨R.length - 1, by omega⟩
            obtain ⟨g, cap7, rfl, hcap⟩ := hown.some_form (by rw [rngs_len]; exact h0)
            rw [rngs_len, hj] at hown hcap ⊢
            have hjl : j < R.length := by omega
            have HJ := Lib.hid hj
            have hj1 : j + 1 ≤ 84006 := by omega
            have hV := HV0.out _ (List.getElem_mem hjl)
            have hjbd := HBD.out _ (List.getElem_mem hjl)
            obtain ⟨pe, hpe⟩ : ∃ pe, (R[j]).e = pe := ⟨_, rfl⟩
            rw [hpe] at hjbd
            have hpe0 : 0 ≤ pe := by omega
            have hpe1 : pe ≤ 84005 := by omega
            clear hjbd HBD
            have HPE := Lib.hid hpe
            by_cases hjn : pe = D - 1
            · have HQ : Hid (rngs (addS R D E 0) = (rngs R).set j ([.int .i64 (R[j]).b, .int .i64 (R[j]).e].set 1 (.int .i64 E))) := by
                rw [Hid, addS_join hj (by rw [hpe]; omega) hV, rngs, rngs, List.map_set]; rfl
              have hjb : (pe == D - 1) = true := by simpa using hjn
              clear hpe hjn hV HV0 h0 hj
              go_wp2_with (go_at_call 45; (with_reducible refine (value_any _ A D _ (T2.out.below hbl) HSA.out (by omega)).mono ?_); rw [HO.out]; rintro e w5 ⟨he, hb5⟩; rw [HX1.out, HB1.out] at he; subst he; have hbl5 := hbl.trans (hb5.mono hbs); have hown5 := hown.kept hb5; have hbs5 := hbl5.size; clear hb5)
              go_wp2_with (go_at_call 45; (with_reducible refine (value_any _ B D _ (T3.out.below hbl5) HSB.out (by omega)).mono ?_); rw [HP.out]; rintro e w6 ⟨he, hb6⟩; rw [HX2.out, HB2.out] at he; subst he; have hbl6 := hbl5.trans (hb6.mono hbs5); have hown6 := hown5.kept hb6; have hbs6 := hbl6.size; have c5 := hown6.cellE (by omega) (rngs_at hjl) (j := 1) rfl; have f5 := hown6.frozenE (j * 2 + 1); have hz5 := (hown6.lt rfl).2; rw [HPE.out] at c5; have q2 := Lib.hid (T2.out.below hbl6); have q3 := Lib.hid (T3.out.below hbl6); clear hb6 hown5 hbl5 hown hbl)
              go_wp2_with (go_at_call 48; (with_reducible refine (next_any _ A D t _ q2.out (by omega) (by omega) (by omega)).mono ?_); rw [HP1.out]; rintro e w7 ⟨rfl, rfl⟩; clear q2)
              go_wp2_with (go_at_call 48; (with_reducible refine (next_any _ B D t _ q3.out (by omega) (by omega) (by omega)).mono ?_); rw [HP2.out]; rintro e w7 ⟨rfl, rfl⟩; clear q3)

              go_roundw
              case rel => exact ⟨m, E + 1, HME.out, by omega, rfl, by rw [HA.out, HQ.out]; exact (hown6.set1 (by omega) j (rngs_at hjl) 1 (by omega) (.int .i64 E) rfl).1, hown6.grown hbl6 (hown6.set1 (by omega) j (rngs_at hjl) 1 (by omega) (.int .i64 E) rfl).2 hbs6⟩
              case measure => simp [intOf]; omega
            · have HQ : Hid (rngs (addS R D E 0) = rngs R ++ [[.int .i64 D, .int .i64 E]]) := by
                rw [Hid, addS_apart hj (fun h => hjn (by rw [← hpe]; omega)), rngs_append]; rfl
              have hjb : (pe == D - 1) = false := by simpa using hjn
              clear hpe hV HV0 h0 hj hjn
              go_wp2_with (go_at_call 45; (with_reducible refine (value_any _ A D _ (T2.out.below hbl) HSA.out (by omega)).mono ?_); rw [HO.out]; rintro e w5 ⟨he, hb5⟩; rw [HX1.out, HB1.out] at he; subst he; have hbl5 := hbl.trans (hb5.mono hbs); have hown5 := hown.kept hb5; have hbs5 := hbl5.size; clear hb5)
              go_wp2_with (go_at_call 45; (with_reducible refine (value_any _ B D _ (T3.out.below hbl5) HSB.out (by omega)).mono ?_); rw [HP.out]; rintro e w6 ⟨he, hb6⟩; rw [HX2.out, HB2.out] at he; subst he; have hbl6 := hbl5.trans (hb6.mono hbs5); have hown6 := hown5.kept hb6; have hbs6 := hbl6.size; have c5 := hown6.cellE (by omega) (rngs_at hjl) (j := 1) rfl; have f5 := hown6.frozenE (j * 2 + 1); have hz5 := (hown6.lt rfl).2; rw [HPE.out] at c5; have q2 := Lib.hid (T2.out.below hbl6); have q3 := Lib.hid (T3.out.below hbl6); clear hb6 hown5 hbl5 hown hbl)
              go_wp2_with (go_at_call 48; (with_reducible refine (next_any _ A D t _ q2.out (by omega) (by omega) (by omega)).mono ?_); rw [HP1.out]; rintro e w7 ⟨rfl, rfl⟩; clear q2)
              go_wp2_with (first | (go_at_call 48; (with_reducible refine (next_any _ B D t _ q3.out (by omega) (by omega) (by omega)).mono ?_); rw [HP2.out]; rintro e w7 ⟨rfl, rfl⟩; clear q3) | (at_builtin; (refine wpList_append_sl rfl (.tmp 91) (.tmp 96) rfl rowRng w3.heap.size _ _ _ [[.int .i64 D, .int .i64 E]] rfl (hown6.alloc _) rfl (Sl.one (by simp) rfl) (rng_wide D E) (by rw [rngs_len]; unfold maxLen; simp <;> omega) (by rw [rngs_len]; simp <;> omega) (by simp; omega) ?_); intro v3 w9 hown3 hg3 _; have hb3 := Own.grown (hown6.alloc _) (hbl6.alloc hbs6 _) hg3 (by simp; omega); rw [← HQ.out] at hown3))
              go_roundw
              case rel => exact ⟨m, E + 1, HME.out, by omega, rfl, by rw [HA.out]; exact hown3, hb3⟩
              case measure => simp [intOf]; omega
        · obtain ⟨e4, e5⟩ := bool_ne e3
          have HA := Lib.hid (HMD.out e1)
          clear e1 HW HMS HMD
          rcases Nat.eq_zero_or_pos R.length with h0 | h0
          · obtain rfl : R = [] := List.eq_nil_of_length_eq_zero h0
            have HQ : Hid (rngs (addS [] D E 0) = rngs [] ++ [[.int .i64 D, .int .i64 E]]) := rfl
            clear h0 HV0 HBD
            obtain ⟨A7, cap7, rfl⟩ := hown.form
            rw [rngs_len] at hown ⊢
            simp only [List.length_nil] at hown ⊢
            go_wp2_with (go_at_call 45; (with_reducible refine (value_any _ A D _ (T2.out.below hbl) HSA.out (by omega)).mono ?_); rw [HO.out]; rintro e w5 ⟨he, hb5⟩; rw [HX1.out, HB1.out] at he; subst he; have hbl5 := hbl.trans (hb5.mono hbs); have hown5 := hown.kept hb5; have hbs5 := hbl5.size; clear hb5)
            go_wp2_with (go_at_call 45; (with_reducible refine (value_any _ B D _ (T3.out.below hbl5) HSB.out (by omega)).mono ?_); rw [HP.out]; rintro e w6 ⟨he, hb6⟩; rw [HX2.out, HB2.out] at he; subst he; have hbl6 := hbl5.trans (hb6.mono hbs5); have hown6 := hown5.kept hb6; have hbs6 := hbl6.size;  have q2 := Lib.hid (T2.out.below hbl6); have q3 := Lib.hid (T3.out.below hbl6); clear hb6 hown5 hbl5 hown hbl)
            go_wp2_with (go_at_call 48; (with_reducible refine (next_any _ A D t _ q2.out (by omega) (by omega) (by omega)).mono ?_); rw [HP1.out]; rintro e w7 ⟨rfl, rfl⟩; clear q2)
            go_wp2_with (first | (go_at_call 48; (with_reducible refine (next_any _ B D t _ q3.out (by omega) (by omega) (by omega)).mono ?_); rw [HP2.out]; rintro e w7 ⟨rfl, rfl⟩; clear q3) | (at_builtin; (refine wpList_append_sl rfl (.tmp 91) (.tmp 96) rfl rowRng w3.heap.size _ _ _ [[.int .i64 D, .int .i64 E]] rfl (hown6.alloc _) rfl (Sl.one (by simp) rfl) (rng_wide D E) (by rw [rngs_len]; unfold maxLen; simp <;> omega) (by rw [rngs_len]; simp <;> omega) (by simp; omega) ?_); intro v3 w9 hown3 hg3 _; have hb3 := Own.grown (hown6.alloc _) (hbl6.alloc hbs6 _) hg3 (by simp; omega); rw [← HQ.out] at hown3))
            go_roundw
            case rel => exact ⟨m, E + 1, HME.out, by omega, rfl, by rw [HA.out]; exact hown3, hb3⟩
            case measure => simp [intOf]; omega

          · obtain ⟨j, hj⟩ : ∃ j, R.length = j + 1 := ⟨R.length - 1, by omega⟩
            obtain ⟨g, cap7, rfl, hcap⟩ := hown.some_form (by rw [rngs_len]; exact h0)
            rw [rngs_len, hj] at hown hcap ⊢
            have hjl : j < R.length := by omega
            have HJ := Lib.hid hj
            have hj1 : j + 1 ≤ 84006 := by omega
            have hV := HV0.out _ (List.getElem_mem hjl)
            have hjbd := HBD.out _ (List.getElem_mem hjl)
            obtain ⟨pe, hpe⟩ : ∃ pe, (R[j]).e = pe := ⟨_, rfl⟩
            rw [hpe] at hjbd
            have hpe0 : 0 ≤ pe := by omega
            have hpe1 : pe ≤ 84005 := by omega
            clear hjbd HBD
            have HPE := Lib.hid hpe
            by_cases hjn : pe = D - 1
            · have HQ : Hid (rngs (addS R D E 0) = (rngs R).set j ([.int .i64 (R[j]).b, .int .i64 (R[j]).e].set 1 (.int .i64 E))) := by
                rw [Hid, addS_join hj (by rw [hpe]; omega) hV, rngs, rngs, List.map_set]; rfl
              have hjb : (pe == D - 1) = true := by simpa using hjn
              clear hpe hjn hV HV0 h0 hj
              go_wp2_with (go_at_call 45; (with_reducible refine (value_any _ A D _ (T2.out.below hbl) HSA.out (by omega)).mono ?_); rw [HO.out]; rintro e w5 ⟨he, hb5⟩; rw [HX1.out, HB1.out] at he; subst he; have hbl5 := hbl.trans (hb5.mono hbs); have hown5 := hown.kept hb5; have hbs5 := hbl5.size; clear hb5)
              go_wp2_with (go_at_call 45; (with_reducible refine (value_any _ B D _ (T3.out.below hbl5) HSB.out (by omega)).mono ?_); rw [HP.out]; rintro e w6 ⟨he, hb6⟩; rw [HX2.out, HB2.out] at he; subst he; have hbl6 := hbl5.trans (hb6.mono hbs5); have hown6 := hown5.kept hb6; have hbs6 := hbl6.size; have c5 := hown6.cellE (by omega) (rngs_at hjl) (j := 1) rfl; have f5 := hown6.frozenE (j * 2 + 1); have hz5 := (hown6.lt rfl).2; rw [HPE.out] at c5; have q2 := Lib.hid (T2.out.below hbl6); have q3 := Lib.hid (T3.out.below hbl6); clear hb6 hown5 hbl5 hown hbl)
              go_wp2_with (go_at_call 48; (with_reducible refine (next_any _ A D t _ q2.out (by omega) (by omega) (by omega)).mono ?_); rw [HP1.out]; rintro e w7 ⟨rfl, rfl⟩; clear q2)
              go_wp2_with (go_at_call 48; (with_reducible refine (next_any _ B D t _ q3.out (by omega) (by omega) (by omega)).mono ?_); rw [HP2.out]; rintro e w7 ⟨rfl, rfl⟩; clear q3)

              go_roundw
              case rel => exact ⟨m, E + 1, HME.out, by omega, rfl, by rw [HA.out, HQ.out]; exact (hown6.set1 (by omega) j (rngs_at hjl) 1 (by omega) (.int .i64 E) rfl).1, hown6.grown hbl6 (hown6.set1 (by omega) j (rngs_at hjl) 1 (by omega) (.int .i64 E) rfl).2 hbs6⟩
              case measure => simp [intOf]; omega
            · have HQ : Hid (rngs (addS R D E 0) = rngs R ++ [[.int .i64 D, .int .i64 E]]) := by
                rw [Hid, addS_apart hj (fun h => hjn (by rw [← hpe]; omega)), rngs_append]; rfl
              have hjb : (pe == D - 1) = false := by simpa using hjn
              clear hpe hV HV0 h0 hj hjn
              go_wp2_with (go_at_call 45; (with_reducible refine (value_any _ A D _ (T2.out.below hbl) HSA.out (by omega)).mono ?_); rw [HO.out]; rintro e w5 ⟨he, hb5⟩; rw [HX1.out, HB1.out] at he; subst he; have hbl5 := hbl.trans (hb5.mono hbs); have hown5 := hown.kept hb5; have hbs5 := hbl5.size; clear hb5)
              go_wp2_with (go_at_call 45; (with_reducible refine (value_any _ B D _ (T3.out.below hbl5) HSB.out (by omega)).mono ?_); rw [HP.out]; rintro e w6 ⟨he, hb6⟩; rw [HX2.out, HB2.out] at he; subst he; have hbl6 := hbl5.trans (hb6.mono hbs5); have hown6 := hown5.kept hb6; have hbs6 := hbl6.size; have c5 := hown6.cellE (by omega) (rngs_at hjl) (j := 1) rfl; have f5 := hown6.frozenE (j * 2 + 1); have hz5 := (hown6.lt rfl).2; rw [HPE.out] at c5; have q2 := Lib.hid (T2.out.below hbl6); have q3 := Lib.hid (T3.out.below hbl6); clear hb6 hown5 hbl5 hown hbl)
              go_wp2_with (go_at_call 48; (with_reducible refine (next_any _ A D t _ q2.out (by omega) (by omega) (by omega)).mono ?_); rw [HP1.out]; rintro e w7 ⟨rfl, rfl⟩; clear q2)
              go_wp2_with (first | (go_at_call 48; (with_reducible refine (next_any _ B D t _ q3.out (by omega) (by omega) (by omega)).mono ?_); rw [HP2.out]; rintro e w7 ⟨rfl, rfl⟩; clear q3) | (at_builtin; (refine wpList_append_sl rfl (.tmp 91) (.tmp 96) rfl rowRng w3.heap.size _ _ _ [[.int .i64 D, .int .i64 E]] rfl (hown6.alloc _) rfl (Sl.one (by simp) rfl) (rng_wide D E) (by rw [rngs_len]; unfold maxLen; simp <;> omega) (by rw [rngs_len]; simp <;> omega) (by simp; omega) ?_); intro v3 w9 hown3 hg3 _; have hb3 := Own.grown (hown6.alloc _) (hbl6.alloc hbs6 _) hg3 (by simp; omega); rw [← HQ.out] at hown3))
              go_roundw
              case rel => exact ⟨m, E + 1, HME.out, by omega, rfl, by rw [HA.out]; exact hown3, hb3⟩
              case measure => simp [intOf]; omega
      · have hkM : runs (difV A B) f n = difR A B f t := by rw [difR]; congr 1; omega
        rw [hkM] at hown
        clear hkM hDn
        go_wp2
        go_ret2
        exact ⟨_, rfl, hown.more hz3, HB3.out.trans (hbl.mono hz3)⟩
  · have HN : Hid (¬ checkE l f t = 0) := h0
    rw [diffC, if_neg h0]
    obtain ⟨er, her⟩ : ∃ er, checkE l f t = er := ⟨_, rfl⟩
    rw [her] at V h0 ⊢
    have hne : (er != 0) = true := by simpa using h0
    have H := Lib.hid V
    clear V her h0
    go_enter Try.func31, Try.ntmps31
    go_wp2_with (go_at_call 47; (with_reducible refine H.out.mono ?_); rintro e w1 ⟨rfl, hb1⟩)
    go_ret2
    exact ⟨_, rfl, Own.nil _ _ _ _, hb1⟩
end Go.Proofs.Ytnmbaeahnfbfiaa
