/- payrollref6.Slices. -/
import Derived.Test.YtnmbaeahnfbfiaaRfV
import Derived.Test.YtnmbaeahnfbfiaaChgB
namespace Go.Proofs.Ytnmbaeahnfbfiaa
open Go.RowKit

def Pc.slc (p : Pc) : List Value := [.int .i64 p.b, .int .i64 p.e, .int .i64 p.v]
def slcs (R : List Pc) : List (List Value) := R.map Pc.slc
theorem slcs_len (R : List Pc) : (slcs R).length = R.length := by simp [slcs]
theorem slcs_at {R : List Pc} {k : Nat} (h : k < R.length) : (slcs R)[k]? = some (R[k]).slc := by simp [slcs, h]
theorem slcs_append (l m : List Pc) : slcs (l ++ m) = slcs l ++ slcs m := by simp [slcs]
theorem slc_wide (a b c : Int) : Wide 3 [[.int .i64 a, .int .i64 b, .int .i64 c]] := fun x hx => by
  obtain rfl := List.mem_singleton.1 hx
  exact ⟨rfl, by simp [Value.oneCell']⟩
theorem rowSlc : RowTy Try.prog 61 65 3 24 := by
  obtain ⟨i, hi, hz, hs, hb⟩ := info_parts (show (Try.prog.info? 65).map (fun i => (i.zero, i.size, i.bytes)) = some (some (.agg #[.int .i64 0, .int .i64 0, .int .i64 0]), 3, 24) by kernel_rfl)
  exact ⟨Try.underlying61, ⟨i, _, hi, hz, hs, hb, rfl⟩, by omega⟩
def slicesR (L : List Chg) (f t : Int) : List Pc := runs (valD L) f (t + 1 - f).toNat
def slicesC (l : List Chg) (kn f t : Int) : List Pc := if checkE l f t = 0 then slicesR (inC l kn) f t else []
def RlR (w : World) (L : List Chg) (f t : Int) (r i : Value) (wr : World) : Prop :=
  ∃ n : Nat, ∃ d : Int, d = f + n ∧ d ≤ t + 1 ∧ i = .int .i64 d ∧ Own wr w.heap.size 65 3 r (slcs (runs (valD L) f n)) ∧ Below w.heap.size w wr

set_option maxRecDepth 10000 in
set_option maxHeartbeats 2000000 in
theorem refSlices_any (v : Value) (l : List Chg) (a f t : Int) (w : World) (hv : Sl w 4 v (chgs l)) :
    Calls Try.prog 30 #[v, .int .i64 a, .int .i64 f, .int .i64 t] w (RetOwn2 w 65 3 (slcs (slicesC l a f t)) (checkE l f t)) := by
  have V := refCheck_any v l f t w hv
  have HV := Lib.hid hv
  clear hv
  by_cases h0 : checkE l f t = 0
  · obtain ⟨hl, hf0, hft, ht⟩ := checkE_ok h0
    rw [slicesC, if_pos h0, h0]
    rw [h0] at V
    have H := Lib.hid V
    clear V h0
    have hla := inC_len l a
    have HSA := Lib.hid (days_inC l a)
    obtain ⟨A, hA⟩ : ∃ A, inC l a = A := ⟨_, rfl⟩
    rw [hA]
    rw [hA] at hla HSA
    have HA := Lib.hid hA
    clear hA
    go_enter Try.func30, Try.ntmps30
    go_wp2_with (go_at_call 47; (with_reducible refine H.out.mono ?_); rintro e w1 ⟨rfl, hb1⟩)
    go_wp2_with (go_at_call 46; (with_reducible refine (in_any _ l a _ (HV.out.below hb1) hl).mono ?_); rintro e w3 ⟨x2, rfl, hown2, hb2⟩; rw [HA.out] at hown2; have hB3 := hb1.trans (hb2.mono hb1.size))
    have T2 := Lib.hid (hown2.sl (by omega))
    have hz3 := hB3.size
    have HB3 := Lib.hid hB3
    clear hown2 hb1 hb2 hB3
    go_loopw [12, 13] (fun r i wr => RlR w3 A f t r i wr) (fun _ i _ => (t + 1 - intOf i).toNat)
    case atStart => exact ⟨0, f, by simp, by omega, rfl, Own.nil _ _ _ _, Below.refl _ _⟩
    case round =>
      obtain ⟨n, D, hDn, hD1, rfl, hown, hbl⟩ := hrel
      obtain ⟨wo, rfl⟩ : ∃ wo : World, wo = wr := ⟨_, rfl⟩
      have hbs := hbl.size
      by_cases hlt : D ≤ t
      · obtain ⟨a1, a2⟩ := nxtN_bounds (L := A) (show D < t + 1 by omega)
        have hnone : ∀ c ∈ A, ¬ (D < c.f ∧ c.f ≤ nxtN D A (t + 1) - 1) := fun c hc hh => nxt_none (L := A) (n := t + 1) c hc ⟨hh.1, by omega⟩
        have hms := val_none (L := A) (n := n) hDn.symm (show D ≤ nxtN D A (t + 1) - 1 + 1 by omega) hnone
        have hmd := fun x => val_some (L := A) (n := n) (v := x) hDn.symm (show D ≤ nxtN D A (t + 1) - 1 by omega) hnone
        obtain ⟨E, hE⟩ : ∃ E, nxtN D A (t + 1) = E + 1 := ⟨nxtN D A (t + 1) - 1, by omega⟩
        have hE1 : D ≤ E := by omega
        have hE2 : E ≤ t := by omega
        have hD0 : 0 ≤ D := by omega
        have hE0 : 0 ≤ E := by omega
        have hD9 : D ≤ 84005 := by omega
        have hE9 : E ≤ 84005 := by omega
        rw [show nxtN D A (t + 1) - 1 = E by omega] at hms hmd
        obtain ⟨m, hm⟩ : ∃ m, n + (E + 1 - D).toNat = m := ⟨_, rfl⟩
        rw [hm] at hms
        simp only [hm] at hmd
        have hmE : E + 1 = f + m := by omega
        have HMS := Lib.hid hms
        have HMD := Lib.hid hmd
        have HE := Lib.hid hE
        have HDN := Lib.hid hDn
        have HME := Lib.hid hmE
        have hRl : (runs (valD A) f n).length ≤ 84006 := by have := runs_len (valD A) f n; omega
        have HBD : Hid (∀ p ∈ runs (valD A) f n, f ≤ p.b ∧ p.b ≤ p.e ∧ p.e < D) := fun p hp => by
          have := runs_bounds (valD A) f n p hp
          omega
        obtain ⟨R, hR⟩ : ∃ R, runs (valD A) f n = R := ⟨_, rfl⟩
        rw [hR] at HMS HMD HBD hown hRl
        obtain ⟨o, ho⟩ : ∃ o, valD A D = o := ⟨_, rfl⟩
        rw [ho] at HMS HMD
        have HO := Lib.hid ho
        clear ho hR hm hmE hms hmd hDn hE hnone a1 a2
        cases o with
        | none =>
          have HA := Lib.hid (HMS.out rfl)
          clear HMS HMD
          obtain ⟨A7, cap7, rfl⟩ := hown.form
          rw [slcs_len] at hown ⊢
          go_wp2_with (go_at_call 45; (with_reducible refine (value_any _ A D _ (T2.out.below hbl) HSA.out (by omega)).mono ?_); rw [HO.out]; rintro e w5 ⟨rfl, hb5⟩; have hbl5 := hbl.trans (hb5.mono hbs); have hown5 := hown.kept hb5; have hbs5 := hbl5.size; have q2 := Lib.hid (T2.out.below hbl5);  clear hb5 hown hbl)
          go_wp2_with (go_at_call 48; (with_reducible refine (next_any _ A D t _ q2.out (by omega) (by omega) (by omega)).mono ?_); rw [HE.out]; rintro e w6 ⟨rfl, rfl⟩)
          go_wp2_with (go_at_call 48; (with_reducible refine (next_any _ A D t _ q2.out (by omega) (by omega) (by omega)).mono ?_); rw [HE.out]; rintro e w7 ⟨rfl, rfl⟩)

          go_roundw
          case rel => exact ⟨m, E + 1, HME.out, by omega, rfl, by rw [HA.out]; exact hown5, hbl5⟩
          case measure => simp [intOf]; omega

        | some x =>
          have HA := Lib.hid (HMD.out x rfl)
          clear HMS HMD
          rcases Nat.eq_zero_or_pos R.length with h0 | h0
          · obtain rfl : R = [] := List.eq_nil_of_length_eq_zero h0
            have HQ : Hid (slcs (addS [] D E x) = slcs [] ++ [[.int .i64 D, .int .i64 E, .int .i64 x]]) := rfl
            clear h0 HBD
            obtain ⟨A7, cap7, rfl⟩ := hown.form
            rw [slcs_len] at hown ⊢
            simp only [List.length_nil] at hown ⊢
            go_wp2_with (go_at_call 45; (with_reducible refine (value_any _ A D _ (T2.out.below hbl) HSA.out (by omega)).mono ?_); rw [HO.out]; rintro e w5 ⟨rfl, hb5⟩; have hbl5 := hbl.trans (hb5.mono hbs); have hown5 := hown.kept hb5; have hbs5 := hbl5.size; have q2 := Lib.hid (T2.out.below hbl5);  clear hb5 hown hbl)
            go_wp2_with (first | (go_at_call 48; (with_reducible refine (next_any _ A D t _ q2.out (by omega) (by omega) (by omega)).mono ?_); rw [HE.out]; rintro e w6 ⟨rfl, rfl⟩) | (at_builtin; (refine wpList_append_sl rfl (.tmp 49) (.tmp 54) rfl rowSlc w3.heap.size _ _ _ [[.int .i64 D, .int .i64 E, .int .i64 x]] rfl (hown5.alloc _) rfl (Sl.one (by simp) rfl) (slc_wide D E x) (by rw [slcs_len]; unfold maxLen; simp <;> omega) (by rw [slcs_len]; simp <;> omega) (by simp; omega) ?_); intro v3 w9 hown3 hg3 _; have hb3 := Own.grown (hown5.alloc _) (hbl5.alloc hbs5 _) hg3 (by simp; omega); have q3 := Lib.hid (T2.out.below hb3); rw [← HQ.out] at hown3))
            go_wp2_with (go_at_call 48; (with_reducible refine (next_any _ A D t _ q3.out (by omega) (by omega) (by omega)).mono ?_); rw [HE.out]; rintro e w7 ⟨rfl, rfl⟩)

            go_roundw
            case rel => exact ⟨m, E + 1, HME.out, by omega, rfl, by rw [HA.out]; exact hown3, hb3⟩
            case measure => simp [intOf]; omega

          · obtain ⟨j, hj⟩ : ∃ j, R.length = j + 1 := ⟨R.length - 1, by omega⟩
            obtain ⟨g, cap7, rfl, hcap⟩ := hown.some_form (by rw [slcs_len]; exact h0)
            rw [slcs_len, hj] at hown hcap ⊢
            have hjl : j < R.length := by omega
            have HJ := Lib.hid hj
            have hj1 : j + 1 ≤ 84006 := by omega
            have hjbd := HBD.out _ (List.getElem_mem hjl)
            obtain ⟨pe, hpe⟩ : ∃ pe, (R[j]).e = pe := ⟨_, rfl⟩
            obtain ⟨pv, hpv⟩ : ∃ pv, (R[j]).v = pv := ⟨_, rfl⟩
            rw [hpe] at hjbd
            have hpe0 : 0 ≤ pe := by omega
            have hpe1 : pe ≤ 84005 := by omega
            clear hjbd HBD
            have HPE := Lib.hid hpe
            have HPV := Lib.hid hpv
            cases hvv : (pv == x)
            · have HQ : Hid (slcs (addS R D E x) = slcs R ++ [[.int .i64 D, .int .i64 E, .int .i64 x]]) := by
                have hvn : ¬ pv = x := by simpa using hvv
                rw [Hid, addS_apart hj (fun h => hvn (by rw [← hpv]; exact h.2)), slcs_append]; rfl
              clear hpe hpv h0 hj
              go_wp2_with (go_at_call 45; (with_reducible refine (value_any _ A D _ (T2.out.below hbl) HSA.out (by omega)).mono ?_); rw [HO.out]; rintro e w5 ⟨rfl, hb5⟩; have hbl5 := hbl.trans (hb5.mono hbs); have hown5 := hown.kept hb5; have hbs5 := hbl5.size; have q2 := Lib.hid (T2.out.below hbl5); have c5 := hown5.cellE (by omega) (slcs_at hjl) (j := 1) rfl; have c6 := hown5.cellE (by omega) (slcs_at hjl) (j := 2) rfl; have f5 := hown5.frozenE (j * 3 + 1); have hz5 := (hown5.lt rfl).2; rw [HPE.out] at c5; rw [HPV.out] at c6; clear hb5 hown hbl)
              go_wp2_with (first | (go_at_call 48; (with_reducible refine (next_any _ A D t _ q2.out (by omega) (by omega) (by omega)).mono ?_); rw [HE.out]; rintro e w6 ⟨rfl, rfl⟩) | (at_builtin; (refine wpList_append_sl rfl (.tmp 49) (.tmp 54) rfl rowSlc w3.heap.size _ _ _ [[.int .i64 D, .int .i64 E, .int .i64 x]] rfl (hown5.alloc _) rfl (Sl.one (by simp) rfl) (slc_wide D E x) (by rw [slcs_len]; unfold maxLen; simp <;> omega) (by rw [slcs_len]; simp <;> omega) (by simp; omega) ?_); intro v3 w9 hown3 hg3 _; have hb3 := Own.grown (hown5.alloc _) (hbl5.alloc hbs5 _) hg3 (by simp; omega); have q3 := Lib.hid (T2.out.below hb3); rw [← HQ.out] at hown3))
              go_wp2_with (go_at_call 48; (with_reducible refine (next_any _ A D t _ q3.out (by omega) (by omega) (by omega)).mono ?_); rw [HE.out]; rintro e w7 ⟨rfl, rfl⟩)

              go_roundw
              case rel => exact ⟨m, E + 1, HME.out, by omega, rfl, by rw [HA.out]; exact hown3, hb3⟩
              case measure => simp [intOf]; omega

            · by_cases hjn : pe = D - 1
              · have HQ : Hid (slcs (addS R D E x) = (slcs R).set j ([.int .i64 (R[j]).b, .int .i64 (R[j]).e, .int .i64 (R[j]).v].set 1 (.int .i64 E))) := by
                  have hvn : pv = x := by simpa using hvv
                  rw [Hid, addS_join hj (by rw [hpe]; omega) (by rw [hpv]; exact hvn), slcs, slcs, List.map_set, hpv, hvn]; rfl
                have hjb : (pe == D - 1) = true := by simpa using hjn
                clear hpe hpv hjn h0 hj
                go_wp2_with (go_at_call 45; (with_reducible refine (value_any _ A D _ (T2.out.below hbl) HSA.out (by omega)).mono ?_); rw [HO.out]; rintro e w5 ⟨rfl, hb5⟩; have hbl5 := hbl.trans (hb5.mono hbs); have hown5 := hown.kept hb5; have hbs5 := hbl5.size; have q2 := Lib.hid (T2.out.below hbl5); have c5 := hown5.cellE (by omega) (slcs_at hjl) (j := 1) rfl; have c6 := hown5.cellE (by omega) (slcs_at hjl) (j := 2) rfl; have f5 := hown5.frozenE (j * 3 + 1); have hz5 := (hown5.lt rfl).2; rw [HPE.out] at c5; rw [HPV.out] at c6; clear hb5 hown hbl)
                go_wp2_with (go_at_call 48; (with_reducible refine (next_any _ A D t _ q2.out (by omega) (by omega) (by omega)).mono ?_); rw [HE.out]; rintro e w6 ⟨rfl, rfl⟩)
                have hst := hown5.set1 (by omega) j (slcs_at hjl) 1 (by omega) (.int .i64 E) rfl
                have hbw := hown5.grown hbl5 hst.2 hbs5
                go_wp2_with (go_at_call 48; (with_reducible refine (next_any _ A D t _ (T2.out.below hbw) (by omega) (by omega) (by omega)).mono ?_); rw [HE.out]; rintro e w7 ⟨rfl, rfl⟩)
                go_roundw
                case rel => exact ⟨m, E + 1, HME.out, by omega, rfl, by rw [HA.out, HQ.out]; exact hst.1, hbw⟩
                case measure => simp [intOf]; omega
              · have HQ : Hid (slcs (addS R D E x) = slcs R ++ [[.int .i64 D, .int .i64 E, .int .i64 x]]) := by
                  rw [Hid, addS_apart hj (fun h => hjn (by rw [← hpe]; omega)), slcs_append]; rfl
                have hjb : (pe == D - 1) = false := by simpa using hjn
                clear hpe hpv h0 hj hjn
                go_wp2_with (go_at_call 45; (with_reducible refine (value_any _ A D _ (T2.out.below hbl) HSA.out (by omega)).mono ?_); rw [HO.out]; rintro e w5 ⟨rfl, hb5⟩; have hbl5 := hbl.trans (hb5.mono hbs); have hown5 := hown.kept hb5; have hbs5 := hbl5.size; have q2 := Lib.hid (T2.out.below hbl5); have c5 := hown5.cellE (by omega) (slcs_at hjl) (j := 1) rfl; have c6 := hown5.cellE (by omega) (slcs_at hjl) (j := 2) rfl; have f5 := hown5.frozenE (j * 3 + 1); have hz5 := (hown5.lt rfl).2; rw [HPE.out] at c5; rw [HPV.out] at c6; clear hb5 hown hbl)
                go_wp2_with (first | (go_at_call 48; (with_reducible refine (next_any _ A D t _ q2.out (by omega) (by omega) (by omega)).mono ?_); rw [HE.out]; rintro e w6 ⟨rfl, rfl⟩) | (at_builtin; (refine wpList_append_sl rfl (.tmp 49) (.tmp 54) rfl rowSlc w3.heap.size _ _ _ [[.int .i64 D, .int .i64 E, .int .i64 x]] rfl (hown5.alloc _) rfl (Sl.one (by simp) rfl) (slc_wide D E x) (by rw [slcs_len]; unfold maxLen; simp <;> omega) (by rw [slcs_len]; simp <;> omega) (by simp; omega) ?_); intro v3 w9 hown3 hg3 _; have hb3 := Own.grown (hown5.alloc _) (hbl5.alloc hbs5 _) hg3 (by simp; omega); have q3 := Lib.hid (T2.out.below hb3); rw [← HQ.out] at hown3))
                go_wp2_with (go_at_call 48; (with_reducible refine (next_any _ A D t _ q3.out (by omega) (by omega) (by omega)).mono ?_); rw [HE.out]; rintro e w7 ⟨rfl, rfl⟩)

                go_roundw
                case rel => exact ⟨m, E + 1, HME.out, by omega, rfl, by rw [HA.out]; exact hown3, hb3⟩
                case measure => simp [intOf]; omega
      · have hkM : runs (valD A) f n = slicesR A f t := by rw [slicesR]; congr 1; omega
        rw [hkM] at hown
        clear hkM hDn
        go_wp2
        go_ret2
        exact ⟨_, rfl, hown.more hz3, HB3.out.trans (hbl.mono hz3)⟩
  · have HN : Hid (¬ checkE l f t = 0) := h0
    rw [slicesC, if_neg h0]
    obtain ⟨er, her⟩ : ∃ er, checkE l f t = er := ⟨_, rfl⟩
    rw [her] at V h0 ⊢
    have hne : (er != 0) = true := by simpa using h0
    have H := Lib.hid V
    clear V her h0
    go_enter Try.func30, Try.ntmps30
    go_wp2_with (go_at_call 47; (with_reducible refine H.out.mono ?_); rintro e w1 ⟨rfl, hb1⟩)
    go_ret2
    exact ⟨_, rfl, Own.nil _ _ _ _, hb1⟩
end Go.Proofs.Ytnmbaeahnfbfiaa
