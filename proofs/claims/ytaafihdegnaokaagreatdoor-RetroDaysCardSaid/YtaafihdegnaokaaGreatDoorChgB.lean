/- timeline.Diff. -/
import Derived.Test.YtaafihdegnaokaaGreatDoorChgJ
import Derived.Test.YtaafihdegnaokaaGreatDoorChgQ
import Derived.Test.YtaafihdegnaokaaGreatDoorSet1
namespace Go.Proofs.YtaafihdegnaokaaGreatDoor
open Go.RowKit

def Pc.rng (p : Pc) : List Value := [.int .i64 p.b, .int .i64 p.e]
def rngs (R : List Pc) : List (List Value) := R.map Pc.rng
theorem rngs_len (R : List Pc) : (rngs R).length = R.length := by simp [rngs]
theorem rngs_at {R : List Pc} {k : Nat} (h : k < R.length) : (rngs R)[k]? = some (R[k]).rng := by simp [rngs, h]
theorem rngs_append (l m : List Pc) : rngs (l ++ m) = rngs l ++ rngs m := by simp [rngs]
theorem rng_wide (a b : Int) : Wide 2 [[.int .i64 a, .int .i64 b]] := fun x hx => by
  obtain rfl := List.mem_singleton.1 hx
  exact ⟨rfl, by simp [Value.oneCell']⟩
theorem rowRng : RowTy Tryz.prog 35 37 2 16 := by
  obtain ⟨i, hi, hz, hs, hb⟩ := info_parts (show (Tryz.prog.info? 37).map (fun i => (i.zero, i.size, i.bytes)) = some (some (.agg #[.int .i64 0, .int .i64 0]), 2, 16) by kernel_rfl)
  exact ⟨Tryz.underlying35, ⟨i, _, hi, hz, hs, hb, rfl⟩, by omega⟩
theorem opt_ways (o p : Option Int) : (o = p ∧ (o.getD 0 == p.getD 0) = true ∧ (o.isSome == p.isSome) = true) ∨ (¬ o = p ∧ (o.getD 0 == p.getD 0) = false) ∨ (¬ o = p ∧ (o.getD 0 == p.getD 0) = true ∧ (o.isSome == p.isSome) = false) := by
  cases o <;> cases p <;> simp <;> omega

def diffC (l : List Chg) (a b f t : Int) : List Pc := if checkE l f t = 0 then difR (inC l a) (inC l b) f t else []
theorem checkE_ok {l : List Chg} {f t : Int} (h : checkE l f t = 0) : l.length ≤ 1024 ∧ 0 ≤ f ∧ f ≤ t ∧ t ≤ 84005 := by
  unfold checkE at h
  by_cases h0 : validE l = 0
  · have := validE_len h0
    rw [if_pos h0] at h
    split at h
    · split at h <;> omega
    · omega
  · rw [if_neg h0] at h; exact absurd h h0

def DfR (w : World) (A B : List Chg) (M : List Int) (f t : Int) (r i : Value) (wr : World) : Prop :=
  ∃ k : Nat, k ≤ M.length ∧ i = .int .i64 k ∧ Own wr w.heap.size 37 2 r (rngs (difTo A B M f t k)) ∧ Below w.heap.size w wr

set_option maxRecDepth 10000 in
set_option maxHeartbeats 2000000 in
theorem Diff_any (v : Value) (l : List Chg) (a b f t : Int) (w : World) (hv : Sl w 4 v (chgs l)) :
    Calls Tryz.prog 36 #[v, .int .i64 a, .int .i64 b, .int .i64 f, .int .i64 t] w (RetOwn2 w 37 2 (rngs (diffC l a b f t)) (checkE l f t)) := by
  have V := check_any v l f t w hv
  have HV := Lib.hid hv
  clear hv
  by_cases h0 : checkE l f t = 0
  · obtain ⟨hl, hf0, hft, ht⟩ := checkE_ok h0
    rw [diffC, if_pos h0, h0]
    rw [h0] at V
    have H := Lib.hid V
    clear V h0
    have hla := inC_len l a
    have hlb := inC_len l b
    have HSA := Lib.hid (days_inC l a)
    have HSB := Lib.hid (days_inC l b)
    obtain ⟨A, hA⟩ : ∃ A, inC l a = A := ⟨_, rfl⟩
    obtain ⟨B, hB⟩ : ∃ B, inC l b = B := ⟨_, rfl⟩
    rw [hA, hB]
    rw [hA] at hla HSA
    rw [hB] at hlb HSB
    have HA := Lib.hid hA
    have HB := Lib.hid hB
    clear hA hB
    obtain ⟨M, hM⟩ : ∃ M, marksD (A ++ B) f t = M := ⟨_, rfl⟩
    have HM := Lib.hid hM
    have hml : M.length ≤ 4096 := by
      have := (marks_len (A ++ B) f t).2
      rw [hM, List.length_append] at this
      omega
    clear hM
    go_enter Tryz.func36, Tryz.ntmps36
    go_wp2_with (go_at_call 59; (with_reducible refine H.out.mono ?_); rintro e w1 ⟨rfl, hb1⟩)
    go_wp2_with (go_at_call 60; (with_reducible refine (steps_any _ l a _ (HV.out.below hb1) hl).mono ?_); rintro e w2 ⟨x2, rfl, hown2, hb2⟩; rw [HA.out] at hown2; have hB2 := hb1.trans (hb2.mono hb1.size))
    go_wp2_with (go_at_call 60; (with_reducible refine (steps_any _ l b _ (HV.out.below hB2) hl).mono ?_); rintro e w3 ⟨x3, rfl, hown3, hb3⟩; rw [HB.out] at hown3; have hB3 := hB2.trans (hb3.mono hB2.size))
    have S2 := Lib.hid ((hown2.sl (by omega)).below hb3)
    have S3 := Lib.hid (hown3.sl (by omega))
    clear hown2 hown3 hb1 hb2 hb3 hB2
    go_wp2_with (go_at_call 61; (with_reducible refine (marks_any _ _ A B f t _ S2.out S3.out (by omega) (by omega)).mono ?_); rintro e w4 ⟨x4, rfl, hown4, hb4⟩; rw [HM.out] at hown4; have hB4 := hB3.trans (hb4.mono hB3.size); have hq := hown4.form; rw [ints_len] at hq; obtain ⟨A4, cap4, rfl⟩ := hq)
    have T2 := Lib.hid (S2.out.below hb4)
    have T3 := Lib.hid (S3.out.below hb4)
    have T4 := Lib.hid (hown4.sl (by omega))
    have hz4 := hB4.size
    have HB4 := Lib.hid hB4
    clear S2 S3 hown4 hb4 hB3 hB4
    go_loopw [16, 45] (fun r i wr => DfR w4 A B M f t r i wr) (fun _ i _ => M.length - (intOf i).toNat)
    case atStart => exact ⟨0, by omega, rfl, by rw [← HM.out, difTo_zero hft]; exact Own.nil _ _ _ _, Below.refl _ _⟩
    case round =>
      obtain ⟨k, hk, rfl, hown, hbl⟩ := hrel
      obtain ⟨wo, rfl⟩ : ∃ wo : World, wo = wr := ⟨_, rfl⟩
      have hbs := hbl.size
      by_cases hlt : k < M.length
      · have hmk : k < (marksD (A ++ B) f t).length := by rw [HM.out]; exact hlt
        have hms := difTo_same (A := A) (B := B) hft hmk
        have hmd := difTo_differ (A := A) (B := B) hft hmk
        obtain ⟨hr1, hr2⟩ := marks_range hft hmk
        obtain ⟨hr3, hr4, hr5⟩ := marks_seg hft hmk
        obtain ⟨D, hD⟩ : ∃ D, (marksD (A ++ B) f t)[k] = D := ⟨_, rfl⟩
        have hMD : M[k] = D := by rw [← hD]; exact (List.getElem_of_eq HM.out hmk).symm
        rw [hD] at hms hmd hr1 hr2 hr3
        rw [HM.out] at hms hmd hr3 hr4
        have HMS := Lib.hid hms
        have HMD := Lib.hid hmd
        have HV0 := Lib.hid (difTo_zeroV A B M f t k)
        have HBD : Hid (∀ p ∈ difTo A B M f t k, f ≤ p.b ∧ p.b ≤ p.e ∧ p.e ≤ t) := fun p hp => by
          have := runs_bounds (difV A B) f _ p hp
          rw [mDay_in hlt, hMD] at this
          omega
        have hRl : (difTo A B M f t k).length ≤ 84006 := by
          have h1 := runs_len (difV A B) f (mDay M t k - f).toNat
          rw [mDay_in hlt, hMD] at h1
          rw [difTo, mDay_in hlt, hMD]
          omega
        clear hr5 hmk hms hmd hD
        obtain ⟨bk, off, rfl, hc0⟩ := (T4.out.below hbl).cells (by rw [ints_len]; omega)
        have c0 := hc0.int hlt
        obtain ⟨E, hE⟩ : ∃ E, mEnd M t k = E := ⟨_, rfl⟩
        have HE := Lib.hid hE
        rw [hE] at HMD hr3 hr4
        have c1 : Hid (∀ h : k + 1 < M.length, wo.cell? ⟨bk, off + (k + 1), none⟩ = some (.int .i64 (E + 1))) := fun h => by
          have := hc0.int h
          rw [this, ← hE, mEnd_in h]
          congr 2
          omega
        have hbw := hc0.1
        clear hE hc0
        rw [hMD] at c0
        clear hMD
        obtain ⟨o, ho⟩ : ∃ o, valD A D = o := ⟨_, rfl⟩
        obtain ⟨p, hp⟩ : ∃ p, valD B D = p := ⟨_, rfl⟩
        rw [ho, hp] at HMS HMD
        have HO := Lib.hid ho
        have HP := Lib.hid hp
        clear ho hp
        obtain ⟨R, hR⟩ : ∃ R, difTo A B M f t k = R := ⟨_, rfl⟩
        rw [hR] at HMS HMD HV0 HBD hown hRl
        clear hR
        obtain ⟨x1, hx1⟩ : ∃ x, o.getD 0 = x := ⟨_, rfl⟩
        obtain ⟨b1, hb1⟩ : ∃ x, o.isSome = x := ⟨_, rfl⟩
        obtain ⟨x2, hx2⟩ : ∃ x, p.getD 0 = x := ⟨_, rfl⟩
        obtain ⟨b2, hb2⟩ : ∃ x, p.isSome = x := ⟨_, rfl⟩
        have hw := opt_ways o p
        rw [hx1, hb1, hx2, hb2] at hw
        have HW := Lib.hid hw
        have HX1 := Lib.hid hx1
        have HX2 := Lib.hid hx2
        have HB1 := Lib.hid hb1
        have HB2 := Lib.hid hb2
        clear hw hx1 hb1 hx2 hb2
        by_cases hlast : k + 1 < M.length
        · have c1' := c1.out hlast
          clear c1 HE
          rcases HW.out with ⟨e1, e2, e3⟩ | ⟨e1, e2⟩ | ⟨e1, e2, e3⟩
          · have HA := Lib.hid (HMS.out e1)
            clear e1 HW HMS HMD

            go_wp2_with (go_at_call 62; (with_reducible refine (at_any _ A D _ (T2.out.below hbl) HSA.out (by omega)).mono ?_); rw [HO.out]; rintro e w5 ⟨he, hb5⟩; rw [HX1.out, HB1.out] at he; subst he; have hbl5 := hbl.trans (hb5.mono hbs); have hown5 := hown.kept hb5; have hbs5 := hbl5.size; clear hb5)
            go_wp2_with (go_at_call 62; (with_reducible refine (at_any _ B D _ (T3.out.below hbl5) HSB.out (by omega)).mono ?_); rw [HP.out]; rintro e w6 ⟨he, hb6⟩; rw [HX2.out, HB2.out] at he; subst he; have hbl6 := hbl5.trans (hb6.mono hbs5); have hown6 := hown5.kept hb6; have hbs6 := hbl6.size; clear hb6 hown5 hbl5 hown hbl)
            go_roundw
            case rel => exact ⟨k + 1, by omega, by go_num, by rw [HA.out]; exact hown6, hbl6⟩
            case measure => simp [intOf]; omega
          · have HA := Lib.hid (HMD.out e1)
            clear e1 HW HMS HMD
            rcases Nat.eq_zero_or_pos R.length with h0 | h0
            · obtain rfl : R = [] := List.eq_nil_of_length_eq_zero h0
              have HQ : Hid (rngs (addS [] D E 0) = rngs [] ++ [[.int .i64 D, .int .i64 E]]) := rfl
              clear h0 HV0 HBD
              obtain ⟨A7, cap7, rfl⟩ := hown.form
              rw [rngs_len] at hown ⊢
              simp only [List.length_nil] at hown ⊢
              go_wp2_with (go_at_call 62; (with_reducible refine (at_any _ A D _ (T2.out.below hbl) HSA.out (by omega)).mono ?_); rw [HO.out]; rintro e w5 ⟨he, hb5⟩; rw [HX1.out, HB1.out] at he; subst he; have hbl5 := hbl.trans (hb5.mono hbs); have hown5 := hown.kept hb5; have hbs5 := hbl5.size; clear hb5)
              go_wp2_with (first | (go_at_call 62; (with_reducible refine (at_any _ B D _ (T3.out.below hbl5) HSB.out (by omega)).mono ?_); rw [HP.out]; rintro e w6 ⟨he, hb6⟩; rw [HX2.out, HB2.out] at he; subst he; have hbl6 := hbl5.trans (hb6.mono hbs5); have hown6 := hown5.kept hb6; have hbs6 := hbl6.size; clear hb6 hown5 hbl5 hown hbl) | (at_builtin; (refine wpList_append_sl rfl (.tmp 103) (.tmp 107) rfl rowRng w4.heap.size _ _ _ [[.int .i64 D, .int .i64 E]] rfl (hown6.alloc _) rfl (Sl.one (by simp) rfl) (rng_wide D E) (by rw [rngs_len]; unfold maxLen; simp <;> omega) (by rw [rngs_len]; simp <;> omega) (by simp; omega) ?_); intro v3 w3 hown3 hg3 _; have hb3 := Own.grown (hown6.alloc _) (hbl6.alloc hbs6 _) hg3 (by simp; omega); rw [← HQ.out] at hown3))
              go_roundw
              case rel => exact ⟨k + 1, by omega, by go_num, by rw [HA.out]; exact hown3, hb3⟩
              case measure => simp [intOf]; omega

            · obtain ⟨j, hj⟩ : ∃ j, R.length = j + 1 := ⟨R.length - 1, by omega⟩
              obtain ⟨g, cap7, rfl, hcap⟩ := hown.some_form (by rw [rngs_len]; exact h0)
              rw [rngs_len, hj] at hown hcap ⊢
              have hjl : j < R.length := by omega
              have HJ := Lib.hid hj
              have hj1 : j + 1 ≤ 84006 := by omega
              have hV := HV0.out _ (List.getElem_mem hjl)
              have hjbd := HBD.out _ (List.getElem_mem hjl)
              obtain ⟨pe, hpe⟩ : ∃ pe, (R[j]).e = pe := ⟨_, rfl⟩
              rw [hpe] at hjbd
              have hpe0 : 0 ≤ pe := by omega
              have hpe1 : pe ≤ 84005 := by omega
              clear hjbd HBD
              have HPE := Lib.hid hpe
              by_cases hjn : pe + 1 = D
              · have HQ : Hid (rngs (addS R D E 0) = (rngs R).set j ([.int .i64 (R[j]).b, .int .i64 (R[j]).e].set 1 (.int .i64 E))) := by
                  rw [Hid, addS_join hj (by rw [hpe]; exact hjn) hV, rngs, rngs, List.map_set]; rfl
                obtain rfl : pe = D - 1 := by omega
                clear hpe hjn hV HV0 h0 hj
                go_wp2_with (go_at_call 62; (with_reducible refine (at_any _ A D _ (T2.out.below hbl) HSA.out (by omega)).mono ?_); rw [HO.out]; rintro e w5 ⟨he, hb5⟩; rw [HX1.out, HB1.out] at he; subst he; have hbl5 := hbl.trans (hb5.mono hbs); have hown5 := hown.kept hb5; have hbs5 := hbl5.size; clear hb5)
                go_wp2_with (go_at_call 62; (with_reducible refine (at_any _ B D _ (T3.out.below hbl5) HSB.out (by omega)).mono ?_); rw [HP.out]; rintro e w6 ⟨he, hb6⟩; rw [HX2.out, HB2.out] at he; subst he; have hbl6 := hbl5.trans (hb6.mono hbs5); have hown6 := hown5.kept hb6; have hbs6 := hbl6.size; have c5 := hown6.cellE (by omega) (rngs_at hjl) (j := 1) rfl; have f5 := hown6.frozenE (j * 2 + 1); have hz5 := (hown6.lt rfl).2; rw [HPE.out] at c5; clear hb6 hown5 hbl5 hown hbl)

                go_roundw
                case rel => exact ⟨k + 1, by omega, by go_num, by rw [HA.out, HQ.out]; exact (hown6.set1 (by omega) j (rngs_at hjl) 1 (by omega) (.int .i64 E) rfl).1, hown6.grown hbl6 (hown6.set1 (by omega) j (rngs_at hjl) 1 (by omega) (.int .i64 E) rfl).2 hbs6⟩
                case measure => simp [intOf]; omega
              · have HQ : Hid (rngs (addS R D E 0) = rngs R ++ [[.int .i64 D, .int .i64 E]]) := by
                  rw [Hid, addS_apart hj (fun h => hjn (by rw [← hpe]; exact h.1)), rngs_append]; rfl
                have hjb : (pe + 1 == D) = false := by simpa using hjn
                clear hpe hV HV0 h0 hj hjn
                go_wp2_with (go_at_call 62; (with_reducible refine (at_any _ A D _ (T2.out.below hbl) HSA.out (by omega)).mono ?_); rw [HO.out]; rintro e w5 ⟨he, hb5⟩; rw [HX1.out, HB1.out] at he; subst he; have hbl5 := hbl.trans (hb5.mono hbs); have hown5 := hown.kept hb5; have hbs5 := hbl5.size; clear hb5)
                go_wp2_with (first | (go_at_call 62; (with_reducible refine (at_any _ B D _ (T3.out.below hbl5) HSB.out (by omega)).mono ?_); rw [HP.out]; rintro e w6 ⟨he, hb6⟩; rw [HX2.out, HB2.out] at he; subst he; have hbl6 := hbl5.trans (hb6.mono hbs5); have hown6 := hown5.kept hb6; have hbs6 := hbl6.size; have c5 := hown6.cellE (by omega) (rngs_at hjl) (j := 1) rfl; have f5 := hown6.frozenE (j * 2 + 1); have hz5 := (hown6.lt rfl).2; rw [HPE.out] at c5; clear hb6 hown5 hbl5 hown hbl) | (at_builtin; (refine wpList_append_sl rfl (.tmp 103) (.tmp 107) rfl rowRng w4.heap.size _ _ _ [[.int .i64 D, .int .i64 E]] rfl (hown6.alloc _) rfl (Sl.one (by simp) rfl) (rng_wide D E) (by rw [rngs_len]; unfold maxLen; simp <;> omega) (by rw [rngs_len]; simp <;> omega) (by simp; omega) ?_); intro v3 w3 hown3 hg3 _; have hb3 := Own.grown (hown6.alloc _) (hbl6.alloc hbs6 _) hg3 (by simp; omega); rw [← HQ.out] at hown3))
                go_roundw
                case rel => exact ⟨k + 1, by omega, by go_num, by rw [HA.out]; exact hown3, hb3⟩
                case measure => simp [intOf]; omega
          · have HA := Lib.hid (HMD.out e1)
            clear e1 HW HMS HMD
            rcases Nat.eq_zero_or_pos R.length with h0 | h0
            · obtain rfl : R = [] := List.eq_nil_of_length_eq_zero h0
              have HQ : Hid (rngs (addS [] D E 0) = rngs [] ++ [[.int .i64 D, .int .i64 E]]) := rfl
              clear h0 HV0 HBD
              obtain ⟨A7, cap7, rfl⟩ := hown.form
              rw [rngs_len] at hown ⊢
              simp only [List.length_nil] at hown ⊢
              go_wp2_with (go_at_call 62; (with_reducible refine (at_any _ A D _ (T2.out.below hbl) HSA.out (by omega)).mono ?_); rw [HO.out]; rintro e w5 ⟨he, hb5⟩; rw [HX1.out, HB1.out] at he; subst he; have hbl5 := hbl.trans (hb5.mono hbs); have hown5 := hown.kept hb5; have hbs5 := hbl5.size; clear hb5)
              go_wp2_with (first | (go_at_call 62; (with_reducible refine (at_any _ B D _ (T3.out.below hbl5) HSB.out (by omega)).mono ?_); rw [HP.out]; rintro e w6 ⟨he, hb6⟩; rw [HX2.out, HB2.out] at he; subst he; have hbl6 := hbl5.trans (hb6.mono hbs5); have hown6 := hown5.kept hb6; have hbs6 := hbl6.size; clear hb6 hown5 hbl5 hown hbl) | (at_builtin; (refine wpList_append_sl rfl (.tmp 103) (.tmp 107) rfl rowRng w4.heap.size _ _ _ [[.int .i64 D, .int .i64 E]] rfl (hown6.alloc _) rfl (Sl.one (by simp) rfl) (rng_wide D E) (by rw [rngs_len]; unfold maxLen; simp <;> omega) (by rw [rngs_len]; simp <;> omega) (by simp; omega) ?_); intro v3 w3 hown3 hg3 _; have hb3 := Own.grown (hown6.alloc _) (hbl6.alloc hbs6 _) hg3 (by simp; omega); rw [← HQ.out] at hown3))
              go_roundw
              case rel => exact ⟨k + 1, by omega, by go_num, by rw [HA.out]; exact hown3, hb3⟩
              case measure => simp [intOf]; omega

            · obtain ⟨j, hj⟩ : ∃ j, R.length = j + 1 := ⟨R.length - 1, by omega⟩
              obtain ⟨g, cap7, rfl, hcap⟩ := hown.some_form (by rw [rngs_len]; exact h0)
              rw [rngs_len, hj] at hown hcap ⊢
              have hjl : j < R.length := by omega
              have HJ := Lib.hid hj
              have hj1 : j + 1 ≤ 84006 := by omega
              have hV := HV0.out _ (List.getElem_mem hjl)
              have hjbd := HBD.out _ (List.getElem_mem hjl)
              obtain ⟨pe, hpe⟩ : ∃ pe, (R[j]).e = pe := ⟨_, rfl⟩
              rw [hpe] at hjbd
              have hpe0 : 0 ≤ pe := by omega
              have hpe1 : pe ≤ 84005 := by omega
              clear hjbd HBD
              have HPE := Lib.hid hpe
              by_cases hjn : pe + 1 = D
              · have HQ : Hid (rngs (addS R D E 0) = (rngs R).set j ([.int .i64 (R[j]).b, .int .i64 (R[j]).e].set 1 (.int .i64 E))) := by
                  rw [Hid, addS_join hj (by rw [hpe]; exact hjn) hV, rngs, rngs, List.map_set]; rfl
                obtain rfl : pe = D - 1 := by omega
                clear hpe hjn hV HV0 h0 hj
                go_wp2_with (go_at_call 62; (with_reducible refine (at_any _ A D _ (T2.out.below hbl) HSA.out (by omega)).mono ?_); rw [HO.out]; rintro e w5 ⟨he, hb5⟩; rw [HX1.out, HB1.out] at he; subst he; have hbl5 := hbl.trans (hb5.mono hbs); have hown5 := hown.kept hb5; have hbs5 := hbl5.size; clear hb5)
                go_wp2_with (go_at_call 62; (with_reducible refine (at_any _ B D _ (T3.out.below hbl5) HSB.out (by omega)).mono ?_); rw [HP.out]; rintro e w6 ⟨he, hb6⟩; rw [HX2.out, HB2.out] at he; subst he; have hbl6 := hbl5.trans (hb6.mono hbs5); have hown6 := hown5.kept hb6; have hbs6 := hbl6.size; have c5 := hown6.cellE (by omega) (rngs_at hjl) (j := 1) rfl; have f5 := hown6.frozenE (j * 2 + 1); have hz5 := (hown6.lt rfl).2; rw [HPE.out] at c5; clear hb6 hown5 hbl5 hown hbl)

                go_roundw
                case rel => exact ⟨k + 1, by omega, by go_num, by rw [HA.out, HQ.out]; exact (hown6.set1 (by omega) j (rngs_at hjl) 1 (by omega) (.int .i64 E) rfl).1, hown6.grown hbl6 (hown6.set1 (by omega) j (rngs_at hjl) 1 (by omega) (.int .i64 E) rfl).2 hbs6⟩
                case measure => simp [intOf]; omega
              · have HQ : Hid (rngs (addS R D E 0) = rngs R ++ [[.int .i64 D, .int .i64 E]]) := by
                  rw [Hid, addS_apart hj (fun h => hjn (by rw [← hpe]; exact h.1)), rngs_append]; rfl
                have hjb : (pe + 1 == D) = false := by simpa using hjn
                clear hpe hV HV0 h0 hj hjn
                go_wp2_with (go_at_call 62; (with_reducible refine (at_any _ A D _ (T2.out.below hbl) HSA.out (by omega)).mono ?_); rw [HO.out]; rintro e w5 ⟨he, hb5⟩; rw [HX1.out, HB1.out] at he; subst he; have hbl5 := hbl.trans (hb5.mono hbs); have hown5 := hown.kept hb5; have hbs5 := hbl5.size; clear hb5)
                go_wp2_with (first | (go_at_call 62; (with_reducible refine (at_any _ B D _ (T3.out.below hbl5) HSB.out (by omega)).mono ?_); rw [HP.out]; rintro e w6 ⟨he, hb6⟩; rw [HX2.out, HB2.out] at he; subst he; have hbl6 := hbl5.trans (hb6.mono hbs5); have hown6 := hown5.kept hb6; have hbs6 := hbl6.size; have c5 := hown6.cellE (by omega) (rngs_at hjl) (j := 1) rfl; have f5 := hown6.frozenE (j * 2 + 1); have hz5 := (hown6.lt rfl).2; rw [HPE.out] at c5; clear hb6 hown5 hbl5 hown hbl) | (at_builtin; (refine wpList_append_sl rfl (.tmp 103) (.tmp 107) rfl rowRng w4.heap.size _ _ _ [[.int .i64 D, .int .i64 E]] rfl (hown6.alloc _) rfl (Sl.one (by simp) rfl) (rng_wide D E) (by rw [rngs_len]; unfold maxLen; simp <;> omega) (by rw [rngs_len]; simp <;> omega) (by simp; omega) ?_); intro v3 w3 hown3 hg3 _; have hb3 := Own.grown (hown6.alloc _) (hbl6.alloc hbs6 _) hg3 (by simp; omega); rw [← HQ.out] at hown3))
                go_roundw
                case rel => exact ⟨k + 1, by omega, by go_num, by rw [HA.out]; exact hown3, hb3⟩
                case measure => simp [intOf]; omega

        · obtain rfl : E = t := by rw [← HE.out]; exact mEnd_out hlast
          clear c1 HE
          rcases HW.out with ⟨e1, e2, e3⟩ | ⟨e1, e2⟩ | ⟨e1, e2, e3⟩
          · have HA := Lib.hid (HMS.out e1)
            clear e1 HW HMS HMD

            go_wp2_with (go_at_call 62; (with_reducible refine (at_any _ A D _ (T2.out.below hbl) HSA.out (by omega)).mono ?_); rw [HO.out]; rintro e w5 ⟨he, hb5⟩; rw [HX1.out, HB1.out] at he; subst he; have hbl5 := hbl.trans (hb5.mono hbs); have hown5 := hown.kept hb5; have hbs5 := hbl5.size; clear hb5)
            go_wp2_with (go_at_call 62; (with_reducible refine (at_any _ B D _ (T3.out.below hbl5) HSB.out (by omega)).mono ?_); rw [HP.out]; rintro e w6 ⟨he, hb6⟩; rw [HX2.out, HB2.out] at he; subst he; have hbl6 := hbl5.trans (hb6.mono hbs5); have hown6 := hown5.kept hb6; have hbs6 := hbl6.size; clear hb6 hown5 hbl5 hown hbl)
            go_roundw
            case rel => exact ⟨k + 1, by omega, by go_num, by rw [HA.out]; exact hown6, hbl6⟩
            case measure => simp [intOf]; omega
          · have HA := Lib.hid (HMD.out e1)
            clear e1 HW HMS HMD
            rcases Nat.eq_zero_or_pos R.length with h0 | h0
            · obtain rfl : R = [] := List.eq_nil_of_length_eq_zero h0
              have HQ : Hid (rngs (addS [] D E 0) = rngs [] ++ [[.int .i64 D, .int .i64 E]]) := rfl
              clear h0 HV0 HBD
              obtain ⟨A7, cap7, rfl⟩ := hown.form
              rw [rngs_len] at hown ⊢
              simp only [List.length_nil] at hown ⊢
              go_wp2_with (go_at_call 62; (with_reducible refine (at_any _ A D _ (T2.out.below hbl) HSA.out (by omega)).mono ?_); rw [HO.out]; rintro e w5 ⟨he, hb5⟩; rw [HX1.out, HB1.out] at he; subst he; have hbl5 := hbl.trans (hb5.mono hbs); have hown5 := hown.kept hb5; have hbs5 := hbl5.size; clear hb5)
              go_wp2_with (first | (go_at_call 62; (with_reducible refine (at_any _ B D _ (T3.out.below hbl5) HSB.out (by omega)).mono ?_); rw [HP.out]; rintro e w6 ⟨he, hb6⟩; rw [HX2.out, HB2.out] at he; subst he; have hbl6 := hbl5.trans (hb6.mono hbs5); have hown6 := hown5.kept hb6; have hbs6 := hbl6.size; clear hb6 hown5 hbl5 hown hbl) | (at_builtin; (refine wpList_append_sl rfl (.tmp 103) (.tmp 107) rfl rowRng w4.heap.size _ _ _ [[.int .i64 D, .int .i64 E]] rfl (hown6.alloc _) rfl (Sl.one (by simp) rfl) (rng_wide D E) (by rw [rngs_len]; unfold maxLen; simp <;> omega) (by rw [rngs_len]; simp <;> omega) (by simp; omega) ?_); intro v3 w3 hown3 hg3 _; have hb3 := Own.grown (hown6.alloc _) (hbl6.alloc hbs6 _) hg3 (by simp; omega); rw [← HQ.out] at hown3))
              go_roundw
              case rel => exact ⟨k + 1, by omega, by go_num, by rw [HA.out]; exact hown3, hb3⟩
              case measure => simp [intOf]; omega

            · obtain ⟨j, hj⟩ : ∃ j, R.length = j + 1 := ⟨R.length - 1, by omega⟩
              obtain ⟨g, cap7, rfl, hcap⟩ := hown.some_form (by rw [rngs_len]; exact h0)
              rw [rngs_len, hj] at hown hcap ⊢
              have hjl : j < R.length := by omega
              have HJ := Lib.hid hj
              have hj1 : j + 1 ≤ 84006 := by omega
              have hV := HV0.out _ (List.getElem_mem hjl)
              have hjbd := HBD.out _ (List.getElem_mem hjl)
              obtain ⟨pe, hpe⟩ : ∃ pe, (R[j]).e = pe := ⟨_, rfl⟩
              rw [hpe] at hjbd
              have hpe0 : 0 ≤ pe := by omega
              have hpe1 : pe ≤ 84005 := by omega
              clear hjbd HBD
              have HPE := Lib.hid hpe
              by_cases hjn : pe + 1 = D
              · have HQ : Hid (rngs (addS R D E 0) = (rngs R).set j ([.int .i64 (R[j]).b, .int .i64 (R[j]).e].set 1 (.int .i64 E))) := by
                  rw [Hid, addS_join hj (by rw [hpe]; exact hjn) hV, rngs, rngs, List.map_set]; rfl
                obtain rfl : pe = D - 1 := by omega
                clear hpe hjn hV HV0 h0 hj
                go_wp2_with (go_at_call 62; (with_reducible refine (at_any _ A D _ (T2.out.below hbl) HSA.out (by omega)).mono ?_); rw [HO.out]; rintro e w5 ⟨he, hb5⟩; rw [HX1.out, HB1.out] at he; subst he; have hbl5 := hbl.trans (hb5.mono hbs); have hown5 := hown.kept hb5; have hbs5 := hbl5.size; clear hb5)
                go_wp2_with (go_at_call 62; (with_reducible refine (at_any _ B D _ (T3.out.below hbl5) HSB.out (by omega)).mono ?_); rw [HP.out]; rintro e w6 ⟨he, hb6⟩; rw [HX2.out, HB2.out] at he; subst he; have hbl6 := hbl5.trans (hb6.mono hbs5); have hown6 := hown5.kept hb6; have hbs6 := hbl6.size; have c5 := hown6.cellE (by omega) (rngs_at hjl) (j := 1) rfl; have f5 := hown6.frozenE (j * 2 + 1); have hz5 := (hown6.lt rfl).2; rw [HPE.out] at c5; clear hb6 hown5 hbl5 hown hbl)

                go_roundw
                case rel => exact ⟨k + 1, by omega, by go_num, by rw [HA.out, HQ.out]; exact (hown6.set1 (by omega) j (rngs_at hjl) 1 (by omega) (.int .i64 E) rfl).1, hown6.grown hbl6 (hown6.set1 (by omega) j (rngs_at hjl) 1 (by omega) (.int .i64 E) rfl).2 hbs6⟩
                case measure => simp [intOf]; omega
              · have HQ : Hid (rngs (addS R D E 0) = rngs R ++ [[.int .i64 D, .int .i64 E]]) := by
                  rw [Hid, addS_apart hj (fun h => hjn (by rw [← hpe]; exact h.1)), rngs_append]; rfl
                have hjb : (pe + 1 == D) = false := by simpa using hjn
                clear hpe hV HV0 h0 hj hjn
                go_wp2_with (go_at_call 62; (with_reducible refine (at_any _ A D _ (T2.out.below hbl) HSA.out (by omega)).mono ?_); rw [HO.out]; rintro e w5 ⟨he, hb5⟩; rw [HX1.out, HB1.out] at he; subst he; have hbl5 := hbl.trans (hb5.mono hbs); have hown5 := hown.kept hb5; have hbs5 := hbl5.size; clear hb5)
                go_wp2_with (first | (go_at_call 62; (with_reducible refine (at_any _ B D _ (T3.out.below hbl5) HSB.out (by omega)).mono ?_); rw [HP.out]; rintro e w6 ⟨he, hb6⟩; rw [HX2.out, HB2.out] at he; subst he; have hbl6 := hbl5.trans (hb6.mono hbs5); have hown6 := hown5.kept hb6; have hbs6 := hbl6.size; have c5 := hown6.cellE (by omega) (rngs_at hjl) (j := 1) rfl; have f5 := hown6.frozenE (j * 2 + 1); have hz5 := (hown6.lt rfl).2; rw [HPE.out] at c5; clear hb6 hown5 hbl5 hown hbl) | (at_builtin; (refine wpList_append_sl rfl (.tmp 103) (.tmp 107) rfl rowRng w4.heap.size _ _ _ [[.int .i64 D, .int .i64 E]] rfl (hown6.alloc _) rfl (Sl.one (by simp) rfl) (rng_wide D E) (by rw [rngs_len]; unfold maxLen; simp <;> omega) (by rw [rngs_len]; simp <;> omega) (by simp; omega) ?_); intro v3 w3 hown3 hg3 _; have hb3 := Own.grown (hown6.alloc _) (hbl6.alloc hbs6 _) hg3 (by simp; omega); rw [← HQ.out] at hown3))
                go_roundw
                case rel => exact ⟨k + 1, by omega, by go_num, by rw [HA.out]; exact hown3, hb3⟩
                case measure => simp [intOf]; omega
          · have HA := Lib.hid (HMD.out e1)
            clear e1 HW HMS HMD
            rcases Nat.eq_zero_or_pos R.length with h0 | h0
            · obtain rfl : R = [] := List.eq_nil_of_length_eq_zero h0
              have HQ : Hid (rngs (addS [] D E 0) = rngs [] ++ [[.int .i64 D, .int .i64 E]]) := rfl
              clear h0 HV0 HBD
              obtain ⟨A7, cap7, rfl⟩ := hown.form
              rw [rngs_len] at hown ⊢
              simp only [List.length_nil] at hown ⊢
              go_wp2_with (go_at_call 62; (with_reducible refine (at_any _ A D _ (T2.out.below hbl) HSA.out (by omega)).mono ?_); rw [HO.out]; rintro e w5 ⟨he, hb5⟩; rw [HX1.out, HB1.out] at he; subst he; have hbl5 := hbl.trans (hb5.mono hbs); have hown5 := hown.kept hb5; have hbs5 := hbl5.size; clear hb5)
              go_wp2_with (first | (go_at_call 62; (with_reducible refine (at_any _ B D _ (T3.out.below hbl5) HSB.out (by omega)).mono ?_); rw [HP.out]; rintro e w6 ⟨he, hb6⟩; rw [HX2.out, HB2.out] at he; subst he; have hbl6 := hbl5.trans (hb6.mono hbs5); have hown6 := hown5.kept hb6; have hbs6 := hbl6.size; clear hb6 hown5 hbl5 hown hbl) | (at_builtin; (refine wpList_append_sl rfl (.tmp 103) (.tmp 107) rfl rowRng w4.heap.size _ _ _ [[.int .i64 D, .int .i64 E]] rfl (hown6.alloc _) rfl (Sl.one (by simp) rfl) (rng_wide D E) (by rw [rngs_len]; unfold maxLen; simp <;> omega) (by rw [rngs_len]; simp <;> omega) (by simp; omega) ?_); intro v3 w3 hown3 hg3 _; have hb3 := Own.grown (hown6.alloc _) (hbl6.alloc hbs6 _) hg3 (by simp; omega); rw [← HQ.out] at hown3))
              go_roundw
              case rel => exact ⟨k + 1, by omega, by go_num, by rw [HA.out]; exact hown3, hb3⟩
              case measure => simp [intOf]; omega

            · obtain ⟨j, hj⟩ : ∃ j, R.length = j + 1 := ⟨R.length - 1, by omega⟩
              obtain ⟨g, cap7, rfl, hcap⟩ := hown.some_form (by rw [rngs_len]; exact h0)
              rw [rngs_len, hj] at hown hcap ⊢
              have hjl : j < R.length := by omega
              have HJ := Lib.hid hj
              have hj1 : j + 1 ≤ 84006 := by omega
              have hV := HV0.out _ (List.getElem_mem hjl)
              have hjbd := HBD.out _ (List.getElem_mem hjl)
              obtain ⟨pe, hpe⟩ : ∃ pe, (R[j]).e = pe := ⟨_, rfl⟩
              rw [hpe] at hjbd
              have hpe0 : 0 ≤ pe := by omega
              have hpe1 : pe ≤ 84005 := by omega
              clear hjbd HBD
              have HPE := Lib.hid hpe
              by_cases hjn : pe + 1 = D
              · have HQ : Hid (rngs (addS R D E 0) = (rngs R).set j ([.int .i64 (R[j]).b, .int .i64 (R[j]).e].set 1 (.int .i64 E))) := by
                  rw [Hid, addS_join hj (by rw [hpe]; exact hjn) hV, rngs, rngs, List.map_set]; rfl
                obtain rfl : pe = D - 1 := by omega
                clear hpe hjn hV HV0 h0 hj
                go_wp2_with (go_at_call 62; (with_reducible refine (at_any _ A D _ (T2.out.below hbl) HSA.out (by omega)).mono ?_); rw [HO.out]; rintro e w5 ⟨he, hb5⟩; rw [HX1.out, HB1.out] at he; subst he; have hbl5 := hbl.trans (hb5.mono hbs); have hown5 := hown.kept hb5; have hbs5 := hbl5.size; clear hb5)
                go_wp2_with (go_at_call 62; (with_reducible refine (at_any _ B D _ (T3.out.below hbl5) HSB.out (by omega)).mono ?_); rw [HP.out]; rintro e w6 ⟨he, hb6⟩; rw [HX2.out, HB2.out] at he; subst he; have hbl6 := hbl5.trans (hb6.mono hbs5); have hown6 := hown5.kept hb6; have hbs6 := hbl6.size; have c5 := hown6.cellE (by omega) (rngs_at hjl) (j := 1) rfl; have f5 := hown6.frozenE (j * 2 + 1); have hz5 := (hown6.lt rfl).2; rw [HPE.out] at c5; clear hb6 hown5 hbl5 hown hbl)

                go_roundw
                case rel => exact ⟨k + 1, by omega, by go_num, by rw [HA.out, HQ.out]; exact (hown6.set1 (by omega) j (rngs_at hjl) 1 (by omega) (.int .i64 E) rfl).1, hown6.grown hbl6 (hown6.set1 (by omega) j (rngs_at hjl) 1 (by omega) (.int .i64 E) rfl).2 hbs6⟩
                case measure => simp [intOf]; omega
              · have HQ : Hid (rngs (addS R D E 0) = rngs R ++ [[.int .i64 D, .int .i64 E]]) := by
                  rw [Hid, addS_apart hj (fun h => hjn (by rw [← hpe]; exact h.1)), rngs_append]; rfl
                have hjb : (pe + 1 == D) = false := by simpa using hjn
                clear hpe hV HV0 h0 hj hjn
                go_wp2_with (go_at_call 62; (with_reducible refine (at_any _ A D _ (T2.out.below hbl) HSA.out (by omega)).mono ?_); rw [HO.out]; rintro e w5 ⟨he, hb5⟩; rw [HX1.out, HB1.out] at he; subst he; have hbl5 := hbl.trans (hb5.mono hbs); have hown5 := hown.kept hb5; have hbs5 := hbl5.size; clear hb5)
                go_wp2_with (first | (go_at_call 62; (with_reducible refine (at_any _ B D _ (T3.out.below hbl5) HSB.out (by omega)).mono ?_); rw [HP.out]; rintro e w6 ⟨he, hb6⟩; rw [HX2.out, HB2.out] at he; subst he; have hbl6 := hbl5.trans (hb6.mono hbs5); have hown6 := hown5.kept hb6; have hbs6 := hbl6.size; have c5 := hown6.cellE (by omega) (rngs_at hjl) (j := 1) rfl; have f5 := hown6.frozenE (j * 2 + 1); have hz5 := (hown6.lt rfl).2; rw [HPE.out] at c5; clear hb6 hown5 hbl5 hown hbl) | (at_builtin; (refine wpList_append_sl rfl (.tmp 103) (.tmp 107) rfl rowRng w4.heap.size _ _ _ [[.int .i64 D, .int .i64 E]] rfl (hown6.alloc _) rfl (Sl.one (by simp) rfl) (rng_wide D E) (by rw [rngs_len]; unfold maxLen; simp <;> omega) (by rw [rngs_len]; simp <;> omega) (by simp; omega) ?_); intro v3 w3 hown3 hg3 _; have hb3 := Own.grown (hown6.alloc _) (hbl6.alloc hbs6 _) hg3 (by simp; omega); rw [← HQ.out] at hown3))
                go_roundw
                case rel => exact ⟨k + 1, by omega, by go_num, by rw [HA.out]; exact hown3, hb3⟩
                case measure => simp [intOf]; omega
      · have hkM : difTo A B M f t k = difR A B f t := by rw [← HM.out]; exact difTo_end (by rw [HM.out]; exact hlt)
        rw [hkM] at hown
        clear hkM
        go_wp2
        go_ret2
        exact ⟨_, rfl, hown.more hz4, HB4.out.trans (hbl.mono hz4)⟩
  · have HN : Hid (¬ checkE l f t = 0) := h0
    rw [diffC, if_neg h0]
    obtain ⟨er, her⟩ : ∃ er, checkE l f t = er := ⟨_, rfl⟩
    rw [her] at V h0 ⊢
    have hne : (er != 0) = true := by simpa using h0
    have H := Lib.hid V
    clear V her h0
    go_enter Tryz.func36, Tryz.ntmps36
    go_wp2_with (go_at_call 59; (with_reducible refine H.out.mono ?_); rintro e w1 ⟨rfl, hb1⟩)
    go_ret2
    exact ⟨_, rfl, Own.nil _ _ _ _, hb1⟩
end Go.Proofs.YtaafihdegnaokaaGreatDoor
