/- timeline.Slices. -/
import Derived.Test.YtnmbaeahnfbfiaaRfL
import Derived.Test.YtnmbaeahnfbfiaaChgF
namespace Go.Proofs.Ytnmbaeahnfbfiaa
open Go.RowKit

def SlR (w : World) (L : List Chg) (f t : Int) (r i : Value) (wr : World) : Prop :=
  ∃ k : Nat, k ≤ L.length ∧ i = .int .i64 k ∧ Own wr w.heap.size 65 3 r (slcs (slTo L f t k)) ∧ Below w.heap.size w wr
theorem slTo_bounds (L : List Chg) (f t : Int) (i : Nat) : ∀ p ∈ slTo L f t i, f ≤ p.b ∧ p.b ≤ p.e ∧ p.e < max f (t + 1) := fun p hp => by
  have := runs_bounds (valD L) f _ p hp
  unfold sD at this
  split at this <;> omega
theorem slTo_len (L : List Chg) (f t : Int) (i : Nat) (h0 : 0 ≤ f) (h : t ≤ 84005) (hft : f ≤ t) : (slTo L f t i).length ≤ 84006 := by
  have := runs_len (valD L) f (sD L f t i - f).toNat
  have h1 : sD L f t i ≤ t + 1 := by unfold sD; split <;> omega
  rw [slTo]; omega

set_option maxRecDepth 10000 in
set_option maxHeartbeats 2000000 in
theorem Slices_any (v : Value) (l : List Chg) (a f t : Int) (w : World) (hv : Sl w 4 v (chgs l)) (hL : ∀ c ∈ l, 0 ≤ c.f ∧ c.f ≤ 84005 ∨ checkE l f t ≠ 0) :
    Calls Try.prog 29 #[v, .int .i64 a, .int .i64 f, .int .i64 t] w (RetOwn2 w 65 3 (slcs (slicesC l a f t)) (checkE l f t)) := by
  have V := check_any v l f t w hv
  have HV := Lib.hid hv
  clear hv
  by_cases h0 : checkE l f t = 0
  · obtain ⟨hl, hf0, hft, ht⟩ := checkE_ok h0
    have hLA : ∀ c ∈ inC l a, 0 ≤ c.f ∧ c.f ≤ 84005 := fun c hc => (hL c (mem_inC.1 hc).1).resolve_right (fun h => h h0)
    rw [slicesC, if_pos h0, h0]
    rw [h0] at V
    have H := Lib.hid V
    clear V h0 hL
    have hla := inC_len l a
    have HSA := Lib.hid (days_inC l a)
    obtain ⟨A, hA⟩ : ∃ A, inC l a = A := ⟨_, rfl⟩
    rw [hA]
    rw [hA] at hla HSA hLA
    have HA := Lib.hid hA
    have HLA := Lib.hid hLA
    clear hA hLA
    go_enter Try.func29, Try.ntmps29
    go_wp2_with (go_at_call 34; (with_reducible refine H.out.mono ?_); rintro e w1 ⟨rfl, hb1⟩)
    go_wp2_with (go_at_call 27; (with_reducible refine (steps_any _ l a _ (HV.out.below hb1) hl).mono ?_); rintro e w3 ⟨x2, rfl, hown2, hb2⟩; rw [HA.out] at hown2; have hB3 := hb1.trans (hb2.mono hb1.size); have hq := hown2.form; rw [stps_len] at hq; obtain ⟨A3, cap3, rfl⟩ := hq)
    have T2 := Lib.hid (hown2.sl (by omega))
    have hz3 := hB3.size
    have HB3 := Lib.hid hB3
    clear hown2 hb1 hb2 hB3
    go_loopw [11, 30] (fun r i wr => SlR w3 A f t r i wr) (fun _ i _ => A.length - (intOf i).toNat)
    case atStart => exact ⟨0, by omega, rfl, by rw [slTo_zero HSA.out hft]; exact Own.nil _ _ _ _, Below.refl _ _⟩
    case round =>
      obtain ⟨k, hk, rfl, hown, hbl⟩ := hrel
      obtain ⟨wo, rfl⟩ : ∃ wo : World, wo = wr := ⟨_, rfl⟩
      have hbs := hbl.size
      by_cases hlt : k < A.length
      · obtain ⟨bk, off, rfl, hc0⟩ := (T2.out.below hbl).cells (by rw [stps_len]; omega)
        obtain ⟨d0, d1⟩ := hc0.stp hlt
        have hbw := hc0.1
        have HN : Hid (∀ h : k + 1 < A.length, wo.cell? ⟨bk, off + (k + 1) * 2, none⟩ = some (.int .i64 (A[k + 1]).f)) := fun h => (hc0.stp h).1
        have HMS := Lib.hid (slTo_skip HSA.out hft hlt)
        have HMD := Lib.hid (slTo_step HSA.out hft hlt)
        have hxr := HLA.out _ (List.getElem_mem hlt)
        have hyr := fun h : k + 1 < A.length => HLA.out _ (List.getElem_mem h)
        have hE8 : eD A t k ≤ t := by
          by_cases h1 : k + 1 < A.length
          · rw [eD_in h1]; omega
          · rw [eD_out h1]; omega
        have hRl := slTo_len A f t k hf0 ht hft
        have HBD : Hid (∀ p ∈ slTo A f t k, f ≤ p.b ∧ p.b ≤ p.e ∧ p.e ≤ t) := fun p hp => by
          have := slTo_bounds A f t k p hp
          omega
        obtain ⟨E, hE⟩ : ∃ E, eD A t k = E := ⟨_, rfl⟩
        have HE1 : Hid (∀ h : k + 1 < A.length, min t ((A[k + 1]).f - 1) = E) := fun h => by rw [← hE, eD_in h]
        have HE2 : Hid (¬ k + 1 < A.length → E = t) := fun h => by rw [← hE, eD_out h]
        rw [hE] at HMS HMD hE8
        obtain ⟨xf, hxf⟩ : ∃ xf, (A[k]).f = xf := ⟨_, rfl⟩
        obtain ⟨x, hx⟩ : ∃ x, (A[k]).v = x := ⟨_, rfl⟩
        rw [hxf] at d0 HMS HMD hxr
        rw [hx] at d1 HMD
        obtain ⟨hx1, hx2⟩ := hxr
        obtain ⟨B, hB⟩ : ∃ B, max xf f = B := ⟨_, rfl⟩
        rw [hB] at HMS HMD
        have hB0 : 0 ≤ B := by omega
        have hB1 : B ≤ 84005 := by omega
        obtain ⟨R, hR⟩ : ∃ R, slTo A f t k = R := ⟨_, rfl⟩
        rw [hR] at HMS HMD HBD hown hRl
        have hyb : ∀ h : k + 1 < A.length, 0 ≤ (A[k + 1]).f ∧ (A[k + 1]).f ≤ 84005 := hyr
        clear hxf hx hE hR hc0 hyr
        by_cases hk1 : k + 1 < A.length
        · have c9 := HN.out hk1
          have hmin := HE1.out hk1
          obtain ⟨hy1, hy2⟩ := hyb hk1
          obtain ⟨yf, hyf⟩ : ∃ yf, (A[k + 1]).f = yf := ⟨_, rfl⟩
          rw [hyf] at c9 hmin hy1 hy2
          have hE7 : -1 ≤ E := by omega
          clear hyf HN HE1 HE2 hyb
          by_cases hBE : B ≤ E
          · have HA2 := Lib.hid (HMD.out hBE)
            have hBE2 : decide (E < B) = false := decide_eq_false (by omega)
            clear HMS HMD
            rcases Nat.eq_zero_or_pos R.length with h0 | h0
            · obtain rfl : R = [] := List.eq_nil_of_length_eq_zero h0
              have HQ : Hid (slcs (addS [] B E x) = slcs [] ++ [[.int .i64 B, .int .i64 E, .int .i64 x]]) := rfl
              clear h0 HBD
              obtain ⟨A7, cap7, rfl⟩ := hown.form
              rw [slcs_len] at hown ⊢
              simp only [List.length_nil] at hown ⊢
              have HO5 : Hid (∀ q, Own ((wo.alloc (.cells #[.int .i64 xf, .int .i64 x] 76)).drewN q) w3.heap.size 65 3 _ (slcs [])) := fun q => (hown.alloc _).kept (Below.draws (Below.refl _ _) q)
              go_wp2_with fail
              go_quiet (fail)
              go_wp2_with (at_builtin; (refine wpList_append_sl rfl (.tmp 89) (.tmp 95) rfl rowSlc w3.heap.size _ _ _ [[.int .i64 B, .int .i64 E, .int .i64 x]] rfl ((HO5.out _).alloc _) rfl (Sl.one (World.size_alloc _ _) rfl) (slc_wide B E x) (by rw [slcs_len]; unfold maxLen; simp <;> omega) (by rw [slcs_len]; simp <;> omega) (size_Dalloc (by simp; omega)) ?_); intro v3 w9 hown3 hg3 _; have hb3 := Own.grown ((HO5.out _).alloc _) ((Below.draws (hbl.alloc hbs _) _).alloc (by show _ ≤ (World.alloc _ _).heap.size; simp; omega) _) hg3 (size_Dalloc (by simp; omega)); rw [← HQ.out] at hown3)
              go_roundw
              case rel => exact ⟨k + 1, by omega, by go_num, by rw [HA2.out]; exact hown3, hb3⟩
              case measure => simp [intOf]; omega

            · obtain ⟨j, hj⟩ : ∃ j, R.length = j + 1 := ⟨R.length - 1, by omega⟩
              obtain ⟨g, cap7, rfl, hcap⟩ := hown.some_form (by rw [slcs_len]; exact h0)
              rw [slcs_len, hj] at hown hcap ⊢
              have hjl : j < R.length := by omega
              have HJ := Lib.hid hj
              have hj1 : j + 1 ≤ 84006 := by omega
              have hjbd := HBD.out _ (List.getElem_mem hjl)
              have c5 := hown.cellE (by omega) (slcs_at hjl) (j := 1) rfl
              have c6 := hown.cellE (by omega) (slcs_at hjl) (j := 2) rfl
              have f5 := hown.frozenE (j * 3 + 1)
              have hz5 := (hown.lt rfl).2
              have i5 : (j : Int) < (j : Int) + 1 := by omega
              obtain ⟨pe, hpe⟩ : ∃ pe, (R[j]).e = pe := ⟨_, rfl⟩
              obtain ⟨pv, hpv⟩ : ∃ pv, (R[j]).v = pv := ⟨_, rfl⟩
              rw [hpe] at hjbd c5
              rw [hpv] at c6
              have hpe0 : 0 ≤ pe := by omega
              have hpe1 : pe ≤ 84005 := by omega
              clear hjbd HBD
              have s1 : IntKind.i64.wrap (pe + 1) = pe + 1 := IntWalk.i64_in _ (by omega)
              have s2 : IntKind.i64.wrap ((j : Int) + 1 - 1) = (j : Int) := by rw [show (j : Int) + 1 - 1 = (j : Int) by omega]; exact IntWalk.i64_in _ (by omega)
              cases hvv : (pv == x)
              · have HQ : Hid (slcs (addS R B E x) = slcs R ++ [[.int .i64 B, .int .i64 E, .int .i64 x]]) := by
                  have hvn : ¬ pv = x := by simpa using hvv
                  rw [Hid, addS_apart hj (fun h => hvn (by rw [← hpv]; exact h.2)), slcs_append]; rfl
                clear hpe hpv h0 hj
                have HO5 : Hid (∀ q, Own ((wo.alloc (.cells #[.int .i64 xf, .int .i64 x] 76)).drewN q) w3.heap.size 65 3 _ (slcs R)) := fun q => (hown.alloc _).kept (Below.draws (Below.refl _ _) q)
                go_wp2_with fail
                go_quiet (fail)
                go_wp2_with (at_builtin; (refine wpList_append_sl rfl (.tmp 89) (.tmp 95) rfl rowSlc w3.heap.size _ _ _ [[.int .i64 B, .int .i64 E, .int .i64 x]] rfl ((HO5.out _).alloc _) rfl (Sl.one (World.size_alloc _ _) rfl) (slc_wide B E x) (by rw [slcs_len]; unfold maxLen; simp <;> omega) (by rw [slcs_len]; simp <;> omega) (size_Dalloc (by simp; omega)) ?_); intro v3 w9 hown3 hg3 _; have hb3 := Own.grown ((HO5.out _).alloc _) ((Below.draws (hbl.alloc hbs _) _).alloc (by show _ ≤ (World.alloc _ _).heap.size; simp; omega) _) hg3 (size_Dalloc (by simp; omega)); rw [← HQ.out] at hown3)
                go_roundw
                case rel => exact ⟨k + 1, by omega, by go_num, by rw [HA2.out]; exact hown3, hb3⟩
                case measure => simp [intOf]; omega

              · by_cases hjn : pe + 1 = B
                · have HQ : Hid (slcs (addS R B E x) = (slcs R).set j ([.int .i64 (R[j]).b, .int .i64 (R[j]).e, .int .i64 (R[j]).v].set 1 (.int .i64 E))) := by
                    have hvn : pv = x := by simpa using hvv
                    rw [Hid, addS_join hj (by rw [hpe]; omega) (by rw [hpv]; exact hvn), slcs, slcs, List.map_set, hpv, hvn]; rfl
                  have hjb : (pe + 1 == B) = true := by simpa using hjn
                  clear hpe hpv hjn h0 hj
                  have HO5 : Hid (∀ q, Own ((wo.alloc (.cells #[.int .i64 xf, .int .i64 x] 76)).drewN q) w3.heap.size 65 3 _ (slcs R)) := fun q => (hown.alloc _).kept (Below.draws (Below.refl _ _) q)
                  go_wp2_with fail
                  go_quiet (fail)
                  go_wp2
                  go_roundw
                  case rel =>
                    have hst := fun q => (HO5.out q).set1 (by omega) j (slcs_at hjl) 1 (by omega) (.int .i64 E) rfl
                    exact ⟨k + 1, by omega, by go_num, by rw [HA2.out, HQ.out]; exact (hst _).1, (HO5.out _).grown (Below.draws (hbl.alloc hbs _) _) (hst _).2 (by show _ ≤ (World.alloc _ _).heap.size; simp; omega)⟩
                  case measure => simp [intOf]; omega
                · have HQ : Hid (slcs (addS R B E x) = slcs R ++ [[.int .i64 B, .int .i64 E, .int .i64 x]]) := by
                    rw [Hid, addS_apart hj (fun h => hjn (by rw [← hpe]; omega)), slcs_append]; rfl
                  have hjb : (pe + 1 == B) = false := by simpa using hjn
                  clear hpe hpv h0 hj hjn
                  have HO5 : Hid (∀ q, Own ((wo.alloc (.cells #[.int .i64 xf, .int .i64 x] 76)).drewN q) w3.heap.size 65 3 _ (slcs R)) := fun q => (hown.alloc _).kept (Below.draws (Below.refl _ _) q)
                  go_wp2_with fail
                  go_quiet (fail)
                  go_wp2_with (at_builtin; (refine wpList_append_sl rfl (.tmp 89) (.tmp 95) rfl rowSlc w3.heap.size _ _ _ [[.int .i64 B, .int .i64 E, .int .i64 x]] rfl ((HO5.out _).alloc _) rfl (Sl.one (World.size_alloc _ _) rfl) (slc_wide B E x) (by rw [slcs_len]; unfold maxLen; simp <;> omega) (by rw [slcs_len]; simp <;> omega) (size_Dalloc (by simp; omega)) ?_); intro v3 w9 hown3 hg3 _; have hb3 := Own.grown ((HO5.out _).alloc _) ((Below.draws (hbl.alloc hbs _) _).alloc (by show _ ≤ (World.alloc _ _).heap.size; simp; omega) _) hg3 (size_Dalloc (by simp; omega)); rw [← HQ.out] at hown3)
                  go_roundw
                  case rel => exact ⟨k + 1, by omega, by go_num, by rw [HA2.out]; exact hown3, hb3⟩
                  case measure => simp [intOf]; omega

          · have HA2 := Lib.hid (HMS.out (by omega))
            have hBE2 : decide (E < B) = true := decide_eq_true (by omega)
            clear HMS HMD
            go_wp2
            go_roundw
            case rel => exact ⟨k + 1, by omega, by go_num, by rw [HA2.out]; exact hown.alloc _, hbl.alloc hbs _⟩
            case measure => simp [intOf]; omega
        · obtain rfl : E = t := HE2.out hk1
          have hE7 : -1 ≤ E := by omega
          clear HN HE1 HE2 hyb
          by_cases hBE : B ≤ E
          · have HA2 := Lib.hid (HMD.out hBE)
            have hBE2 : decide (E < B) = false := decide_eq_false (by omega)
            clear HMS HMD
            rcases Nat.eq_zero_or_pos R.length with h0 | h0
            · obtain rfl : R = [] := List.eq_nil_of_length_eq_zero h0
              have HQ : Hid (slcs (addS [] B E x) = slcs [] ++ [[.int .i64 B, .int .i64 E, .int .i64 x]]) := rfl
              clear h0 HBD
              obtain ⟨A7, cap7, rfl⟩ := hown.form
              rw [slcs_len] at hown ⊢
              simp only [List.length_nil] at hown ⊢
              have HO5 : Hid (∀ q, Own ((wo.alloc (.cells #[.int .i64 xf, .int .i64 x] 76)).drewN q) w3.heap.size 65 3 _ (slcs [])) := fun q => (hown.alloc _).kept (Below.draws (Below.refl _ _) q)
              go_wp2_with fail
              go_quiet (fail)
              go_wp2_with (at_builtin; (refine wpList_append_sl rfl (.tmp 89) (.tmp 95) rfl rowSlc w3.heap.size _ _ _ [[.int .i64 B, .int .i64 E, .int .i64 x]] rfl ((HO5.out _).alloc _) rfl (Sl.one (World.size_alloc _ _) rfl) (slc_wide B E x) (by rw [slcs_len]; unfold maxLen; simp <;> omega) (by rw [slcs_len]; simp <;> omega) (size_Dalloc (by simp; omega)) ?_); intro v3 w9 hown3 hg3 _; have hb3 := Own.grown ((HO5.out _).alloc _) ((Below.draws (hbl.alloc hbs _) _).alloc (by show _ ≤ (World.alloc _ _).heap.size; simp; omega) _) hg3 (size_Dalloc (by simp; omega)); rw [← HQ.out] at hown3)
              go_roundw
              case rel => exact ⟨k + 1, by omega, by go_num, by rw [HA2.out]; exact hown3, hb3⟩
              case measure => simp [intOf]; omega

            · obtain ⟨j, hj⟩ : ∃ j, R.length = j + 1 := ⟨R.length - 1, by omega⟩
              obtain ⟨g, cap7, rfl, hcap⟩ := hown.some_form (by rw [slcs_len]; exact h0)
              rw [slcs_len, hj] at hown hcap ⊢
              have hjl : j < R.length := by omega
              have HJ := Lib.hid hj
              have hj1 : j + 1 ≤ 84006 := by omega
              have hjbd := HBD.out _ (List.getElem_mem hjl)
              have c5 := hown.cellE (by omega) (slcs_at hjl) (j := 1) rfl
              have c6 := hown.cellE (by omega) (slcs_at hjl) (j := 2) rfl
              have f5 := hown.frozenE (j * 3 + 1)
              have hz5 := (hown.lt rfl).2
              have i5 : (j : Int) < (j : Int) + 1 := by omega
              obtain ⟨pe, hpe⟩ : ∃ pe, (R[j]).e = pe := ⟨_, rfl⟩
              obtain ⟨pv, hpv⟩ : ∃ pv, (R[j]).v = pv := ⟨_, rfl⟩
              rw [hpe] at hjbd c5
              rw [hpv] at c6
              have hpe0 : 0 ≤ pe := by omega
              have hpe1 : pe ≤ 84005 := by omega
              clear hjbd HBD
              have s1 : IntKind.i64.wrap (pe + 1) = pe + 1 := IntWalk.i64_in _ (by omega)
              have s2 : IntKind.i64.wrap ((j : Int) + 1 - 1) = (j : Int) := by rw [show (j : Int) + 1 - 1 = (j : Int) by omega]; exact IntWalk.i64_in _ (by omega)
              cases hvv : (pv == x)
              · have HQ : Hid (slcs (addS R B E x) = slcs R ++ [[.int .i64 B, .int .i64 E, .int .i64 x]]) := by
                  have hvn : ¬ pv = x := by simpa using hvv
                  rw [Hid, addS_apart hj (fun h => hvn (by rw [← hpv]; exact h.2)), slcs_append]; rfl
                clear hpe hpv h0 hj
                have HO5 : Hid (∀ q, Own ((wo.alloc (.cells #[.int .i64 xf, .int .i64 x] 76)).drewN q) w3.heap.size 65 3 _ (slcs R)) := fun q => (hown.alloc _).kept (Below.draws (Below.refl _ _) q)
                go_wp2_with fail
                go_quiet (fail)
                go_wp2_with (at_builtin; (refine wpList_append_sl rfl (.tmp 89) (.tmp 95) rfl rowSlc w3.heap.size _ _ _ [[.int .i64 B, .int .i64 E, .int .i64 x]] rfl ((HO5.out _).alloc _) rfl (Sl.one (World.size_alloc _ _) rfl) (slc_wide B E x) (by rw [slcs_len]; unfold maxLen; simp <;> omega) (by rw [slcs_len]; simp <;> omega) (size_Dalloc (by simp; omega)) ?_); intro v3 w9 hown3 hg3 _; have hb3 := Own.grown ((HO5.out _).alloc _) ((Below.draws (hbl.alloc hbs _) _).alloc (by show _ ≤ (World.alloc _ _).heap.size; simp; omega) _) hg3 (size_Dalloc (by simp; omega)); rw [← HQ.out] at hown3)
                go_roundw
                case rel => exact ⟨k + 1, by omega, by go_num, by rw [HA2.out]; exact hown3, hb3⟩
                case measure => simp [intOf]; omega

              · by_cases hjn : pe + 1 = B
                · have HQ : Hid (slcs (addS R B E x) = (slcs R).set j ([.int .i64 (R[j]).b, .int .i64 (R[j]).e, .int .i64 (R[j]).v].set 1 (.int .i64 E))) := by
                    have hvn : pv = x := by simpa using hvv
                    rw [Hid, addS_join hj (by rw [hpe]; omega) (by rw [hpv]; exact hvn), slcs, slcs, List.map_set, hpv, hvn]; rfl
                  have hjb : (pe + 1 == B) = true := by simpa using hjn
                  clear hpe hpv hjn h0 hj
                  have HO5 : Hid (∀ q, Own ((wo.alloc (.cells #[.int .i64 xf, .int .i64 x] 76)).drewN q) w3.heap.size 65 3 _ (slcs R)) := fun q => (hown.alloc _).kept (Below.draws (Below.refl _ _) q)
                  go_wp2_with fail
                  go_quiet (fail)
                  go_wp2
                  go_roundw
                  case rel =>
                    have hst := fun q => (HO5.out q).set1 (by omega) j (slcs_at hjl) 1 (by omega) (.int .i64 E) rfl
                    exact ⟨k + 1, by omega, by go_num, by rw [HA2.out, HQ.out]; exact (hst _).1, (HO5.out _).grown (Below.draws (hbl.alloc hbs _) _) (hst _).2 (by show _ ≤ (World.alloc _ _).heap.size; simp; omega)⟩
                  case measure => simp [intOf]; omega
                · have HQ : Hid (slcs (addS R B E x) = slcs R ++ [[.int .i64 B, .int .i64 E, .int .i64 x]]) := by
                    rw [Hid, addS_apart hj (fun h => hjn (by rw [← hpe]; omega)), slcs_append]; rfl
                  have hjb : (pe + 1 == B) = false := by simpa using hjn
                  clear hpe hpv h0 hj hjn
                  have HO5 : Hid (∀ q, Own ((wo.alloc (.cells #[.int .i64 xf, .int .i64 x] 76)).drewN q) w3.heap.size 65 3 _ (slcs R)) := fun q => (hown.alloc _).kept (Below.draws (Below.refl _ _) q)
                  go_wp2_with fail
                  go_quiet (fail)
                  go_wp2_with (at_builtin; (refine wpList_append_sl rfl (.tmp 89) (.tmp 95) rfl rowSlc w3.heap.size _ _ _ [[.int .i64 B, .int .i64 E, .int .i64 x]] rfl ((HO5.out _).alloc _) rfl (Sl.one (World.size_alloc _ _) rfl) (slc_wide B E x) (by rw [slcs_len]; unfold maxLen; simp <;> omega) (by rw [slcs_len]; simp <;> omega) (size_Dalloc (by simp; omega)) ?_); intro v3 w9 hown3 hg3 _; have hb3 := Own.grown ((HO5.out _).alloc _) ((Below.draws (hbl.alloc hbs _) _).alloc (by show _ ≤ (World.alloc _ _).heap.size; simp; omega) _) hg3 (size_Dalloc (by simp; omega)); rw [← HQ.out] at hown3)
                  go_roundw
                  case rel => exact ⟨k + 1, by omega, by go_num, by rw [HA2.out]; exact hown3, hb3⟩
                  case measure => simp [intOf]; omega

          · have HA2 := Lib.hid (HMS.out (by omega))
            have hBE2 : decide (E < B) = true := decide_eq_true (by omega)
            clear HMS HMD
            go_wp2
            go_roundw
            case rel => exact ⟨k + 1, by omega, by go_num, by rw [HA2.out]; exact hown.alloc _, hbl.alloc hbs _⟩
            case measure => simp [intOf]; omega
      · have hkM : slTo A f t k = slicesR A f t := by rw [slTo_end hlt]; rfl
        rw [hkM] at hown
        clear hkM
        go_wp2
        go_ret2
        exact ⟨_, rfl, hown.more hz3, HB3.out.trans (hbl.mono hz3)⟩
  · have HN : Hid (¬ checkE l f t = 0) := h0
    rw [slicesC, if_neg h0]
    obtain ⟨er, her⟩ : ∃ er, checkE l f t = er := ⟨_, rfl⟩
    rw [her] at V h0 ⊢
    have hne : (er != 0) = true := by simpa using h0
    have H := Lib.hid V
    clear V her h0 hL
    go_enter Try.func29, Try.ntmps29
    go_wp2_with (go_at_call 34; (with_reducible refine H.out.mono ?_); rintro e w1 ⟨rfl, hb1⟩)
    go_ret2
    exact ⟨_, rfl, Own.nil _ _ _ _, hb1⟩
end Go.Proofs.Ytnmbaeahnfbfiaa
