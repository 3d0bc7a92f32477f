/- payrollref6.in. -/
import Derived.Test.YtnmbaeahnfbfiaaRfN
import Derived.Test.YtnmbaeahnfbfiaaRfS
import Derived.Test.YtnmbaeahnfbfiaaCpy
import Derived.Test.YtnmbaeahnfbfiaaStp
import Derived.Test.YtnmbaeahnfbfiaaTChg
import Derived.Test.YtnmbaeahnfbfiaaChgJ
import Derived.IntWalk
namespace Go.Proofs.Ytnmbaeahnfbfiaa
open Go.RowKit

theorem not_both {a b : Int} (h : ¬ a < b) (e : (a == b) = false) : b ≤ a ∧ ¬ a = b := ⟨by omega, by simpa using e⟩
theorem size_Dalloc {w : World} {o : Obj} {q n : Nat} (h : n ≤ w.heap.size) : n ≤ ((w.drewN q).alloc o).heap.size := by
  have : (w.drewN q).heap.size = w.heap.size := rfl
  rw [World.size_alloc, this]; omega
theorem zero_wide : Wide 4 [Chg.vals ⟨0, 0, 0, false⟩] := chg_wide _
/-- the cells of one element -/
theorem Own.four {w : World} {base e g n cap : Nat} {es : List (List Value)} (h : Own w base e 4 (.slice (some ⟨g, 0, none⟩) n cap) es) {j : Nat} (hj : j < es.length) :
    ∃ a b c d, (w.cell? ⟨g, j * 4, none⟩ = some a ∧ w.cell? ⟨g, j * 4 + 1, none⟩ = some b ∧ w.cell? ⟨g, j * 4 + 2, none⟩ = some c ∧ w.cell? ⟨g, j * 4 + 3, none⟩ = some d) ∧ (w.frozen? ⟨g, j * 4, none⟩ = false ∧ w.frozen? ⟨g, j * 4 + 1, none⟩ = false ∧ w.frozen? ⟨g, j * 4 + 2, none⟩ = false ∧ w.frozen? ⟨g, j * 4 + 3, none⟩ = false) := by
  have hx := (h.2 _ (List.getElem_mem hj)).1
  have hg : es[j]? = some es[j] := List.getElem?_eq_getElem hj
  match hy : es[j], hx with
  | [a, b, c, d], _ =>
    rw [hy] at hg
    exact ⟨a, b, c, d, ⟨h.cellE (by omega) hg (j := 0) rfl, h.cellE (by omega) hg (j := 1) rfl, h.cellE (by omega) hg (j := 2) rfl, h.cellE (by omega) hg (j := 3) rfl⟩, h.frozenE _, h.frozenE _, h.frozenE _, h.frozenE _⟩
theorem ins_chgs (o : List Chg) (c : Chg) (j : Nat) (hj : j ≤ o.length) : (((chgs o ++ [Chg.vals ⟨0, 0, 0, false⟩]).take (j + 1) ++ ((chgs o ++ [Chg.vals ⟨0, 0, 0, false⟩]).drop j).take (o.length + 1 - (j + 1))).set j c.vals) = chgs (o.take j ++ c :: o.drop j) := by
  have h := ins_list (chgs o) (Chg.vals ⟨0, 0, 0, false⟩) c.vals j (by rw [chgs_len]; exact hj)
  rw [chgs_len, show o.length - j = o.length + 1 - (j + 1) by omega] at h
  rw [h, chgs_append, chgs, chgs, List.map_take]
  simp [chgs]
theorem ins_len (o : List Chg) (j : Nat) (hj : j ≤ o.length) : ((chgs o ++ [Chg.vals ⟨0, 0, 0, false⟩]).take (j + 1) ++ ((chgs o ++ [Chg.vals ⟨0, 0, 0, false⟩]).drop j).take (o.length + 1 - (j + 1))).length = o.length + 1 := by
  rw [List.length_append, List.length_take, List.length_take, List.length_drop, List.length_append, chgs_len]
  simp only [List.length_cons, List.length_nil]; omega

def InR (w : World) (l : List Chg) (kn : Int) (v i : Value) (wr : World) : Prop :=
  ∃ k : Nat, ∃ o : List Chg, k ≤ l.length ∧ i = .int .i64 k ∧ o.length ≤ k ∧ Hid (InTo l kn k o) ∧ Hid (Own wr w.heap.size 40 4 v (chgs o)) ∧ Below w.heap.size w wr
def InQ (w : World) (o : List Chg) (c : Chg) (i : Value) (wr : World) : Prop :=
  ∃ j : Nat, j ≤ o.length ∧ i = .int .i64 j ∧ Below w.heap.size w wr ∧ Hid (∀ i (hi : i < o.length), i < j → (o[i]).f < c.f)

set_option maxRecDepth 100000 in
set_option maxHeartbeats 4000000 in
theorem in_any (v : Value) (l : List Chg) (kn : Int) (w : World) (hv : Sl w 4 v (chgs l)) (hl : l.length ≤ 1024) :
    Calls Try.prog 46 #[v, .int .i64 kn] w (RetOwn w 40 4 (chgs (inC l kn))) := by
  have fv : ∃ P c, v = .slice P l.length c := by obtain ⟨P, c, h, _⟩ := hv; rw [chgs_len] at h; exact ⟨P, c, h⟩
  obtain ⟨A, cap, rfl⟩ := fv
  have HV := Lib.hid hv
  clear hv
  go_enter Try.func46, Try.ntmps46
  go_wp2_with fail
  go_loopw [5, 6] (fun v i wr => InR w l kn v i wr) (fun _ i _ => l.length - (intOf i).toNat)
  case atStart => exact ⟨0, [], by omega, rfl, by simp, inTo_start l kn, Own.nil _ _ _ _, Below.refl _ _⟩
  case round =>
    obtain ⟨k, o, hk, rfl, hok, HI, HO, hb⟩ := hrel
    obtain ⟨wo, rfl⟩ : ∃ wo : World, wo = wr := ⟨_, rfl⟩
    have hbs := hb.size
    by_cases hlt : k < l.length
    · obtain ⟨b, off, rfl, hc0⟩ := HV.out.cells (by rw [chgs_len]; omega)
      have HC := Lib.hid hc0
      clear hc0
      have hbw := HC.out.1
      obtain ⟨d0, d1, d2, d3⟩ := (HC.out.below hb HC.out.1).chg hlt
      have HSK := Lib.hid (inTo_skip HI.out hlt)
      have HCON := Lib.hid (counting_any (.slice (some ⟨b, off, none⟩) l.length cap) l k kn wo (HV.out.below hb) hlt hl)
      have HPB : Hid (pB l kn l[k] = (cntB l kn l[k] && !(l[k]).d)) := rfl
      have HINS := Lib.hid (fun (j : Nat) (hj : j ≤ o.length) => inTo_ins HI.out hlt (j := j))
      have HSAME := Lib.hid (fun (j : Nat) => inTo_same HI.out hlt (j := j))
      obtain ⟨x, hx⟩ : ∃ x, l[k] = x := ⟨_, rfl⟩
      have HX := Lib.hid hx
      rw [hx] at d0 d1 d2 d3 HSK HCON HPB HINS HSAME
      clear hx HI
      obtain ⟨n0, hn0⟩ : ∃ n0, cntB l kn x = n0 := ⟨_, rfl⟩
      rw [hn0] at HCON HPB
      clear hn0
      cases hd : x.d
      · rw [hd] at d3 HPB
        cases n0
        · have HR := Lib.hid (HSK.out HPB.out)
          go_wp2_with (go_at_call 63; (with_reducible refine HCON.out.mono ?_); rintro e w5 ⟨rfl, hb5⟩)
          go_roundw
          case rel => exact ⟨k + 1, o, by omega, by go_num, by omega, HR, HO.out.kept hb5, hb.trans (hb5.mono hbs)⟩
          case measure => simp [intOf]; omega
        · go_wp2_with (go_at_call 63; (with_reducible refine HCON.out.mono ?_); rintro e w5 ⟨rfl, hb5⟩)
          have HP : Hid (pB l kn x = true) := HPB.out
          have ho5 := HO.out.kept hb5
          have hB5 := hb.trans (hb5.mono hbs)
          have hbs5 := hB5.size
          clear HO hb hb5 HSK HCON HPB d0 d1 d2 d3
          obtain ⟨A5, cap5, rfl⟩ := ho5.form
          rw [chgs_len] at ho5 ⊢
          have HO5 := Lib.hid ho5
          clear ho5
          go_loopw [7] (fun i wr => InQ w5 o x i wr) (fun i _ => o.length - (intOf i).toNat)
          case atStart => exact ⟨0, by omega, rfl, Below.refl _ _, fun i _ h => by omega⟩
          case round =>
            obtain ⟨j, hj, rfl, hbj, HJ⟩ := hrel
            obtain ⟨wi, rfl⟩ : ∃ wi : World, wi = wr := ⟨_, rfl⟩
            have hBi := hB5.trans (hbj.mono hbs5)
            have hbsi := hbj.size
            obtain ⟨d0, d1, d2, d3⟩ := (HC.out.below hBi HC.out.1).chg hlt
            rw [HX.out] at d0 d1 d2 d3
            have i1 : (k : Int) < (l.length : Int) := by omega
            have hown := HO5.out.kept hbj
            by_cases hjo : j < o.length
            · obtain ⟨g5, off5, rfl, hc5⟩ := (hown.sl (by omega)).cells (by rw [chgs_len]; omega)
              obtain ⟨q0, q1, q2, q3⟩ := hc5.chg hjo
              have dl : decide (j < o.length) = true := decide_eq_true hjo
              have i2 : (j : Int) < (o.length : Int) := by omega
              obtain ⟨yf, hyf⟩ : ∃ yf, (o[j]).f = yf := ⟨_, rfl⟩
              rw [hyf] at q0
              have HYF := Lib.hid hyf
              clear hyf hc5 q1 q2 q3
              by_cases hf : yf < x.f
              · have HN : Hid (∀ i (hi : i < o.length), i < j + 1 → (o[i]).f < x.f) := fun i hi h => by
                  by_cases e : i = j
                  · subst e; rw [HYF.out]; exact hf
                  · exact HJ.out i hi (by omega)
                have df : decide (yf < x.f) = true := decide_eq_true hf
                go_wp2_with fail
                go_quiet (fail)
                go_wp2
                go_roundw
                case rel => exact ⟨j + 1, by omega, by go_num, Below.draws hbj _, HN⟩
                case measure => simp [intOf]; omega
              · have df : decide (yf < x.f) = false := decide_eq_false hf
                cases he : (yf == x.f)
                · have HR := Lib.hid (HINS.out j hj HP.out (by omega) HJ.out (fun _ => by rw [HYF.out]; exact not_both hf he))
                  go_wp2_with fail
                  go_quiet (fail)
                  have hol : o.length ≤ 1024 := by omega
                  go_wp2_with fail
                  go_quiet (fail)
                  have HOq : Hid (∀ q, Own (wi.drewN q) w.heap.size 40 4 _ (chgs o)) := fun q => hown.kept (Below.draws (Below.refl _ _) q)
                  go_wp2_with (at_builtin; go_loud ((refine wpList_append_sl rfl (.tmp 62) (.tmp 64) rfl rowChg w.heap.size _ _ _ [Chg.vals ⟨0, 0, 0, false⟩] rfl ((HOq.out _).alloc _) rfl (Sl.one rfl rfl) (chg_wide _) (by simp only [chgs_len, List.length_cons, List.length_nil]; unfold maxLen; omega) (by simp only [chgs_len, List.length_cons, List.length_nil]; omega) (size_Dalloc hBi.size) ?_); intro v7 w7 hown7 hg7 _; have hb7 := Own.grown ((HOq.out _).alloc _) ((Below.draws hBi _).alloc hBi.size _) hg7 (size_Dalloc hBi.size); obtain ⟨g, cap7, rfl, hcap7⟩ := hown7.some_form (by simp); simp only [List.length_append, chgs_len, List.length_cons, List.length_nil, Nat.zero_add] at hown7 hcap7 ⊢; have HO7 := Lib.hid hown7; clear hown7 hg7))
                  have hq9 : j < cap7 := by omega
                  have hqa : ¬ cap7 = j := by omega
                  have hqb : j ≤ o.length + 1 := by omega
                  have hqc : j + 1 ≤ o.length + 1 := by omega
                  have hqd : j + 1 ≤ cap7 := by omega
                  have hqe : j ≤ cap7 := by omega
                  have hqf : (j : Int) ≤ (o.length : Int) + 1 := by omega
                  have i3 : (j : Int) < (cap7 : Int) := by omega

                  have hjc : ¬ cap7 = j + 1 := by omega
                  have i4 : ((j : Int) + 1) < (cap7 : Int) := by omega

                  have e1 : IntKind.i64.wrap ((j : Int) + 1) = (j : Int) + 1 := IntWalk.i64_in _ (by omega)
                  have e2 : ((j : Int) + 1).toNat = j + 1 := by omega
                  have e3 : (0 : Int) ≤ (j : Int) + 1 := by omega
                  go_wp2_with fail
                  refine region_tail 7 (by kernel_rfl) (by kernel_rfl) ?_
                  simp only [List.take_succ_cons, List.take_zero, List.drop_succ_cons, List.drop_zero]
                  repeat still_step
                  refine wpStill_nil ?_
                  clear e1 e2 e3
                  have ho7 := HO7.out.drew
                  have hb7' := hb7.drew
                  generalize w7.drew = w8 at ho7 hb7' ⊢
                  have hbs8 : w.heap.size ≤ w8.heap.size := hb7'.size
                  have HO8 := Lib.hid ho7
                  clear ho7 hb7 HO7
                  refine wpList_copy_ins rfl (.tmp 69) (.tmp 72) rfl rowChg HO8.out j (by omega) _ _ _ _ _ (by omega) (.inr rfl) (by omega) rfl rfl ?_; (intro w9 hown9 hg9; have hb9 := HO8.out.grown hb7' hg9 hbs8; have HO9 := Lib.hid hown9; obtain ⟨y0, y1, y2, y3, ⟨z0, z1, z2, z3⟩, u0, u1, u2, u3⟩ := hown9.four (j := j) (by rw [ins_len o j hj]; omega); have hl9 := (hown9.lt rfl).2; clear hown9 hg9; obtain ⟨d0, d1, d2, d3⟩ := (HC.out.below hb9 HC.out.1).chg hlt; rw [HX.out, hd] at d3; rw [HX.out] at d0 d1 d2)
                  go_wp2
                  go_roundw
                  case rel =>
                    have hst := HO9.out.store (by omega) j (by rw [ins_len o j hj]; omega) x.vals rfl (by simp [Chg.vals, Value.oneCell'])
                    rw [ins_chgs o x j hj] at hst
                    refine ⟨k + 1, _, by omega, by go_num, ?_, HR, ?_, ?_⟩
                    · simp; omega
                    · have := hst.1
                      rw [Chg.vals, hd] at this
                      exact this
                    · have := HO9.out.grown hb9 hst.2 hb9.size
                      rw [Chg.vals, hd] at this
                      exact this
                  case measure => simp [intOf]; omega
                · have HR := Lib.hid (HSAME.out j HP.out hjo (by rw [HYF.out]; simpa using he))
                  go_wp2_with fail
                  go_quiet (fail)
                  go_wp2_with fail
                  go_quiet (fail)
                  go_wp2
                  go_roundw
                  case rel => exact ⟨k + 1, o, by omega, by go_num, by omega, HR, hown.kept (Below.draws (Below.refl _ _) _), Below.draws hBi _⟩
                  case measure => simp [intOf]; omega
            · have dl : decide (j < o.length) = false := decide_eq_false hjo
              have HR := Lib.hid (HINS.out j hj HP.out (by omega) HJ.out (fun h => absurd h hjo))
              go_wp2_with fail
              go_quiet (fail)
              have hol : o.length ≤ 1024 := by omega
              go_wp2_with fail
              go_quiet (fail)
              have HOq : Hid (∀ q, Own (wi.drewN q) w.heap.size 40 4 _ (chgs o)) := fun q => hown.kept (Below.draws (Below.refl _ _) q)
              go_wp2_with (at_builtin; go_loud ((refine wpList_append_sl rfl (.tmp 62) (.tmp 64) rfl rowChg w.heap.size _ _ _ [Chg.vals ⟨0, 0, 0, false⟩] rfl ((HOq.out _).alloc _) rfl (Sl.one rfl rfl) (chg_wide _) (by simp only [chgs_len, List.length_cons, List.length_nil]; unfold maxLen; omega) (by simp only [chgs_len, List.length_cons, List.length_nil]; omega) (size_Dalloc hBi.size) ?_); intro v7 w7 hown7 hg7 _; have hb7 := Own.grown ((HOq.out _).alloc _) ((Below.draws hBi _).alloc hBi.size _) hg7 (size_Dalloc hBi.size); obtain ⟨g, cap7, rfl, hcap7⟩ := hown7.some_form (by simp); simp only [List.length_append, chgs_len, List.length_cons, List.length_nil, Nat.zero_add] at hown7 hcap7 ⊢; have HO7 := Lib.hid hown7; clear hown7 hg7))
              have hq9 : j < cap7 := by omega
              have hqa : ¬ cap7 = j := by omega
              have hqb : j ≤ o.length + 1 := by omega
              have hqc : j + 1 ≤ o.length + 1 := by omega
              have hqd : j + 1 ≤ cap7 := by omega
              have hqe : j ≤ cap7 := by omega
              have hqf : (j : Int) ≤ (o.length : Int) + 1 := by omega
              have i3 : (j : Int) < (cap7 : Int) := by omega

              by_cases hjc : cap7 = j + 1
              · subst hjc
                have e1 : IntKind.i64.wrap ((j : Int) + 1) = (j : Int) + 1 := IntWalk.i64_in _ (by omega)
                have e2 : ((j : Int) + 1).toNat = j + 1 := by omega
                have e3 : (0 : Int) ≤ (j : Int) + 1 := by omega
                go_wp2_with fail
                refine region_tail 7 (by kernel_rfl) (by kernel_rfl) ?_
                simp only [List.take_succ_cons, List.take_zero, List.drop_succ_cons, List.drop_zero]
                repeat still_step
                refine wpStill_nil ?_
                clear e1 e2 e3
                have ho7 := HO7.out.drew
                have hb7' := hb7.drew
                generalize w7.drew = w8 at ho7 hb7' ⊢
                have hbs8 : w.heap.size ≤ w8.heap.size := hb7'.size
                have HO8 := Lib.hid ho7
                clear ho7 hb7 HO7
                refine wpList_copy_ins rfl (.tmp 69) (.tmp 72) rfl rowChg HO8.out j (by omega) _ _ _ _ _ (by omega) (.inl (by omega)) (by omega) rfl rfl ?_; (intro w9 hown9 hg9; have hb9 := HO8.out.grown hb7' hg9 hbs8; have HO9 := Lib.hid hown9; obtain ⟨y0, y1, y2, y3, ⟨z0, z1, z2, z3⟩, u0, u1, u2, u3⟩ := hown9.four (j := j) (by rw [ins_len o j hj]; omega); have hl9 := (hown9.lt rfl).2; clear hown9 hg9; obtain ⟨d0, d1, d2, d3⟩ := (HC.out.below hb9 HC.out.1).chg hlt; rw [HX.out, hd] at d3; rw [HX.out] at d0 d1 d2)
                go_wp2
                go_roundw
                case rel =>
                  have hst := HO9.out.store (by omega) j (by rw [ins_len o j hj]; omega) x.vals rfl (by simp [Chg.vals, Value.oneCell'])
                  rw [ins_chgs o x j hj] at hst
                  refine ⟨k + 1, _, by omega, by go_num, ?_, HR, ?_, ?_⟩
                  · simp; omega
                  · have := hst.1
                    rw [Chg.vals, hd] at this
                    exact this
                  · have := HO9.out.grown hb9 hst.2 hb9.size
                    rw [Chg.vals, hd] at this
                    exact this
                case measure => simp [intOf]; omega

              · have i4 : ((j : Int) + 1) < (cap7 : Int) := by omega
                have e1 : IntKind.i64.wrap ((j : Int) + 1) = (j : Int) + 1 := IntWalk.i64_in _ (by omega)
                have e2 : ((j : Int) + 1).toNat = j + 1 := by omega
                have e3 : (0 : Int) ≤ (j : Int) + 1 := by omega
                go_wp2_with fail
                refine region_tail 7 (by kernel_rfl) (by kernel_rfl) ?_
                simp only [List.take_succ_cons, List.take_zero, List.drop_succ_cons, List.drop_zero]
                repeat still_step
                refine wpStill_nil ?_
                clear e1 e2 e3
                have ho7 := HO7.out.drew
                have hb7' := hb7.drew
                generalize w7.drew = w8 at ho7 hb7' ⊢
                have hbs8 : w.heap.size ≤ w8.heap.size := hb7'.size
                have HO8 := Lib.hid ho7
                clear ho7 hb7 HO7
                refine wpList_copy_ins rfl (.tmp 69) (.tmp 72) rfl rowChg HO8.out j (by omega) _ _ _ _ _ (by omega) (.inr rfl) (by omega) rfl rfl ?_; (intro w9 hown9 hg9; have hb9 := HO8.out.grown hb7' hg9 hbs8; have HO9 := Lib.hid hown9; obtain ⟨y0, y1, y2, y3, ⟨z0, z1, z2, z3⟩, u0, u1, u2, u3⟩ := hown9.four (j := j) (by rw [ins_len o j hj]; omega); have hl9 := (hown9.lt rfl).2; clear hown9 hg9; obtain ⟨d0, d1, d2, d3⟩ := (HC.out.below hb9 HC.out.1).chg hlt; rw [HX.out, hd] at d3; rw [HX.out] at d0 d1 d2)
                go_wp2
                go_roundw
                case rel =>
                  have hst := HO9.out.store (by omega) j (by rw [ins_len o j hj]; omega) x.vals rfl (by simp [Chg.vals, Value.oneCell'])
                  rw [ins_chgs o x j hj] at hst
                  refine ⟨k + 1, _, by omega, by go_num, ?_, HR, ?_, ?_⟩
                  · simp; omega
                  · have := hst.1
                    rw [Chg.vals, hd] at this
                    exact this
                  · have := HO9.out.grown hb9 hst.2 hb9.size
                    rw [Chg.vals, hd] at this
                    exact this
                case measure => simp [intOf]; omega
      · have HR := Lib.hid (HSK.out (by rw [HPB.out, hd]; simp))
        rw [hd] at d3
        go_wp2
        go_roundw
        case rel => exact ⟨k + 1, o, by omega, by go_num, by omega, HR, HO, hb⟩
        case measure => simp [intOf]; omega
    · have HE : Hid (o = inC l kn) := inTo_end HI.out (by omega)
      go_wp2
      go_ret
      exact ⟨_, rfl, by rw [← HE.out]; exact HO.out, hb⟩
end Go.Proofs.Ytnmbaeahnfbfiaa
