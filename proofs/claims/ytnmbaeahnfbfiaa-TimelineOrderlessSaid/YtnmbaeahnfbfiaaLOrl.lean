/- The law TimelineOrderless: it returns true. -/
import Derived.Test.YtnmbaeahnfbfiaaLPast
import Derived.Test.YtnmbaeahnfbfiaaChgO
import Derived.Test.YtnmbaeahnfbfiaaMix
namespace Go.Proofs.Ytnmbaeahnfbfiaa
open Go.RowKit

theorem drop_sl {w : World} {g n cap k : Nat} {l : List Chg} (h : Sl w 4 (.slice (some ⟨g, 0, none⟩) n cap) (chgs l)) (hk : k ≤ n) : Sl w 4 (.slice (some ⟨g, k * 4, none⟩) (n - k) (cap - k)) (chgs (l.drop k)) := by
  have := h.drop k hk
  rw [Nat.zero_add] at this
  rw [chgs, List.map_drop]; exact this
theorem take_sl {w : World} {g n cap k : Nat} {l : List Chg} (h : Sl w 4 (.slice (some ⟨g, 0, none⟩) n cap) (chgs l)) (hk : k ≤ n) (hc : n ≤ cap) (hm : cap ≤ maxLen) : Sl w 4 (.slice (some ⟨g, 0, none⟩) k cap) (chgs (l.take k)) := by
  have := h.take k hk cap (by omega) hm
  rw [chgs, List.map_take]; exact this
theorem none_sl {w : World} {A : Option Addr} : Sl w 4 (.slice A 0 0) (chgs []) := ⟨A, 0, rfl, Nat.le_refl _, Nat.zero_le _, fun _ => rfl, .inl rfl⟩
theorem cap_sl {w : World} {sz n cap : Nat} {A : Option Addr} {es : List (List Value)} (h : Sl w sz (.slice A n cap) es) : es.length ≤ cap ∧ cap ≤ maxLen := by
  obtain ⟨A', cap', hv, h1, h2, _, _⟩ := h
  injection hv with e1 e2 e3
  subst e1 e3
  exact ⟨h1, h2⟩
theorem mem_turn {α : Type} {l : List α} {k : Nat} {x : α} : x ∈ l.drop k ++ l.take k ↔ x ∈ l := by
  rw [List.mem_append, Or.comm, ← List.mem_append, List.take_append_drop]
theorem asc_turn (l : List Chg) (k : Nat) : ascC ((l.drop k ++ l.take k) ++ l) = ascC l := ascC_congr fun x => by
  rw [List.mem_append, mem_turn, or_self]
theorem mrg_ok {a b : List Chg} (ha : validE a = 0) (hb : validE b = 0) (hl : a.length + b.length ≤ 1024) : mrgE a b = 0 ∧ mrgC a b = ascC (a ++ b) := by
  have h0 : mrgE a b = 0 := by
    have := ascC_len (a ++ b)
    rw [List.length_append] at this
    rw [mrgE, if_pos ha, if_pos hb, if_neg (by omega)]
  exact ⟨h0, by rw [mrgC, if_pos h0]⟩

set_option maxRecDepth 100000 in
set_option maxHeartbeats 4000000 in
theorem Orderless_any (v : Value) (zs : List Int) (n : Int) (w : World) (hv : Sl w 1 v (ints zs)) :
    Calls Try.prog 4 #[v, .int .i64 n] w fun e w' => e = .returned (.bool true) ∧ Below w.heap.size w w' := by
  have HV := Lib.hid hv
  clear hv
  go_enter Try.func4, Try.ntmps4
  go_wp2_with fail
  refine (tapeNew_any v zs w HV.out).mono ?_
  rintro e w1 ⟨rfl, ht1, hb1⟩
  clear HV
  obtain ⟨D, hD⟩ : ∃ D, w.heap.size = D := ⟨_, rfl⟩
  rw [hD] at ht1
  have HD := Lib.hid hD
  clear hD
  rw [HD.out]
  go_wp2_with fail
  refine (TChg_any D 8 false w1 ht1 (by omega) (by omega)).mono ?_
  rintro e w2 ⟨l, x, rfl, hll, hm, s2⟩
  have HM := Lib.hid (hm rfl)
  have hl8 : l.length ≤ 8 := by omega
  clear hm ht1
  have hform : ∃ A cap, x = .slice A l.length cap ∧ ((A = none ∧ l = [] ∧ cap = 0) ∨ ∃ g, A = some ⟨g, 0, none⟩) := by
    rcases s2.own.1.2 with ⟨h1, h2⟩ | ⟨g, cap, cur, h1, _⟩
    · rw [chgs_len] at h2
      exact ⟨none, 0, by rw [h1, h2], .inl ⟨rfl, List.eq_nil_of_length_eq_zero h2, rfl⟩⟩
    · rw [chgs_len] at h1
      exact ⟨_, cap, h1, .inr ⟨g, rfl⟩⟩
  obtain ⟨A, cap, rfl, hform⟩ := hform
  have HF := Lib.hid hform
  clear hform
  obtain ⟨hcap, hcm⟩ := cap_sl (s2.own.sl (by omega))
  rw [chgs_len] at hcap
  unfold maxLen at hcm
  go_wp2_with fail
  refine (Draw_any D _ _ s2.tape (by omega) (by omega)).mono ?_
  rintro e w3 ⟨r3, ⟨a3, b3⟩, rfl, t3, g3⟩
  have s3 := s2.draw t3 g3
  obtain ⟨k, rfl⟩ := Int.eq_ofNat_of_zero_le a3
  clear t3 g3 s2 a3
  have hkl : k ≤ l.length := by omega
  go_upto_region 4 with (fail)
  have hS := Lib.hid (s3.own.sl (by omega))
  go_cut [8] (fun s wx => Own wx w3.heap.size 40 4 s (chgs (l.drop k ++ l.take k)) ∧ Below w3.heap.size w3 wx)
  case first =>
    rcases HF.out with ⟨rfl, rfl, rfl⟩ | ⟨g, rfl⟩
    · obtain rfl : k = 0 := by simpa using hkl
      have HT : Hid (Sl w3 4 (.slice none 0 0) (chgs ([].drop 0))) := none_sl
      have HH : Hid (Sl w3 4 (.slice none 0 0) (chgs ([].take 0))) := none_sl
      have hld : (List.drop 0 ([] : List Chg)).length ≤ 8 := by simp
      have hlt : (List.take 0 ([] : List Chg)).length ≤ 8 := by simp
      go_region_law (first | (refine step_append_sl rfl (.tmp 30) (.tmp 33) rfl rowChg w3.heap.size _ _ [] _ rfl (own_empty w3 40 4 w3.heap.size (Nat.le_refl _)).drew rfl (HT.out.below (below_a1 _ _)) (chgs_wide _) (by simp only [chgs_len, List.length_nil]; unfold maxLen; omega) (by simp only [chgs_len, List.length_nil]; omega) (by simp) ?_; intro v7 w7 hown7 hg7 _; have hb7 : Below w3.heap.size w3 w7 := apps (below_a1 _ _) (own_empty w3 40 4 w3.heap.size (Nat.le_refl _)).drew hg7 (by simp); have H7 := Lib.hid hown7; clear hown7) | (refine step_append_sl rfl (.tmp 34) (.tmp 37) rfl rowChg w3.heap.size _ _ _ _ rfl H7.out rfl (HH.out.below hb7) (chgs_wide _) (by simp only [chgs_len, List.nil_append]; unfold maxLen; omega) (by simp only [chgs_len, List.nil_append]; omega) hb7.size ?_; intro v8 w8 hown8 hg8 _; have hb8 : Below w3.heap.size w3 w8 := apps hb7 H7.out hg8 hb7.size; rw [List.nil_append, ← chgs_append] at hown8; have H8 := Lib.hid hown8; clear hown8))
      all_goals (go_wp2_with fail; go_meet; exact ⟨H8.out, hb8⟩)
    · by_cases hkc : cap = k
      · subst hkc
        obtain rfl : cap = l.length := by omega
        have HT : Hid (Sl w3 4 (.slice (some ⟨g, 0, none⟩) 0 0) (chgs (l.drop l.length))) := by rw [Hid, List.drop_length]; exact none_sl
        have HH : Hid (Sl w3 4 (.slice (some ⟨g, 0, none⟩) l.length l.length) (chgs (l.take l.length))) := by rw [Hid, List.take_length]; exact hS.out
        have hld : (l.drop l.length).length ≤ 8 := by simp
        have hlt : (l.take l.length).length ≤ 8 := by simp; omega
        go_region_law (first | (refine step_append_sl rfl (.tmp 30) (.tmp 33) rfl rowChg w3.heap.size _ _ [] _ rfl (own_empty w3 40 4 w3.heap.size (Nat.le_refl _)).drew rfl (HT.out.below (below_a1 _ _)) (chgs_wide _) (by simp only [chgs_len, List.length_nil]; unfold maxLen; omega) (by simp only [chgs_len, List.length_nil]; omega) (by simp) ?_; intro v7 w7 hown7 hg7 _; have hb7 : Below w3.heap.size w3 w7 := apps (below_a1 _ _) (own_empty w3 40 4 w3.heap.size (Nat.le_refl _)).drew hg7 (by simp); have H7 := Lib.hid hown7; clear hown7) | (refine step_append_sl rfl (.tmp 34) (.tmp 37) rfl rowChg w3.heap.size _ _ _ _ rfl H7.out rfl (HH.out.below hb7) (chgs_wide _) (by simp only [chgs_len, List.nil_append]; unfold maxLen; omega) (by simp only [chgs_len, List.nil_append]; omega) hb7.size ?_; intro v8 w8 hown8 hg8 _; have hb8 : Below w3.heap.size w3 w8 := apps hb7 H7.out hg8 hb7.size; rw [List.nil_append, ← chgs_append] at hown8; have H8 := Lib.hid hown8; clear hown8))
        all_goals (go_wp2_with fail; go_meet; exact ⟨H8.out, hb8⟩)
      · have hkc1 : (k : Int) < (cap : Int) := by omega
        have hkc2 : k ≤ cap := by omega
        have HT := Lib.hid (drop_sl hS.out hkl)
        have HH := Lib.hid (take_sl hS.out hkl hcap (by unfold maxLen; omega))
        have hld : (l.drop k).length ≤ 8 := by simp; omega
        have hlt : (l.take k).length ≤ 8 := by simp; omega
        go_region_law (first | (refine step_append_sl rfl (.tmp 30) (.tmp 33) rfl rowChg w3.heap.size _ _ [] _ rfl (own_empty w3 40 4 w3.heap.size (Nat.le_refl _)).drew rfl (HT.out.below (below_a1 _ _)) (chgs_wide _) (by simp only [chgs_len, List.length_nil]; unfold maxLen; omega) (by simp only [chgs_len, List.length_nil]; omega) (by simp) ?_; intro v7 w7 hown7 hg7 _; have hb7 : Below w3.heap.size w3 w7 := apps (below_a1 _ _) (own_empty w3 40 4 w3.heap.size (Nat.le_refl _)).drew hg7 (by simp); have H7 := Lib.hid hown7; clear hown7) | (refine step_append_sl rfl (.tmp 34) (.tmp 37) rfl rowChg w3.heap.size _ _ _ _ rfl H7.out rfl (HH.out.below hb7) (chgs_wide _) (by simp only [chgs_len, List.nil_append]; unfold maxLen; omega) (by simp only [chgs_len, List.nil_append]; omega) hb7.size ?_; intro v8 w8 hown8 hg8 _; have hb8 : Below w3.heap.size w3 w8 := apps hb7 H7.out hg8 hb7.size; rw [List.nil_append, ← chgs_append] at hown8; have H8 := Lib.hid hown8; clear hown8))
        all_goals (go_wp2_with fail; go_meet; exact ⟨H8.out, hb8⟩)
  case rest =>
    obtain ⟨hown4, hb4⟩ := hcut
    obtain ⟨w4, hw4⟩ : ∃ w4 : World, w4 = wc := ⟨_, rfl⟩
    subst hw4
    have s4 := s3.below hb4
    have hS4 := Lib.hid (hS.out.below hb4)
    clear hS s3
    have HVL : Hid (validE l = 0) := valid_of (by omega) fun x hx => mild_rng (HM.out x hx)
    have HVT : Hid (validE (l.take k) = 0) := valid_of (by simp; omega) fun x hx => mild_rng (HM.out x (List.mem_of_mem_take hx))
    have HVD : Hid (validE (l.drop k) = 0) := valid_of (by simp; omega) fun x hx => mild_rng (HM.out x (List.mem_of_mem_drop hx))
    have HVX : Hid (validE (l.drop k ++ l.take k) = 0) := valid_of (by simp; omega) fun x hx => mild_rng (HM.out x (mem_turn.1 hx))
    have HVA : Hid (validE (ascC l) = 0) := valid_of (by have := ascC_len l; omega) fun x hx => mild_rng (HM.out x (mem_ascC.1 hx))
    have hz4 := hb4.size
    go_upto_region 5 with (fail)
    go_cut [9, 10] (fun s e wx => e = .int .i64 0 ∧ Own wx w4.heap.size 40 4 s (chgs (ascC l)) ∧ Below w4.heap.size w4 wx)
    case first =>
      have HMG : Hid (mrgE (l.take k) (l.drop k) = 0 ∧ mrgC (l.take k) (l.drop k) = ascC l) := by
        have := mrg_ok HVT.out HVD.out (by simp; omega)
        rw [List.take_append_drop] at this; exact this
      rcases HF.out with ⟨rfl, rfl, rfl⟩ | ⟨g, rfl⟩
      · obtain rfl : k = 0 := by simpa using hkl
        have HT : Hid (Sl w4 4 (.slice none 0 0) (chgs ([].drop 0))) := none_sl
        have HH : Hid (Sl w4 4 (.slice none 0 0) (chgs ([].take 0))) := none_sl
        have HT5 := Lib.hid (HT.out.below (below_a0 w4))
        have HH5 := Lib.hid (HH.out.below (below_a0 w4))
        have hb5 : Below w4.heap.size w4 w4.drew := below_a0 w4
        refine region_mix [6, 5] (by kernel_rfl) (by kernel_rfl) (by kernel_rfl) ?_
        simp only [wpMix, List.take_succ_cons, List.take_zero, List.drop_succ_cons, List.drop_zero]
        repeat still_step
        refine wpStill_nil ?_
        generalize w4.drew = w5 at HT5 HH5 hb5 ⊢
        go_wp2_with fail
        refine (Merge_any _ _ _ _ _ HH5.out HT5.out).mono ?_
        rw [HMG.out.1, HMG.out.2]
        rintro e w6 ⟨x6, rfl, hown6, hb6⟩
        go_wp2_with fail
        repeat still_step
        refine wpStill_nil ?_
        go_wp2_with fail
        go_meet
        exact ⟨rfl, hown6.more hb5.size, hb5.trans (hb6.mono hb5.size)⟩
      · by_cases hkc : cap = k
        · subst hkc
          obtain rfl : cap = l.length := by omega
          have HT : Hid (Sl w4 4 (.slice (some ⟨g, 0, none⟩) 0 0) (chgs (l.drop l.length))) := by rw [Hid, List.drop_length]; exact none_sl
          have HH : Hid (Sl w4 4 (.slice (some ⟨g, 0, none⟩) l.length l.length) (chgs (l.take l.length))) := by rw [Hid, List.take_length]; exact hS4.out
          have HT5 := Lib.hid (HT.out.below (below_a0 w4))
          have HH5 := Lib.hid (HH.out.below (below_a0 w4))
          have hb5 : Below w4.heap.size w4 w4.drew := below_a0 w4
          refine region_mix [6, 5] (by kernel_rfl) (by kernel_rfl) (by kernel_rfl) ?_
          simp only [wpMix, List.take_succ_cons, List.take_zero, List.drop_succ_cons, List.drop_zero]
          repeat still_step
          refine wpStill_nil ?_
          generalize w4.drew = w5 at HT5 HH5 hb5 ⊢
          go_wp2_with fail
          refine (Merge_any _ _ _ _ _ HH5.out HT5.out).mono ?_
          rw [HMG.out.1, HMG.out.2]
          rintro e w6 ⟨x6, rfl, hown6, hb6⟩
          go_wp2_with fail
          repeat still_step
          refine wpStill_nil ?_
          go_wp2_with fail
          go_meet
          exact ⟨rfl, hown6.more hb5.size, hb5.trans (hb6.mono hb5.size)⟩
        · have hkc1 : (k : Int) < (cap : Int) := by omega
          have hkc2 : k ≤ cap := by omega
          have HT := Lib.hid (drop_sl hS4.out hkl)
          have HH := Lib.hid (take_sl hS4.out hkl hcap (by unfold maxLen; omega))
          have HT5 := Lib.hid (HT.out.below (below_a0 w4))
          have HH5 := Lib.hid (HH.out.below (below_a0 w4))
          have hb5 : Below w4.heap.size w4 w4.drew := below_a0 w4
          refine region_mix [6, 5] (by kernel_rfl) (by kernel_rfl) (by kernel_rfl) ?_
          simp only [wpMix, List.take_succ_cons, List.take_zero, List.drop_succ_cons, List.drop_zero]
          repeat still_step
          refine wpStill_nil ?_
          generalize w4.drew = w5 at HT5 HH5 hb5 ⊢
          go_wp2_with fail
          refine (Merge_any _ _ _ _ _ HH5.out HT5.out).mono ?_
          rw [HMG.out.1, HMG.out.2]
          rintro e w6 ⟨x6, rfl, hown6, hb6⟩
          go_wp2_with fail
          repeat still_step
          refine wpStill_nil ?_
          go_wp2_with fail
          go_meet
          exact ⟨rfl, hown6.more hb5.size, hb5.trans (hb6.mono hb5.size)⟩
    case rest =>
      obtain ⟨rfl, hown5, hb5⟩ := hcut
      obtain ⟨w5, hw5⟩ : ∃ w5 : World, w5 = wc := ⟨_, rfl⟩
      subst hw5
      obtain ⟨va, hva⟩ : ∃ va : Value, va = u9 := ⟨_, rfl⟩
      subst hva
      have s5 := s4.below hb5
      have hS5 := Lib.hid (hS4.out.below hb5)
      have hT5 := Lib.hid ((hown4.kept hb5).sl (by omega))
      have hD4 : D < w4.heap.size := Nat.lt_of_lt_of_le s4.low s4.size
      have hla : (ascC l).length ≤ 8 := by have := ascC_len l; omega
      have HM2 : Hid (mrgE (l.drop k ++ l.take k) l = 0 ∧ mrgC (l.drop k ++ l.take k) l = ascC l) := by
        have := mrg_ok HVX.out HVL.out (by simp; omega)
        rw [asc_turn] at this; exact this
      clear hS4 s4 hown4 HF HVT HVD HVX
      go_wp2_with fail
      refine (Merge_any _ _ _ _ _ hT5.out hS5.out).mono ?_
      rw [HM2.out.1, HM2.out.2]
      rintro e w6 ⟨vb, rfl, hown6, hb6⟩
      have s6 := s5.below hb6
      have hS6 := Lib.hid (hS5.out.below hb6)
      have o6 := hown5.kept hb6
      have hA6 := Lib.hid (o6.sl (by omega))
      have hB6 := Lib.hid (hown6.sl (by omega))
      clear s5 hS5 hT5 hown5 hown6 HM2
      go_wp2_with fail
      refine (same_any va vb (ascC l) (ascC l) _ hA6.out hB6.out (by omega) (by omega)).mono ?_
      rw [decide_eq_true rfl]
      rintro e w7 ⟨rfl, hb7⟩
      have s7 := s6.below hb7
      have hS7 := Lib.hid (hS6.out.below hb7)
      have o7 := o6.kept hb7
      clear o6 s6 hS6 hA6 hB6
      go_wp2_with fail
      refine (day_any D _ s7.tape).mono ?_
      rintro e w8 ⟨d, ⟨a8, b8⟩, rfl, t8, g8⟩
      have s8 := s7.draw t8 g8
      have o8 := o7.keepG g8 (o7.ne_low (by omega))
      have B8 := Lib.hid (hb1.grown s8.grown hb1.size (fun g hg => by cases hg; rw [HD.out]; exact Nat.le_refl _))
      have S8 := Lib.hid (s8.own.sl (by omega))
      have O8 := Lib.hid (o8.sl (by omega))
      clear s7 s8 o7 o8 t8 g8 hS7
      go_wp2_with fail
      refine (tapeMod_any n 8 _ (by omega) (by omega)).mono ?_
      rintro e w9 ⟨rfl, rfl⟩
      obtain ⟨kn, hkn⟩ : ∃ kn, n % 8 = kn := ⟨_, rfl⟩
      rw [hkn]
      clear hkn
      obtain ⟨o, ho⟩ : ∃ o, vAt l kn d = o := ⟨_, rfl⟩
      have E1 : Hid (atO l d kn = o ∧ atE l d = 0) := ⟨by rw [atO_ok HVL.out a8 b8, ho], atE_ok HVL.out a8 b8⟩
      have E2 : Hid (atO (ascC l) d kn = o ∧ atE (ascC l) d = 0) := ⟨by rw [atO_ok HVA.out a8 b8, vAt_congr (m := l) (fun x => mem_ascC), ho], atE_ok HVA.out a8 b8⟩
      clear ho
      go_wp2_with fail
      refine (At_any _ l d kn _ S8.out).mono ?_
      rw [E1.out.1, E1.out.2]
      rintro e w10 ⟨rfl, hb10⟩
      have O10 := Lib.hid (O8.out.below hb10)
      have B10 := Lib.hid (B8.out.trans (hb10.mono B8.out.size))
      clear S8 O8 B8 hb10
      go_wp2_with fail
      refine (At_any _ (ascC l) d kn _ O10.out).mono ?_
      rw [E2.out.1, E2.out.2]
      rintro e w11 ⟨rfl, hb11⟩
      have B11 := Lib.hid (B10.out.trans (hb11.mono B10.out.size))
      clear O10 B10 hb11
      go_wp2_with fail
      refine (sane_any _).mono ?_
      rintro e w12 ⟨rfl, hb12⟩
      have B12 := B11.out.trans (hb12.mono B11.out.size)
      go_wp2
      go_ret
      exact ⟨rfl, B12⟩
end Go.Proofs.Ytnmbaeahnfbfiaa
