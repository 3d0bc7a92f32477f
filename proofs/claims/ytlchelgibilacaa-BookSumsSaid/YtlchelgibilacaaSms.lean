/- The law BookSums: it returns true. -/
import Derived.Test.YtlchelgibilacaaSumS
import Derived.Test.YtlchelgibilacaaAdds
import Derived.Deep.CutBlock
import Derived.Deep.DeepCutAuto
namespace Go.Proofs.Ytlchelgibilacaa
open Go.RowKit

/-- an empty slice -/
theorem Sl.zero (w : World) (sz : Nat) (a : Option Addr) : Sl w sz (.slice a 0 0) [] := ⟨a, 0, rfl, Nat.le_refl _, Nat.zero_le _, fun _ => rfl, .inl rfl⟩
theorem Sl.less {w : World} {sz n cap : Nat} {A : Option Addr} {es : List (List Value)} (h : Sl w sz (.slice A n cap) es) (k : Nat) (hk : k ≤ n) : Sl w sz (.slice A k cap) (es.take k) := by
  obtain ⟨A', cap', he, h1, h2, h3, h4⟩ := h
  injection he with e1 e2 e3
  subst e1 e2 e3
  have hl : (es.take k).length = k := by rw [List.length_take]; omega
  refine ⟨A, cap, by rw [hl], by omega, h2, h3, ?_⟩
  rcases h4 with rfl | ⟨b, off, rfl, h5, h6⟩
  · exact .inl (by simp)
  · refine .inr ⟨b, off, rfl, h5, fun i e hi j u hj => h6 i e ?_ j u hj⟩
    rw [List.getElem?_take] at hi
    split at hi
    · exact hi
    · cases hi
theorem own_cases {w : World} {base e sz n cap : Nat} {A : Option Addr} {es : List (List Value)} (h : Own w base e sz (.slice A n cap) es) : (A = none ∧ n = 0 ∧ cap = 0 ∧ es = []) ∨ ∃ g, A = some ⟨g, 0, none⟩ ∧ n = es.length ∧ n ≤ cap := by
  rcases h.1.2 with ⟨h', h0⟩ | ⟨g, cap', cur, h', h1, h2, h3, _⟩
  · injection h' with e1 e2 e3
    exact .inl ⟨e1, e2, e3, List.eq_nil_of_length_eq_zero h0⟩
  · injection h' with e1 e2 e3
    subst e2 e3
    exact .inr ⟨g, e1, rfl, h3⟩

set_option maxRecDepth 100000 in
set_option maxHeartbeats 3200000 in
theorem BookSums_any (v : Value) (zs : List Int) (a : Int) (w : World) (hv : Sl w 1 v (ints zs)) :
    Calls Try.prog 6 #[v, .int .i64 a] w fun e w' => e = .returned (.bool true) ∧ Below w.heap.size w w' := by
  have HV := Lib.hid hv
  clear hv
  go_enter Try.func6, Try.ntmps6
  go_wp2_with fail
  refine (new_any v zs w HV.out).mono ?_
  rintro e w2 ⟨rfl, hd2, hB2⟩
  obtain ⟨D, hDe⟩ : ∃ D, D = w.heap.size := ⟨_, rfl⟩
  rw [← hDe] at hd2 ⊢
  have hDlo : w.heap.size ≤ D := by omega
  clear HV hDe
  have hs2 := hB2.size
  have hDlt := hd2.lt
  go_wp2_with fail
  refine (DBook_any D 0 6 w2 hd2 (by omega) (by omega)).mono ?_
  rintro e w3 ⟨x, b, R, d3, rfl, hgood, hR, hlen, hown3, hd3, hdd3, hg3⟩
  have hB3 := hB2.grown hg3 hs2 (fun g hg => by cases hg; exact hDlo)
  have hs3 := hB3.size
  clear hB2 hg3 hd2 hd3
  obtain ⟨Y, cy, rfl⟩ := hown3.form
  rw [psts_len] at hown3 ⊢
  have HG := Lib.hid hgood
  have hYc := own_cases hown3
  rw [psts_len] at hYc
  have HYC := Lib.hid hYc
  have HS3 := Lib.hid (hown3.sl (by omega))
  clear hgood hYc hown3
  go_wp2_with fail
  refine (Mod_any a 12 w3 (by omega) (by omega)).mono ?_
  rintro e w4 ⟨rfl, rfl⟩
  obtain ⟨K, hK⟩ : ∃ K, K = a % 12 := ⟨_, rfl⟩
  rw [← hK]
  clear hK
  go_wp2_with fail
  refine (AsOf_any _ b K w3 HS3.out).mono ?_
  rintro e w5 ⟨o, rfl, hown5, hb5⟩
  have hB5 := below_after hB3 hb5 hs3
  have hs5 := hB5.size
  obtain ⟨j, hj⟩ : ∃ j, j = (upTo K b).length := ⟨_, rfl⟩
  have hup := upTo_take HG.out.1 K
  rw [← hj] at hup
  have hjl := hup.2
  have hold : asOfL b K = b.take j := by rw [asOfL, if_pos (HG.out.book (by omega)), hup.1]
  rw [hold] at hown5
  have HJ : Hid ((b.take j).length = j) := by rw [Hid, List.length_take]; omega
  obtain ⟨Z, cz, rfl⟩ := hown5.form
  rw [psts_len, HJ.out] at hown5 ⊢
  have HO5 := Lib.hid (hown5.sl (by omega))
  have HS5 := Lib.hid (HS3.out.below hb5)
  clear hup hold hown5 hj HS3 hb5 hB3
  have dj : decide (b.length < j) = false := decide_eq_false (by omega)
  go_upto_region 5 with (fail)
  go_cut [40] (fun t wx => t = .bool false ∧ Below w5.heap.size w5 wx)
  case first =>
    have HT := Lib.hid (show Sl w5 6 (.slice Y j cy) (psts (b.take j)) by rw [← psts_take]; exact HS5.out.less j hjl)
    rcases HYC.out with ⟨rfl, h0, rfl, _⟩ | ⟨g, rfl, _, hcy⟩
    · obtain rfl : j = 0 := by omega
      have H0 := Lib.hid h0
      clear h0
      go_wp2_with fail
      refine (Same_any _ _ _ _ HO5.out HT.out).mono ?_
      rintro e w6 ⟨rfl, hb6⟩
      go_wp2_with fail
      go_meet
      exact ⟨rfl, hb6⟩
    · have hjc : j ≤ cy := by omega
      go_wp2_with fail
      refine (Same_any _ _ _ _ HO5.out HT.out).mono ?_
      rintro e w6 ⟨rfl, hb6⟩
      go_wp2_with fail
      go_meet
      exact ⟨rfl, hb6⟩
  case rest =>
    obtain ⟨rfl, hb6⟩ := hcut
    have hB6 := below_after hB5 hb6 hs5
    have hs6 := hB6.size
    have HO6 := Lib.hid (HO5.out.below hb6)
    have HS6 := Lib.hid (HS5.out.below hb6)
    clear HO5 HS5 hb6 hB5
    obtain ⟨w6, hw6⟩ : ∃ w6 : World, w6 = wc := ⟨_, rfl⟩
    subst hw6
    go_upto_region 7 with (fail)
    go_cut [9] (fun t wx => Hid (Sl w6 6 t (psts (b.drop j))) ∧ w6 = wx)
    case first =>
      rcases HYC.out with ⟨rfl, h0, rfl, hb0⟩ | ⟨g, rfl, _, hcy⟩
      · obtain rfl : j = 0 := by omega
        have hbn : psts (b.drop 0) = [] := by rw [List.drop_zero]; exact hb0
        have HBN := Lib.hid hbn
        have H0 := Lib.hid h0
        clear hbn hb0 h0
        go_wp2_with fail
        go_meet
        exact ⟨by rw [HBN.out, H0.out]; exact Sl.zero _ _ _, rfl⟩
      · by_cases hc : cy = j
        · obtain rfl : j = cy := hc.symm
          have hbl : b.length = j := by omega
          have HBN : Hid (psts (b.drop j) = []) := by rw [Hid, List.drop_of_length_le (by omega)]; rfl
          have HBL := Lib.hid hbl
          clear hbl
          go_wp2_with fail
          go_meet
          exact ⟨by show Sl _ _ _ _; rw [HBN.out]; (try rw [HBL.out]); (try rw [Nat.sub_self]); exact Sl.zero _ _ _, rfl⟩
        · have hj2 : j < cy := by omega
          have HD := Lib.hid (HS6.out.drop j hjl)
          rw [psts_drop] at HD
          go_wp2_with fail
          go_meet
          exact ⟨by show Sl _ _ _ _; simpa using HD.out, rfl⟩
    case rest =>
      obtain ⟨HM6, hwc⟩ := hcut
      subst hwc
      clear HYC
      go_wp2_with fail
      go_loopw [10] (fun i wr => ∃ n : Nat, n ≤ 3 ∧ i = .int .i64 n ∧ Below w6.heap.size w6 wr) (fun i _ => 3 - (intOf i).toNat)
      case atStart => exact ⟨0, by omega, rfl, Below.refl _ _⟩
      case round =>
        obtain ⟨wn, hwn⟩ : ∃ wn : World, wn = wr := ⟨_, rfl⟩
        subst hwn
        obtain ⟨n, hn, rfl, hbn⟩ := hrel
        by_cases hn3 : n < 3
        · have dn : decide ((n : Int) < 3) = true := decide_eq_true (by omega)
          have hbns := hbn.size
          go_wp2_with fail
          go_loopw [11, 12] (fun t i wq => ∃ m : Nat, m ≤ 3 ∧ i = .int .i64 ((m : Int) + 1) ∧ Own wq wn.heap.size 25 3 t (lns (allR b n m)) ∧ Below wn.heap.size wn wq) (fun _ i _ => 4 - (intOf i).toNat)
          case atStart => exact ⟨0, by omega, rfl, Own.nil _ _ _ _, Below.refl _ _⟩
          case round =>
            obtain ⟨wq, hwq⟩ : ∃ wq : World, wq = wr := ⟨_, rfl⟩
            subst hwq
            obtain ⟨m, hm, rfl, hown, hbq⟩ := hrel
            have hbqs := hbq.size
            have hB0 := hbn.trans (hbq.mono hbns)
            have hs0 := hB0.size
            by_cases hm3 : m < 3
            · have dm : decide ((m : Int) + 1 ≤ 3) = true := decide_eq_true (by omega)
              go_wp2_with fail
              refine (Result_any _ b ((m : Int) + 1) n _ (HS6.out.below hB0)).mono ?_
              rintro e w7 ⟨y, rfl, hown7, hb7⟩
              have hB7 := below_after hB0 hb7 hs0
              have hs7 := hB7.size
              go_wp2_with fail
              refine (Result_any _ (b.take j) ((m : Int) + 1) n _ (HO6.out.below hB7)).mono ?_
              rintro e w8 ⟨z, rfl, hown8, hb8⟩
              have hB8 := below_after hB7 hb8 hs7
              have hs8 := hB8.size
              go_wp2_with fail
              refine (Result_any _ (b.drop j) ((m : Int) + 1) n _ (HM6.out.below hB8)).mono ?_
              rintro e w9 ⟨u, rfl, hown9, hb9⟩
              have hs78 := hb8.size
              have hs89 := hb9.size
              have hown8' := hown8.kept hb9
              have HU := Lib.hid (hown9.sl (by omega))
              have hl1 := res_len (HG.out.take j) (by rw [List.length_take]; omega) ((m : Int) + 1) n
              have hl2 := res_len (HG.out.drop j) (by rw [List.length_drop]; omega) ((m : Int) + 1) n
              rw [List.length_take] at hl1
              rw [List.length_drop] at hl2
              have HSP := Lib.hid (sums_split HG.out (by omega) j ((m : Int) + 1) n)
              have hl3 := res_len HG.out (by omega) ((m : Int) + 1) n
              have hl4 := allR_len HG.out (by omega) n m
              have hl5 : m * b.length ≤ 3 * 24 := Nat.mul_le_mul hm (by omega)
              clear hown8 hown9
              go_wp2_with (at_builtin; refine wpList_append_sl rfl (.tmp 61) (.tmp 65) rfl rowLn w7.heap.size _ _ _ _ rfl hown8' rfl HU.out (lns_wide _) (by rw [lns_len, lns_len]; unfold maxLen; omega) (by rw [lns_len, lns_len]; omega) (by omega) ?_; intro v10 w10 hown10 hg10 _; have hb10 := Own.grown hown8' (below_after hb8 hb9 (by omega)) hg10 (by omega); rw [← lns_append] at hown10; clear hg10)
              refine (Merge_any _ _ _ (hown10.sl (by omega))).mono ?_
              rintro e w11 ⟨t, rfl, hown11, hb11⟩
              have hb11' := below_after hb10 hb11 hb10.size
              have hB11 := below_after hB7 hb11' hs7
              have hs11 := hB11.size
              rw [HSP.out.1]
              rw [HSP.out.2] at hown11
              have HY := Lib.hid (hown7.sl (by omega))
              have HY11 := Lib.hid (HY.out.below hb11')
              have HT := Lib.hid (hown11.sl (by omega))
              have hown' := hown.kept (below_after hb7 hb11' hb7.size)
              clear hown10 hown11 hown7 hown hown8' HU HY
              go_wp2_with fail
              refine (SameL_any _ _ _ _ HY11.out HT.out).mono ?_
              rintro e w12 ⟨rfl, hb12⟩
              have hown12 := hown'.kept hb12
              have HY12 := Lib.hid (HY11.out.below hb12)
              have hbq12 : Below wn.heap.size wn w12 := below_after (below_after hbq (below_after hb7 hb11' hb7.size) hbqs) hb12 (by have := hb7.size; have := hb11'.size; omega)
              clear hown' HT HY11 hB7 hB8 hb8 hb9 hb10 hb11 hb11' hB11 hb12 hb7
              have hs12 := hbq12.size
              go_wp2_with (at_builtin; refine wpList_append_sl rfl (.tmp 78) (.tmp 79) rfl rowLn wn.heap.size _ _ _ _ rfl hown12 rfl HY12.out (lns_wide _) (by rw [lns_len, lns_len]; unfold maxLen; omega) (by rw [lns_len, lns_len]; omega) hs12 ?_; intro v13 w13 hown13 hg13 _; have hb13 := Own.grown hown12 hbq12 hg13 hs12; rw [← lns_append] at hown13; clear hg13)
              go_roundw
              case rel => exact ⟨m + 1, by omega, by go_num, (by first | exact ⟨hown13, hb13⟩ | exact hown13)⟩
              case measure => simp [intOf]; omega
            · obtain rfl : m = 3 := by omega
              have dm : decide (((3 : Nat) : Int) + 1 ≤ 3) = false := by decide
              have HSA := Lib.hid (sums_all HG.out (by omega) n)
              go_wp2_with fail
              refine (Merge_any _ _ _ (hown.sl (by omega))).mono ?_
              rintro e w7 ⟨y, rfl, hown7, hb7⟩
              rw [HSA.out.1]
              rw [HSA.out.2] at hown7
              have hB7 := below_after hB0 hb7 hs0
              have hs7 := hB7.size
              go_wp2_with fail
              refine (Period_any _ b n _ (HS6.out.below hB7)).mono ?_
              rintro e w8 ⟨z, rfl, hown8, hb8⟩
              have hB8 := below_after hB7 hb8 hs7
              have hs8 := hB8.size
              have HY := Lib.hid ((hown7.sl (by omega)).below hb8)
              have HZ := Lib.hid (hown8.sl (by omega))
              clear hown7 hown8 hown
              go_wp2_with fail
              refine (SameL_any _ _ _ _ HY.out HZ.out).mono ?_
              rintro e w9 ⟨rfl, hb9⟩
              have hB9 := below_after hB8 hb9 hs8
              clear hB7 hB8 hb7 hb8 hb9 HY HZ hB0 hbq hbn
              go_wp2_with fail
              go_roundw
              case rel => exact ⟨n + 1, by omega, by go_num, hB9⟩
              case measure => simp [intOf]; omega
        · have dn : decide ((n : Int) < 3) = false := decide_eq_false (by omega)
          have hB := below_after hB6 hbn hs6
          have hs := hB.size
          go_wp2_with fail
          refine (awake_any _).mono ?_
          rintro e w12 ⟨rfl, hb12⟩
          go_wp2
          go_ret
          exact ⟨rfl, below_after hB hb12 hs⟩

end Go.Proofs.Ytlchelgibilacaa
