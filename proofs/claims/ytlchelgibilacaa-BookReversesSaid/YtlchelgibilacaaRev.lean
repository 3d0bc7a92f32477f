/- The law BookReverses: it returns true. -/
import Derived.Test.YtlchelgibilacaaRevS
import Derived.Test.YtlchelgibilacaaAdds
namespace Go.Proofs.Ytlchelgibilacaa
open Go.RowKit

/-- what the loops need: two books that read alike -/
def Alike (l m : List Pst) : Prop := (∀ n, netL l n = netL m n) ∧ ∀ n p, resultL l n p = resultL m n p

set_option maxRecDepth 100000 in
set_option maxHeartbeats 1600000 in
theorem BookReverses_any (v : Value) (zs : List Int) (a : Int) (w : World) (hv : Sl w 1 v (ints zs)) :
    Calls Try.prog 8 #[v, .int .i64 a] w fun e w' => e = .returned (.bool true) ∧ Below w.heap.size w w' := by
  have HV := Lib.hid hv
  clear hv
  go_enter Try.func8, Try.ntmps8
  go_wp2_with fail
  refine (new_any v zs w HV.out).mono ?_
  rintro e w2 ⟨rfl, hd2, hB2⟩
  obtain ⟨D, hDe⟩ : ∃ D, D = w.heap.size := ⟨_, rfl⟩
  rw [← hDe] at hd2 ⊢
  have hDlo : w.heap.size ≤ D := by omega
  clear HV hDe
  have hs2 := hB2.size
  have hDlt := hd2.lt
  go_wp2_with fail
  refine (DBook_any D 0 5 w2 hd2 (by omega) (by omega)).mono ?_
  rintro e w3 ⟨x, b, R, d3, rfl, hgood, hR, hlen, hown3, hd3, hdd3, hg3⟩
  have hB3 := hB2.grown hg3 hs2 (fun g hg => by cases hg; exact hDlo)
  have hs3 := hB3.size
  clear hB2 hg3 hd2 hd3
  obtain ⟨Y, cy, rfl⟩ := hown3.form
  rw [psts_len] at hown3 ⊢
  by_cases hz : b.length = 0
  · have dz : (((b.length : Nat) : Int) == 0) = true := by simp [hz]
    go_wp2_with fail
    refine (awake_any _).mono ?_
    rintro e w6 ⟨rfl, hb6⟩
    go_wp2
    go_ret
    exact ⟨rfl, below_after hB3 hb6 hs3⟩
  have dz : (((b.length : Nat) : Int) == 0) = false := beq_eq_false_iff_ne.2 (by omega)
  obtain ⟨g, rfl⟩ := hown3.some (by rw [psts_len]; omega)
  go_wp2_with fail
  refine (Mod_any a b.length w3 (by omega) (by omega)).mono ?_
  rintro e w4 ⟨rfl, rfl⟩
  obtain ⟨K, hK⟩ := Int.eq_ofNat_of_zero_le (Int.emod_nonneg a (show (b.length : Int) ≠ 0 by omega))
  have hKlt : K < b.length := by have := Int.emod_lt_of_pos a (show (0 : Int) < b.length by omega); omega
  rw [hK]
  clear hK
  obtain ⟨c0, _⟩ := hown3.pstE hKlt
  obtain ⟨r, hr⟩ : ∃ r, (b[K]).run = r := ⟨_, rfl⟩
  rw [hr] at c0
  have HS3 := Lib.hid (hown3.sl (by omega))
  have HR := Lib.hid (reversed hgood (by omega) (by omega) hKlt hr)
  clear hgood hr hown3 hz
  go_wp2_with fail
  clear c0
  go_loopw [7, 8] (fun t i wr => ∃ k : Nat, k ≤ b.length ∧ i = .int .i64 k ∧ Own wr w3.heap.size 27 6 t (psts (wo r (b.take k))) ∧ Below w3.heap.size w3 wr) (fun _ i _ => b.length - (intOf i).toNat)
  case atStart => exact ⟨0, by omega, rfl, Own.nil _ _ _ _, Below.refl _ _⟩
  case round =>
    obtain ⟨k, hk, rfl, hown, hb⟩ := hrel
    by_cases hlt : k < b.length
    · obtain ⟨A, cap, hA, _, _, _, hc0⟩ := HS3.out
      rcases hc0 with h | ⟨bb, off, hA2, hc0⟩
      · exact (psts_pos hlt h).elim
      · rw [hA2] at hA
        injection hA with hA _ _
        injection hA with hA
        injection hA with hA1 hA3
        subst hA1 hA3
        obtain ⟨c0, c1, c2, c3, c4, c5⟩ := (hc0.below hb hc0.1).pst hlt
        simp only [Nat.zero_add] at c0 c1 c2 c3 c4 c5
        have hbs := hb.size
        have hsn := Lib.hid (wo_snoc r b k hlt)
        have hul := wo_len r b k
        clear hc0 hA2
        cases e1 : ((b[k]).run != r)
        · have hN : Hid (wo r (b.take k) = wo r (b.take (k + 1))) := by rw [Hid, hsn.out, if_pos (by simpa using e1), List.append_nil]
          go_wp2_with fail
          go_roundw
          case rel => exact ⟨k + 1, by omega, by go_num, by rw [← hN.out]; exact hown, hb⟩
          case measure => simp [intOf]; omega
        · have hN : Hid (wo r (b.take (k + 1)) = wo r (b.take k) ++ [b[k]]) := by rw [Hid, hsn.out, if_neg (by simpa using e1)]
          go_wp2_with (at_builtin; refine wpList_append_sl rfl (.tmp 43) (.tmp 48) rfl rowPst w3.heap.size _ _ _ (psts [b[k]]) rfl (hown.alloc _) rfl (Sl.one (by simp) rfl) (psts_wide _) (by rw [psts_len, psts_len]; unfold maxLen; simp; omega) (by rw [psts_len, psts_len]; simp; omega) (by simp; omega) ?_; intro v2 w5 hown2 hg2 _; have hb2 := Own.grown (hown.alloc _) (hb.alloc hbs _) hg2 (by simp; omega); rw [← psts_append, ← hN.out] at hown2)
          go_roundw
          case rel => exact ⟨k + 1, by omega, by go_num, (by first | exact ⟨hown2, hb2⟩ | exact hown2)⟩
          case measure => simp [intOf]; omega
    · obtain rfl : k = b.length := by omega
      rw [List.take_length] at hown
      obtain ⟨hu0, ha0, hn0, hr0⟩ := HR.out
      have HU0 : Hid (undoL b r 100 = undoSel r 100 b) := by rw [Hid, undoL, if_pos hu0]
      have HA0 : Hid (addL b (undoSel r 100 b) = b ++ undoSel r 100 b) := by rw [Hid, addL, if_pos ha0]
      have hul : (undoSel r 100 b).length ≤ 1000 := by have := undoSel_len r 100 b b.length; rw [List.take_length] at this; omega
      have HAL : Hid (Alike (b ++ undoSel r 100 b) (wo r b)) := ⟨hn0, hr0⟩
      have HUE := Lib.hid hu0
      have HAE := Lib.hid ha0
      have hB4 := hB3.trans (hb.mono hs3)
      have hs4 := hB4.size
      have HSW := Lib.hid (hown.sl (by omega))
      have HS4 := Lib.hid (HS3.out.below hb)
      clear hu0 ha0 hn0 hr0 HR hown hb HS3 hB3
      obtain ⟨u, hu⟩ : ∃ u, u = undoSel r 100 b := ⟨_, rfl⟩
      rw [← hu] at HU0 HA0 hul HAL HAE
      clear hu
      obtain ⟨m, hm⟩ : ∃ m, m = wo r b := ⟨_, rfl⟩
      rw [← hm] at HAL HSW
      clear hm
      go_wp2_with fail
      refine (Undo_any _ b r 100 wr HS4.out).mono ?_
      rintro e w5 ⟨p, rfl, hown5, hb5⟩
      rw [HUE.out]
      rw [HU0.out] at hown5
      have hB5 := below_after hB4 hb5 hs4
      have hs5 := hB5.size
      have HP := Lib.hid (hown5.sl (by omega))
      have HS5 := Lib.hid (HS4.out.below hb5)
      have HW5 := Lib.hid (HSW.out.below hb5)
      clear hown5 HS4 HSW hb5 hB4
      go_wp2_with fail
      refine (Add_any _ _ b u w5 HS5.out HP.out (by omega)).mono ?_
      rintro e w6 ⟨q, rfl, hown6, hb6⟩
      rw [HAE.out]
      rw [HA0.out] at hown6
      have hB6 := below_after hB5 hb6 hs5
      have hs6 := hB6.size
      have HQ := Lib.hid (hown6.sl (by omega))
      have HW6 := Lib.hid (HW5.out.below hb6)
      clear hown6 HP HS5 HW5 hB5 hb6
      go_wp2_with fail
      go_loopw [13] (fun i wr => ∃ n : Nat, 1 ≤ n ∧ n ≤ 4 ∧ i = .int .i64 n ∧ Below w6.heap.size w6 wr) (fun i _ => 4 - (intOf i).toNat)
      case atStart => exact ⟨1, by omega, by omega, rfl, Below.refl _ _⟩
      case round =>
        rename_i wn
        obtain ⟨n, hn1, hn2, rfl, hb⟩ := hrel
        by_cases hn : n ≤ 3
        · have dn : decide ((n : Int) ≤ 3) = true := decide_eq_true (by omega)
          have hbs := hb.size
          go_wp2_with fail
          refine (Net_any _ _ n _ (HQ.out.below hb)).mono ?_
          rintro e w7 ⟨rfl, hb7⟩
          have hB7 := below_after hb hb7 hbs
          have hs7 := hB7.size
          go_wp2_with fail
          refine (Net_any _ _ n _ (HW6.out.below hB7)).mono ?_
          rintro e w8 ⟨rfl, hb8⟩
          have hB8 := below_after hB7 hb8 hs7
          have hs8 := hB8.size
          rw [HAL.out.1 n]
          have dne : (netL m n != netL m n) = false := by simp
          clear hb7 hb8 hB7 hb
          go_wp2_with fail
          go_loopw [14] (fun i wq => ∃ p : Nat, p ≤ 3 ∧ i = .int .i64 p ∧ Below w6.heap.size w6 wq) (fun i _ => 3 - (intOf i).toNat)
          case atStart => exact ⟨0, by omega, rfl, hB8⟩
          case round =>
            obtain ⟨p, hp, rfl, hb⟩ := hrel
            by_cases hp3 : p < 3
            · have dp : decide ((p : Int) < 3) = true := decide_eq_true (by omega)
              have hbs := hb.size
              go_wp2_with fail
              refine (Result_any _ _ n p _ (HQ.out.below hb)).mono ?_
              rintro e w9 ⟨y, rfl, hown9, hb9⟩
              have hB9 := below_after hb hb9 hbs
              have hs9 := hB9.size
              have HY := Lib.hid (hown9.sl (by omega))
              clear hown9 hb9 hb
              go_wp2_with fail
              refine (Result_any _ _ n p _ (HW6.out.below hB9)).mono ?_
              rintro e w10 ⟨z, rfl, hown10, hb10⟩
              rw [← HAL.out.2 n p] at hown10
              have hB10 := below_after hB9 hb10 hs9
              have hs10 := hB10.size
              have HZ := Lib.hid (hown10.sl (by omega))
              have HY' := Lib.hid (HY.out.below hb10)
              clear hown10 hb10 hB9 HY
              go_wp2_with fail
              refine (SameL_any _ _ _ _ HY'.out HZ.out).mono ?_
              rintro e w11 ⟨rfl, hb11⟩
              have hB11 := below_after hB10 hb11 hs10
              go_wp2_with fail
              go_roundw
              case rel => exact ⟨p + 1, by omega, by go_num, hB11⟩
              case measure => simp [intOf]; omega
            · have dp : decide ((p : Int) < 3) = false := decide_eq_false (by omega)
              go_wp2_with fail
              go_roundw
              case rel => exact ⟨n + 1, by omega, by omega, by go_num, hb⟩
              case measure => simp [intOf]; omega
        · have dn : decide ((n : Int) ≤ 3) = false := decide_eq_false (by omega)
          have hB := below_after hB6 hb hs6
          have hs := hB.size
          go_wp2_with fail
          refine (awake_any _).mono ?_
          rintro e w12 ⟨rfl, hb12⟩
          go_wp2
          go_ret
          exact ⟨rfl, below_after hB hb12 hs⟩

end Go.Proofs.Ytlchelgibilacaa
