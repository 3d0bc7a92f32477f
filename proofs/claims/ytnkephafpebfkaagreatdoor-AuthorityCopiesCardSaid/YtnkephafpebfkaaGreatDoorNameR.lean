/- Contracts of payrollref17: IsKeyword, IsName. -/
import Derived.Test.YtnkephafpebfkaaGreatDoorTokP
namespace Go.Proofs.YtnkephafpebfkaaGreatDoor
open Go.RowKit

set_option maxHeartbeats 1000000 in
theorem refIsKeyword_any (s : ByteArray) (w : World) :
    Calls Tryz.prog 130 #[.string s] w fun e w' => e = .returned (.bool (kwB s.data.toList)) ∧ Below w.heap.size w w' := by
  rw [← ByteArray.toList_eq]
  go_enter Tryz.func130, Tryz.ntmps130
  go_wp2
  go_loopw [4] (fun i wr => ∃ k : Nat, k ≤ 34 ∧ i = .int .i64 k ∧ Below w.heap.size w wr ∧ Hid (∀ j, j < 34 → wr.cell? ⟨w.heap.size, j, none⟩ = some (.string (kwAt j))) ∧ Hid (∀ j, j < k → (kws.getD j [] == s.toList) = false)) (fun i _ => 34 - (intOf i).toNat)
  case atStart => exact ⟨0, by omega, rfl, (Below.refl _ _).alloc (Nat.le_refl _) _, fun j hj => by rw [World.cell?_alloc_new]; exact kwArr_at j hj, fun j hj => absurd hj (by omega)⟩
  case round =>
    obtain ⟨k, hk, rfl, hb, HC, HN⟩ := hrel
    by_cases hlt : k < 34
    · have hc := HC.out k hlt
      have e1 := kwAt_toList k
      cases he : (kws.getD k [] == s.toList)
      · have he' : ((kwAt k).toList == s.toList) = false := by rw [e1]; exact he
        have HE := Lib.hid he
        clear e1 he
        go_wp2
        go_roundw
        case rel => exact ⟨k + 1, by omega, by go_num, hb, HC, fun j hj => by
          by_cases hjk : j = k
          · subst hjk; exact HE.out
          · exact HN.out j (by omega)⟩
        case measure => simp [intOf]; omega
      · have he' : ((kwAt k).toList == s.toList) = true := by rw [e1]; exact he
        have HE := Lib.hid he
        clear e1 he
        go_wp2
        go_ret
        exact ⟨ret_bool (by rw [kwB_yes hlt HE.out]), hb⟩
    · go_wp2
      go_ret
      exact ⟨ret_bool (by rw [kwB_no fun i hi => HN.out i (by omega)]), hb⟩

theorem lower_any (c : Int) (w : World) :
    Calls Tryz.prog 148 #[.int .u8 c] w fun e w' => e = .returned (.bool (lowB c)) ∧ w = w' := by
  unfold lowB
  by_cases h1 : 97 ≤ c
  all_goals
    go_enter Tryz.func148, Tryz.ntmps148
    go_wp2
    go_ret
    exact ⟨by congr 2; simp; omega, rfl⟩
theorem digit_any (c : Int) (w : World) :
    Calls Tryz.prog 149 #[.int .u8 c] w fun e w' => e = .returned (.bool (digB c)) ∧ w = w' := by
  unfold digB
  by_cases h1 : 48 ≤ c
  all_goals
    go_enter Tryz.func149, Tryz.ntmps149
    go_wp2
    go_ret
    exact ⟨by congr 2; simp; omega, rfl⟩

set_option maxHeartbeats 400000 in
theorem word_any (s : ByteArray) (n : Nat) (w : World) (hs : s.size ≤ maxLen) (hn : n ≤ s.size) :
    Calls Tryz.prog 129 #[.string s, .int .i64 n] w fun e w' => e = .returned (.int .i64 (n + wordLen (s.data.toList.drop n) : Nat)) ∧ w = w' := by
  unfold maxLen at hs
  by_cases h0 : n < s.size
  · have HW := Lib.hid (wordLen_drop s n h0)
    have hge : decide (s.size ≤ n) = false := by simp; omega
    cases hl : lowB s[n].toNat
    · go_enter Tryz.func129, Tryz.ntmps129
      go_wp2_with (first | (go_at_call 148; refine (lower_any _ _).mono ?_; rintro e w' ⟨rfl, rfl⟩) | (go_at_call 149; refine (digit_any _ _).mono ?_; rintro e w' ⟨rfl, rfl⟩))
      go_ret
      exact ⟨ret_int (by rw [HW.out, hl]; simp), rfl⟩
    · go_enter Tryz.func129, Tryz.ntmps129
      go_wp2_with (first | (go_at_call 148; refine (lower_any _ _).mono ?_; rintro e w' ⟨rfl, rfl⟩) | (go_at_call 149; refine (digit_any _ _).mono ?_; rintro e w' ⟨rfl, rfl⟩))
      have hW2 : wordLen (s.data.toList.drop n) = wcount (s.data.toList.drop n) := by rw [HW.out, hl]; rfl
      have HW2 := Lib.hid hW2
      clear HW hW2 hl
      go_loop [1] (fun i => ∃ k : Nat, k ≤ s.size ∧ i = .int .i64 k ∧ Hid (n + wordLen (s.data.toList.drop n) = k + wcount (s.data.toList.drop k))) (fun i => s.size - (intOf i).toNat)
      case atStart => exact ⟨n, by omega, rfl, by rw [HW2.out]; exact rfl⟩
      case round =>
        obtain ⟨k, hk, rfl, HK⟩ := hrel
        clear HW2
        by_cases hlt : k < s.size
        · have HD := Lib.hid (wcount_drop s k hlt)
          have fin : Hid (wcB s[k].toNat = true → n + wordLen (s.data.toList.drop n) = (k + 1 : Nat) + wcount (s.data.toList.drop (k + 1))) := fun h => by rw [HK.out, HD.out, if_pos h]; omega
          have fin0 : Hid (wcB s[k].toNat = false → n + wordLen (s.data.toList.drop n) = k) := fun h => by rw [HK.out, HD.out, if_neg (by simp [h])]; simp
          clear HK HD
          cases hl : lowB s[k].toNat
          · cases hd : digB s[k].toNat
            · cases h9 : ((s[k].toNat : Int) == 95)
              · go_wp2_with (first | (go_at_call 148; refine (lower_any _ _).mono ?_; rintro e w' ⟨rfl, rfl⟩) | (go_at_call 149; refine (digit_any _ _).mono ?_; rintro e w' ⟨rfl, rfl⟩))
                go_ret
                exact ⟨ret_int (by have := fin0.out (wcB_no hl hd h9); omega), rfl⟩
              · go_wp2_with (first | (go_at_call 148; refine (lower_any _ _).mono ?_; rintro e w' ⟨rfl, rfl⟩) | (go_at_call 149; refine (digit_any _ _).mono ?_; rintro e w' ⟨rfl, rfl⟩))
                go_round
                case rel => exact ⟨k + 1, by omega, by go_num, fin.out (wcB_95 h9)⟩
                case measure => simp [intOf]; omega
            · go_wp2_with (first | (go_at_call 148; refine (lower_any _ _).mono ?_; rintro e w' ⟨rfl, rfl⟩) | (go_at_call 149; refine (digit_any _ _).mono ?_; rintro e w' ⟨rfl, rfl⟩))
              go_round
              case rel => exact ⟨k + 1, by omega, by go_num, fin.out (wcB_dig hd)⟩
              case measure => simp [intOf]; omega
          · go_wp2_with (first | (go_at_call 148; refine (lower_any _ _).mono ?_; rintro e w' ⟨rfl, rfl⟩) | (go_at_call 149; refine (digit_any _ _).mono ?_; rintro e w' ⟨rfl, rfl⟩))
            go_round
            case rel => exact ⟨k + 1, by omega, by go_num, fin.out (wcB_low hl)⟩
            case measure => simp [intOf]; omega
        · go_wp2
          go_ret
          exact ⟨ret_int (by have := HK.out; rw [wcount_drop_end s k (by omega)] at this; omega), rfl⟩
  · have HW := Lib.hid (wordLen_drop_end s n (by omega))
    go_enter Tryz.func129, Tryz.ntmps129
    go_wp2
    go_ret
    exact ⟨ret_int (by rw [HW.out]; simp), rfl⟩

set_option maxHeartbeats 400000 in
theorem refIsName_any (s : ByteArray) (w : World) :
    Calls Tryz.prog 105 #[.string s] w fun e w' => e = .returned (.bool (nameB s.data.toList)) ∧ Below w.heap.size w w' := by
  have hle := wordLen_le s.data.toList
  have hsz : s.data.toList.length = s.size := by simp
  by_cases h0 : s.size = 0
  · obtain rfl := size_zero h0
    go_enter Tryz.func105, Tryz.ntmps105
    go_wp2
    go_ret
    exact ⟨rfl, Below.refl _ _⟩
  have hpos : 0 < s.size := by omega
  have hE := notEmpty hpos
  have hE2 := notNil hpos
  have hword : s.size ≤ maxLen → ∀ w : World, Calls Tryz.prog 129 #[.string s, .int .i64 0] w fun e w' => e = .returned (.int .i64 (wordLen s.data.toList : Nat)) ∧ w = w' := by
    intro hs w
    have := word_any s 0 w hs (by omega)
    simpa using this
  have HWD := Lib.hid hword
  clear hword
  by_cases h1 : s.size ≤ 24
  · have hs : s.size ≤ maxLen := by unfold maxLen; omega
    cases h2 : (wordLen s.data.toList == s.data.toList.length)
    · have H := Lib.hid (nameB_word h2)
      rw [hsz] at h2 hle
      have h2' : ((wordLen s.data.toList : Int) == (s.size : Int)) = false := by simp at h2 ⊢; omega
      clear hsz h0 h2
      go_enter Tryz.func105, Tryz.ntmps105
      go_wp2_with (go_at_call 129; refine (HWD.out hs _).mono ?_; rintro e w' ⟨rfl, rfl⟩)
      go_ret
      exact ⟨ret_bool H.out.symm, Below.refl _ _⟩
    · have H := Lib.hid (nameB_kw (by omega) (by omega) h2)
      rw [hsz] at h2 hle
      have h2' : ((wordLen s.data.toList : Int) == (s.size : Int)) = true := by simp at h2 ⊢; omega
      clear hsz h0 h2
      go_enter Tryz.func105, Tryz.ntmps105
      go_wp2_with (first | (go_at_call 129; refine (HWD.out hs _).mono ?_; rintro e w' ⟨rfl, rfl⟩) | (go_at_call 130; refine (refIsKeyword_any _ _).mono ?_; rintro e w1 ⟨rfl, hb⟩))
      go_ret
      exact ⟨ret_bool H.out.symm, hb⟩
  · have H := Lib.hid (nameB_long (l := s.data.toList) (by omega))
    clear hsz h0
    go_enter Tryz.func105, Tryz.ntmps105
    go_wp2
    go_ret
    exact ⟨ret_bool H.out.symm, Below.refl _ _⟩

end Go.Proofs.YtnkephafpebfkaaGreatDoor
