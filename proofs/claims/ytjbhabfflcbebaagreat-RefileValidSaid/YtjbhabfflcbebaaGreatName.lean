/- Contracts of IsName (packages token and payrollref17). -/
import Derived.Test.YtjbhabfflcbebaaGreatTok
namespace Go.Proofs.YtjbhabfflcbebaaGreat
open Go.RowKit

theorem lower_any (c : Int) (w : World) :
    Calls Tryz.prog 116 #[.int .u8 c] w fun e w' => e = .returned (.bool (lowB c)) ∧ w = w' := by
  unfold lowB
  by_cases h1 : 97 ≤ c
  all_goals
    go_enter Tryz.func116, Tryz.ntmps116
    go_wp2
    go_ret
    exact ⟨by congr 2; simp; omega, rfl⟩
theorem digit_any (c : Int) (w : World) :
    Calls Tryz.prog 117 #[.int .u8 c] w fun e w' => e = .returned (.bool (digB c)) ∧ w = w' := by
  unfold digB
  by_cases h1 : 48 ≤ c
  all_goals
    go_enter Tryz.func117, Tryz.ntmps117
    go_wp2
    go_ret
    exact ⟨by congr 2; simp; omega, rfl⟩

set_option maxHeartbeats 400000 in
theorem word_any (s : ByteArray) (n : Nat) (w : World) (hs : s.size ≤ maxLen) (hn : n ≤ s.size) :
    Calls Tryz.prog 110 #[.string s, .int .i64 n] w fun e w' => e = .returned (.int .i64 (n + wordLen (s.data.toList.drop n) : Nat)) ∧ w = w' := by
  unfold maxLen at hs
  by_cases h0 : n < s.size
  · have HW := Lib.hid (wordLen_drop s n h0)
    have hge : decide (s.size ≤ n) = false := by simp; omega
    cases hl : lowB s[n].toNat
    · go_enter Tryz.func110, Tryz.ntmps110
      go_wp2_with (first | (go_at_call 116; refine (lower_any _ _).mono ?_; rintro e w' ⟨rfl, rfl⟩) | (go_at_call 117; refine (digit_any _ _).mono ?_; rintro e w' ⟨rfl, rfl⟩))
      go_ret
      exact ⟨ret_int (by rw [HW.out, hl]; simp), rfl⟩
    · go_enter Tryz.func110, Tryz.ntmps110
      go_wp2_with (first | (go_at_call 116; refine (lower_any _ _).mono ?_; rintro e w' ⟨rfl, rfl⟩) | (go_at_call 117; refine (digit_any _ _).mono ?_; rintro e w' ⟨rfl, rfl⟩))
      have hW2 : wordLen (s.data.toList.drop n) = wcount (s.data.toList.drop n) := by rw [HW.out, hl]; rfl
      have HW2 := Lib.hid hW2
      clear HW hW2 hl
      go_loop [1] (fun i => ∃ k : Nat, k ≤ s.size ∧ i = .int .i64 k ∧ Hid (n + wordLen (s.data.toList.drop n) = k + wcount (s.data.toList.drop k))) (fun i => s.size - (intOf i).toNat)
      case atStart => exact ⟨n, by omega, rfl, by rw [HW2.out]; exact rfl⟩
      case round =>
        obtain ⟨k, hk, rfl, HK⟩ := hrel
        clear HW2
        by_cases hlt : k < s.size
        · have HD := Lib.hid (wcount_drop s k hlt)
          have fin : Hid (wcB s[k].toNat = true → n + wordLen (s.data.toList.drop n) = (k + 1 : Nat) + wcount (s.data.toList.drop (k + 1))) := fun h => by rw [HK.out, HD.out, if_pos h]; omega
          have fin0 : Hid (wcB s[k].toNat = false → n + wordLen (s.data.toList.drop n) = k) := fun h => by rw [HK.out, HD.out, if_neg (by simp [h])]; simp
          clear HK HD
          cases hl : lowB s[k].toNat
          · cases hd : digB s[k].toNat
            · cases h9 : ((s[k].toNat : Int) == 95)
              · go_wp2_with (first | (go_at_call 116; refine (lower_any _ _).mono ?_; rintro e w' ⟨rfl, rfl⟩) | (go_at_call 117; refine (digit_any _ _).mono ?_; rintro e w' ⟨rfl, rfl⟩))
                go_ret
                exact ⟨ret_int (by have := fin0.out (wcB_no hl hd h9); omega), rfl⟩
              · go_wp2_with (first | (go_at_call 116; refine (lower_any _ _).mono ?_; rintro e w' ⟨rfl, rfl⟩) | (go_at_call 117; refine (digit_any _ _).mono ?_; rintro e w' ⟨rfl, rfl⟩))
                go_round
                case rel => exact ⟨k + 1, by omega, by go_num, fin.out (wcB_95 h9)⟩
                case measure => simp [intOf]; omega
            · go_wp2_with (first | (go_at_call 116; refine (lower_any _ _).mono ?_; rintro e w' ⟨rfl, rfl⟩) | (go_at_call 117; refine (digit_any _ _).mono ?_; rintro e w' ⟨rfl, rfl⟩))
              go_round
              case rel => exact ⟨k + 1, by omega, by go_num, fin.out (wcB_dig hd)⟩
              case measure => simp [intOf]; omega
          · go_wp2_with (first | (go_at_call 116; refine (lower_any _ _).mono ?_; rintro e w' ⟨rfl, rfl⟩) | (go_at_call 117; refine (digit_any _ _).mono ?_; rintro e w' ⟨rfl, rfl⟩))
            go_round
            case rel => exact ⟨k + 1, by omega, by go_num, fin.out (wcB_low hl)⟩
            case measure => simp [intOf]; omega
        · go_wp2
          go_ret
          exact ⟨ret_int (by have := HK.out; rw [wcount_drop_end s k (by omega)] at this; omega), rfl⟩
  · have HW := Lib.hid (wordLen_drop_end s n (by omega))
    go_enter Tryz.func110, Tryz.ntmps110
    go_wp2
    go_ret
    exact ⟨ret_int (by rw [HW.out]; simp), rfl⟩

set_option maxHeartbeats 400000 in
theorem IsName_any (s : ByteArray) (w : World) :
    Calls Tryz.prog 73 #[.string s] w fun e w' => e = .returned (.bool (nameB s.data.toList)) ∧ w = w' := by
  have hle := wordLen_le s.data.toList
  have hsz : s.data.toList.length = s.size := by simp
  by_cases h0 : s.size = 0
  · obtain rfl := size_zero h0
    go_enter Tryz.func73, Tryz.ntmps73
    go_wp2
    go_ret
    exact ⟨rfl, rfl⟩
  have hpos : 0 < s.size := by omega
  by_cases h1 : s.size ≤ 24
  · have hs : s.size ≤ maxLen := by unfold maxLen; omega
    cases h2 : (wordLen s.data.toList == s.data.toList.length)
    · have H := Lib.hid (nameB_word h2)
      rw [hsz] at h2 hle
      have h2' : ((wordLen s.data.toList : Int) == (s.size : Int)) = false := by simp at h2 ⊢; omega
      clear hsz h0 h2
      go_enter Tryz.func73, Tryz.ntmps73
      go_wp2_with (go_at_call 90; refine (wordLength_any _ _ hs).mono ?_; rintro e w' ⟨rfl, rfl⟩)
      go_ret
      exact ⟨ret_bool H.out.symm, rfl⟩
    · have H := Lib.hid (nameB_kw (by omega) (by omega) h2)
      rw [hsz] at h2 hle
      have h2' : ((wordLen s.data.toList : Int) == (s.size : Int)) = true := by simp at h2 ⊢; omega
      clear hsz h0 h2
      go_enter Tryz.func73, Tryz.ntmps73
      go_wp2_with (first | (go_at_call 90; refine (wordLength_any _ _ hs).mono ?_; rintro e w' ⟨rfl, rfl⟩) | (go_at_call 91; refine (IsKeyword_any _ _).mono ?_; rintro e w' ⟨rfl, rfl⟩))
      go_ret
      exact ⟨ret_bool H.out.symm, rfl⟩
  · have H := Lib.hid (nameB_long (l := s.data.toList) (by omega))
    clear hsz h0
    go_enter Tryz.func73, Tryz.ntmps73
    go_wp2
    go_ret
    exact ⟨ret_bool H.out.symm, rfl⟩

set_option maxHeartbeats 400000 in
theorem refIsName_any (s : ByteArray) (w : World) :
    Calls Tryz.prog 93 #[.string s] w fun e w' => e = .returned (.bool (nameB s.data.toList)) ∧ Below w.heap.size w w' := by
  have hle := wordLen_le s.data.toList
  have hsz : s.data.toList.length = s.size := by simp
  by_cases h0 : s.size = 0
  · obtain rfl := size_zero h0
    go_enter Tryz.func93, Tryz.ntmps93
    go_wp2
    go_ret
    exact ⟨rfl, Below.refl _ _⟩
  have hpos : 0 < s.size := by omega
  have hE := notEmpty hpos
  have hE2 := notNil hpos
  have hword : s.size ≤ maxLen → ∀ w : World, Calls Tryz.prog 110 #[.string s, .int .i64 0] w fun e w' => e = .returned (.int .i64 (wordLen s.data.toList : Nat)) ∧ w = w' := by
    intro hs w
    have := word_any s 0 w hs (by omega)
    simpa using this
  have HWD := Lib.hid hword
  clear hword
  by_cases h1 : s.size ≤ 24
  · have hs : s.size ≤ maxLen := by unfold maxLen; omega
    cases h2 : (wordLen s.data.toList == s.data.toList.length)
    · have H := Lib.hid (nameB_word h2)
      rw [hsz] at h2 hle
      have h2' : ((wordLen s.data.toList : Int) == (s.size : Int)) = false := by simp at h2 ⊢; omega
      clear hsz h0 h2
      go_enter Tryz.func93, Tryz.ntmps93
      go_wp2_with (go_at_call 110; refine (HWD.out hs _).mono ?_; rintro e w' ⟨rfl, rfl⟩)
      go_ret
      exact ⟨ret_bool H.out.symm, Below.refl _ _⟩
    · have H := Lib.hid (nameB_kw (by omega) (by omega) h2)
      rw [hsz] at h2 hle
      have h2' : ((wordLen s.data.toList : Int) == (s.size : Int)) = true := by simp at h2 ⊢; omega
      clear hsz h0 h2
      go_enter Tryz.func93, Tryz.ntmps93
      go_wp2_with (first | (go_at_call 110; refine (HWD.out hs _).mono ?_; rintro e w' ⟨rfl, rfl⟩) | (go_at_call 111; refine (refIsKeyword_any _ _).mono ?_; rintro e w1 ⟨rfl, hb⟩))
      go_ret
      exact ⟨ret_bool H.out.symm, hb⟩
  · have H := Lib.hid (nameB_long (l := s.data.toList) (by omega))
    clear hsz h0
    go_enter Tryz.func93, Tryz.ntmps93
    go_wp2
    go_ret
    exact ⟨ret_bool H.out.symm, Below.refl _ _⟩

end Go.Proofs.YtjbhabfflcbebaaGreat
