/- Contracts of the functions on names in packages token and payrollref17. -/
import Derived.Test.YtnkephafpebfkaaGreatDoorRows
import Derived.WalkKit
import Derived.WalkSpells
import Derived.WalkLawsBesides
import Derived.Lib.Hide
import Derived.Test.YtnkephafpebfkaaGreatDoorTokSpec
import Derived.Test.YtnkephafpebfkaaGreatDoorKit
namespace Go.Proofs.YtnkephafpebfkaaGreatDoor
open Go.RowKit

set_option maxHeartbeats 400000 in
theorem isLower_any (c : Int) (w : World) :
    Calls Tryz.prog 121 #[.int .u8 c] w fun e w' => e = .returned (.bool (lowB c)) ∧ w = w' := by
  unfold lowB
  by_cases h1 : 97 ≤ c
  all_goals
    go_enter Tryz.func121, Tryz.ntmps121
    go_wp2
    go_ret
    exact ⟨by congr 2; simp; omega, rfl⟩
theorem isDigit_any (c : Int) (w : World) :
    Calls Tryz.prog 122 #[.int .u8 c] w fun e w' => e = .returned (.bool (digB c)) ∧ w = w' := by
  unfold digB
  by_cases h1 : 48 ≤ c
  all_goals
    go_enter Tryz.func122, Tryz.ntmps122
    go_wp2
    go_ret
    exact ⟨by congr 2; simp; omega, rfl⟩

set_option maxHeartbeats 400000 in
theorem wordLength_any (s : ByteArray) (w : World) (hs : s.size ≤ maxLen) :
    Calls Tryz.prog 97 #[.string s] w fun e w' => e = .returned (.int .i64 (wordLen s.data.toList)) ∧ w = w' := by
  unfold maxLen at hs
  by_cases h0 : s.size = 0
  · obtain rfl := size_zero h0
    go_enter Tryz.func97, Tryz.ntmps97
    go_wp2
    go_ret
    exact ⟨rfl, rfl⟩
  · have hpos : 0 < s.size := by omega
    have hE := notEmpty hpos
    have hE2 := notNil hpos
    have HW := Lib.hid (wordLen_bytes s hpos)
    clear h0
    cases hl : lowB s[0].toNat
    · go_enter Tryz.func97, Tryz.ntmps97
      go_wp2_with (go_at_call 121; refine (isLower_any _ _).mono ?_; rintro e w' ⟨rfl, rfl⟩)
      go_ret
      exact ⟨by rw [HW.out, hl]; rfl, rfl⟩
    · go_enter Tryz.func97, Tryz.ntmps97
      go_wp2_with (go_at_call 121; refine (isLower_any _ _).mono ?_; rintro e w' ⟨rfl, rfl⟩)
      have hW2 : wordLen s.data.toList = 1 + wcount (s.data.toList.drop 1) := by rw [HW.out, hl]; rfl
      have HW2 := Lib.hid hW2
      clear HW hW2 hl
      go_loop [3] (fun i => ∃ k : Nat, k ≤ s.size ∧ i = .int .i64 k ∧ Hid (wordLen s.data.toList = k + wcount (s.data.toList.drop k))) (fun i => s.size - (intOf i).toNat)
      case atStart => exact ⟨1, by omega, rfl, HW2⟩
      case round =>
        obtain ⟨k, hk, rfl, HK⟩ := hrel
        clear HW2
        by_cases hlt : k < s.size
        · have HD := Lib.hid (wcount_drop s k hlt)
          have fin : Hid (wcB s[k].toNat = true → wordLen s.data.toList = (k + 1 : Nat) + wcount (s.data.toList.drop (k + 1))) := fun h => by rw [HK.out, HD.out, if_pos h]; omega
          have fin0 : Hid (wcB s[k].toNat = false → wordLen s.data.toList = k) := fun h => by rw [HK.out, HD.out, if_neg (by simp [h])]; simp
          clear HK HD
          cases hl : lowB s[k].toNat
          · cases hd : digB s[k].toNat
            · cases h9 : ((s[k].toNat : Int) == 95)
              · go_wp2_with (first | (go_at_call 121; refine (isLower_any _ _).mono ?_; rintro e w' ⟨rfl, rfl⟩) | (go_at_call 122; refine (isDigit_any _ _).mono ?_; rintro e w' ⟨rfl, rfl⟩))
                go_ret
                exact ⟨ret_int (by rw [fin0.out (wcB_no hl hd h9)]), rfl⟩
              · go_wp2_with (first | (go_at_call 121; refine (isLower_any _ _).mono ?_; rintro e w' ⟨rfl, rfl⟩) | (go_at_call 122; refine (isDigit_any _ _).mono ?_; rintro e w' ⟨rfl, rfl⟩))
                go_round
                case rel => exact ⟨k + 1, by omega, by go_num, fin.out (wcB_95 h9)⟩
                case measure => simp [intOf]; omega
            · go_wp2_with (first | (go_at_call 121; refine (isLower_any _ _).mono ?_; rintro e w' ⟨rfl, rfl⟩) | (go_at_call 122; refine (isDigit_any _ _).mono ?_; rintro e w' ⟨rfl, rfl⟩))
              go_round
              case rel => exact ⟨k + 1, by omega, by go_num, fin.out (wcB_dig hd)⟩
              case measure => simp [intOf]; omega
          · go_wp2_with (go_at_call 121; refine (isLower_any _ _).mono ?_; rintro e w' ⟨rfl, rfl⟩)
            go_round
            case rel => exact ⟨k + 1, by omega, by go_num, fin.out (wcB_low hl)⟩
            case measure => simp [intOf]; omega
        · go_wp2
          go_ret
          exact ⟨ret_int (by rw [HK.out, wcount_drop_end s k (by omega)]; simp), rfl⟩

set_option maxHeartbeats 1000000 in
theorem IsKeyword_any (s : ByteArray) (w : World) :
    Calls Tryz.prog 98 #[.string s] w fun e w' => e = .returned (.bool (kwB s.data.toList)) ∧ w = w' := by
  rw [← ByteArray.toList_eq]
  go_enter Tryz.func98, Tryz.ntmps98
  go_wp2
  all_goals
    go_ret
    exact ⟨ret_bool (by first | (simp only [kwB, kws, List.any_cons, List.any_nil, Bool.true_or, Bool.or_true, Bool.or_false, *]; done) | simp_all), rfl⟩

end Go.Proofs.YtnkephafpebfkaaGreatDoor
