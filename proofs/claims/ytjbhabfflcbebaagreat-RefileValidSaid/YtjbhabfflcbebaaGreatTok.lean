/- Contracts of the functions on names in packages token and payrollref17. -/
import Derived.Test.YtjbhabfflcbebaaGreatRows
import Derived.WalkKit
import Derived.WalkSpells
import Derived.WalkLawsBesides
import Derived.Lib.Hide
import Derived.Test.YtjbhabfflcbebaaGreatTokSpec
import Derived.Test.YtjbhabfflcbebaaGreatKit
namespace Go.Proofs.YtjbhabfflcbebaaGreat
open Go.RowKit

set_option maxHeartbeats 400000 in
theorem isLower_any (c : Int) (w : World) :
    Calls Tryz.prog 108 #[.int .u8 c] w fun e w' => e = .returned (.bool (lowB c)) ∧ w = w' := by
  unfold lowB
  by_cases h1 : 97 ≤ c
  all_goals
    go_enter Tryz.func108, Tryz.ntmps108
    go_wp2
    go_ret
    exact ⟨by congr 2; simp; omega, rfl⟩
theorem isDigit_any (c : Int) (w : World) :
    Calls Tryz.prog 109 #[.int .u8 c] w fun e w' => e = .returned (.bool (digB c)) ∧ w = w' := by
  unfold digB
  by_cases h1 : 48 ≤ c
  all_goals
    go_enter Tryz.func109, Tryz.ntmps109
    go_wp2
    go_ret
    exact ⟨by congr 2; simp; omega, rfl⟩

set_option maxHeartbeats 400000 in
theorem wordLength_any (s : ByteArray) (w : World) (hs : s.size ≤ maxLen) :
    Calls Tryz.prog 90 #[.string s] w fun e w' => e = .returned (.int .i64 (wordLen s.data.toList)) ∧ w = w' := by
  unfold maxLen at hs
  by_cases h0 : s.size = 0
  · obtain rfl := size_zero h0
    go_enter Tryz.func90, Tryz.ntmps90
    go_wp2
    go_ret
    exact ⟨rfl, rfl⟩
  · have hpos : 0 < s.size := by omega
    have hE := notEmpty hpos
    have hE2 := notNil hpos
    have HW := Lib.hid (wordLen_bytes s hpos)
    clear h0
    cases hl : lowB s[0].toNat
    · go_enter Tryz.func90, Tryz.ntmps90
      go_wp2_with (go_at_call 108; refine (isLower_any _ _).mono ?_; rintro e w' ⟨rfl, rfl⟩)
      go_ret
      exact ⟨by rw [HW.out, hl]; rfl, rfl⟩
    · go_enter Tryz.func90, Tryz.ntmps90
      go_wp2_with (go_at_call 108; refine (isLower_any _ _).mono ?_; rintro e w' ⟨rfl, rfl⟩)
      have hW2 : wordLen s.data.toList = 1 + wcount (s.data.toList.drop 1) := by rw [HW.out, hl]; rfl
      have HW2 := Lib.hid hW2
      clear HW hW2 hl
      go_loop [3] (fun i => ∃ k : Nat, k ≤ s.size ∧ i = .int .i64 k ∧ Hid (wordLen s.data.toList = k + wcount (s.data.toList.drop k))) (fun i => s.size - (intOf i).toNat)
      case atStart => exact ⟨1, by omega, rfl, HW2⟩
      case round =>
        obtain ⟨k, hk, rfl, HK⟩ := hrel
        clear HW2
        by_cases hlt : k < s.size
        · have HD := Lib.hid (wcount_drop s k hlt)
          have fin : Hid (wcB s[k].toNat = true → wordLen s.data.toList = (k + 1 : Nat) + wcount (s.data.toList.drop (k + 1))) := fun h => by rw [HK.out, HD.out, if_pos h]; omega
          have fin0 : Hid (wcB s[k].toNat = false → wordLen s.data.toList = k) := fun h => by rw [HK.out, HD.out, if_neg (by simp [h])]; simp
          clear HK HD
          cases hl : lowB s[k].toNat
          · cases hd : digB s[k].toNat
            · cases h9 : ((s[k].toNat : Int) == 95)
              · go_wp2_with (first | (go_at_call 108; refine (isLower_any _ _).mono ?_; rintro e w' ⟨rfl, rfl⟩) | (go_at_call 109; refine (isDigit_any _ _).mono ?_; rintro e w' ⟨rfl, rfl⟩))
                go_ret
                exact ⟨ret_int (by rw [fin0.out (wcB_no hl hd h9)]), rfl⟩
              · go_wp2_with (first | (go_at_call 108; refine (isLower_any _ _).mono ?_; rintro e w' ⟨rfl, rfl⟩) | (go_at_call 109; refine (isDigit_any _ _).mono ?_; rintro e w' ⟨rfl, rfl⟩))
                go_round
                case rel => exact ⟨k + 1, by omega, by go_num, fin.out (wcB_95 h9)⟩
                case measure => simp [intOf]; omega
            · go_wp2_with (first | (go_at_call 108; refine (isLower_any _ _).mono ?_; rintro e w' ⟨rfl, rfl⟩) | (go_at_call 109; refine (isDigit_any _ _).mono ?_; rintro e w' ⟨rfl, rfl⟩))
              go_round
              case rel => exact ⟨k + 1, by omega, by go_num, fin.out (wcB_dig hd)⟩
              case measure => simp [intOf]; omega
          · go_wp2_with (go_at_call 108; refine (isLower_any _ _).mono ?_; rintro e w' ⟨rfl, rfl⟩)
            go_round
            case rel => exact ⟨k + 1, by omega, by go_num, fin.out (wcB_low hl)⟩
            case measure => simp [intOf]; omega
        · go_wp2
          go_ret
          exact ⟨ret_int (by rw [HK.out, wcount_drop_end s k (by omega)]; simp), rfl⟩

set_option maxHeartbeats 1000000 in
theorem IsKeyword_any (s : ByteArray) (w : World) :
    Calls Tryz.prog 91 #[.string s] w fun e w' => e = .returned (.bool (kwB s.data.toList)) ∧ w = w' := by
  rw [← ByteArray.toList_eq]
  go_enter Tryz.func91, Tryz.ntmps91
  go_wp2
  all_goals
    go_ret
    exact ⟨ret_bool (by first | (simp only [kwB, kws, List.any_cons, List.any_nil, Bool.true_or, Bool.or_true, Bool.or_false, *]; done) | simp_all), rfl⟩

set_option maxHeartbeats 1000000 in
theorem refIsKeyword_any (s : ByteArray) (w : World) :
    Calls Tryz.prog 111 #[.string s] w fun e w' => e = .returned (.bool (kwB s.data.toList)) ∧ Below w.heap.size w w' := by
  rw [← ByteArray.toList_eq]
  go_enter Tryz.func111, Tryz.ntmps111
  go_wp2
  go_loopw [4] (fun i wr => ∃ k : Nat, k ≤ 34 ∧ i = .int .i64 k ∧ Below w.heap.size w wr ∧ Hid (∀ j, j < 34 → wr.cell? ⟨w.heap.size, j, none⟩ = some (.string (kwAt j))) ∧ Hid (∀ j, j < k → (kws.getD j [] == s.toList) = false)) (fun i _ => 34 - (intOf i).toNat)
  case atStart => exact ⟨0, by omega, rfl, (Below.refl _ _).alloc (Nat.le_refl _) _, fun j hj => by rw [World.cell?_alloc_new]; exact kwArr_at j hj, fun j hj => absurd hj (by omega)⟩
  case round =>
    obtain ⟨k, hk, rfl, hb, HC, HN⟩ := hrel
    by_cases hlt : k < 34
    · have hc := HC.out k hlt
      have e1 := kwAt_toList k
      cases he : (kws.getD k [] == s.toList)
      · have he' : ((kwAt k).toList == s.toList) = false := by rw [e1]; exact he
        have HE := Lib.hid he
        clear e1 he
        go_wp2
        go_roundw
        case rel => exact ⟨k + 1, by omega, by go_num, hb, HC, fun j hj => by
          by_cases hjk : j = k
          · subst hjk; exact HE.out
          · exact HN.out j (by omega)⟩
        case measure => simp [intOf]; omega
      · have he' : ((kwAt k).toList == s.toList) = true := by rw [e1]; exact he
        have HE := Lib.hid he
        clear e1 he
        go_wp2
        go_ret
        exact ⟨ret_bool (by rw [kwB_yes hlt HE.out]), hb⟩
    · go_wp2
      go_ret
      exact ⟨ret_bool (by rw [kwB_no fun i hi => HN.out i (by omega)]), hb⟩

end Go.Proofs.YtjbhabfflcbebaaGreat
