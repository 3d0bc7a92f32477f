/- Contract of token.IsName. -/
import Derived.Test.YtnkephafpebfkaaGreatDoorTokP
namespace Go.Proofs.YtnkephafpebfkaaGreatDoor
open Go.RowKit

set_option maxHeartbeats 400000 in
theorem IsName_any (s : ByteArray) (w : World) :
    Calls Tryz.prog 82 #[.string s] w fun e w' => e = .returned (.bool (nameB s.data.toList)) ∧ w = w' := by
  have hle := wordLen_le s.data.toList
  have hsz : s.data.toList.length = s.size := by simp
  by_cases h0 : s.size = 0
  · obtain rfl := size_zero h0
    go_enter Tryz.func82, Tryz.ntmps82
    go_wp2
    go_ret
    exact ⟨rfl, rfl⟩
  have hpos : 0 < s.size := by omega
  by_cases h1 : s.size ≤ 24
  · have hs : s.size ≤ maxLen := by unfold maxLen; omega
    cases h2 : (wordLen s.data.toList == s.data.toList.length)
    · have H := Lib.hid (nameB_word h2)
      rw [hsz] at h2 hle
      have h2' : ((wordLen s.data.toList : Int) == (s.size : Int)) = false := by simp at h2 ⊢; omega
      clear hsz h0 h2
      go_enter Tryz.func82, Tryz.ntmps82
      go_wp2_with (go_at_call 97; refine (wordLength_any _ _ hs).mono ?_; rintro e w' ⟨rfl, rfl⟩)
      go_ret
      exact ⟨ret_bool H.out.symm, rfl⟩
    · have H := Lib.hid (nameB_kw (by omega) (by omega) h2)
      rw [hsz] at h2 hle
      have h2' : ((wordLen s.data.toList : Int) == (s.size : Int)) = true := by simp at h2 ⊢; omega
      clear hsz h0 h2
      go_enter Tryz.func82, Tryz.ntmps82
      go_wp2_with (first | (go_at_call 97; refine (wordLength_any _ _ hs).mono ?_; rintro e w' ⟨rfl, rfl⟩) | (go_at_call 98; refine (IsKeyword_any _ _).mono ?_; rintro e w' ⟨rfl, rfl⟩))
      go_ret
      exact ⟨ret_bool H.out.symm, rfl⟩
  · have H := Lib.hid (nameB_long (l := s.data.toList) (by omega))
    clear hsz h0
    go_enter Tryz.func82, Tryz.ntmps82
    go_wp2
    go_ret
    exact ⟨ret_bool H.out.symm, rfl⟩

end Go.Proofs.YtnkephafpebfkaaGreatDoor
