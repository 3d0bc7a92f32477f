/- Contract of strings.Cut at a separator of one byte, for every string. -/
import Derived.Test.YtkdmbkhgcahpiaaDoorTab
import Derived.Lib.IndexMore
import Derived.Lib.IndexBytes
import Derived.Deep.QuietTactic
import Derived.BigQuiet
import Derived.RegionTactic
namespace Go.Proofs.YtkdmbkhgcahpiaaDoor
open Go.RowKit

theorem index_lt (l : List UInt8) (c : UInt8) : Lib.indexByte l c = -1 ∨ ∃ i : Nat, Lib.indexByte l c = i ∧ i < l.length := by
  induction l with
  | nil => exact .inl rfl
  | cons a r ih =>
    unfold Lib.indexByte
    by_cases h : (a == c) = true
    · rw [if_pos h]; exact .inr ⟨0, rfl, by simp⟩
    · rw [if_neg h]
      rcases ih with ih | ⟨i, hi, hl⟩
      · rw [ih]; exact .inl rfl
      · rw [hi]
        have : ((i : Int) == -1) = false := by simp
        rw [this]
        exact .inr ⟨i + 1, by simp, by simpa using hl⟩
theorem cut_miss {l : List UInt8} {c : UInt8} (h : Lib.indexByte l c = -1) : Lib.cut l [c] = (l, [], false) := by
  rw [Lib.cut, Lib.index_one, h]; rfl
theorem cut_hit {l : List UInt8} {c : UInt8} {i : Nat} (h : Lib.indexByte l c = i) : Lib.cut l [c] = (l.take i, l.drop (i + 1), true) := by
  rw [Lib.cut, Lib.index_one, h, if_pos (by omega)]; simp
/-- the call returns the parts of a string -/
def RetCut (l : List UInt8) (c : UInt8) (w : World) (e : Ending) (w' : World) : Prop := ∃ a b : ByteArray, e = .returned (.tuple #[.string a, .string b, .bool (Lib.cut l [c]).2.2]) ∧ Hid (a.data.toList = (Lib.cut l [c]).1) ∧ Hid (b.data.toList = (Lib.cut l [c]).2.1) ∧ a.size ≤ l.length ∧ b.size ≤ l.length ∧ Below w.heap.size w w'
set_option maxRecDepth 100000 in
set_option maxHeartbeats 800000 in
theorem cutL_any (s : ByteArray) (c : UInt8) (w : World) (hs : s.size ≤ maxLen) :
    Calls Tryd.prog 51 #[.string s, .string ⟨#[c]⟩] w (RetCut s.data.toList c w) := by
  unfold maxLen at hs
  have hsz : s.data.toList.length = s.size := by simp
  have HSZ := Lib.hid hsz
  have C := Lib.hid (Tryd.stringslite_Index_one s c)
  have l1 : (⟨#[c]⟩ : ByteArray).size = 1 := rfl
  rcases index_lt s.data.toList c with hi | ⟨i, hi, hl⟩
  · have HI := Lib.hid hi
    have HE := Lib.hid (cut_miss hi)
    rw [hi] at C
    clear hi hsz
    go_enter Tryd.func51, Tryd.ntmps51
    go_wp2_with fail
    refine (C.out _).mono ?_
    rintro e w' ⟨rfl, rfl⟩
    go_wp2_with fail
    go_ret3
    exact ⟨s, ⟨#[]⟩, by rw [HE.out]; rfl, by rw [Hid, HE.out], by rw [Hid, HE.out], by rw [HSZ.out]; exact Nat.le_refl _, Nat.zero_le _, Below.refl _ _⟩
  · have HI := Lib.hid hi
    have HE := Lib.hid (cut_hit hi)
    rw [hi] at C
    rw [hsz] at hl
    clear hi hsz
    have HA := Lib.hid (Lib.extract_data s 0 i)
    have HB := Lib.hid (Lib.extract_to_end s (i + 1))
    have a1 : (s.extract 0 i).size ≤ s.size := by rw [ByteArray.size_extract]; omega
    have b1 : (s.extract (i + 1) s.size).size ≤ s.size := by rw [ByteArray.size_extract]; omega
    go_enter Tryd.func51, Tryd.ntmps51
    go_wp2_with fail
    refine (C.out _).mono ?_
    rintro e w' ⟨rfl, rfl⟩
    go_wp2_with fail
    go_quiet (fail)
    go_wp2_with fail
    go_ret3
    exact ⟨s.extract 0 i, s.extract (i + 1) s.size, by rw [HE.out]; rfl, by rw [Hid, HE.out, HA.out]; simp, by rw [Hid, HE.out, HB.out], by rw [HSZ.out]; exact a1, by rw [HSZ.out]; exact b1, Below.draws (Below.refl _ _) _⟩
set_option maxRecDepth 100000 in
theorem cut_any (s : ByteArray) (c : UInt8) (w : World) (hs : s.size ≤ maxLen) :
    Calls Tryd.prog 37 #[.string s, .string ⟨#[c]⟩] w (RetCut s.data.toList c w) := by
  have C := Lib.hid (cutL_any s c w hs)
  clear hs
  go_enter Tryd.func37, Tryd.ntmps37
  go_wp2_with fail
  refine C.out.mono ?_
  rintro e w' ⟨a, b, rfl, ha, hb, l1, l2, hB⟩
  obtain ⟨q, hq⟩ : ∃ q, q = (Lib.cut s.data.toList [c]).2.2 := ⟨_, rfl⟩
  rw [← hq]
  have HQ := Lib.hid hq
  clear hq
  go_wp2_with fail
  go_ret3
  exact ⟨a, b, by rw [HQ.out]; rfl, ha, hb, l1, l2, hB⟩
end Go.Proofs.YtkdmbkhgcahpiaaDoor
