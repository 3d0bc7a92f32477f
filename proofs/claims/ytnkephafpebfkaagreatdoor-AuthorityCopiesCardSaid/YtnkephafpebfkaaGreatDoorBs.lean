/- Texts as lists of bytes. -/
import Derived.Test.YtnkephafpebfkaaGreatDoorDcm
import Derived.Test.YtnkephafpebfkaaGreatDoorLinT
namespace Go.Proofs.YtnkephafpebfkaaGreatDoor
open Go.RowKit Go.Shelf

/-- the bytes of a list -/
def bsOf (l : List UInt8) : ByteArray := ⟨l.toArray⟩
theorem bsOf_list (l : List UInt8) : (bsOf l).data.toList = l := by simp [bsOf]
theorem bsOf_size (l : List UInt8) : (bsOf l).size = l.length := by simp [bsOf, ByteArray.size]
theorem bsOf_eq {s : ByteArray} {l : List UInt8} (h : s.data.toList = l) : s = bsOf l := bytes_ext (h.trans (bsOf_list l).symm)
theorem size_of {s : ByteArray} {l : List UInt8} (h : s.data.toList = l) : s.size = l.length := by rw [← h]; simp
theorem RetTxt.bs {l : List UInt8} {w w' : World} {e : Ending} (h : RetTxt l w e w') : e = .returned (.string (bsOf l)) ∧ Below w.heap.size w w' := by
  obtain ⟨s, rfl, hs, hb⟩ := h
  exact ⟨by rw [bsOf_eq hs.out], hb⟩
theorem itoa_20 (n : Int) (h0 : -9223372036854775808 ≤ n) (h1 : n ≤ 9223372036854775807) : (bsOf (Lib.itoa n)).size ≤ 21 := by
  rw [bsOf_size]
  have := dec_len n.natAbs 19 (by omega)
  rcases Int.lt_or_le n 0 with h | h
  · rw [itoa_neg' n h, List.length_cons]; omega
  · rw [itoa_pos' n h]; omega
end Go.Proofs.YtnkephafpebfkaaGreatDoor
