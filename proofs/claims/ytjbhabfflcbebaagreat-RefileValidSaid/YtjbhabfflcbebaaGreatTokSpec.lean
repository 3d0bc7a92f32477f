/- Plain functions on bytes: what the two texts on names (packages token and payrollref17) compute. No program in sight. -/
import Derived.WalkKit
namespace Go.Proofs.YtjbhabfflcbebaaGreat
open Go.RowKit

/-- a lower-case letter -/
def lowB (c : Int) : Bool := decide (97 ≤ c) && decide (c ≤ 122)
/-- a digit -/
def digB (c : Int) : Bool := decide (48 ≤ c) && decide (c ≤ 57)
/-- a sign of a word behind its first -/
def wcB (c : Int) : Bool := lowB c || digB c || decide (c = 95)
/-- how many signs of a word a text begins with -/
def wcount (l : List UInt8) : Nat := (l.takeWhile fun c => wcB c.toNat).length
/-- the length of the word with which a text begins -/
def wordLen : List UInt8 → Nat
  | [] => 0
  | c :: r => if lowB c.toNat then 1 + wcount r else 0

theorem wcount_cons (c : UInt8) (r : List UInt8) : wcount (c :: r) = if wcB c.toNat then 1 + wcount r else 0 := by
  unfold wcount
  rw [List.takeWhile_cons]
  split <;> simp; omega
theorem wcount_nil : wcount [] = 0 := rfl
theorem drop_bytes (s : ByteArray) (k : Nat) (h : k < s.size) : s.data.toList.drop k = s[k] :: s.data.toList.drop (k + 1) := by
  rw [List.drop_eq_getElem_cons (by simpa using h)]; rfl
theorem wcount_drop (s : ByteArray) (k : Nat) (h : k < s.size) : wcount (s.data.toList.drop k) = if wcB s[k].toNat then 1 + wcount (s.data.toList.drop (k + 1)) else 0 := by
  rw [drop_bytes s k h, wcount_cons]
theorem wcount_drop_end (s : ByteArray) (k : Nat) (h : s.size ≤ k) : wcount (s.data.toList.drop k) = 0 := by
  rw [List.drop_eq_nil_of_le (by simpa using h)]; rfl
theorem wcount_le (l : List UInt8) : wcount l ≤ l.length := by
  unfold wcount; exact (List.takeWhile_sublist _).length_le
theorem wordLen_le (l : List UInt8) : wordLen l ≤ l.length := by
  cases l with
  | nil => simp [wordLen]
  | cons c r => simp only [wordLen]; split <;> simp; have := wcount_le r; omega
theorem wordLen_bytes (s : ByteArray) (h : 0 < s.size) : wordLen s.data.toList = if lowB s[0].toNat then 1 + wcount (s.data.toList.drop 1) else 0 := by
  have := drop_bytes s 0 h
  rw [List.drop_zero] at this
  rw [this]; rfl
theorem wcB_low {c : Int} (h : lowB c = true) : wcB c = true := by simp [wcB, h]
theorem wcB_dig {c : Int} (h : digB c = true) : wcB c = true := by simp [wcB, h]
theorem wcB_95 {c : Int} (h : (c == 95) = true) : wcB c = true := by simp at h; simp [wcB, h]
theorem wcB_no {c : Int} (h : lowB c = false) (h2 : digB c = false) (h3 : (c == 95) = false) : wcB c = false := by simp at h3; simp [wcB, h, h2, h3]

/-- the keywords, in the order of the texts -/
def kws : List (List UInt8) := [
  [97, 103, 114, 101, 101, 109, 101, 110, 116],
  [105, 110, 112, 117, 116],
  [112, 97, 115, 116],
  [115, 99, 97, 108, 101],
  [114, 117, 108, 101],
  [112, 97, 121],
  [102, 114, 111, 109],
  [114, 111, 117, 110, 100, 101, 100],
  [116, 111],
  [105, 102],
  [116, 104, 101, 110],
  [101, 108, 115, 101],
  [97, 110, 100],
  [111, 114],
  [110, 111, 116],
  [116, 114, 117, 101],
  [102, 97, 108, 115, 101],
  [109, 105, 110],
  [109, 97, 120],
  [114, 111, 117, 110, 100],
  [97, 118, 101, 114, 97, 103, 101],
  [108, 97, 115, 116],
  [109, 111, 110, 101, 121],
  [104, 111, 117, 114, 115],
  [100, 97, 121, 115],
  [110, 117, 109, 98, 101, 114],
  [98, 111, 111, 108],
  [100, 111, 119, 110],
  [117, 112],
  [102, 108, 111, 111, 114],
  [99, 101, 105, 108, 105, 110, 103],
  [104, 97, 108, 102, 95, 117, 112],
  [104, 97, 108, 102, 95, 100, 111, 119, 110],
  [104, 97, 108, 102, 95, 101, 118, 101, 110]]
/-- a keyword -/
def kwB (l : List UInt8) : Bool := kws.any fun k => l == k
/-- a name -/
def nameB (l : List UInt8) : Bool := decide (0 < l.length) && (decide (l.length ≤ 24) && ((wordLen l == l.length) && !kwB l))

/-- the i-th keyword -/
def kwAt (i : Nat) : ByteArray := ⟨(kws.getD i []).toArray⟩
def kwArr : Array Value := (kws.map fun l => Value.string ⟨l.toArray⟩).toArray
theorem kwArr_at (i : Nat) (h : i < 34) : kwArr[i]? = some (.string (kwAt i)) := by
  have hl : i < kws.length := h
  simp [kwArr, kwAt, List.getD, hl]
theorem kwAt_toList (i : Nat) : (kwAt i).toList = kws.getD i [] := by rw [ByteArray.toList_eq]; simp [kwAt]
theorem kwB_yes {l : List UInt8} {i : Nat} (h : i < 34) (he : (kws.getD i [] == l) = true) : kwB l = true := by
  have hl : i < kws.length := h
  unfold kwB
  rw [List.any_eq_true]
  refine ⟨kws.getD i [], ?_, ?_⟩
  · simp [List.getD, hl]
  · rw [beq_iff_eq] at he ⊢; exact he.symm
theorem kwB_no {l : List UInt8} (h : ∀ i, i < 34 → (kws.getD i [] == l) = false) : kwB l = false := by
  unfold kwB
  rw [List.any_eq_false]
  intro x hx
  obtain ⟨i, hi, rfl⟩ := List.getElem_of_mem hx
  have := h i hi
  simp [List.getD, hi] at this ⊢
  exact fun hh => this hh.symm

theorem wordLen_drop (s : ByteArray) (k : Nat) (h : k < s.size) : wordLen (s.data.toList.drop k) = if lowB s[k].toNat then wcount (s.data.toList.drop k) else 0 := by
  rw [wcount_drop s k h, drop_bytes s k h]
  simp only [wordLen]
  cases hl : lowB s[k].toNat
  · simp
  · simp [wcB_low hl]
theorem wordLen_drop_end (s : ByteArray) (k : Nat) (h : s.size ≤ k) : wordLen (s.data.toList.drop k) = 0 := by
  rw [List.drop_eq_nil_of_le (by simpa using h)]; rfl
theorem nameB_nil : nameB [] = false := rfl
theorem nameB_long {l : List UInt8} (h : ¬ l.length ≤ 24) : nameB l = false := by simp [nameB, h]
theorem nameB_word {l : List UInt8} (h : (wordLen l == l.length) = false) : nameB l = false := by simp only [nameB, h, Bool.false_and, Bool.and_false]
theorem nameB_kw {l : List UInt8} (h : 0 < l.length) (h1 : l.length ≤ 24) (h2 : (wordLen l == l.length) = true) : nameB l = !kwB l := by simp only [nameB, h2, h, h1, decide_true, Bool.true_and]

end Go.Proofs.YtjbhabfflcbebaaGreat
