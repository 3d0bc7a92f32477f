/- The table of strconv; strconv.Itoa; texts as results. -/
import Derived.Test.YtnkephafpebfkaaGreatDoorKit
import Derived.Test.YtnkephafpebfkaaGreatDoorLib
import Derived.Test.YtnkephafpebfkaaGreatDoorTxt
import Derived.Lib.ItoaNum
import Derived.Lib.AppendIntMem
namespace Go.Proofs.YtnkephafpebfkaaGreatDoor
open Go.RowKit Go.Shelf

/-- the table of strconv -/
def Tabs (w : World) : Prop := Lib.TabIs Tryz.prog w "internal/strconv.uint64pow10" .u64 Lib.pow10Tab
theorem var_below {P : Program} {w w' : World} {B : Nat} {name : String} {cs : Array Value} (h : w.var? P name = some cs) (hb : Below B w w') (hB : B = w.heap.size) : w'.var? P name = some cs := by
  subst hB
  unfold World.var? at h ⊢
  cases hg : P.globalNamed name with
  | none => rw [hg] at h; cases h
  | some g =>
    rw [hg] at h
    simp only [Option.bind_some] at h ⊢
    have hlt : g < w.heap.size := by
      rcases Nat.lt_or_ge g w.heap.size with h' | h'
      · exact h'
      · rw [Array.getElem?_eq_none h'] at h; cases h
    rw [hb.block g hlt]; exact h
theorem Tabs.below {w w' : World} (h : Tabs w) (hb : Below w.heap.size w w') : Tabs w' := var_below h hb rfl
theorem Itoa_any (n : Int) (w : World) (h0 : -9223372036854775808 ≤ n) (h1 : n ≤ 9223372036854775807) (ht : Tabs w) :
    Calls Tryz.prog 35 #[.int .i64 n] w fun e w' => e = .returned (.string ⟨(Lib.itoa n).toArray⟩) ∧ Below w.heap.size w w' :=
  (Tryz.strconv_Itoa n h0 h1 w ht).mono fun _ w' ⟨he, k, os, hw⟩ => ⟨he, by rw [hw]; exact Lib.below_grow _ _ (Nat.le_refl _) _ _⟩
theorem dec_len (u : Nat) (k : Nat) (h : u < 10 ^ (k + 1)) : (Lib.decDigits u).length ≤ k + 1 := by
  induction k generalizing u with
  | zero =>
    rw [Lib.decDigits]
    simp at h
    simp [h]
  | succ k ih =>
    rw [Lib.decDigits]
    by_cases hu : u < 10
    · simp [hu]
    · simp only [hu, dite_false, List.length_append, List.length_singleton]
      have := ih (u / 10) (by rw [Nat.pow_succ] at h; omega)
      omega
theorem itoa_len (n : Int) (h0 : -9223372036854775808 ≤ n) (h1 : n ≤ 9223372036854775807) : (Lib.itoa n).length ≤ 21 := by
  unfold Lib.itoa
  split
  · have := dec_len n.natAbs 18 (by omega)
    simp only [List.length_cons]; omega
  · have := dec_len n.toNat 18 (by omega)
    omega
/-- the call returns the decimal text of a number -/
def RetDec (n : Int) (w : World) (e : Ending) (w' : World) : Prop := ∃ s : ByteArray, e = .returned (.string s) ∧ Hid (s.data.toList = Lib.itoa n) ∧ s.size ≤ 21 ∧ Below w.heap.size w w'
theorem ItoaD_any (n : Int) (w : World) (h0 : -9223372036854775808 ≤ n) (h1 : n ≤ 9223372036854775807) (ht : Tabs w) : Calls Tryz.prog 35 #[.int .i64 n] w (RetDec n w) :=
  (Itoa_any n w h0 h1 ht).mono fun _ w' ⟨he, hb⟩ => ⟨_, he, (show (Lib.itoa n).toArray.toList = _ by simp), (by have := itoa_len n h0 h1; simpa [ByteArray.size] using this), hb⟩
/-- the call returns a text -/
def RetTxt (l : List UInt8) (w : World) (e : Ending) (w' : World) : Prop := ∃ s : ByteArray, e = .returned (.string s) ∧ Hid (s.data.toList = l) ∧ Below w.heap.size w w'
theorem RetTxt.of {l : List UInt8} {s : ByteArray} {w w' : World} (h : s.data.toList = l) (hb : Below w.heap.size w w') : RetTxt l w (.returned (.string s)) w' := ⟨s, rfl, h, hb⟩
theorem bytes_ext {s t : ByteArray} (h : s.data.toList = t.data.toList) : s = t := by
  cases s; cases t; congr 1; exact Array.toList_inj.1 h
theorem app_list (s t : ByteArray) : (s ++ t).data.toList = s.data.toList ++ t.data.toList := by rw [ByteArray.data_append, Array.toList_append]
end Go.Proofs.YtnkephafpebfkaaGreatDoor
