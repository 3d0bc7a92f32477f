/- Contracts of strings.Split at one byte and strings.CutSuffix at one byte; strings in memory. -/
import Derived.Test.YtnkephafpebfkaaGreatDoorKit
import Derived.Test.YtnkephafpebfkaaGreatDoorSlice
import Derived.Test.YtnkephafpebfkaaGreatDoorLib
import Derived.Test.YtnkephafpebfkaaGreatDoorLinT
import Derived.Shelf.Strings.SplitShaped
import Derived.Lib.IndexBytes
namespace Go.Proofs.YtnkephafpebfkaaGreatDoor
open Go.RowKit Go.Shelf

/-- strings as cells -/
def txts (l : List ByteArray) : List (List Value) := l.map fun s => [.string s]
theorem txts_len (l : List ByteArray) : (txts l).length = l.length := by simp [txts]
theorem txts_at {l : List ByteArray} {k : Nat} (h : k < l.length) : (txts l)[k]? = some [.string l[k]] := by simp [txts, h]
theorem txts_append (l m : List ByteArray) : txts (l ++ m) = txts l ++ txts m := by simp [txts]
theorem txts_wide (l : List ByteArray) : Wide 1 (txts l) := fun x hx => by
  obtain ⟨p, _, rfl⟩ := List.mem_map.1 hx
  exact ⟨rfl, by simp [Value.oneCell']⟩
theorem CellsAt.txt {w : World} {b off : Nat} {l : List ByteArray} (h : CellsAt w 1 b off (txts l)) {k : Nat} (hk : k < l.length) :
    w.cell? ⟨b, off + k, none⟩ = some (.string l[k]) := by
  have := h.2 k _ (txts_at hk) 0 _ rfl
  rwa [Nat.mul_one, Nat.add_zero] at this
theorem cellsAt_txts (w : World) (t : TypeId) (l : List ByteArray) : CellsAt (w.alloc (.cells (l.map Value.string).toArray t)) 1 w.heap.size 0 (txts l) := by
  refine ⟨by simp, fun i e hi j u hu => ?_⟩
  rw [World.cell?_alloc_new]
  simp only [txts, List.getElem?_map, Option.map_eq_some_iff] at hi
  obtain ⟨z, hz, rfl⟩ := hi
  match j, hu with
  | 0, hu =>
    simp only [List.getElem?_cons_zero, Option.some.injEq] at hu
    subst hu
    simp [hz]
theorem Sl.txts (w : World) (t : TypeId) (l : List ByteArray) (hl : l.length ≤ maxLen) (c : Array Value) (hc : c = (l.map Value.string).toArray) : Sl (w.alloc (.cells c t)) 1 (.slice (some ⟨w.heap.size, 0, none⟩) l.length l.length) (txts l) := by
  subst hc
  refine ⟨_, l.length, by rw [txts_len], by rw [txts_len]; omega, hl, (fun h => by cases h), .inr ⟨_, 0, rfl, cellsAt_txts w t l⟩⟩
/-- the call returns the pieces of a text -/
def RetSpl (c : UInt8) (s : ByteArray) (w : World) (e : Ending) (w' : World) : Prop :=
  ∃ P : List ByteArray, ∃ A cap, e = .returned (.slice A P.length cap) ∧ P.map (·.data.toList) = splitBy c s.data.toList ∧ (∀ p ∈ P, p.size ≤ s.size) ∧ P.length ≤ s.size + 1 ∧ Sl w' 1 (.slice A P.length cap) (txts P) ∧ Below w.heap.size w w'
theorem splitB_le (sep : ByteArray) : ∀ (k : Nat) (s : ByteArray), ∀ p ∈ Lib.splitB sep 0 k s, p.size ≤ s.size
  | 0, s, p, hp => by simp [Lib.splitB] at hp; rw [hp]; omega
  | k + 1, s, p, hp => by
    unfold Lib.splitB at hp
    split at hp
    · simp at hp; rw [hp]; omega
    · rcases List.mem_cons.1 hp with rfl | hp
      · rw [ByteArray.size_extract]; omega
      · have := splitB_le sep k _ p hp
        rw [ByteArray.size_extract] at this; omega
theorem index_is (x : ByteArray) (c : UInt8) : Lib.indexB x ⟨#[c]⟩ = Lib.indexByte x.data.toList c := Lib.index_one _ _
theorem count_is (s : ByteArray) (c : UInt8) : ((Lib.countB s ⟨#[c]⟩ : Nat) : Int) = Lib.countByte s.data.toList c := by
  show ((Lib.count s.data.toList [c] : Nat) : Int) = _
  rw [Lib.count_one]; rfl
theorem gen_any (s : ByteArray) (c : UInt8) (w : World) (hs : s.size < 4294967281) :
    Calls Tryz.prog 87 #[.string s, .string ⟨#[c]⟩, .int .i64 0, .int .i64 (-1)] w fun e w' =>
      e = .returned (.slice (some ⟨w.heap.size, 0, none⟩) (Lib.splitB ⟨#[c]⟩ 0 (Lib.countB s ⟨#[c]⟩) s).length (Lib.splitB ⟨#[c]⟩ 0 (Lib.countB s ⟨#[c]⟩) s).length) ∧ w' = w.alloc (.cells ((Lib.splitB ⟨#[c]⟩ 0 (Lib.countB s ⟨#[c]⟩) s).map Value.string).toArray 9) := by
  have h1 : 1 ≤ (⟨#[c]⟩ : ByteArray).size := by simp [ByteArray.size]
  have hle := Lib.countB_le ⟨#[c]⟩ h1 s.size s (Nat.le_refl _)
  have hlen := Lib.splitB_all ⟨#[c]⟩ h1 0 _ s rfl
  have g := Any.strings_genSplit_core Tryz.lays221 (by kernel_rfl) s ⟨#[c]⟩ 0 (-1) (Lib.countB s ⟨#[c]⟩ + 1) w hs h1 (Nat.zero_le _)
    (fun x cs _ => by rw [index_is]; exact Tryz.strings_Index_one x c _) (by rw [count_is]; exact Tryz.strings_Count_one s c w) (by decide) (by decide) (by rw [if_pos (by decide)]; omega)
  rw [Nat.add_sub_cancel] at g
  have e2 : Lib.cellsOf (Lib.splitB ⟨#[c]⟩ 0 (Lib.countB s ⟨#[c]⟩) s) (Lib.countB s ⟨#[c]⟩ + 1) = ((Lib.splitB ⟨#[c]⟩ 0 (Lib.countB s ⟨#[c]⟩) s).map Value.string).toArray := by rw [← hlen]; exact Lib.cellsOf_full _
  rw [e2, ← hlen] at g
  exact g
set_option maxHeartbeats 1000000 in
theorem Split_any (s : ByteArray) (c : UInt8) (w : World) (hs : s.size < 4294967281) :
    Calls Tryz.prog 69 #[.string s, .string ⟨#[c]⟩] w (RetSpl c s w) := by
  have h1 : 1 ≤ (⟨#[c]⟩ : ByteArray).size := by simp [ByteArray.size]
  have hle := Lib.countB_le ⟨#[c]⟩ h1 s.size s (Nat.le_refl _)
  have hlen := Lib.splitB_all ⟨#[c]⟩ h1 0 _ s rfl
  have H := Lib.hid (gen_any s c w hs)
  have HL := Lib.hid (splitB_lines s c)
  have HP := Lib.hid (splitB_le ⟨#[c]⟩ (Lib.countB s ⟨#[c]⟩) s)
  obtain ⟨P, hP⟩ : ∃ P, Lib.splitB ⟨#[c]⟩ 0 (Lib.countB s ⟨#[c]⟩) s = P := ⟨_, rfl⟩
  rw [hP] at H HL HP hlen
  clear hP
  have HM : Hid (P.length ≤ s.size + 1) := by rw [Hid, hlen]; omega
  clear hlen hle
  go_enter Tryz.func69, Tryz.ntmps69
  go_wp2_with (go_at_call 87; (with_reducible refine H.out.mono ?_); rintro e w1 ⟨rfl, rfl⟩)
  go_ret
  exact ⟨P, _, _, rfl, HL.out, HP.out, HM.out, Sl.txts w _ P (by have := HM.out; unfold maxLen; omega) _ rfl, (Below.refl _ _).alloc (Nat.le_refl _) _⟩
end Go.Proofs.YtnkephafpebfkaaGreatDoor
