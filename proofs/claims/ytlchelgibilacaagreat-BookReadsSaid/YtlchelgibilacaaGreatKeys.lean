/- Contracts: maps.Keys and slices.Sorted at a map[int]bool. -/
import Derived.Test.YtlchelgibilacaaGreatKeyS
import Derived.Test.YtlchelgibilacaaGreatSlice
import Derived.Test.YtlchelgibilacaaGreatDeck
import Derived.Test.YtlchelgibilacaaGreatIter
import Derived.Shelf.SlIterI.Nil
import Derived.Shelf.SortM.Plain
import Derived.Shelf.SortM.SortNone
namespace Go.Proofs.YtlchelgibilacaaGreat
open Go.RowKit Go.Maps Go.Sort Go.Shelf

/-- the two contracts of slices.Sort at this dump -/
theorem sortsA (m : Nat) : AnyZI.SortsIn Tryz.prog Tryz.sortedA_ren Fence.wide m :=
  ⟨fun blk off cap ss W hH hblk hsz => callsIn_wide.2 (AnyM.slices_Sort_int Tryz.sortA blk off cap ss W hH hblk hsz),
   fun p cap W => callsIn_wide.2 (AnyM.slices_Sort_int_none Tryz.sortA p cap W)⟩
theorem keys_any (mb : Option Nat) (w : World) : Calls Tryz.prog 34 #[.map mb] w fun e w' => e = .returned (.func (.func 48) #[] #[.pointer (some ⟨w.heap.size, 0, none⟩)]) ∧ w' = w.alloc (.cells #[.map mb] 57) :=
  (callsIn_wide (n := 5)).1 (AnyZI.keys_in Tryz.keysA Fence.wide 5 trivial rfl mb w)
theorem length_insert (x : Lit × DataW Unit) (l : List (Lit × DataW Unit)) : (DataW.insert x l).length = l.length + 1 := by
  induction l with
  | nil => rfl
  | cons a r ih =>
    simp only [DataW.insert]
    split
    · rfl
    · simp [ih]
theorem owns_size {w : World} {k : TypeId} {R : Value → Option (DataW Unit × List MemPlace)} {b n : Nat} {D : DataW Unit} (h : w.ownsMap Tryz.prog k R b n D) : Maps.size D ≤ n := by
  obtain ⟨es, clock, _, _, hs, rfl⟩ := h
  have key : ∀ l : List (Lit × DataW Unit), (l.foldr DataW.insert []).length = l.length := by
    intro l
    induction l with
    | nil => rfl
    | cons a r ih => rw [List.foldr_cons, length_insert, ih]; rfl
  rw [Maps.size_eq, key, List.length_map]
  simpa using hs
set_option maxHeartbeats 1000000 in
theorem sortedKeys (b nn : Nat) (D : DataW Unit) (l : List Int) (R : Value → Option (DataW Unit × List MemPlace)) (w : World) (hown : w.ownsMap Tryz.prog 3 R b nn D) (hk : KeysAre D l) (hn : nn ≤ 1000000) :
    Calls Tryz.prog 33 #[.func (.func 48) #[] #[.pointer (some ⟨w.heap.size, 0, none⟩)]] (w.alloc (.cells #[.map (some b)] 57)) (RetOwn (w.alloc (.cells #[.map (some b)] 57)) 3 1 (ints (asI l))) := by
  have hsz := owns_size hown
  have hbl := hown.lt
  refine (callsIn_wide (n := 5)).1 ?_
  have hseq : SeqGives Fence.wide 2 Tryz.prog 48 #[.pointer (some ⟨w.heap.size, 0, none⟩)] encZ (fun ss => ss.Perm (intKeys D)) (Maps.size D) (w.alloc (.cells #[.map (some b)] 57)) :=
    AnyZI.keys_gives (ρ := Tryz.keysA_ren) { Tryz.keysA with } Fence.wide _ trivial rfl (by omega) w.heap.size b nn D _ (by simp) (by simp) (by
      obtain ⟨es, clock, hb, Ft, hs, hD⟩ := hown
      exact ⟨es, clock, (Below.heap_alloc _ _ b hbl).trans hb, Ft, hs, hD⟩)
  have cS := AnyZI.sorted_in Tryz.sortedA Fence.wide 5 trivial trivial trivial trivial rfl (by omega) (sortsA _) (enters_of Tryz.func47 (by kernel_rfl) rfl) 48 #[.pointer (some ⟨w.heap.size, 0, none⟩)] trivial (enters_of Tryz.func48 (by kernel_rfl) rfl) _ _ (by unfold maxLen; omega) (by omega) _ hseq
  refine cS.mono ?_
  rintro e w' ⟨v, ss, rfl, hS, hrow, _, hb⟩
  refine ⟨v, rfl, ⟨?_, fun x hx => ?_⟩, hb⟩
  · rw [hk.sorted hS] at hrow
    have hl : ss.length = (ints (asI l)).length := by
      have := congrArg List.length (hk.sorted hS)
      rw [List.length_mergeSort] at this
      rw [ints_len, this]
    have hf : (ints (asI l)).flatten = (asI l).map encZ := by
      rw [ints]
      induction asI l with
      | nil => rfl
      | cons a r ih => simp [ih]
    rw [← hl, hf]; exact hrow
  · obtain ⟨z, _, rfl⟩ := List.mem_map.1 hx
    exact ⟨rfl, by simp [Value.oneCell']⟩
end Go.Proofs.YtlchelgibilacaaGreat
