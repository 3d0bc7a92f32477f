/- slices.SortFunc at changes, by timeline.compare. -/
import Derived.Test.YtaafihdegnaokaaGreatDoorSrt
import Derived.Test.YtaafihdegnaokaaGreatDoorChgW
import Derived.Test.YtaafihdegnaokaaGreatDoorShelfC
import Derived.Sort.Walk0
namespace Go.Proofs.YtaafihdegnaokaaGreatDoor
open Go.RowKit Go.Sort Go.Shelf

instance : Inhabited Chg := ⟨⟨0, 0, 0, false⟩⟩
theorem ltOf_chg (a b : Chg) : ltOf cmpC a b = decide (ltC a b) := by
  unfold ltOf
  rw [Bool.eq_iff_iff, decide_eq_true_eq, decide_eq_true_eq]
  exact cmpC_neg
theorem swoC : SWO (ltOf cmpC) where
  irrefl x := by rw [ltOf_chg]; exact decide_eq_false (ltC_irr x)
  trans x y z h1 h2 := by
    rw [ltOf_chg, decide_eq_true_eq] at *
    exact ltC_trans h1 h2
  ntrans x y z h1 h2 := by
    rw [ltOf_chg, decide_eq_false_iff_not] at *
    exact ltC_ntrans h2 h1
theorem chg_len (x : Chg) : (Chg.vals x).length = 4 := rfl
theorem chg_one (x : Chg) : ∀ v ∈ Chg.vals x, v.oneCell' = true := by simp [Chg.vals, Value.oneCell']

/-- what the sort leaves -/
def SortPost (w : World) (base : Nat) (v : Value) (l : List Chg) (e : Ending) (w' : World) : Prop :=
  e = .returned (.tuple #[]) ∧ ∃ l', l'.Perm l ∧ l'.Pairwise (fun a b => ¬ ltC b a) ∧ Own w' base 66 4 v (chgs l') ∧ w.grownBy w' v.ownBlock

theorem sortCh_any (v : Value) (l : List Chg) (base : Nat) (w : World) (hown : Own w base 66 4 v (chgs l)) (hlen : l.length ≤ 1099511627776) :
    Calls Tryz.prog 81 #[v, .func (.func 82) #[] #[]] w (SortPost w base v l) := by
  have hl : (chgs l).length = l.length := chgs_len l
  rcases hown.1.2 with ⟨rfl, h0⟩ | ⟨g, cap, cur, rfl, hb, hg, hrest⟩
  · have hl0 : l = [] := List.eq_nil_of_length_eq_zero (by omega)
    subst hl0
    exact (AnyF.slices_SortFunc_none Tryz.sortCh none 0 _ w).mono fun e w' ⟨he, hw⟩ => by
      subst hw
      exact ⟨he, [], .refl _, .nil, hown, World.grownBy.refl _ _⟩
  · rw [hl] at hown ⊢
    obtain ⟨hH, hlt⟩ := own_holds (enc := Chg.vals) (k := 4) (by omega) chg_len chg_one hown
    have eg : ∀ args w, (callFunc 82 args).run Tryz.prog w = .ok (.enter 82 args) w := enters_of Tryz.func82 (by kernel_rfl) rfl
    have hcmp : CmpLays Tryz.prog 82 #[] Chg.vals 4 cmpC g 0 l.toArray.size w := fun _ _ _ _ x y => compare_any x y _
    have hcon := AnyQ.slices_SortFunc Tryz.sortCh 4 Tryz.isAgg66 Tryz.sizeOf66 Chg.vals chg_len chg_one cmpC swoC 82 #[] g 0 cap l.toArray w eg hcmp hH hlt (by simp; omega)
    refine Calls.mono (R := _) hcon fun e w' hh => ?_
    obtain ⟨he, d, n, os, hp, hs, hw⟩ := hh
    subst hw
    have hd : d.size = l.length := by simpa using hp.1
    have hk := own_sorted (enc := Chg.vals) (k := 4) (by omega) chg_len chg_one hown d hd n os
    refine ⟨he, d.toList, ?_, ?_, hk.1, hk.2⟩
    · have := hp.2.2
      simp only [List.size_toArray] at this
      rw [show d.extract 0 l.length = d by rw [← hd]; simp, show l.toArray.extract 0 l.length = l.toArray by simp] at this
      simpa using this
    · rw [List.pairwise_iff_getElem]
      intro i j hi hj hij
      have := hs i j (Nat.zero_le _) hij (by simp at hj ⊢; omega)
      rw [ltOf_chg, decide_eq_false_iff_not] at this
      simp only [Array.length_toList] at hi hj
      rw [getElem!_pos d j hj, getElem!_pos d i hi] at this
      simpa using this

end Go.Proofs.YtaafihdegnaokaaGreatDoor
