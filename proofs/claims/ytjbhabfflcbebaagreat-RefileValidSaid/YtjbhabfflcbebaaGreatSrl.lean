/- slices.SortFunc at lines, by payslip.order. -/
import Derived.Test.YtjbhabfflcbebaaGreatSrt
import Derived.Test.YtjbhabfflcbebaaGreatOrd
import Derived.Test.YtjbhabfflcbebaaGreatShelf
import Derived.Sort.Walk0
namespace Go.Proofs.YtjbhabfflcbebaaGreat
open Go.RowKit Go.Sort Go.Shelf

/-- a line comes before another one -/
def lnLt (a b : Ln) : Bool := decide (a.kind < b.kind) || (decide (a.kind = b.kind) && decide (a.code.toList < b.code.toList))
instance : Inhabited Ln := ⟨⟨0, ByteArray.empty, 0⟩⟩
theorem lnLt_iff (a b : Ln) : lnLt a b = true ↔ a.kind < b.kind ∨ a.kind = b.kind ∧ a.code.toList < b.code.toList := by simp [lnLt]
theorem lnLt_not (a b : Ln) : lnLt a b = false ↔ b.kind < a.kind ∨ a.kind = b.kind ∧ b.code.toList ≤ a.code.toList := by
  rw [Bool.eq_false_iff, Ne, lnLt_iff, ← List.not_lt]
  constructor
  · intro h
    by_cases h1 : a.kind = b.kind
    · exact .inr ⟨h1, fun h2 => h (.inr ⟨h1, h2⟩)⟩
    · exact .inl (by
        rcases Int.lt_or_gt_of_ne h1 with h2 | h2
        · exact absurd (.inl h2) h
        · exact h2)
  · rintro (h | ⟨h1, h2⟩) (h' | ⟨h3, h4⟩)
    · omega
    · omega
    · omega
    · exact h2 h4
theorem ltOf_ln (a b : Ln) : ltOf cmpLn a b = lnLt a b := by
  unfold ltOf cmpLn orI cmpI cmpS
  rw [bytesLess_eq]
  rw [Bool.eq_iff_iff, lnLt_iff, decide_eq_true_eq]
  by_cases h1 : a.kind < b.kind
  · simp [h1]
  · by_cases h2 : b.kind < a.kind
    · simp [h1, h2]; omega
    · have h3 : a.kind = b.kind := by omega
      by_cases h4 : a.code.toList < b.code.toList
      · simp [h3, h4]
      · by_cases h5 : a.code.toList = b.code.toList
        · have h6 : ¬ b.code.toList < b.code.toList := by rw [h5] at h4; exact h4
          simp [h3, h5, h6]
        · simp [h3, h4, h5]
theorem swoLn : SWO (ltOf cmpLn) where
  irrefl x := by rw [ltOf_ln, lnLt_not]; exact .inr ⟨rfl, List.le_refl _⟩
  trans x y z h1 h2 := by
    rw [ltOf_ln, lnLt_iff] at *
    rcases h1 with h1 | ⟨h1, h1'⟩ <;> rcases h2 with h2 | ⟨h2, h2'⟩
    · exact .inl (by omega)
    · exact .inl (by omega)
    · exact .inl (by omega)
    · exact .inr ⟨h1.trans h2, List.lt_trans h1' h2'⟩
  ntrans x y z h1 h2 := by
    rw [ltOf_ln, lnLt_not] at *
    rcases h1 with h1 | ⟨h1, h1'⟩ <;> rcases h2 with h2 | ⟨h2, h2'⟩
    · exact .inl (by omega)
    · exact .inl (by omega)
    · exact .inl (by omega)
    · exact .inr ⟨h1.trans h2, List.le_trans h2' h1'⟩

theorem ln_len (x : Ln) : (Ln.vals x).length = 3 := rfl
theorem ln_one (x : Ln) : ∀ v ∈ Ln.vals x, v.oneCell' = true := by simp [Ln.vals, Value.oneCell']

/-- what the sort leaves -/
def SortPost (w : World) (base : Nat) (v : Value) (l : List Ln) (e : Ending) (w' : World) : Prop :=
  e = .returned (.tuple #[]) ∧ ∃ l', l'.Perm l ∧ l'.Pairwise (fun a b => lnLt b a = false) ∧ Own w' base 51 3 v (lns l') ∧ w.grownBy w' v.ownBlock

theorem sortLn_any (v : Value) (l : List Ln) (base : Nat) (w : World) (hown : Own w base 51 3 v (lns l)) (hlen : l.length ≤ 1099511627776) :
    Calls Tryz.prog 70 #[v, .func (.func 71) #[] #[]] w (SortPost w base v l) := by
  have hl : (lns l).length = l.length := lns_len l
  rcases hown.1.2 with ⟨rfl, h0⟩ | ⟨g, cap, cur, rfl, hb, hg, hrest⟩
  · have hl0 : l = [] := List.eq_nil_of_length_eq_zero (by omega)
    subst hl0
    exact (AnyF.slices_SortFunc_none Tryz.sortLn none 0 _ w).mono fun e w' ⟨he, hw⟩ => by
      subst hw
      exact ⟨he, [], .refl _, .nil, hown, World.grownBy.refl _ _⟩
  · rw [hl] at hown ⊢
    obtain ⟨hH, hlt⟩ := own_holds (enc := Ln.vals) (k := 3) (by omega) ln_len ln_one hown
    have eg : ∀ args w, (callFunc 71 args).run Tryz.prog w = .ok (.enter 71 args) w := enters_of Tryz.func71 (by kernel_rfl) rfl
    have hcmp : CmpLays Tryz.prog 71 #[] Ln.vals 3 cmpLn g 0 l.toArray.size w := fun _ _ _ _ x y => order_any x y _
    have hcon := AnyQ.slices_SortFunc Tryz.sortLn 3 Tryz.isAgg51 Tryz.sizeOf51 Ln.vals ln_len ln_one cmpLn swoLn 71 #[] g 0 cap l.toArray w eg hcmp hH hlt (by simp; omega)
    refine Calls.mono (R := _) hcon fun e w' hh => ?_
    obtain ⟨he, d, n, os, hp, hs, hw⟩ := hh
    subst hw
    have hd : d.size = l.length := by simpa using hp.1
    have hk := own_sorted (enc := Ln.vals) (k := 3) (by omega) ln_len ln_one hown d hd n os
    refine ⟨he, d.toList, ?_, ?_, hk.1, hk.2⟩
    · have := hp.2.2
      simp only [List.size_toArray] at this
      rw [show d.extract 0 l.length = d by rw [← hd]; simp, show l.toArray.extract 0 l.length = l.toArray by simp] at this
      simpa using this
    · rw [List.pairwise_iff_getElem]
      intro i j hi hj hij
      have := hs i j (Nat.zero_le _) hij (by simp at hj ⊢; omega)
      rw [ltOf_ln] at this
      simp only [Array.length_toList] at hi hj
      rw [getElem!_pos d j hj, getElem!_pos d i hi] at this
      simpa using this

end Go.Proofs.YtjbhabfflcbebaaGreat
