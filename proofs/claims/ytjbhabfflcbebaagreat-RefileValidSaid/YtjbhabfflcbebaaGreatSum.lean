/- What Merge returns is told by the sums of each title. -/
import Derived.Test.YtjbhabfflcbebaaGreatMrg
namespace Go.Proofs.YtjbhabfflcbebaaGreat

/-- the sum of the amounts of a title -/
def sumT (l : List Ln) (k : Int) (c : ByteArray) : Int := (l.map fun x => if x.kind = k ∧ x.code = c then x.amt else 0).sum
theorem sumT_nil (k : Int) (c : ByteArray) : sumT [] k c = 0 := rfl
theorem sumT_cons (x : Ln) (l : List Ln) (k : Int) (c : ByteArray) : sumT (x :: l) k c = (if x.kind = k ∧ x.code = c then x.amt else 0) + sumT l k c := by simp [sumT]
theorem sumT_append (l m : List Ln) (k : Int) (c : ByteArray) : sumT (l ++ m) k c = sumT l k c + sumT m k c := by simp [sumT, List.sum_append]
theorem fold_amt (l es : List Ln) (k : Int) (c : ByteArray) : amtT (l.foldl addT es) k c = amtT es k c + sumT l k c := by
  induction l generalizing es with
  | nil => simp [sumT]
  | cons x r ih =>
    rw [List.foldl_cons, ih, sumT_cons, addT, amtT_put]
    by_cases h : k = x.kind ∧ c = x.code
    · obtain ⟨rfl, rfl⟩ := h
      simp; omega
    · rw [if_neg h, if_neg (fun hh => h ⟨hh.1.symm, hh.2.symm⟩)]; omega
theorem amt_sums (l : List Ln) (k : Int) (c : ByteArray) : amtT (sumsT l) k c = sumT l k c := by
  rw [sumsT, fold_amt]; simp [amtT, findT]
theorem amtT_cons (x : Ln) (r : List Ln) (k : Int) (c : ByteArray) : amtT (x :: r) k c = if x.kind = k ∧ x.code = c then x.amt else amtT r k c := by
  have key : ∀ (j i : Nat) (r : List Ln), (findT k c j r).map (·.2) = (findT k c i r).map (·.2) := by
    intro j i r
    induction r generalizing j i with
    | nil => rfl
    | cons y r ih =>
      simp only [findT]
      split
      · rfl
      · exact ih _ _
  simp only [amtT, findT]
  by_cases h : sameT k c x = true
  · rw [if_pos h, if_pos ((sameT_iff k c x).1 h)]; rfl
  · rw [if_neg h, if_neg (fun hh => h ((sameT_iff k c x).2 hh)), key _ 0]
theorem amt_mem {es : List Ln} (hd : Dist es) {x : Ln} (hx : x ∈ es) : amtT es x.kind x.code = x.amt := by
  induction es with
  | nil => cases hx
  | cons y r ih =>
    have h' := List.pairwise_cons.1 hd
    rw [amtT_cons]
    rcases List.mem_cons.1 hx with rfl | hx
    · simp
    · rw [if_neg (h'.1 x hx)]; exact ih h'.2 hx
theorem amt_some {es : List Ln} {k : Int} {c : ByteArray} (h : amtT es k c ≠ 0) : ⟨k, c, amtT es k c⟩ ∈ es := by
  induction es with
  | nil => simp [amtT, findT] at h
  | cons y r ih =>
    rw [amtT_cons] at h ⊢
    by_cases hy : y.kind = k ∧ y.code = c
    · rw [if_pos hy]; obtain ⟨rfl, rfl⟩ := hy; simp
    · rw [if_neg hy] at h ⊢; exact List.mem_cons_of_mem _ (ih h)
theorem amt_not {es : List Ln} {k : Int} {c : ByteArray} (h : ∀ x ∈ es, ¬ (x.kind = k ∧ x.code = c)) : amtT es k c = 0 := by
  induction es with
  | nil => rfl
  | cons y r ih => rw [amtT_cons, if_neg (h y (by simp)), ih fun x hx => h x (by simp [hx])]
/-- in a list of different titles a title's sum is its amount -/
theorem sumT_dist {es : List Ln} (hd : Dist es) (k : Int) (c : ByteArray) : sumT es k c = amtT es k c := by
  induction es with
  | nil => rfl
  | cons y r ih =>
    have h' := List.pairwise_cons.1 hd
    rw [amtT_cons, sumT_cons, ih h'.2]
    by_cases hy : y.kind = k ∧ y.code = c
    · rw [if_pos hy, if_pos hy, amt_not fun x hx hh => h'.1 x hx ⟨hy.1.trans hh.1.symm, hy.2.trans hh.2.symm⟩]; omega
    · rw [if_neg hy, if_neg hy]; omega
/-- the lines that Merge returns if it returns some -/
def mrg (l : List Ln) : List Ln := srtLn ((sumsT l).filter nz)
theorem mem_mrg {l : List Ln} {x : Ln} : x ∈ mrg l ↔ x.amt ≠ 0 ∧ sumT l x.kind x.code = x.amt := by
  rw [mrg, mem_srtLn, List.mem_filter, nz, decide_eq_true_eq]
  constructor
  · rintro ⟨h1, h2⟩
    exact ⟨h2, by rw [← amt_sums, amt_mem (sumsT_dist l) h1]⟩
  · rintro ⟨h1, h2⟩
    refine ⟨?_, h1⟩
    have := amt_some (es := sumsT l) (k := x.kind) (c := x.code) (by rw [amt_sums, h2]; exact h1)
    rw [amt_sums, h2] at this; exact this
theorem mrg_strict (l : List Ln) : Strict (mrg l) := strict_srtLn (dist_filter (sumsT_dist l) _)
theorem mrg_eq {l m : List Ln} (h : ∀ k c, sumT l k c = sumT m k c) : mrg l = mrg m :=
  strict_unique (mrg_strict l) (mrg_strict m) fun x => by rw [mem_mrg, mem_mrg, h]
/-- merging changes no sum -/
theorem sumT_mrg (l : List Ln) (k : Int) (c : ByteArray) : sumT (mrg l) k c = sumT l k c := by
  have hd : Dist (mrg l) := (mrg_strict l).dist
  rw [sumT_dist hd]
  by_cases h : amtT (mrg l) k c = 0
  · rw [h]
    refine Classical.byContradiction fun hne => ?_
    have hm : (⟨k, c, sumT l k c⟩ : Ln) ∈ mrg l := mem_mrg.2 ⟨fun hh => hne hh.symm, rfl⟩
    have := amt_mem hd hm
    simp only at this
    rw [h] at this; exact hne this
  · have := (mem_mrg.1 (amt_some h)).2
    exact this.symm
theorem sums_mem_title {l : List Ln} {x : Ln} (h : x ∈ sumsT l) : ∃ y ∈ l, y.kind = x.kind ∧ y.code = x.code := by
  have key : ∀ (l es : List Ln), x ∈ l.foldl addT es → x ∈ es ∨ ∃ y ∈ l, y.kind = x.kind ∧ y.code = x.code := by
    intro l
    induction l with
    | nil => intro es h; exact .inl h
    | cons a r ih =>
      intro es h
      rcases ih _ h with h | ⟨y, hy, e⟩
      · rcases putT_mem h with h | h
        · exact .inr ⟨a, by simp, h.1.symm, h.2.symm⟩
        · exact .inl h
      · exact .inr ⟨y, by simp [hy], e⟩
  rcases key l [] h with h | h
  · cases h
  · exact h
/-- what a merge needs: few lines that are formed, and sums that are totals -/
structure Fine (l : List Ln) : Prop where
  len : l.length ≤ 65536
  formed : ∀ x ∈ l, formedB x = true
  tot : ∀ k c, totB (sumT l k c) = true
theorem Fine.col {l : List Ln} (h : Fine l) : colE (sumsT l) = 0 := by
  rw [colE, if_pos]
  rw [List.all_eq_true]
  intro x hx
  have := h.tot x.kind x.code
  rwa [← amt_sums, amt_mem (sumsT_dist l) hx] at this
theorem Fine.err {l : List Ln} (h : Fine l) : mergeE l = 0 := by
  rw [mergeE, if_pos h.len, if_pos (List.all_eq_true.2 h.formed), h.col]
theorem Fine.merge {l : List Ln} (h : Fine l) : mergeL l = mrg l := by
  rw [mergeL, if_pos h.err, colL, if_pos h.col]; rfl
theorem formed_title {x y : Ln} (h : formedB x = true) (h1 : y.kind = x.kind) (h2 : y.code = x.code) (ht : totB y.amt = true) : formedB y = true := by
  obtain ⟨k, c, a⟩ := x
  obtain ⟨k', c', a'⟩ := y
  simp only at h1 h2 ht
  subst h1 h2
  simp only [formedB, Bool.and_eq_true] at h ⊢
  simp_all
theorem Fine.mrg_formed {l : List Ln} (h : Fine l) : ∀ x ∈ mrg l, formedB x = true := by
  intro x hx
  have h1 := (mem_mrg.1 hx).2
  have hx' : x ∈ sumsT l := by rw [mrg, mem_srtLn, List.mem_filter] at hx; exact hx.1
  obtain ⟨y, hy, e1, e2⟩ := sums_mem_title hx'
  exact formed_title (h.formed y hy) e1.symm e2.symm (by rw [← h1]; exact h.tot _ _)
theorem srtLn_len (l : List Ln) : (srtLn l).length = l.length := by
  have ins : ∀ (x : Ln) (l : List Ln), (insLn x l).length = l.length + 1 := by
    intro x l
    induction l with
    | nil => rfl
    | cons y r ih =>
      simp only [insLn]
      split
      · rfl
      · simp [ih]
  induction l with
  | nil => rfl
  | cons x r ih =>
    show (insLn x (srtLn r)).length = _
    rw [ins, ih]; rfl
theorem mrg_len (l : List Ln) : (mrg l).length ≤ l.length := by
  rw [mrg, srtLn_len]
  exact Nat.le_trans (List.length_filter_le _ _) (sumsT_len l)
theorem sumT_bound {l : List Ln} {M : Int} (_hM : 0 ≤ M) (h : ∀ x ∈ l, -M ≤ x.amt ∧ x.amt ≤ M) (k : Int) (c : ByteArray) : -(M * l.length) ≤ sumT l k c ∧ sumT l k c ≤ M * l.length := by
  induction l with
  | nil => simp [sumT]
  | cons x r ih =>
    have h1 := h x (by simp)
    have h2 := ih fun y hy => h y (by simp [hy])
    rw [sumT_cons, List.length_cons, Int.natCast_add, Int.mul_add]
    simp only [Int.natCast_one, Int.mul_one]
    split <;> omega
end Go.Proofs.YtjbhabfflcbebaaGreat
