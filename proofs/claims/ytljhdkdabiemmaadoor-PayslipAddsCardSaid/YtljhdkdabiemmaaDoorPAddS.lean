/- Plain facts for the law PayslipAdds. -/
import Derived.Test.YtljhdkdabiemmaaDoorCmp
import Derived.Test.YtljhdkdabiemmaaDoorLins
namespace Go.Proofs.YtljhdkdabiemmaaDoor

theorem sumT_neg (l : List Ln) (k : Int) (c : ByteArray) : sumT (negL l) k c = - sumT l k c := by
  induction l with
  | nil => rfl
  | cons x r ih =>
    show sumT (⟨x.kind, x.code, -x.amt⟩ :: negL r) k c = _
    rw [sumT_cons, sumT_cons, ih]
    dsimp only
    split <;> omega
theorem mrg_zero {l : List Ln} (h : ∀ k c, sumT l k c = 0) : mrg l = [] := by
  refine List.eq_nil_iff_forall_not_mem.2 fun x hx => ?_
  obtain ⟨h0, h1⟩ := mem_mrg.1 hx
  rw [h] at h1
  exact h0 h1.symm
theorem GoodL.fine {l : List Ln} (h : GoodL l) (hl : l.length ≤ 100) : Fine l := by
  refine ⟨by omega, fun x hx => ?_, fun k c => ?_⟩
  · have := (h x hx).1
    simp only [formB, Bool.and_eq_true] at this; exact this.1
  · have := sumT_bound (M := 600001) (by omega) (fun x hx => (h x hx).2) k c
    simp only [totB, Bool.and_eq_true, decide_eq_true_eq]
    omega
theorem GoodL.sum {l : List Ln} (h : GoodL l) (hl : l.length ≤ 100) (k : Int) (c : ByteArray) : -60000100 ≤ sumT l k c ∧ sumT l k c ≤ 60000100 := by
  have := sumT_bound (M := 600001) (by omega) (fun x hx => (h x hx).2) k c
  omega
/-- the difference of drawn lines -/
def dif (x y : List Ln) : List Ln := mrg (negL (mrg x) ++ mrg y)
theorem dif_sum (x y : List Ln) (k : Int) (c : ByteArray) : sumT (dif x y) k c = sumT y k c - sumT x k c := by
  rw [dif, sumT_mrg, sumT_append, sumT_neg, sumT_mrg, sumT_mrg]; omega
theorem cmp_good {x y : List Ln} (hx : GoodL x) (hy : GoodL y) (h1 : x.length ≤ 100) (h2 : y.length ≤ 100) : cmpE x y = 0 ∧ cmpR x y = dif x y := by
  have f1 := hx.fine h1
  have f2 := hy.fine h2
  have hc : colE (diffT (mrg x) (mrg y)) = 0 := by
    rw [colE, if_pos]
    rw [List.all_eq_true]
    intro z hz
    have e := amt_mem (sumsT_dist (negL (mrg x) ++ mrg y)) hz
    rw [amt_sums, sumT_append, sumT_neg, sumT_mrg, sumT_mrg] at e
    have b1 := hx.sum h1 z.kind z.code
    have b2 := hy.sum h2 z.kind z.code
    simp only [totB, Bool.and_eq_true, decide_eq_true_eq]
    omega
  refine ⟨?_, ?_⟩
  · rw [cmpE, if_pos f1.err, if_pos f2.err, f1.merge, f2.merge, hc]
  · rw [cmpR, if_pos f1.err, if_pos f2.err, f1.merge, f2.merge, colL, if_pos hc]; rfl
theorem dif_formed {x y : List Ln} (hx : GoodL x) (hy : GoodL y) (h1 : x.length ≤ 100) (h2 : y.length ≤ 100) : ∀ z ∈ dif x y, formedB z = true := by
  have f1 := hx.fine h1
  have f2 := hy.fine h2
  intro z hz
  have hs := (mem_mrg.1 hz).2
  rw [sumT_append, sumT_neg, sumT_mrg, sumT_mrg] at hs
  have b1 := hx.sum h1 z.kind z.code
  have b2 := hy.sum h2 z.kind z.code
  have ht : totB z.amt = true := by simp only [totB, Bool.and_eq_true, decide_eq_true_eq]; omega
  have hz' : z ∈ sumsT (negL (mrg x) ++ mrg y) := by rw [dif, mrg, mem_srtLn, List.mem_filter] at hz; exact hz.1
  obtain ⟨q, hq, e1, e2⟩ := sums_mem_title hz'
  rcases List.mem_append.1 hq with hq | hq
  · obtain ⟨r, hr, rfl⟩ := List.mem_map.1 hq
    exact formed_title (f1.mrg_formed r hr) e1.symm e2.symm ht
  · exact formed_title (f2.mrg_formed q hq) e1.symm e2.symm ht
theorem dif_len {x y : List Ln} (h1 : x.length ≤ 100) (h2 : y.length ≤ 100) : (dif x y).length ≤ 200 := by
  have a := mrg_len (negL (mrg x) ++ mrg y)
  have b := mrg_len x
  have c := mrg_len y
  rw [List.length_append, negL_len] at a
  unfold dif; omega
theorem adds_fine {x y : List Ln} (hx : GoodL x) (hy : GoodL y) (h1 : x.length ≤ 100) (h2 : y.length ≤ 100) : mergeE (x ++ dif x y) = 0 ∧ mergeL (x ++ dif x y) = mergeL y := by
  have f2 := hy.fine h2
  have hs : ∀ k c, sumT (x ++ dif x y) k c = sumT y k c := fun k c => by rw [sumT_append, dif_sum]; omega
  have hF : Fine (x ++ dif x y) := by
    refine ⟨by have := dif_len h1 h2; rw [List.length_append]; omega, fun z hz => ?_, fun k c => by rw [hs]; exact f2.tot k c⟩
    rcases List.mem_append.1 hz with hz | hz
    · exact (hx.fine h1).formed z hz
    · exact dif_formed hx hy h1 h2 z hz
  exact ⟨hF.err, by rw [hF.merge, f2.merge, mrg_eq hs]⟩
theorem cancels {x y : List Ln} (hx : GoodL x) (hy : GoodL y) (h1 : x.length ≤ 100) (h2 : y.length ≤ 100) : mergeE (dif y x ++ dif x y) = 0 ∧ mergeL (dif y x ++ dif x y) = [] := by
  have hs : ∀ k c, sumT (dif y x ++ dif x y) k c = 0 := fun k c => by rw [sumT_append, dif_sum, dif_sum]; omega
  have hF : Fine (dif y x ++ dif x y) := by
    refine ⟨by have := dif_len h1 h2; have := dif_len h2 h1; rw [List.length_append]; omega, fun z hz => ?_, fun k c => by rw [hs]; rfl⟩
    rcases List.mem_append.1 hz with hz | hz
    · exact dif_formed hy hx h2 h1 z hz
    · exact dif_formed hx hy h1 h2 z hz
  exact ⟨hF.err, by rw [hF.merge, mrg_zero hs]⟩
theorem dif_self (x : List Ln) : dif x x = [] := by
  refine mrg_zero fun k c => ?_
  rw [sumT_append, sumT_neg]; omega
end Go.Proofs.YtljhdkdabiemmaaDoor
