/- Plain facts for the law BookSums. -/
import Derived.Test.YtlchelgibilacaaRevS
namespace Go.Proofs.Ytlchelgibilacaa

theorem upTo_take {b : List Pst} (h : ascB b = true) (r : Int) : upTo r b = b.take (upTo r b).length ∧ (upTo r b).length ≤ b.length := by
  refine ⟨?_, List.length_filter_le _ _⟩
  have h' := (asc_pairs b).1 h
  clear h
  induction b with
  | nil => rfl
  | cons p l ih =>
    have hp := List.pairwise_cons.1 h'
    by_cases hr : p.run ≤ r
    · have e : upTo r (p :: l) = p :: upTo r l := by simp [upTo, hr]
      rw [e, List.length_cons, List.take_succ_cons, ← ih hp.2]
    · have e : upTo r (p :: l) = [] := by
        simp only [upTo, List.filter_eq_nil_iff]
        intro q hq
        rcases List.mem_cons.1 hq with rfl | hq
        · simpa using hr
        · have := hp.1 q hq; simp; omega
      rw [e]; rfl
theorem Good.take {b : List Pst} {R : Int} (h : Good b R) (j : Nat) : Good (b.take j) R :=
  ⟨(asc_pairs _).2 (((asc_pairs b).1 h.1).sublist (List.take_sublist _ _)), fun p hp => h.2 p (List.mem_of_mem_take hp)⟩
theorem Good.drop {b : List Pst} {R : Int} (h : Good b R) (j : Nat) : Good (b.drop j) R :=
  ⟨(asc_pairs _).2 (((asc_pairs b).1 h.1).sublist (List.drop_sublist _ _)), fun p hp => h.2 p (List.mem_of_mem_drop hp)⟩
theorem Fine.join {l m : List Ln} (hm : ∀ x ∈ m, formedB x = true) (hl : Fine l) (hlen : m.length ≤ 65536) (h : ∀ k c, sumT m k c = sumT l k c) : Fine m ∧ mrg m = mrg l :=
  ⟨⟨hlen, hm, fun k c => by rw [h]; exact hl.tot k c⟩, mrg_eq h⟩
theorem Good.res {b : List Pst} {R : Int} (h : Good b R) (hl : b.length ≤ 1000) (n p : Int) : resultL b n p = mrg (selLns (selEP n p) b) := (h.mild hl).merged (h.book (by omega)) _
theorem res_len {b : List Pst} {R : Int} (h : Good b R) (hl : b.length ≤ 1000) (n p : Int) : (resultL b n p).length ≤ b.length := by
  rw [h.res hl]
  refine Nat.le_trans (mrg_len _) ?_
  unfold selLns; rw [List.length_map]; exact List.length_filter_le _ _
theorem res_formed {b : List Pst} {R : Int} (h : Good b R) (hl : b.length ≤ 1000) (n p : Int) : ∀ x ∈ resultL b n p, formedB x = true := by
  rw [h.res hl]; exact ((h.mild hl).fine _).mrg_formed
theorem sums_split {b : List Pst} {R : Int} (h : Good b R) (hl : b.length ≤ 1000) (j : Nat) (n p : Int) :
    mergeE (resultL (b.take j) n p ++ resultL (b.drop j) n p) = 0 ∧ mergeL (resultL (b.take j) n p ++ resultL (b.drop j) n p) = resultL b n p := by
  have l1 : (b.take j).length ≤ 1000 := by rw [List.length_take]; omega
  have l2 : (b.drop j).length ≤ 1000 := by rw [List.length_drop]; omega
  have k1 := res_len (h.take j) l1 n p
  have k2 := res_len (h.drop j) l2 n p
  obtain ⟨hF, hM⟩ := Fine.join (l := selLns (selEP n p) b) (m := resultL (b.take j) n p ++ resultL (b.drop j) n p) (fun x hx => by
    rcases List.mem_append.1 hx with hx | hx
    · exact res_formed (h.take j) l1 n p x hx
    · exact res_formed (h.drop j) l2 n p x hx) ((h.mild hl).fine _) (by rw [List.length_append]; omega) (fun k c => by
    rw [(h.take j).res l1, (h.drop j).res l2, sumT_append, sumT_mrg, sumT_mrg, ← sumT_append, ← selLns_append, List.take_append_drop])
  exact ⟨hF.err, by rw [hF.merge, hM, h.res hl]⟩
/-- the results of the first employees, one behind the other -/
def allR (b : List Pst) (p : Int) : Nat → List Ln
  | 0 => []
  | n + 1 => allR b p n ++ resultL b ((n : Int) + 1) p
theorem allR_len {b : List Pst} {R : Int} (h : Good b R) (hl : b.length ≤ 1000) (p : Int) (n : Nat) : (allR b p n).length ≤ n * b.length := by
  induction n with
  | zero => simp [allR]
  | succ n ih =>
    have := res_len h hl ((n : Int) + 1) p
    rw [allR, List.length_append, Nat.add_mul, Nat.one_mul]; omega
theorem allR_formed {b : List Pst} {R : Int} (h : Good b R) (hl : b.length ≤ 1000) (p : Int) (n : Nat) : ∀ x ∈ allR b p n, formedB x = true := by
  induction n with
  | zero => intro x hx; cases hx
  | succ n ih =>
    intro x hx
    rcases List.mem_append.1 hx with hx | hx
    · exact ih x hx
    · exact res_formed h hl _ p x hx
theorem sum_three {b : List Pst} (h : ∀ p ∈ b, 1 ≤ p.emp ∧ p.emp ≤ 3) (q : Int) (k : Int) (c : ByteArray) :
    sumT (selLns (selP q) b) k c = sumT (selLns (selEP 1 q) b) k c + sumT (selLns (selEP 2 q) b) k c + sumT (selLns (selEP 3 q) b) k c := by
  induction b with
  | nil => rfl
  | cons p l ih =>
    have hp := h p (by simp)
    have := ih fun x hx => h x (by simp [hx])
    rw [selLns_cons, selLns_cons, selLns_cons, selLns_cons, sumT_append, sumT_append, sumT_append, sumT_append, this]
    by_cases hq : p.per = q
    · have e0 : selP q p = true := by simp [selP, hq]
      obtain he | he | he : p.emp = 1 ∨ p.emp = 2 ∨ p.emp = 3 := by omega
      all_goals
        simp only [e0, selEP, he, hq]
        simp only [sumT_nil, beq_self_eq_true, Bool.and_self, if_true, Bool.and_true, show ((1 : Int) == 2) = false from rfl, show ((1 : Int) == 3) = false from rfl, show ((2 : Int) == 1) = false from rfl, show ((2 : Int) == 3) = false from rfl, show ((3 : Int) == 1) = false from rfl, show ((3 : Int) == 2) = false from rfl, Bool.false_eq_true, if_false]
        omega
    · have e0 : selP q p = false := by simp [selP, hq]
      have e1 : ∀ n, selEP n q p = false := fun n => by simp [selEP, hq]
      simp only [e0, e1, Bool.false_eq_true, if_false, sumT_nil]
      omega
theorem sums_all {b : List Pst} {R : Int} (h : Good b R) (hl : b.length ≤ 1000) (p : Int) :
    mergeE (allR b p 3) = 0 ∧ mergeL (allR b p 3) = periodL b p := by
  have k := allR_len h hl p 3
  obtain ⟨hF, hM⟩ := Fine.join (l := selLns (selP p) b) (m := allR b p 3) (allR_formed h hl p 3) ((h.mild hl).fine _) (by omega) (fun k c => by
    rw [sum_three (fun q hq => (h.2 q hq).2.2.1)]
    show sumT ((([] ++ resultL b 1 p) ++ resultL b 2 p) ++ resultL b 3 p) k c = _
    rw [sumT_append, sumT_append, sumT_append, sumT_nil, h.res hl, h.res hl, h.res hl, sumT_mrg, sumT_mrg, sumT_mrg]
    omega)
  exact ⟨hF.err, by rw [hF.merge, hM, periodL, (h.mild hl).merged (h.book (by omega))]⟩
end Go.Proofs.Ytlchelgibilacaa
