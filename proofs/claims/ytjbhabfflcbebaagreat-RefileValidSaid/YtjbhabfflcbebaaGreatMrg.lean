/- Contract of payslip.Merge's loop. -/
import Derived.Test.YtjbhabfflcbebaaGreatCol
import Derived.RegionTactic
import Derived.Deep.QuietTactic
import Derived.BigQuiet
import Derived.Carry
namespace Go.Proofs.YtjbhabfflcbebaaGreat
open Go.RowKit

/-- the error of Merge -/
def mergeE (l : List Ln) : Int := if l.length ≤ 65536 then (if l.all formedB then colE (sumsT l) else 1) else 3
/-- the lines of Merge -/
def mergeL (l : List Ln) : List Ln := if mergeE l = 0 then colL (sumsT l) else []
theorem putT_mem {k : Int} {c : ByteArray} {v : Int} {es : List Ln} {x : Ln} (h : x ∈ putT k c v es) : (x.kind = k ∧ x.code = c) ∨ x ∈ es := by
  induction es with
  | nil => simp [putT] at h; subst h; exact .inl ⟨rfl, rfl⟩
  | cons l r ih =>
    simp only [putT] at h
    by_cases hs : sameT k c l = true
    · rw [if_pos hs] at h
      rcases List.mem_cons.1 h with rfl | h
      · exact .inl ⟨rfl, rfl⟩
      · exact .inr (by simp [h])
    · rw [if_neg hs] at h
      rcases List.mem_cons.1 h with rfl | h
      · exact .inr (by simp)
      · rcases ih h with h | h
        · exact .inl h
        · exact .inr (by simp [h])
theorem putT_dist {k : Int} {c : ByteArray} {v : Int} {es : List Ln} (h : Dist es) : Dist (putT k c v es) := by
  induction es with
  | nil => simp [putT, Dist]
  | cons l r ih =>
    have h' := List.pairwise_cons.1 h
    simp only [putT]
    by_cases hs : sameT k c l = true
    · rw [if_pos hs]
      obtain ⟨e1, e2⟩ := sameT_eq hs
      exact List.pairwise_cons.2 ⟨fun y hy => by have := h'.1 y hy; rw [e1, e2] at this; exact this, h'.2⟩
    · rw [if_neg hs]
      refine List.pairwise_cons.2 ⟨fun y hy => ?_, ih h'.2⟩
      rcases putT_mem hy with ⟨e1, e2⟩ | hy
      · intro hh
        exact hs ((sameT_iff _ _ _).2 ⟨hh.1.trans e1, hh.2.trans e2⟩)
      · exact h'.1 y hy
theorem putT_len (k : Int) (c : ByteArray) (v : Int) (es : List Ln) : (putT k c v es).length ≤ es.length + 1 := by
  induction es with
  | nil => simp [putT]
  | cons l r ih =>
    simp only [putT]
    split
    · simp
    · simp only [List.length_cons]; omega
theorem fold_dist (l es : List Ln) (h : Dist es) : Dist (l.foldl addT es) := by
  induction l generalizing es with
  | nil => exact h
  | cons x r ih => exact ih _ (putT_dist h)
theorem sumsT_dist (l : List Ln) : Dist (sumsT l) := fold_dist l [] .nil
theorem fold_len (l es : List Ln) : (l.foldl addT es).length ≤ es.length + l.length := by
  induction l generalizing es with
  | nil => simp
  | cons x r ih =>
    have h1 := ih (addT es x)
    have h2 := putT_len x.kind x.code (amtT es x.kind x.code + x.amt) es
    rw [List.foldl_cons, List.length_cons]
    unfold addT at h1 ⊢
    omega
theorem sumsT_len (l : List Ln) : (sumsT l).length ≤ l.length := by have := fold_len l []; simpa [sumsT] using this
theorem colL_zero {es : List Ln} (h : ¬ colE es = 0) : colL es = [] := by rw [colL, if_neg h]

set_option maxRecDepth 100000 in
set_option maxHeartbeats 1600000 in
theorem Merge_any (v : Value) (l : List Ln) (w : World) (hv : Sl w 3 v (lns l)) :
    Calls Tryz.prog 56 #[v] w (RetOwn2 w 51 3 (lns (mergeL l)) (mergeE l)) := by
  obtain ⟨A, cap, rfl, h1, h2, x1, h3⟩ := hv
  rw [lns_len] at h1 ⊢
  unfold maxLen at h2
  have H3 := Lib.hid h3
  clear h3 x1
  by_cases hn : l.length ≤ 65536
  rotate_left
  · have HE : Hid (mergeE l = 3) := by rw [Hid, mergeE, if_neg hn]
    go_enter Tryz.func56, Tryz.ntmps56
    go_wp2_with fail
    go_ret2
    exact ⟨_, tup_int HE.out.symm, by rw [mergeL, HE.out]; exact Own.nil _ _ _ _, Below.refl _ _⟩
  have hd : decide ((65536 : Int) < (l.length : Int)) = false := by simp; omega
  have hmm := @run_makeMap Tryz.prog
  go_enter Tryz.func56, Tryz.ntmps56
  go_wp2_with fail
  clear hmm
  go_loopw [13] (fun i wr => ∃ k : Nat, k ≤ l.length ∧ i = .int .i64 k ∧ Below w.heap.size w wr ∧ Hid (wr.heap[w.heap.size]? = some (tObj (sumsT (l.take k)))) ∧ Hid ((l.take k).all formedB = true)) (fun i _ => l.length - (intOf i).toNat)
  case atStart => exact ⟨0, by omega, rfl, (Below.refl _ _).alloc (Nat.le_refl _) _, heap_alloc_new w _, rfl⟩
  case round =>
    obtain ⟨k, hk, rfl, hb, HM, Hf⟩ := hrel
    by_cases hlt : k < l.length
    · rcases H3.out with h | ⟨b, off, rfl, hc0⟩
      · exact (lns_pos hlt h).elim
      · obtain ⟨c0, c1, c2⟩ := (hc0.below hb hc0.1).ln hlt
        have hbs := hb.size
        have hms := lt_of_some HM.out
        cases hfk : formedB l[k]
        · have HE : Hid (mergeE l = 1) := by
            rw [Hid, mergeE, if_pos hn, if_neg]
            intro hh
            have := List.all_eq_true.1 hh _ (List.getElem_mem hlt)
            rw [hfk] at this; cases this
          clear H3 hc0
          go_wp2_with (go_at_call 59; refine (formed_any _ _).mono ?_; rintro e w1 ⟨rfl, hb1⟩; obtain ⟨hc, hfz⟩ := bcell hb1)
          go_ret2
          exact ⟨_, tup_int HE.out.symm, by rw [mergeL, HE.out]; exact Own.nil _ _ _ _, (hb.alloc hbs _).trans (hb1.mono (by simp; omega))⟩
        have hfk' := Lib.hid hfk
        have hbd := amtT_bound (l.take k) Hf.out l[k].kind l[k].code
        rw [List.length_take, Nat.min_eq_left (by omega)] at hbd
        have HS := Lib.hid (sumsT_snoc l k hlt)
        have ha : -1000000000000 ≤ l[k].amt ∧ l[k].amt ≤ 1000000000000 := by simp [formedB, totB] at hfk; omega
        clear H3 hc0
        go_wp2_with (go_at_call 59; refine (formed_any _ _).mono ?_; rintro e w1 ⟨rfl, hb1⟩; obtain ⟨hc, hfz⟩ := bcell hb1)
        have hm1 : w1.drew.heap[w.heap.size]? = some (tObj (sumsT (l.take k))) := (hb1.block _ (by simp; omega)).trans ((Below.heap_alloc wr _ _ hms).trans HM.out)
        have hL1 := run_lookup_title hm1 l[k].kind l[k].code
        obtain ⟨n, fs, hE, e1, hn1, hset, hat⟩ := run_entry_title hm1 l[k].kind l[k].code
        have hW2 : (setB w1.drew w.heap.size (tObj fs)).heap[w.heap.size]? = some (tObj fs) := setB_at (lt_of_some hm1)
        have hg2 : w1.drew.grownBy (setB w1.drew w.heap.size (tObj fs)) (some w.heap.size) := setB_grown
        generalize setB w1.drew w.heap.size (tObj fs) = W2 at hE hW2 hg2
        have hL2 := run_lookup_title hW2 l[k].kind l[k].code
        rw [e1] at hL2
        have hS := run_store_title hW2 hn1 hat (amtT (sumsT (l.take k)) l[k].kind l[k].code + l[k].amt) 84
        have hW3 : (setB W2 w.heap.size (tObj (fs.set n ⟨l[k].kind, l[k].code, amtT (sumsT (l.take k)) l[k].kind l[k].code + l[k].amt⟩))).heap[w.heap.size]? = some (tObj (sumsT (l.take (k + 1)))) := by rw [HS.out, addT, ← hset]; exact setB_at (lt_of_some hW2)
        have hg3 : W2.grownBy (setB W2 w.heap.size (tObj (fs.set n ⟨l[k].kind, l[k].code, amtT (sumsT (l.take k)) l[k].kind l[k].code + l[k].amt⟩))) (some w.heap.size) := setB_grown
        generalize setB W2 w.heap.size (tObj (fs.set n ⟨l[k].kind, l[k].code, amtT (sumsT (l.take k)) l[k].kind l[k].code + l[k].amt⟩)) = W3 at hS hW3 hg3
        have hz1 : w.heap.size ≤ w1.heap.size := by have := hb1.size; simp at this; omega
        have hz2 : w.heap.size ≤ W2.heap.size := Nat.le_trans hz1 hg2.size
        have hB3 : Below w.heap.size w W3 := (((hb.alloc hbs _).trans (hb1.mono (by simp; omega))).drew.grown hg2 hz1 (fun k hk => by injection hk with hk; omega)).grown hg3 hz2 (fun k hk => by injection hk with hk; omega)
        have HW2 := Lib.hid hW2; have HW3 := Lib.hid hW3; have HM1 := Lib.hid hm1; have HSET := Lib.hid hset; have HAT := Lib.hid hat; have HE1 := Lib.hid e1
        clear hW2 hW3 hm1 hset hat e1
        generalize amtT (sumsT (l.take k)) l[k].kind l[k].code = am at *
        go_region
        go_wp2
        go_roundw
        case rel => exact ⟨k + 1, by omega, by go_num, hB3, HW3, by
          show (l.take (k + 1)).all formedB = true
          rw [List.take_succ_eq_append_getElem hlt, List.all_append, Hf.out]; simp [hfk'.out]⟩
        case measure => simp [intOf]; omega
    · obtain rfl : k = l.length := by omega
      have HM' : wr.heap[w.heap.size]? = some (tObj (sumsT l)) := by have := HM.out; rwa [List.take_length] at this
      have HE : Hid (mergeE l = colE (sumsT l)) := by
        have := Hf.out
        rw [List.take_length] at this
        rw [Hid, mergeE, if_pos hn, if_pos this]
      have HMM := Lib.hid HM'
      clear HM' HM Hf
      go_wp2_with (go_at_call 57; refine (collect_any _ _ _ HMM.out (sumsT_dist l) (Nat.le_trans (sumsT_len l) (by omega))).mono ?_; rintro e w2 ⟨x, rfl, hown2, hb2⟩)
      go_ret2
      refine ⟨_, tup_int HE.out.symm, ?_, below_after hb hb2 hb.size⟩
      rw [mergeL, HE.out]
      by_cases h0 : colE (sumsT l) = 0
      · rw [if_pos h0]; exact hown2.more hb.size
      · rw [if_neg h0]; rw [colL_zero h0] at hown2; exact hown2.more hb.size

end Go.Proofs.YtjbhabfflcbebaaGreat
