/- Contracts of book.Result and book.Period. Written by gen_res.py. -/
import Derived.Test.YtjbhabfflcbebaaGreatBk3
import Derived.Test.YtjbhabfflcbebaaGreatMrg
namespace Go.Proofs.YtjbhabfflcbebaaGreat
open Go.RowKit

/-- the lines of the postings that are selected -/
def selLns (sel : Pst → Bool) (l : List Pst) : List Ln := (l.filter sel).map (·.ln)
def mergedL (l : List Pst) (sel : Pst → Bool) : List Ln := if bookB l then mergeL (selLns sel l) else []
theorem selLns_snoc (sel : Pst → Bool) (l : List Pst) (k : Nat) (h : k < l.length) : selLns sel (l.take (k + 1)) = selLns sel (l.take k) ++ if sel l[k] then [l[k].ln] else [] := by
  unfold selLns
  rw [List.take_succ_eq_append_getElem h, List.filter_append, List.map_append]
  congr 1
  cases hr : sel l[k] <;> simp [hr]
theorem selLns_len (sel : Pst → Bool) (l : List Pst) (k : Nat) : (selLns sel (l.take k)).length ≤ k := by
  unfold selLns
  rw [List.length_map]
  exact Nat.le_trans (List.length_filter_le _ _) (List.length_take_le _ _)
/-- of an employee and a period -/
def selEP (n p : Int) (x : Pst) : Bool := (x.emp == n) && (x.per == p)
def selP (p : Int) (x : Pst) : Bool := x.per == p

set_option maxHeartbeats 400000 in
theorem closP (x : Pst) (a2 : Addr) (p : Int) (w : World) (h2 : w.cell? a2 = some (.int .i64 p)) (b2 : a2.block < w.heap.size) :
    Calls Tryz.prog 55 #[.agg #[.int .i64 x.run, .int .i64 x.emp, .int .i64 x.per, .int .i64 x.ln.kind, .string x.ln.code, .int .i64 x.ln.amt], .pointer (some a2)] w fun e w' => e = .returned (.bool (selP p x)) ∧ Below w.heap.size w w' := by
  have g2 : ∀ o, (w.alloc o).cell? a2 = some (.int .i64 p) := fun o => (World.cell?_alloc_lt w o a2 b2).trans h2
  go_enter Tryz.func55, Tryz.ntmps55
  go_wp2
  go_ret
  exact ⟨rfl, (Below.refl _ _).alloc (Nat.le_refl _) _⟩

set_option maxRecDepth 100000 in
set_option maxHeartbeats 1600000 in
theorem mergedP_any (v : Value) (l : List Pst) (p : Int) (a2 : Addr) (w : World) (hv : Sl w 6 v (psts l)) (q2 : w.cell? a2 = some (.int .i64 p)) (b2 : a2.block < w.heap.size) :
    Calls Tryz.prog 54 #[v, .func (.func 55) #[] #[.pointer (some a2)]] w (RetOwn w 51 3 (lns (mergedL l (selP p)))) := by
  have H1 := Lib.hid hv
  obtain ⟨A, cap, rfl, h1, h2, x1, h3⟩ := hv
  rw [psts_len] at h1 H1 ⊢
  unfold maxLen at h2
  have H3 := Lib.hid h3
  clear h3 x1
  cases hB : bookB l
  · have HN : Hid (mergedL l (selP p) = []) := by simp [Hid, mergedL, hB]
    go_enter Tryz.func54, Tryz.ntmps54
    go_wp2_with (go_at_call 34; refine (Book_any _ l _ H1.out).mono ?_; rintro e w1 ⟨rfl, hb1⟩)
    go_ret
    exact ⟨_, rfl, by rw [HN.out]; exact Own.nil _ _ _ _, hb1⟩
  have HN : Hid (mergedL l (selP p) = mergeL (selLns (selP p) l)) := by simp [Hid, mergedL, hB]
  have hlen := book_len hB
  go_enter Tryz.func54, Tryz.ntmps54
  go_wp2_with (go_at_call 34; refine (Book_any _ l _ H1.out).mono ?_; rintro e w1 ⟨rfl, hb1⟩)
  go_loopw [5, 15] (fun t i wr => ∃ k : Nat, k ≤ l.length ∧ i = .int .i64 k ∧ Own wr w.heap.size 51 3 t (lns (selLns (selP p) (l.take k))) ∧ Below w.heap.size w wr) (fun _ i _ => l.length - (intOf i).toNat)
  case atStart => exact ⟨0, by omega, rfl, Own.nil _ _ _ _, hb1⟩
  case round =>
    obtain ⟨k, hk, rfl, hown, hb⟩ := hrel
    by_cases hlt : k < l.length
    · rcases H3.out with h | ⟨b, off, rfl, hc0⟩
      · exact (psts_pos hlt h).elim
      · obtain ⟨c0, c1, c2, c3, c4, c5⟩ := (hc0.below hb hc0.1).pst hlt
        have hbs := hb.size
        have hsn := Lib.hid (selLns_snoc (selP p) l k hlt)
        have hul := selLns_len (selP p) l k
        clear H3 hc0 H1
        cases e1 : (selP p) l[k]
        · have hN : Hid (selLns (selP p) (l.take k) = selLns (selP p) (l.take (k + 1))) := by rw [Hid, hsn.out, e1]; simp
          go_wp2_with (go_at_call 55; refine (closP l[k] a2 p _ ((World.cell?_alloc_lt _ _ _ (by omega)).trans ((hb.cell b2).trans q2)) (by simp; omega)).mono ?_; rintro e w2 ⟨rfl, hb2⟩; obtain ⟨hc, hf⟩ := bcell hb2; rw [e1])
          go_roundw
          case rel => exact ⟨k + 1, by omega, by go_num, by rw [← hN.out]; exact (hown.alloc _).kept hb2, (hb.alloc hbs _).trans (hb2.mono (by simp; omega))⟩
          case measure => simp [intOf]; omega
        · have hN : Hid (selLns (selP p) (l.take (k + 1)) = selLns (selP p) (l.take k) ++ [l[k].ln]) := by rw [Hid, hsn.out, e1]; simp
          have hB2 : ∀ w2, Below (wr.heap.size + 1) (wr.alloc (.cells #[.int .i64 l[k].run, .int .i64 l[k].emp, .int .i64 l[k].per, .int .i64 l[k].ln.kind, .string l[k].ln.code, .int .i64 l[k].ln.amt] 53)) w2 → Below w.heap.size w w2 := fun w2 h => (hb.alloc hbs _).trans (h.mono (by omega))
          go_wp2_with (first
            | (go_at_call 55; refine (closP l[k] a2 p _ ((World.cell?_alloc_lt _ _ _ (by omega)).trans ((hb.cell b2).trans q2)) (by simp; omega)).mono ?_; rintro e w2 ⟨rfl, hb2⟩; obtain ⟨hc, hf⟩ := bcell hb2; have hs2 : wr.heap.size + 1 ≤ w2.heap.size := (by have := hb2.size; simpa using this); have hb3 : Below w.heap.size w w2 := (hb.alloc hbs _).trans (hb2.mono (by simp; omega)); have hown3 := (hown.alloc _).kept hb2; rw [e1])
            | (at_builtin; refine wpList_append_sl rfl (.tmp 22) (.tmp 25) rfl rowLn w.heap.size _ _ _ (lns [l[k].ln]) rfl (hown3.alloc _) rfl (Sl.one rfl rfl) (lns_wide _) (by rw [lns_len, lns_len]; unfold maxLen; simp; omega) (by rw [lns_len, lns_len]; simp; omega) (by simp; omega) ?_; intro v4 w4 hown4 hg4 _; have hb4 := Own.grown (hown3.alloc _) (hb3.alloc (by omega) _) hg4 (by simp; omega); rw [← lns_append, ← hN.out] at hown4))
          go_roundw
          case rel => exact ⟨k + 1, by omega, by go_num, hown4, hb4⟩
          case measure => simp [intOf]; omega
    · obtain rfl : k = l.length := by omega
      rw [List.take_length] at hown
      cases hE : (mergeE (selLns (selP p) l) != 0)
      · go_wp2_with (go_at_call 56; refine (Merge_any _ _ _ (hown.sl (by omega))).mono ?_; rintro e w2 ⟨x, rfl, hown2, hb2⟩)
        go_ret
        exact ⟨_, rfl, by rw [HN.out]; exact hown2.more hb.size, below_after hb hb2 hb.size⟩
      · have HZ : Hid (mergeL (selLns (selP p) l) = []) := by rw [Hid, mergeL, if_neg (by simpa using hE)]
        go_wp2_with (go_at_call 56; refine (Merge_any _ _ _ (hown.sl (by omega))).mono ?_; rintro e w2 ⟨x, rfl, hown2, hb2⟩)
        go_ret
        exact ⟨_, rfl, by rw [HN.out, HZ.out]; exact Own.nil _ _ _ _, below_after hb hb2 hb.size⟩

def resultL (l : List Pst) (n p : Int) : List Ln := mergedL l (selEP n p)
def periodL (l : List Pst) (p : Int) : List Ln := mergedL l (selP p)
theorem Period_any (v : Value) (l : List Pst) (p : Int) (w : World) (hv : Sl w 6 v (psts l)) :
    Calls Tryz.prog 38 #[v, .int .i64 p] w (RetOwn w 51 3 (lns (periodL l p))) := by
  have HV := Lib.hid hv
  clear hv
  go_enter Tryz.func38, Tryz.ntmps38
  go_wp2_with (go_at_call 54; refine (mergedP_any v l p _ _ (HV.out.below ((Below.refl _ _).alloc (Nat.le_refl _) _)) ?_ ?_).mono ?_; (simp [go_sem]); (simp); rintro e w1 ⟨x, rfl, hown, hb⟩)
  go_ret
  exact ⟨_, rfl, hown.more (by simp), ((Below.refl _ _).alloc (Nat.le_refl _) _).trans (hb.mono (by simp))⟩

end Go.Proofs.YtjbhabfflcbebaaGreat
