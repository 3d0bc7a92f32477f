/- Contract of payrollref34.Merge. -/
import Derived.Test.YtljhdkdabiemmaaDoorTrim
namespace Go.Proofs.YtljhdkdabiemmaaDoor
open Go.RowKit

set_option maxRecDepth 100000 in
set_option maxHeartbeats 1600000 in
theorem refMerge_any (v : Value) (l : List Ln) (w : World) (hv : Sl w 3 v (lns l)) :
    Calls Tryd.prog 19 #[v] w (RetOwn2 w 25 3 (lns (mergeL l)) (mergeE l)) := by
  obtain ⟨A, cap, rfl, h1, h2, x1, h3⟩ := hv
  rw [lns_len] at h1 ⊢
  unfold maxLen at h2
  have H3 := Lib.hid h3
  clear h3 x1
  by_cases hn : l.length ≤ 65536
  rotate_left
  · have HE : Hid (mergeE l = 3) := by rw [Hid, mergeE, if_neg hn]
    have HL : Hid (mergeL l = []) := by rw [Hid, mergeL, HE.out]; rfl
    go_enter Tryd.func19, Tryd.ntmps19
    go_wp2
    go_ret2
    exact ⟨_, tup_int HE.out.symm, by rw [HL.out]; exact Own.nil _ _ _ _, Below.refl _ _⟩
  have dl : decide ((65536 : Int) < (l.length : Int)) = false := decide_eq_false (by omega)
  go_enter Tryd.func19, Tryd.ntmps19
  go_wp2_with fail
  go_loopw [4, 5] (fun t i wr => ∃ k : Nat, k ≤ l.length ∧ i = .int .i64 k ∧ Own wr w.heap.size 25 3 t (lns (putsR (l.take k))) ∧ Below w.heap.size w wr ∧ Hid ((l.take k).all formedB = true)) (fun _ i _ => l.length - (intOf i).toNat)
  case atStart => exact ⟨0, by omega, rfl, Own.nil _ _ _ _, Below.refl _ _, rfl⟩
  case round =>
    obtain ⟨k, hk, rfl, hown, hb, HF⟩ := hrel
    have hbs := hb.size
    by_cases hlt : k < l.length
    · rcases H3.out with h | ⟨b, off, rfl, hc0⟩
      · exact (lns_pos hlt h).elim
      · obtain ⟨c0, c1, c2⟩ := (hc0.below hb hc0.1).ln hlt
        have hbl : b < wr.heap.size := Nat.lt_of_lt_of_le hc0.1 hbs
        cases hr : formedB l[k]
        · have HE : Hid (mergeE l = 1) := by
            have : l.all formedB = false := by rw [List.all_eq_false]; exact ⟨l[k], List.getElem_mem hlt, by simp [hr]⟩
            rw [Hid, mergeE, if_pos hn, this]; rfl
          have HL : Hid (mergeL l = []) := by rw [Hid, mergeL, HE.out]; rfl
          clear H3 hc0
          go_wp2_with (go_at_call 29; refine (refForm32_any _ _).mono ?_; rintro e w2 ⟨rfl, hb2⟩; rw [hr])
          go_ret2
          exact ⟨_, tup_int HE.out.symm, by rw [HL.out]; exact Own.nil _ _ _ _, below_after hb hb2 hbs⟩
        · have HF2 : Hid ((l.take (k + 1)).all formedB = true) := by
            rw [Hid, List.take_succ_eq_append_getElem hlt, List.all_append, HF.out]; simp [hr]
          have hfa := formed_amt hr
          have hpl := puts_len l k
          have hpa : ∀ a ∈ putsR (l.take k), -1000000000000000000 ≤ a.amt ∧ a.amt ≤ 1000000000000000000 := by
            have := puts_amt (l := l.take k) HF.out (by rw [List.length_take]; omega) k
            rwa [List.take_take, Nat.min_self] at this
          have HPA := Lib.hid hpa
          have HSN := Lib.hid (putsR_snoc l k hlt)
          clear H3 hpa
          have hf2 : ∀ w2, Below wr.heap.size wr w2 → w2.cell? ⟨b, off + k * 3, none⟩ = some (.int .i64 l[k].kind) ∧ w2.cell? ⟨b, off + k * 3 + 1, none⟩ = some (.string l[k].code) ∧ w2.cell? ⟨b, off + k * 3 + 2, none⟩ = some (.int .i64 l[k].amt) := fun w2 h => ((hc0.below hb hc0.1).below h hbl).ln hlt
          have HF3 := Lib.hid hf2
          clear hf2 hc0
          go_wp2_with (go_at_call 29; refine (refForm32_any _ _).mono ?_; rintro e w2 ⟨rfl, hb2⟩; rw [hr]; obtain ⟨g0, g1, g2⟩ := HF3.out w2 hb2; have hB2 := below_after hb hb2 hbs; have hs2 := hB2.size; have hown2 := hown.kept hb2)
          refine (put_any _ _ l[k] _ (hown2.sl (by omega)) (by omega) (by omega) HPA.out).mono ?_
          rintro e w3 ⟨y, rfl, hown3, hb3⟩
          rw [← HSN.out] at hown3
          have hB3 := below_after hB2 hb3 hs2
          go_wp2_with fail
          go_roundw
          case rel => exact ⟨k + 1, by omega, by go_num, hown3.more hs2, hB3, HF2⟩
          case measure => simp [intOf]; omega
    · obtain rfl : k = l.length := by omega
      have hF := HF.out
      have hst := puts_strict l l.length
      have hsu := sumT_puts l l.length
      have hpl := puts_len l l.length
      rw [List.take_length] at hown hF hst hsu hpl
      obtain ⟨ht1, ht2⟩ := trim_is hst hsu
      have HTL := Lib.hid ht2
      cases hB : trimB (putsR l)
      · have HE : Hid (mergeE l = 4) := by
          have hne : ¬ colE (sumsT l) = 0 := fun h => by rw [ht1.2 h] at hB; cases hB
          have hc : colE (sumsT l) = 4 := by
            unfold colE at hne ⊢
            split
            · rename_i hh; rw [if_pos hh] at hne; exact absurd rfl hne
            · rfl
          rw [Hid, mergeE, if_pos hn, if_pos hF, hc]
        have HL : Hid (mergeL l = []) := by rw [Hid, mergeL, HE.out]; rfl
        clear ht1 ht2 hF hst hsu H3 HTL
        go_wp2_with fail
        refine (trim_any _ _ _ (hown.sl (by omega)) (by omega)).mono ?_
        rintro e w2 ⟨y, rfl, hown2, hb2⟩
        rw [hB]
        go_wp2_with fail
        go_ret2
        exact ⟨_, tup_int HE.out.symm, by rw [HL.out]; exact Own.nil _ _ _ _, below_after hb hb2 hbs⟩
      · have hc0 := ht1.1 hB
        have HE : Hid (mergeE l = 0) := by rw [Hid, mergeE, if_pos hn, if_pos hF, hc0]
        have HL : Hid (mergeL l = trimL (putsR l)) := by
          rw [Hid, mergeL, HE.out, if_pos rfl, colL, if_pos hc0, trimL, hB, if_pos rfl, HTL.out]; rfl
        clear ht1 ht2 hF hst hsu H3 HTL hc0
        go_wp2_with fail
        refine (trim_any _ _ _ (hown.sl (by omega)) (by omega)).mono ?_
        rintro e w2 ⟨y, rfl, hown2, hb2⟩
        rw [hB]
        go_wp2_with fail
        go_ret2
        exact ⟨_, tup_int HE.out.symm, by rw [HL.out]; exact hown2.more hbs, below_after hb hb2 hbs⟩
end Go.Proofs.YtljhdkdabiemmaaDoor
