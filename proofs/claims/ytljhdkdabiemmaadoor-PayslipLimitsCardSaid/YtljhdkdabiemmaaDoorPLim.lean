/- The law PayslipLimits: it returns true. -/
import Derived.Test.YtljhdkdabiemmaaDoorAwk34
import Derived.Test.YtljhdkdabiemmaaDoorGen1
import Derived.Test.YtljhdkdabiemmaaDoorSet
namespace Go.Proofs.YtljhdkdabiemmaaDoor
open Go.RowKit

def oneL : Ln := ⟨6, ⟨#[]⟩, 1⟩
def zeroLn : Ln := ⟨0, ⟨#[]⟩, 0⟩
def limN (k i : Nat) : List Ln := List.replicate i oneL ++ List.replicate (k - i) zeroLn
theorem limN_len {k i : Nat} (h : i ≤ k) : (limN k i).length = k := by simp [limN]; omega
theorem limN_step {k i : Nat} (h : i < k) : (limN k i).set i oneL = limN k (i + 1) := by
  unfold limN
  rw [List.set_append_right _ _ (by simp)]
  simp only [List.length_replicate, Nat.sub_self]
  rw [show k - i = (k - (i + 1)) + 1 by omega, List.replicate_succ, List.set_cons_zero, List.replicate_succ' (n := i)]
  simp
theorem limN_full (k : Nat) : limN k k = List.replicate k oneL := by simp [limN]
theorem lns_set (l : List Ln) (i : Nat) (x : Ln) : (lns l).set i x.vals = lns (l.set i x) := by simp [lns, List.map_set]
theorem Own.lnE {w : World} {base e g n cap : Nat} {l : List Ln} (h : Own w base e 3 (.slice (Option.some ⟨g, 0, none⟩) n cap) (lns l)) {k : Nat} (hk : k < l.length) :
    w.cell? ⟨g, k * 3, none⟩ = Option.some (.int .i64 (l[k]).kind) ∧ w.cell? ⟨g, k * 3 + 1, none⟩ = Option.some (.string (l[k]).code) ∧ w.cell? ⟨g, k * 3 + 2, none⟩ = Option.some (.int .i64 (l[k]).amt) :=
  ⟨h.cellE (by omega) (lns_at hk) (j := 0) rfl, h.cellE (by omega) (lns_at hk) (j := 1) rfl, h.cellE (by omega) (lns_at hk) (j := 2) rfl⟩
theorem made_zeroL (n : Nat) : (madeCells #[.int .i64 0, .string ⟨#[]⟩, .int .i64 0] (n * 3)).toList = (lns (limN n 0)).flatten := by
  have := made_flat #[.int .i64 0, .string ⟨#[]⟩, .int .i64 0] (by simp) (by simp [Value.oneCell']) n
  rw [show (#[Value.int .i64 0, .string ⟨#[]⟩, .int .i64 0] : Array Value).size = 3 from rfl] at this
  rw [this]
  simp [limN, lns, zeroLn, Ln.vals]
theorem sum_rep (k : Nat) (i : Int) (c : ByteArray) : sumT (List.replicate k oneL) i c = if 6 = i ∧ (⟨#[]⟩ : ByteArray) = c then (k : Int) else 0 := by
  induction k with
  | zero => simp [sumT]
  | succ k ih =>
    rw [List.replicate_succ, sumT_cons, ih]
    show (if (6 : Int) = i ∧ (⟨#[]⟩ : ByteArray) = c then (1 : Int) else 0) + _ = _
    split <;> simp
    omega
theorem fine_rep {k : Nat} (h : k ≤ 65536) : Fine (List.replicate k oneL) := by
  refine ⟨by simpa using h, fun x hx => ?_, fun i c => ?_⟩
  · obtain rfl := List.eq_of_mem_replicate hx
    rfl
  · rw [sum_rep]
    simp only [totB, Bool.and_eq_true, decide_eq_true_eq]
    split <;> omega
theorem mrg_rep {k : Nat} (h : 1 ≤ k) : mrg (List.replicate k oneL) = [⟨6, ⟨#[]⟩, (k : Int)⟩] := by
  refine strict_unique (mrg_strict _) (List.pairwise_singleton _ _) fun x => ?_
  rw [mem_mrg, sum_rep, List.mem_singleton]
  constructor
  · rintro ⟨h0, h1⟩
    split at h1
    · rename_i hh
      obtain ⟨kd, cd, am⟩ := x
      obtain ⟨e1, e2⟩ := hh
      simp only at e1 e2 h1
      subst e1 e2 h1; rfl
    · exact absurd h1.symm h0
  · rintro rfl
    simp; omega
theorem lim_yes {k : Nat} (h1 : 1 ≤ k) (h2 : k ≤ 65536) : mergeE (List.replicate k oneL) = 0 ∧ mergeL (List.replicate k oneL) = [⟨6, ⟨#[]⟩, (k : Int)⟩] ∧ cmpE [] (List.replicate k oneL) = 0 ∧ cmpR [] (List.replicate k oneL) = [⟨6, ⟨#[]⟩, (k : Int)⟩] := by
  have hf := fine_rep h2
  have e1 := hf.err
  have e2 := hf.merge
  rw [mrg_rep h1] at e2
  have e0 : mergeE [] = 0 := by kernel_rfl
  have e00 : mergeL [] = [] := by kernel_rfl
  have hd : diffT [] [⟨6, ⟨#[]⟩, (k : Int)⟩] = [⟨6, ⟨#[]⟩, (k : Int)⟩] := by
    simp [diffT, negL, sumsT, addT, putT, amtT, findT]
  have hc : colE [⟨6, ⟨#[]⟩, (k : Int)⟩] = 0 := by
    rw [colE, if_pos]
    simp [totB]; omega
  have hl : colL [⟨6, ⟨#[]⟩, (k : Int)⟩] = [⟨6, ⟨#[]⟩, (k : Int)⟩] := by
    have hnz : nz ⟨6, ⟨#[]⟩, (k : Int)⟩ = true := by simp [nz]; omega
    rw [colL, if_pos hc]
    simp [hnz, srtLn, insLn]
  refine ⟨e1, e2, ?_, ?_⟩
  · rw [cmpE, if_pos e0, if_pos e1, e00, e2, hd, hc]
  · rw [cmpR, if_pos e0, if_pos e1, e00, e2, hd, hl]
theorem lim_no {k : Nat} (h : ¬ k ≤ 65536) : mergeE (List.replicate k oneL) = 3 ∧ mergeL (List.replicate k oneL) = [] ∧ cmpE [] (List.replicate k oneL) = 3 ∧ cmpR [] (List.replicate k oneL) = [] := by
  have e1 : mergeE (List.replicate k oneL) = 3 := by rw [mergeE, if_neg (by simpa using h)]
  have e0 : mergeE [] = 0 := by kernel_rfl
  have hne : ¬ mergeE (List.replicate k oneL) = 0 := by rw [e1]; omega
  refine ⟨e1, by rw [mergeL, if_neg hne], ?_, ?_⟩
  · rw [cmpE, if_pos e0, if_neg hne, e1]
  · rw [cmpR, if_pos e0, if_neg hne]
theorem own_oneL {w : World} {base : Nat} {v : Value} {x : Ln} (h : Own w base 25 3 v (lns [x])) : ∃ g cap, v = .slice (some ⟨g, 0, none⟩) 1 cap ∧ g < w.heap.size ∧ w.cell? ⟨g, 2, none⟩ = some (.int .i64 x.amt) := by
  have hs := h.sl (by omega)
  rcases h.1.2 with ⟨_, h0⟩ | ⟨g, cap, cur, rfl, hb, hg, _⟩
  · simp [lns] at h0
  · obtain ⟨A, c, he, _, _, _, hc⟩ := hs
    injection he with e1 e2 e3
    rcases hc with hc | ⟨b, off, hA, hc⟩
    · simp [lns] at hc
    · rw [← e1] at hA
      injection hA with hA
      injection hA with hA1 hA2
      subst hA1 hA2
      exact ⟨g, cap, rfl, hc.1, hc.2 0 _ rfl 2 _ rfl⟩

set_option maxRecDepth 100000 in
set_option maxHeartbeats 3200000 in
theorem PayslipLimits_any (n : Int) (w : World) (hT : Tabs w) (hW : Words w) : Calls Tryd.prog 3 #[.int .i64 n] w fun e w' => e = .returned (.bool true) ∧ Below w.heap.size w w' := by
  have HT := Lib.hid hT
  have HW := Lib.hid hW
  clear hT hW
  obtain ⟨k, hk⟩ : ∃ k : Nat, (k : Int) = 65535 + n % 3 := ⟨(65535 + n % 3).toNat, by omega⟩
  have hk1 : 65535 ≤ k := by omega
  have hk2 : k ≤ 65537 := by omega
  have HK := Lib.hid hk
  clear hk
  obtain ⟨i0, hi0, hz0, hs0, hby0⟩ := info_parts (show (Tryd.prog.info? 25).map (fun i => (i.zero, i.size, i.bytes)) = some (some (.agg #[.int .i64 0, .string ⟨#[]⟩, .int .i64 0]), 3, 32) by kernel_rfl)
  have Hi := Lib.hid hi0; have Hz := Lib.hid hz0; have Hs := Lib.hid hs0; have Hby := Lib.hid hby0
  clear hi0 hz0 hs0 hby0
  have hm1 : 0 ≤ n % 3 := by omega
  have hm2 : n % 3 ≤ 2 := by omega
  go_enter Tryd.func3, Tryd.ntmps3
  go_wp2_with fail
  refine (Mod_any _ _ _ (by omega) (by omega)).mono ?_
  rintro e w1 ⟨rfl, rfl⟩
  go_wp2_with (at_make; refine wpList_make_full _ rfl _ _ 23 rfl w.heap.size 25 i0 _ 3 rowLn.ht Hi.out Hz.out Hs.out .i64 .i64 _ _ k rfl rfl HK.out.symm HK.out.symm (by rw [Hby.out]; omega) (by unfold maxLen; omega) (Nat.le_refl _) ?_; intro w3 hown3 hg3)
  have hown0 : Own w3 w.heap.size 25 3 (.slice (some ⟨w.heap.size, 0, none⟩) k k) (lns (limN k 0)) := by
    have hl : (lns (limN k 0)).length = k := by rw [lns_len, limN_len (by omega)]
    refine ⟨?_, lns_wide _⟩
    rw [hl, ← made_zeroL]; exact hown3
  have hb0 : Below w.heap.size w w3 := (Below.refl _ _).grown hg3 (Nat.le_refl _) (by simp)
  clear hown3 hg3
  rw [← HK.out]
  clear hm1 hm2 HK
  go_loopw [5] (fun t wr => ∃ i : Nat, i ≤ k ∧ t = .int .i64 i ∧ Own wr w.heap.size 25 3 (.slice (some ⟨w.heap.size, 0, none⟩) k k) (lns (limN k i)) ∧ Below w.heap.size w wr) (fun t _ => k - (intOf t).toNat)
  case atStart => exact ⟨0, by omega, rfl, hown0, hb0⟩
  case round =>
    obtain ⟨i, hi, rfl, hown, hb⟩ := hrel
    clear hown0 hb0
    by_cases hlt : i < k
    · have hlen := limN_len hi
      have hbs := hb.size
      obtain ⟨c0, c1, c2⟩ := hown.lnE (k := i) (by omega)
      have f0 := hown.frozenE (i * 3)
      have f1 := hown.frozenE (i * 3 + 1)
      have f2 := hown.frozenE (i * 3 + 2)
      have hst := hown.store (by omega) i (by rw [lns_len]; omega) oneL.vals rfl (by simp [Ln.vals, Value.oneCell'])
      rw [lns_set, limN_step hlt] at hst
      obtain ⟨hst1, hst2⟩ := hst
      have hb3 := hb.grown hst2 hbs (fun k hk => by injection hk; omega)
      have HS1 := Lib.hid hst1
      have HB3 := Lib.hid hb3
      clear hst1 hst2 hb3
      go_wp2
      go_roundw
      case rel => exact ⟨i + 1, by omega, by go_num, HS1.out, HB3.out⟩
      case measure => simp [intOf]; omega
    · obtain rfl : i = k := by omega
      rw [limN_full] at hown
      have hbs := hb.size
      have HS := Lib.hid (hown.sl (by omega))
      clear hown
      go_wp2_with fail
      refine (Merge_any _ _ _ HS.out).mono ?_
      rintro e w4 ⟨x, rfl, hown4, hb4⟩
      have hB4 := below_after hb hb4 hbs
      have hs4 := hB4.size
      have HS4 := Lib.hid (HS.out.below hb4)
      clear hb4 hb HS
      by_cases hle : i ≤ 65536
      · obtain ⟨e1, e2, e3, e4⟩ := lim_yes (k := i) (by omega) hle
        rw [e1]
        rw [e2] at hown4
        have E3 := Lib.hid e3
        have E4 := Lib.hid e4
        clear e1 e2 e3 e4
        obtain ⟨g, cap, rfl, hg, q1⟩ := own_oneL hown4
        clear hown4
        have d2 : decide ((65536 : Int) < (i : Int)) = false := by simp; omega
        go_wp2_with fail
        refine (Compare_any _ _ [] (List.replicate i oneL) w4 (Sl.nil _ _) HS4.out).mono ?_
        rintro e w5 ⟨y, rfl, hown5, hb5⟩
        have hB5 := below_after hB4 hb5 hs4
        have hs5 := hB5.size
        rw [E3.out]
        rw [E4.out] at hown5
        obtain ⟨g2, cap2, rfl, hg2, q2⟩ := own_oneL hown5
        have r1 : w5.cell? ⟨g, 2, none⟩ = some (.int .i64 (i : Int)) := (hb5.cell (p := ⟨g, 2, none⟩) hg).trans q1
        clear hown5 hb5 q1 hB4
        go_wp2_with fail
        refine (awake34_any _ (HT.out.below hB5) (HW.out.below hB5)).mono ?_
        rintro e w6 ⟨rfl, hb6⟩
        go_wp2
        go_ret
        exact ⟨rfl, below_after hB5 hb6 hs5⟩
      · obtain ⟨e1, e2, e3, e4⟩ := lim_no (k := i) hle
        rw [e1]
        rw [e2] at hown4
        have E3 := Lib.hid e3
        have E4 := Lib.hid e4
        clear e1 e2 e3 e4
        obtain ⟨A, cap, rfl⟩ := hown4.form
        clear hown4
        have d2 : decide ((65536 : Int) < (i : Int)) = true := by simp; omega
        go_wp2_with fail
        refine (Compare_any _ _ [] (List.replicate i oneL) w4 (Sl.nil _ _) HS4.out).mono ?_
        rintro e w5 ⟨y, rfl, hown5, hb5⟩
        have hB5 := below_after hB4 hb5 hs4
        have hs5 := hB5.size
        rw [E3.out]
        rw [E4.out] at hown5
        obtain ⟨A2, cap2, rfl⟩ := hown5.form
        clear hown5 hb5 hB4
        rw [show (lns []).length = 0 from rfl]
        go_wp2_with fail
        refine (awake34_any _ (HT.out.below hB5) (HW.out.below hB5)).mono ?_
        rintro e w6 ⟨rfl, hb6⟩
        go_wp2
        go_ret
        exact ⟨rfl, below_after hB5 hb6 hs5⟩
end Go.Proofs.YtljhdkdabiemmaaDoor
