/- BookLimits: the walk. -/
import Derived.Test.YtlchelgibilacaaAwk
import Derived.Test.YtlchelgibilacaaSet
import Derived.Test.YtlchelgibilacaaGen1
import Derived.BigRegion
namespace Go.Proofs.Ytlchelgibilacaa
open Go.RowKit

def zeroP : Pst := ⟨0, 0, 0, ⟨0, ⟨#[]⟩, 0⟩⟩
/-- a list of k postings, the first i of which are made -/
def limL (k i : Nat) : List Pst := List.replicate i (payP 1 1) ++ List.replicate (k - i) zeroP
theorem limL_len {k i : Nat} (h : i ≤ k) : (limL k i).length = k := by simp [limL]; omega
theorem limL_step {k i : Nat} (h : i < k) : (limL k i).set i (payP 1 1) = limL k (i + 1) := by
  unfold limL
  rw [List.set_append_right _ _ (by simp), List.length_replicate, Nat.sub_self, show k - i = (k - (i + 1)) + 1 by omega, List.replicate_succ, List.set_cons_zero, List.replicate_succ', List.append_assoc]; rfl
theorem Own.pstE {w : World} {base e g n cap : Nat} {l : List Pst} (h : Own w base e 6 (.slice (some ⟨g, 0, none⟩) n cap) (psts l)) {k : Nat} (hk : k < l.length) :
    w.cell? ⟨g, k * 6, none⟩ = some (.int .i64 (l[k]).run) ∧ w.cell? ⟨g, k * 6 + 1, none⟩ = some (.int .i64 (l[k]).emp) ∧ w.cell? ⟨g, k * 6 + 2, none⟩ = some (.int .i64 (l[k]).per) ∧
    w.cell? ⟨g, k * 6 + 3, none⟩ = some (.int .i64 (l[k]).ln.kind) ∧ w.cell? ⟨g, k * 6 + 4, none⟩ = some (.string (l[k]).ln.code) ∧ w.cell? ⟨g, k * 6 + 5, none⟩ = some (.int .i64 (l[k]).ln.amt) :=
  ⟨h.cellE (by omega) (psts_at hk) (j := 0) rfl, h.cellE (by omega) (psts_at hk) (j := 1) rfl, h.cellE (by omega) (psts_at hk) (j := 2) rfl, h.cellE (by omega) (psts_at hk) (j := 3) rfl, h.cellE (by omega) (psts_at hk) (j := 4) rfl, h.cellE (by omega) (psts_at hk) (j := 5) rfl⟩
theorem psts_set (l : List Pst) (i : Nat) (x : Pst) : (psts l).set i x.vals = psts (l.set i x) := by simp [psts, List.map_set]

theorem asc_rep (k : Nat) : ascB (List.replicate k (payP 1 1)) = true := by
  rw [ascB_iff]; intro j hj; simp
theorem valid_rep (k : Nat) : validsB (List.replicate k (payP 1 1)) = true := by
  rw [validsB, List.all_eq_true]
  intro x hx
  rw [(List.mem_replicate.1 hx).2]; kernel_rfl
theorem book_rep (k : Nat) : bookB (List.replicate k (payP 1 1)) = decide (k ≤ 65536) := by
  rw [bookB, asc_rep, valid_rep]; simp
theorem net_rep (k : Nat) : netSum 1 (List.replicate k (payP 1 1)) = k := by
  unfold netSum
  induction k with
  | zero => rfl
  | succ k ih =>
    rw [List.replicate_succ, List.map_cons, List.sum_cons, ih]
    have : netOf 1 (payP 1 1) = 1 := by kernel_rfl
    rw [this]; omega
theorem limL_full (k : Nat) : limL k k = List.replicate k (payP 1 1) := by simp [limL]
theorem add_rep {k : Nat} (h1 : 65535 ≤ k) (h2 : k ≤ 65537) : addE (List.replicate (k / 2) (payP 1 1)) (List.replicate (k - k / 2) (payP 1 1)) = if k ≤ 65536 then 0 else 18 := by
  have hb : bookB (List.replicate (k / 2) (payP 1 1)) = true := by rw [book_rep]; simp; omega
  rw [addE, hb, valid_rep, List.replicate_append_replicate, asc_rep, List.length_replicate, List.length_replicate, show k / 2 + (k - k / 2) = k by omega]
  simp
theorem addL_rep {k : Nat} (h1 : 65535 ≤ k) (h2 : k ≤ 65536) : addL (List.replicate (k / 2) (payP 1 1)) (List.replicate (k - k / 2) (payP 1 1)) = List.replicate k (payP 1 1) := by
  rw [addL, add_rep h1 (by omega), if_pos h2, if_pos rfl, List.replicate_append_replicate, show k / 2 + (k - k / 2) = k by omega]
theorem psts_take (l : List Pst) (k : Nat) : (psts l).take k = psts (l.take k) := by simp [psts, List.map_take]
theorem psts_drop (l : List Pst) (k : Nat) : (psts l).drop k = psts (l.drop k) := by simp [psts, List.map_drop]
theorem made_zero (n : Nat) : (madeCells #[.int .i64 0, .int .i64 0, .int .i64 0, .int .i64 0, .string ⟨#[]⟩, .int .i64 0] (n * 6)).toList = (psts (limL n 0)).flatten := by
  have := made_flat #[.int .i64 0, .int .i64 0, .int .i64 0, .int .i64 0, .string ⟨#[]⟩, .int .i64 0] (by simp) (by simp [Value.oneCell']) n
  rw [show (#[Value.int .i64 0, .int .i64 0, .int .i64 0, .int .i64 0, .string ⟨#[]⟩, .int .i64 0] : Array Value).size = 6 from rfl] at this
  rw [this]
  simp [limL, psts, zeroP, Pst.vals]

set_option maxRecDepth 100000 in
set_option maxHeartbeats 3200000 in
theorem BookLimits_any (n r : Int) (w : World) : Calls Try.prog 3 #[.int .i64 n, .int .i64 r] w fun e w' => e = .returned (.bool true) ∧ Below w.heap.size w w' := by
  obtain ⟨k, hk⟩ : ∃ k : Nat, (k : Int) = 65535 + n % 3 := ⟨(65535 + n % 3).toNat, by omega⟩
  have hk1 : 65535 ≤ k := by omega
  have hk2 : k ≤ 65537 := by omega
  have HK := Lib.hid hk
  clear hk
  obtain ⟨i0, hi0, hz0, hs0, hby0⟩ := info_parts (show (Try.prog.info? 27).map (fun i => (i.zero, i.size, i.bytes)) = some (some (.agg #[.int .i64 0, .int .i64 0, .int .i64 0, .int .i64 0, .string ⟨#[]⟩, .int .i64 0]), 6, 56) by kernel_rfl)
  have Hi := Lib.hid hi0; have Hz := Lib.hid hz0; have Hs := Lib.hid hs0; have Hby := Lib.hid hby0
  clear hi0 hz0 hs0 hby0
  have hm1 : 0 ≤ n % 3 := by omega
  have hm2 : n % 3 ≤ 2 := by omega
  go_enter Try.func3, Try.ntmps3
  go_wp2_with fail
  refine (Mod_any _ _ _ (by omega) (by omega)).mono ?_
  rintro e w1 ⟨rfl, rfl⟩
  go_wp2_with (at_make; refine wpList_make_full _ rfl _ _ 23 rfl w.heap.size 27 i0 _ 6 rowPst.ht Hi.out Hz.out Hs.out .i64 .i64 _ _ k rfl rfl HK.out.symm HK.out.symm (by rw [Hby.out]; omega) (by unfold maxLen; omega) (Nat.le_refl _) ?_; intro w3 hown3 hg3)
  have hown0 : Own w3 w.heap.size 27 6 (.slice (some ⟨w.heap.size, 0, none⟩) k k) (psts (limL k 0)) := by
    have hl : (psts (limL k 0)).length = k := by rw [psts_len, limL_len (by omega)]
    refine ⟨?_, psts_wide _⟩
    rw [hl, ← made_zero]; exact hown3
  have hb0 : Below w.heap.size w w3 := (Below.refl _ _).grown hg3 (Nat.le_refl _) (by simp)
  clear hown3 hg3
  rw [← HK.out]
  clear hm1 hm2 HK
  go_loopw [7] (fun t wr => ∃ i : Nat, i ≤ k ∧ t = .int .i64 i ∧ Own wr w.heap.size 27 6 (.slice (some ⟨w.heap.size, 0, none⟩) k k) (psts (limL k i)) ∧ Below w.heap.size w wr) (fun t _ => k - (intOf t).toNat)
  case atStart => exact ⟨0, by omega, rfl, hown0, hb0⟩
  case round =>
    obtain ⟨i, hi, rfl, hown, hb⟩ := hrel
    clear hown0 hb0
    by_cases hlt : i < k
    · have hlen := limL_len hi
      have hbs := hb.size
      go_wp2_with fail
      refine (pay_any _ _ _).mono ?_
      rintro e w2 ⟨rfl, hb2⟩
      have hown2 := hown.kept hb2
      obtain ⟨c0, c1, c2, c3, c4, c5⟩ := hown2.pstE (k := i) (by omega)
      have f0 := hown2.frozenE (i * 6)
      have f1 := hown2.frozenE (i * 6 + 1)
      have f2 := hown2.frozenE (i * 6 + 2)
      have f3 := hown2.frozenE (i * 6 + 3)
      have f4 := hown2.frozenE (i * 6 + 4)
      have f5 := hown2.frozenE (i * 6 + 5)
      have hst := hown2.store (by omega) i (by rw [psts_len]; omega) (payP 1 1).vals rfl (by simp [Pst.vals, Value.oneCell'])
      rw [psts_set, limL_step hlt] at hst
      obtain ⟨hst1, hst2⟩ := hst
      have hb3 := (below_after hb hb2 hbs).grown hst2 (Nat.le_trans hbs hb2.size) (fun k hk => by injection hk; omega)
      have HS1 := Lib.hid hst1
      have HB3 := Lib.hid hb3
      clear hst1 hst2 hb3
      go_wp2
      go_roundw
      case rel => exact ⟨i + 1, by omega, by go_num, HS1.out, HB3.out⟩
      case measure => simp [intOf]; omega
    · obtain rfl : i = k := by omega
      rw [limL_full] at hown
      have hbs := hb.size
      have hS := hown.sl (by omega)
      have hS1 := hS.take (i / 2) (by omega) i (by omega) (by unfold maxLen; omega)
      have hS2 := hS.drop (i / 2) (by omega)
      rw [psts_take, List.take_replicate, Nat.min_eq_left (by omega)] at hS1
      rw [psts_drop, List.drop_replicate, Nat.zero_add] at hS2
      have HS := Lib.hid hS; have HS1 := Lib.hid hS1; have HS2 := Lib.hid hS2
      clear hS hS1 hS2
      go_wp2_with fail
      obtain ⟨h, hh⟩ : ∃ h : Nat, h = i / 2 := ⟨_, rfl⟩
      rw [show (i : Int) / 2 = (h : Int) by omega]
      have q1 : h ≤ i := by omega
      have q2 : ¬ i = h := by omega
      have HH := Lib.hid hh
      rw [← hh] at HS1 HS2
      clear hh
      have hA1 := Lib.hid (add_rep hk1 hk2)
      rw [← HH.out] at hA1
      have hS1d : Sl wr.drew 6 (.slice (some ⟨w.heap.size, 0, none⟩) h i) (psts (List.replicate h (payP 1 1))) := HS1.out
      have hS2d : Sl wr.drew 6 (.slice (some ⟨w.heap.size, h * 6, none⟩) (i - h) (i - h)) (psts (List.replicate (i - h) (payP 1 1))) := HS2.out
      have HADD := Lib.hid (Add_any _ _ _ _ wr.drew hS1d hS2d (by rw [List.length_replicate]; omega))
      clear hS1d hS2d HS1 HS2
      go_region_with ((go_at_call 12; refine HADD.out.mono ?_; rintro e w3 ⟨x, rfl, hown3, hb3⟩))
      have hB3 : Below w.heap.size w w3 := (Below.draws hb 1).trans (hb3.mono hbs)
      have hSL : Sl w3 6 (.slice (some ⟨w.heap.size, 0, none⟩) i i) (psts (List.replicate i (payP 1 1))) := HS.out.below (w' := w3) ⟨hb3.os, hb3.tape, hb3.output, hb3.size, hb3.block⟩
      have hs3 := hB3.size
      rw [hA1.out]
      have HOWN := Lib.hid hown3
      clear hown3 hb3 HADD hown hb
      by_cases hle : i ≤ 65536
      · have hbk : bookB (List.replicate i (payP 1 1)) = true := by rw [book_rep]; simpa using hle
        have hnt : netL (List.replicate i (payP 1 1)) 1 = i := by rw [netL, hbk, if_pos rfl, net_rep]
        have hO := HOWN.out
        rw [HH.out, addL_rep hk1 hle] at hO
        obtain ⟨A5, cap5, rfl⟩ := hO.form
        rw [psts_len, List.length_replicate] at hO
        have hSO := hO.sl (by omega)
        have HBK := Lib.hid hbk; have HNT := Lib.hid hnt; have HSO := Lib.hid hSO; have HSL := Lib.hid hSL
        clear hbk hnt hSO hSL hO HOWN hA1 HH
        rw [if_pos hle, psts_len, List.length_replicate]
        have d1 : decide ((i : Int) ≤ 65536) = true := by simp; omega
        have d2 : decide ((65536 : Int) < (i : Int)) = false := by simp; omega
        go_wp2_with (first
          | (go_at_call 13; refine (Book_any _ (List.replicate i (payP 1 1)) _ HSL.out).mono ?_; rintro e w4 ⟨rfl, hb4⟩; rw [HBK.out])
          | (go_at_call 14; refine (Net_any _ (List.replicate i (payP 1 1)) 1 _ (HSO.out.below hb4)).mono ?_; rintro e w5 ⟨rfl, hb5⟩; rw [HNT.out])
          | (go_at_call 15; refine (awake_any _).mono ?_; rintro e w6 ⟨rfl, hb6⟩))
        go_ret
        exact ⟨rfl, below_after (below_after (below_after hB3 hb4 hs3) hb5 (Nat.le_trans hs3 hb4.size)) hb6 (Nat.le_trans (Nat.le_trans hs3 hb4.size) hb5.size)⟩
      · have hbk : bookB (List.replicate i (payP 1 1)) = false := by rw [book_rep]; simpa using hle
        have hnt : netL (List.replicate i (payP 1 1)) 1 = 0 := by rw [netL, hbk]; rfl
        have hO := HOWN.out
        have hE := hA1.out
        rw [if_neg hle] at hE
        rw [addL, hE, if_neg (by decide)] at hO
        obtain ⟨A5, cap5, rfl⟩ := hO.form
        have HBK := Lib.hid hbk; have HNT := Lib.hid hnt; have HSL := Lib.hid hSL
        clear hbk hnt hSL hO HOWN hA1 HH hE
        rw [if_neg hle, psts_len, List.length_nil]
        have d1 : decide ((i : Int) ≤ 65536) = false := by simp; omega
        have d2 : decide ((65536 : Int) < (i : Int)) = true := by simp; omega
        go_wp2_with (first
          | (go_at_call 13; refine (Book_any _ (List.replicate i (payP 1 1)) _ HSL.out).mono ?_; rintro e w4 ⟨rfl, hb4⟩; rw [HBK.out])
          | (go_at_call 14; refine (Net_any _ (List.replicate i (payP 1 1)) 1 _ (HSL.out.below hb4)).mono ?_; rintro e w5 ⟨rfl, hb5⟩; rw [HNT.out])
          | (go_at_call 15; refine (awake_any _).mono ?_; rintro e w6 ⟨rfl, hb6⟩))
        go_ret
        exact ⟨rfl, below_after (below_after (below_after hB3 hb4 hs3) hb5 (Nat.le_trans hs3 hb4.size)) hb6 (Nat.le_trans (Nat.le_trans hs3 hb4.size) hb5.size)⟩

end Go.Proofs.Ytlchelgibilacaa
