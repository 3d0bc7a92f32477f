/- The law RetroLimits: it returns true. -/
import Derived.Test.YtaafihdegnaokaaDoorBaA
import Derived.OwnWalk
namespace Go.Proofs.YtaafihdegnaokaaDoor
open Go.RowKit

theorem eqG (a b : Int) (w : World) : (binOp .eql 25 (.agg #[.int .i64 a, .int .i64 b]) (.agg #[.int .i64 a, .int .i64 b])).run Tryd.prog w = .ok (.bool true) w := by simp [go_sem]
theorem prs_setR (l : List (Int × Int)) (i : Nat) (p : Int × Int) : (prs l).set i (prV p) = prs (l.set i p) := by simp [prs, List.map_set]
theorem madeR (n : Nat) : (madeCells #[.int .i64 0, .int .i64 0] (n * 2)).toList = (prs (limR n 0)).flatten := by
  have := made_flat #[.int .i64 0, .int .i64 0] (by simp) (by simp [Value.oneCell']) n
  rw [show (#[Value.int .i64 0, .int .i64 0] : Array Value).size = 2 from rfl] at this
  rw [this]
  simp [limR, prs, prV]
/-- empty timelines, and one at the end -/
def lmX (j : Nat) (s : Value) : List (Value × List Chg) := List.replicate (j - 1) (.slice none 0 0, []) ++ [(s, [lmC])]
theorem lmX_snd (j : Nat) (s : Value) : (lmX j s).map (·.2) = lmL j := by simp [lmX, lmL]
theorem madeT (n : Nat) : (madeCells #[.slice none 0 0] (n * 1)).toList = (List.replicate n [Value.slice none 0 0]).flatten := by
  have := made_flat #[.slice none 0 0] (by simp) (by simp [Value.oneCell']) n
  rw [show (#[Value.slice none 0 0] : Array Value).size = 1 from rfl] at this
  rw [this]
theorem lmX_set {j : Nat} (h : 0 < j) (s : Value) : (List.replicate j [Value.slice none 0 0]).set (j - 1) [s] = (lmX j s).map fun x => [x.1] := by
  obtain ⟨n, rfl⟩ : ∃ n, j = n + 1 := ⟨j - 1, by omega⟩
  rw [Nat.add_sub_cancel, List.replicate_succ', List.set_append_right _ _ (by simp), List.length_replicate, Nat.sub_self]
  simp [lmX]
theorem lmX_len {j : Nat} (h : 0 < j) (s : Value) : (lmX j s).length = j := by simp [lmX]; omega
theorem lm_tls {w : World} {v s : Value} {j : Nat} (h : Sl w 1 v ((lmX j s).map fun x => [x.1])) (hs : Sl w 4 s (chgs [lmC])) : Tls w v (lmX j s) := ⟨h, fun x hx => by
  rcases List.mem_append.1 hx with hx | hx
  · rw [(List.mem_replicate.1 hx).2]; exact Sl.nil _ _
  · rw [List.mem_singleton.1 hx]; exact hs⟩
set_option maxRecDepth 100000 in
set_option maxHeartbeats 8000000 in
theorem RetroLimits_any (n m : Int) (w : World) (hT : LenT w) :
    Calls Tryd.prog 3 #[.int .i64 n, .int .i64 m] w fun e w' => e = .returned (.bool true) ∧ Below w.heap.size w w' := by
  have HT := Lib.hid hT
  clear hT
  obtain ⟨k, hk⟩ : ∃ k : Nat, (k : Int) = 1023 + n % 3 := ⟨(1023 + n % 3).toNat, by omega⟩
  obtain ⟨j, hj⟩ : ∃ j : Nat, (j : Int) = 63 + m % 3 := ⟨(63 + m % 3).toNat, by omega⟩
  have hk1 : 1023 ≤ k := by omega
  have hk2 : k ≤ 1025 := by omega
  have hj1 : 63 ≤ j := by omega
  have hj2 : j ≤ 65 := by omega
  have HK := Lib.hid hk
  have HJ := Lib.hid hj
  have hm1 : 0 ≤ n % 3 := by omega
  have hm2 : n % 3 ≤ 2 := by omega
  have hm3 : 0 ≤ m % 3 := by omega
  have hm4 : m % 3 ≤ 2 := by omega
  clear hk hj
  obtain ⟨i0, hi0, hz0, hs0, hby0⟩ := info_parts (show (Tryd.prog.info? 25).map (fun i => (i.zero, i.size, i.bytes)) = some (some (.agg #[.int .i64 0, .int .i64 0]), 2, 16) by kernel_rfl)
  have H0 : Hid (Tryd.prog.info? 25 = some i0 ∧ i0.zero = some (.agg #[.int .i64 0, .int .i64 0]) ∧ i0.size = 2 ∧ i0.bytes = 16) := ⟨hi0, hz0, hs0, hby0⟩
  clear hi0 hz0 hs0 hby0
  obtain ⟨i1, hi0, hz0, hs0, hby0⟩ := info_parts (show (Tryd.prog.info? 29).map (fun i => (i.zero, i.size, i.bytes)) = some (some (.slice none 0 0), 1, 24) by kernel_rfl)
  have H1 : Hid (Tryd.prog.info? 29 = some i1 ∧ i1.zero = some (.slice none 0 0) ∧ i1.size = 1 ∧ i1.bytes = 24) := ⟨hi0, hz0, hs0, hby0⟩
  clear hi0 hz0 hs0 hby0
  go_enter Tryd.func3, Tryd.ntmps3
  go_wp2_with fail
  refine (Mod_any _ _ _ (by omega) (by omega)).mono ?_
  rintro e w1 ⟨rfl, rfl⟩
  go_wp2_with fail
  refine (Mod_any _ _ _ (by omega) (by omega)).mono ?_
  rintro e w1 ⟨rfl, rfl⟩
  go_wp2_with (at_make; refine wpList_make_full _ rfl _ _ 23 rfl w.heap.size 25 i0 _ 2 rowRng.ht H0.out.1 H0.out.2.1 H0.out.2.2.1 .i64 .i64 _ _ k rfl rfl HK.out.symm HK.out.symm (by rw [H0.out.2.2.2]; omega) (by unfold maxLen; omega) (Nat.le_refl _) ?_; intro w3 hown3 hg3)
  have hown0 : Own w3 w.heap.size 25 2 (.slice (some ⟨w.heap.size, 0, none⟩) k k) (prs (limR k 0)) := by
    have hl : (prs (limR k 0)).length = k := by rw [prs_len, limR_len (by omega)]
    refine ⟨?_, prs_wide _⟩
    rw [hl, ← madeR]; exact hown3
  have HB0 : Hid (Below w.heap.size w w3) := (Below.refl _ _).grown hg3 (Nat.le_refl _) (by simp)
  have HO0 := Lib.hid hown0
  clear hown3 hg3 hown0
  rw [← HK.out]
  clear hm1 hm2
  obtain ⟨g, hg⟩ : ∃ g, w.heap.size = g := ⟨_, rfl⟩
  have HO1 : Hid (Own w3 w.heap.size 25 2 (.slice (some ⟨g, 0, none⟩) k k) (prs (limR k 0))) := by rw [← hg]; exact HO0.out
  have hgw : w.heap.size ≤ g := by omega
  rw [hg]
  clear HO0 hg
  go_loopw [8] (fun t wr => ∃ i : Nat, i ≤ k ∧ t = .int .i64 i ∧ Hid (Own wr w.heap.size 25 2 (.slice (some ⟨g, 0, none⟩) k k) (prs (limR k i)) ∧ Below w.heap.size w wr)) (fun t _ => k - (intOf t).toNat)
  case atStart => exact ⟨0, by omega, rfl, HO1.out, HB0.out⟩
  case round =>
    clear HO1 HB0
    obtain ⟨i, hi, rfl, HI⟩ := hrel
    obtain ⟨wo, rfl⟩ : ∃ wo : World, wo = wr := ⟨_, rfl⟩
    by_cases hlt : i < k
    · have hil : i < (limR k i).length := by rw [limR_len hi]; exact hlt
      have c0 := HI.out.1.cellE (by omega) (prs_at hil) (j := 0) rfl
      have c1 := HI.out.1.cellE (by omega) (prs_at hil) (j := 1) rfl
      simp only [Nat.add_zero] at c0
      have f0 := HI.out.1.frozenE (i * 2)
      have f1 := HI.out.1.frozenE (i * 2 + 1)
      have hst := HI.out.1.store (by omega) i (by rw [prs_len]; exact hil) (prV (40, 50)) rfl (by simp [prV, Value.oneCell'])
      rw [prs_setR, limR_step hlt] at hst
      have HST := Lib.hid hst.1
      have HB3 := Lib.hid (HI.out.2.grown hst.2 HI.out.2.size (fun q hq => by injection hq; omega))
      have hzl : g < wo.heap.size := (HI.out.1.lt rfl).2
      obtain ⟨pa, hpa⟩ : ∃ x, ((limR k i)[i]'hil).1 = x := ⟨_, rfl⟩
      obtain ⟨pb, hpb⟩ : ∃ x, ((limR k i)[i]'hil).2 = x := ⟨_, rfl⟩
      rw [hpa] at c0
      rw [hpb] at c1
      clear hst HI hpa hpb hil
      go_wp2_with fail
      go_roundw
      case rel => exact ⟨i + 1, by omega, by go_num, HST.out, HB3.out⟩
      case measure => simp [intOf]; omega
    · obtain rfl : k = i := by omega
      rw [limR_full] at HI
      have HR := Lib.hid (HI.out.1.sl (by omega))
      have hgl : g < wo.heap.size := (HI.out.1.lt rfl).2
      have HB := Lib.hid HI.out.2
      have hbs := HB.out.size
      clear HI
      go_upto_region 8 with (at_make; refine wpList_make_full _ rfl _ _ 26 rfl wo.heap.size 29 i1 _ 1 rowTls.ht H1.out.1 H1.out.2.1 H1.out.2.2.1 .i64 .i64 _ _ j rfl rfl HJ.out.symm HJ.out.symm (by rw [H1.out.2.2.2]; omega) (by unfold maxLen; omega) (Nat.le_refl _) ?_; intro w4 hown4 hg4)
      have hB4 : Below wo.heap.size wo w4 := (Below.refl _ _).grown hg4 (Nat.le_refl _) (by simp)
      have hO4 : Own w4 wo.heap.size 29 1 (.slice (some ⟨wo.heap.size, 0, none⟩) j j) (List.replicate j [Value.slice none 0 0]) := by
        refine ⟨?_, fun x hx => by rw [(List.mem_replicate.1 hx).2]; exact ⟨rfl, by simp [Value.oneCell']⟩⟩
        rw [List.length_replicate, ← madeT]; exact hown4
      have HB4 := Lib.hid (below_after HB.out hB4 hbs)
      have HR4 := Lib.hid (HR.out.below hB4)
      obtain ⟨q, hq⟩ : ∃ q, wo.heap.size = q := ⟨_, rfl⟩
      have hqw : w.heap.size ≤ q := by omega
      rw [hq] at hO4
      rw [hq]
      have HO5 := Lib.hid (hO4.alloc (.cells #[.int .i64 40, .int .i64 1, .int .i64 1, .bool false] 28))
      have hB5 := (Below.refl w4.heap.size w4).alloc (Nat.le_refl _) (.cells #[.int .i64 40, .int .i64 1, .int .i64 1, .bool false] 28)
      have HB5 := Lib.hid (below_after HB4.out hB5 HB4.out.size)
      have HR5 := Lib.hid (HR4.out.below hB5)
      have HS5 : Hid (Sl (w4.alloc (.cells #[.int .i64 40, .int .i64 1, .int .i64 1, .bool false] 28)) 4 (.slice (some ⟨w4.heap.size, 0, none⟩) 1 1) (chgs [lmC])) := Sl.one rfl rfl
      have h9 : q < w4.heap.size := (hO4.lt rfl).2
      have hst := HO5.out.store (by omega) (j - 1) (by rw [List.length_replicate]; omega) [.slice (some ⟨w4.heap.size, 0, none⟩) 1 1] rfl (by simp [Value.oneCell'])
      rw [lmX_set (by omega)] at hst
      have c0 := HO5.out.cellE (by omega) (i := j - 1) (x := [.slice none 0 0]) (by rw [List.getElem?_replicate, if_pos (by omega)]) (j := 0) rfl
      have f0 := HO5.out.frozenE (j - 1)
      simp only [Nat.mul_one, Nat.add_zero] at c0
      have e1 : IntKind.i64.wrap ((j : Int) - 1) = ((j - 1 : Nat) : Int) := by rw [show (j : Int) - 1 = ((j - 1 : Nat) : Int) by omega]; exact IntWalk.i64_in _ (by omega)
      have i9 : ((j - 1 : Nat) : Int) < (j : Int) := by omega
      have hHX : Hid (storeRun (w4.alloc (.cells #[.int .i64 40, .int .i64 1, .int .i64 1, .bool false] 28)) q ((j - 1) * 1) [.slice (some ⟨w4.heap.size, 0, none⟩) 1 1] = (w4.alloc (.cells #[.int .i64 40, .int .i64 1, .int .i64 1, .bool false] 28)).setCell ⟨q, j - 1, none⟩ (.slice (some ⟨w4.heap.size, 0, none⟩) 1 1)) := by
        rw [Nat.mul_one]; rfl
      rw [hHX.out, World.setCell_alloc_past _ _ _ _ h9] at hst
      have hB6 := HB5.out.grown hst.2 HB5.out.size (fun p hp => by injection hp; omega)
      have HB6 := Lib.hid hB6
      have HR6 := Lib.hid (HR5.out.apart hst.2 (fun e => by have h := Option.some.inj e; change g = q at h; omega))
      have HS6 := Lib.hid (HS5.out.apart hst.2 (fun e => by have h := Option.some.inj e; change w4.heap.size = q at h; omega))
      have HX6 := Lib.hid (lm_tls (hst.1.sl (by omega)) HS6.out)
      rw [← HJ.out]
      clear hm3 hm4 hown4 hg4 hB4 hO4 hB5 hst hB6 HB4 HR4 HB5 HR5 HS5 HS6 hHX hq HR HB
      have hjn : ((j - 1 : Nat) : Int) = (j : Int) - 1 := by omega
      go_wp2_with fail
      generalize hW6 : (w4.setCell ⟨q, j - 1, none⟩ (.slice (some ⟨w4.heap.size, 0, none⟩) 1 1)).alloc (.cells #[.int .i64 40, .int .i64 1, .int .i64 1, .bool false] 28) = w6 at *
      clear c0 f0 e1 i9 hW6 hjn HO5
      have HAF := Lib.hid (fun W h hs => Affected_any 0 0 (.slice (some ⟨g, 0, none⟩) k k) (List.replicate k (40, 50)) 0 3 W h hs)
      have HCH := Lib.hid (fun W h => Changed_any (.slice (some ⟨q, 0, none⟩) j j) (lmX j (.slice (some ⟨w4.heap.size, 0, none⟩) 1 1)) 0 1 0 50 W h)
      have HPL := Lib.hid (fun W h hs => Plan_any 0 0 (.slice (some ⟨q, 0, none⟩) j j) (lmX j (.slice (some ⟨w4.heap.size, 0, none⟩) 1 1)) 0 1 0 2 W h hs)
      unfold AffP at HAF
      unfold RetOwn2 at HCH HPL
      rw [lmX_snd] at HCH HPL
      by_cases hkb : 1024 < k
      · rw [(lm_aff_big hkb).1, (lm_aff_big hkb).2] at HAF
        simp only [Option.getD_none, Option.isSome_none, Option.getD_some, Option.isSome_some] at HAF
        have g1 : decide ((1024 : Int) < (k : Int)) = true := decide_eq_true (by omega)
        have g2 : decide ((k : Int) ≤ 1024) = false := decide_eq_false (by omega)
        by_cases hjb : 64 < j
        · rw [(lm_ch_big hjb).1, (lm_ch_big hjb).2] at HCH
          rw [(lm_pl_big hjb).1, (lm_pl_big hjb).2] at HPL
          have g3 : decide ((64 : Int) < (j : Int)) = true := decide_eq_true (by omega)
          clear hjb hkb
          go_wp2_with fail
          refine (months_any _).mono ?_
          rintro e w7 ⟨rfl, hb7⟩
          have HB7 := Lib.hid (below_after HB6.out hb7 HB6.out.size)
          have HX7 := Lib.hid (HX6.out.below hb7)
          have HR7 := Lib.hid (HR6.out.below hb7)
          clear hb7 HB6 HX6 HR6
          go_wp2_with fail
          refine (HAF.out _ (HT.out.below HB7.out) HR7.out).mono ?_
          rintro e w8 ⟨rfl, hb8⟩
          have HB8 := Lib.hid (below_after HB7.out hb8 HB7.out.size)
          have HX8 := Lib.hid (HX7.out.below hb8)
          clear hb8 HB7 HX7 HR7 HAF
          go_wp2_with fail
          refine (HCH.out _ HX8.out).mono ?_
          rintro e w9 ⟨xc, rfl, hown9, hb9⟩
          have HB9 := Lib.hid (below_after HB8.out hb9 HB8.out.size)
          have HX9 := Lib.hid (HX8.out.below hb9)
          have HC9 := Lib.hid (hown9.sl (by omega))
          obtain ⟨Ac, cc, rfl⟩ := hown9.form
          clear hb9 HB8 HX8 hown9 HCH
          simp only [prs_len, List.length_cons, List.length_nil, Nat.zero_add] at HC9 ⊢
          go_wp2_with fail
          refine (months_any _).mono ?_
          rintro e w10 ⟨rfl, hb10⟩
          have HB10 := Lib.hid (below_after HB9.out hb10 HB9.out.size)
          have HX10 := Lib.hid (HX9.out.below hb10)
          have HC10 := Lib.hid (HC9.out.below hb10)
          clear hb10 HB9 HX9 HC9
          go_wp2_with fail
          refine (HPL.out _ (HT.out.below HB10.out) HX10.out).mono ?_
          rintro e w11 ⟨xp, rfl, hown11, hb11⟩
          have HB11 := Lib.hid (below_after HB10.out hb11 HB10.out.size)
          have HC11 := Lib.hid (HC10.out.below hb11)
          obtain ⟨Ap, cp, rfl⟩ := hown11.form
          clear hb11 HB10 HX10 hown11 HPL HC10
          simp only [ints_len, List.length_cons, List.length_nil, Nat.zero_add, Nat.reduceAdd]
          go_wp2_with fail
          refine (awake_any _ (HT.out.below HB11.out)).mono ?_
          rintro e w12 ⟨rfl, hb12⟩
          have HB12 := Lib.hid (below_after HB11.out hb12 HB11.out.size)
          clear hb12
          go_wp2
          go_ret
          exact ⟨rfl, HB12.out⟩
        · rw [(lm_ch (by omega) hjb).1, (lm_ch (by omega) hjb).2] at HCH
          rw [(lm_pl (by omega) hjb).1, (lm_pl (by omega) hjb).2] at HPL
          have g3 : decide ((64 : Int) < (j : Int)) = false := decide_eq_false (by omega)
          clear hjb hkb
          go_wp2_with fail
          refine (months_any _).mono ?_
          rintro e w7 ⟨rfl, hb7⟩
          have HB7 := Lib.hid (below_after HB6.out hb7 HB6.out.size)
          have HX7 := Lib.hid (HX6.out.below hb7)
          have HR7 := Lib.hid (HR6.out.below hb7)
          clear hb7 HB6 HX6 HR6
          go_wp2_with fail
          refine (HAF.out _ (HT.out.below HB7.out) HR7.out).mono ?_
          rintro e w8 ⟨rfl, hb8⟩
          have HB8 := Lib.hid (below_after HB7.out hb8 HB7.out.size)
          have HX8 := Lib.hid (HX7.out.below hb8)
          clear hb8 HB7 HX7 HR7 HAF
          go_wp2_with fail
          refine (HCH.out _ HX8.out).mono ?_
          rintro e w9 ⟨xc, rfl, hown9, hb9⟩
          have HB9 := Lib.hid (below_after HB8.out hb9 HB8.out.size)
          have HX9 := Lib.hid (HX8.out.below hb9)
          have HC9 := Lib.hid (hown9.sl (by omega))
          obtain ⟨Ac, cc, rfl⟩ := hown9.form
          clear hb9 HB8 HX8 hown9 HCH
          simp only [prs_len, List.length_cons, List.length_nil, Nat.zero_add] at HC9 ⊢
          go_wp2_with fail
          refine (months_any _).mono ?_
          rintro e w10 ⟨rfl, hb10⟩
          have HB10 := Lib.hid (below_after HB9.out hb10 HB9.out.size)
          have HX10 := Lib.hid (HX9.out.below hb10)
          have HC10 := Lib.hid (HC9.out.below hb10)
          clear hb10 HB9 HX9 HC9
          go_wp2_with fail
          refine (HPL.out _ (HT.out.below HB10.out) HX10.out).mono ?_
          rintro e w11 ⟨xp, rfl, hown11, hb11⟩
          have HB11 := Lib.hid (below_after HB10.out hb11 HB10.out.size)
          have HC11 := Lib.hid (HC10.out.below hb11)
          obtain ⟨Ap, cp, rfl⟩ := hown11.form
          clear hb11 HB10 HX10 hown11 HPL HC10
          simp only [ints_len, List.length_cons, List.length_nil, Nat.zero_add, Nat.reduceAdd]
          obtain ⟨pb, po, rfl, hcl⟩ := HC11.out.cells (by simp [prs])
          obtain ⟨y0, y1⟩ := hcl.pr (R := [(40, 50)]) (i := 0) (by simp)
          have hbl := hcl.1
          simp only [List.getElem_cons_zero, Nat.zero_mul, Nat.add_zero] at y0 y1
          have E := fun W => eqG 40 50 W
          clear hcl
          go_wp2_with fail
          refine (awake_any _ (HT.out.below HB11.out)).mono ?_
          rintro e w12 ⟨rfl, hb12⟩
          have HB12 := Lib.hid (below_after HB11.out hb12 HB11.out.size)
          clear hb12
          go_wp2
          go_ret
          exact ⟨rfl, HB12.out⟩
      · rw [(lm_aff (by omega) hkb).1, (lm_aff (by omega) hkb).2] at HAF
        simp only [Option.getD_none, Option.isSome_none, Option.getD_some, Option.isSome_some] at HAF
        have g1 : decide ((1024 : Int) < (k : Int)) = false := decide_eq_false (by omega)
        have g2 : decide ((k : Int) ≤ 1024) = true := decide_eq_true (by omega)
        by_cases hjb : 64 < j
        · rw [(lm_ch_big hjb).1, (lm_ch_big hjb).2] at HCH
          rw [(lm_pl_big hjb).1, (lm_pl_big hjb).2] at HPL
          have g3 : decide ((64 : Int) < (j : Int)) = true := decide_eq_true (by omega)
          clear hjb hkb
          go_wp2_with fail
          refine (months_any _).mono ?_
          rintro e w7 ⟨rfl, hb7⟩
          have HB7 := Lib.hid (below_after HB6.out hb7 HB6.out.size)
          have HX7 := Lib.hid (HX6.out.below hb7)
          have HR7 := Lib.hid (HR6.out.below hb7)
          clear hb7 HB6 HX6 HR6
          go_wp2_with fail
          refine (HAF.out _ (HT.out.below HB7.out) HR7.out).mono ?_
          rintro e w8 ⟨rfl, hb8⟩
          have HB8 := Lib.hid (below_after HB7.out hb8 HB7.out.size)
          have HX8 := Lib.hid (HX7.out.below hb8)
          clear hb8 HB7 HX7 HR7 HAF
          go_wp2_with fail
          refine (HCH.out _ HX8.out).mono ?_
          rintro e w9 ⟨xc, rfl, hown9, hb9⟩
          have HB9 := Lib.hid (below_after HB8.out hb9 HB8.out.size)
          have HX9 := Lib.hid (HX8.out.below hb9)
          have HC9 := Lib.hid (hown9.sl (by omega))
          obtain ⟨Ac, cc, rfl⟩ := hown9.form
          clear hb9 HB8 HX8 hown9 HCH
          simp only [prs_len, List.length_cons, List.length_nil, Nat.zero_add] at HC9 ⊢
          go_wp2_with fail
          refine (months_any _).mono ?_
          rintro e w10 ⟨rfl, hb10⟩
          have HB10 := Lib.hid (below_after HB9.out hb10 HB9.out.size)
          have HX10 := Lib.hid (HX9.out.below hb10)
          have HC10 := Lib.hid (HC9.out.below hb10)
          clear hb10 HB9 HX9 HC9
          go_wp2_with fail
          refine (HPL.out _ (HT.out.below HB10.out) HX10.out).mono ?_
          rintro e w11 ⟨xp, rfl, hown11, hb11⟩
          have HB11 := Lib.hid (below_after HB10.out hb11 HB10.out.size)
          have HC11 := Lib.hid (HC10.out.below hb11)
          obtain ⟨Ap, cp, rfl⟩ := hown11.form
          clear hb11 HB10 HX10 hown11 HPL HC10
          simp only [ints_len, List.length_cons, List.length_nil, Nat.zero_add, Nat.reduceAdd]
          go_wp2_with fail
          refine (awake_any _ (HT.out.below HB11.out)).mono ?_
          rintro e w12 ⟨rfl, hb12⟩
          have HB12 := Lib.hid (below_after HB11.out hb12 HB11.out.size)
          clear hb12
          go_wp2
          go_ret
          exact ⟨rfl, HB12.out⟩
        · rw [(lm_ch (by omega) hjb).1, (lm_ch (by omega) hjb).2] at HCH
          rw [(lm_pl (by omega) hjb).1, (lm_pl (by omega) hjb).2] at HPL
          have g3 : decide ((64 : Int) < (j : Int)) = false := decide_eq_false (by omega)
          clear hjb hkb
          go_wp2_with fail
          refine (months_any _).mono ?_
          rintro e w7 ⟨rfl, hb7⟩
          have HB7 := Lib.hid (below_after HB6.out hb7 HB6.out.size)
          have HX7 := Lib.hid (HX6.out.below hb7)
          have HR7 := Lib.hid (HR6.out.below hb7)
          clear hb7 HB6 HX6 HR6
          go_wp2_with fail
          refine (HAF.out _ (HT.out.below HB7.out) HR7.out).mono ?_
          rintro e w8 ⟨rfl, hb8⟩
          have HB8 := Lib.hid (below_after HB7.out hb8 HB7.out.size)
          have HX8 := Lib.hid (HX7.out.below hb8)
          clear hb8 HB7 HX7 HR7 HAF
          go_wp2_with fail
          refine (HCH.out _ HX8.out).mono ?_
          rintro e w9 ⟨xc, rfl, hown9, hb9⟩
          have HB9 := Lib.hid (below_after HB8.out hb9 HB8.out.size)
          have HX9 := Lib.hid (HX8.out.below hb9)
          have HC9 := Lib.hid (hown9.sl (by omega))
          obtain ⟨Ac, cc, rfl⟩ := hown9.form
          clear hb9 HB8 HX8 hown9 HCH
          simp only [prs_len, List.length_cons, List.length_nil, Nat.zero_add] at HC9 ⊢
          go_wp2_with fail
          refine (months_any _).mono ?_
          rintro e w10 ⟨rfl, hb10⟩
          have HB10 := Lib.hid (below_after HB9.out hb10 HB9.out.size)
          have HX10 := Lib.hid (HX9.out.below hb10)
          have HC10 := Lib.hid (HC9.out.below hb10)
          clear hb10 HB9 HX9 HC9
          go_wp2_with fail
          refine (HPL.out _ (HT.out.below HB10.out) HX10.out).mono ?_
          rintro e w11 ⟨xp, rfl, hown11, hb11⟩
          have HB11 := Lib.hid (below_after HB10.out hb11 HB10.out.size)
          have HC11 := Lib.hid (HC10.out.below hb11)
          obtain ⟨Ap, cp, rfl⟩ := hown11.form
          clear hb11 HB10 HX10 hown11 HPL HC10
          simp only [ints_len, List.length_cons, List.length_nil, Nat.zero_add, Nat.reduceAdd]
          obtain ⟨pb, po, rfl, hcl⟩ := HC11.out.cells (by simp [prs])
          obtain ⟨y0, y1⟩ := hcl.pr (R := [(40, 50)]) (i := 0) (by simp)
          have hbl := hcl.1
          simp only [List.getElem_cons_zero, Nat.zero_mul, Nat.add_zero] at y0 y1
          have E := fun W => eqG 40 50 W
          clear hcl
          go_wp2_with fail
          refine (awake_any _ (HT.out.below HB11.out)).mono ?_
          rintro e w12 ⟨rfl, hb12⟩
          have HB12 := Lib.hid (below_after HB11.out hb12 HB11.out.size)
          clear hb12
          go_wp2
          go_ret
          exact ⟨rfl, HB12.out⟩
end Go.Proofs.YtaafihdegnaokaaDoor
