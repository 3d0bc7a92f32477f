/- Contracts and plain facts that the laws of this seat share, part 25. -/
import Derived.Test.YtogdefomigiepaaGreatDoorPkX
import Derived.Deep.RegionWith
import Derived.Test.YtogdefomigiepaaGreatDoorPkB
import Derived.Test.YtogdefomigiepaaGreatDoorPkA
import Derived.Deep.QuietTactic
import Derived.BigQuiet
import Derived.Test.YtogdefomigiepaaGreatDoorPkD
set_option linter.unusedVariables false
set_option linter.unusedSimpArgs false
/- The walk of payslip's lineOf. Written by gen_psl.py. -/
namespace Go.Proofs.YtogdefomigiepaaGreatDoor
open Go.RowKit Go.Shelf

theorem lnW_count {K : Nat} (hK : 1 ≤ K ∧ K ≤ 10) {ws : List (List UInt8)} {y : Ln} (hy : formB y = true) (h : (wordT (K : Int) :: ws) = lnW y) : ws.length = if bareB (K : Int) then 1 else 2 := by
 obtain ⟨-, h2⟩ := lnW_first hK hy h
 rw [h2]
 cases bareB (K : Int) <;> simp
theorem ln_num {K : Nat} (hK : 1 ≤ K ∧ K ≤ 10) {code : ByteArray} {u : List UInt8} (hc : bareB (K : Int) = true → code = ⟨#[]⟩) (n : Option Int) (hn : numTo u = n) :
  (∀ b, (n.isSome && b) = false → b = formB ⟨(K : Int), code, n.getD 0⟩ → ∀ y, formB y = true → (wordT (K : Int) :: ((if bareB (K : Int) then [] else [code.data.toList]) ++ [u])) ≠ lnW y) ∧
  (n.isSome = true → (wordT (K : Int) :: ((if bareB (K : Int) then [] else [code.data.toList]) ++ [u])) = lnW ⟨(K : Int), code, n.getD 0⟩) := by
 refine ⟨fun b hb hf y hy he => ?_, fun hs => ?_⟩
 ·obtain ⟨hk, hw⟩ := lnW_first hK hy he
  obtain ⟨_, _, h3, h4⟩ := formB_kind hy
  have hu : u = Lib.itoa y.amt ∧ code = y.code := by
   cases hbr : bareB (K : Int) with
   | true =>
    rw [hbr] at hw
    simp at hw
    refine ⟨hw, ?_⟩
    have h5 := h4 (by rw [hk]; exact hbr)
    rw [hc hbr]
    obtain ⟨_, ⟨⟨d⟩⟩, _⟩ := y
    have h5 : d.length = 0 := h5
    rw [List.eq_nil_of_length_eq_zero h5]
   | false =>
    rw [hbr] at hw
    simp at hw
    refine ⟨hw.2, ?_⟩
    have h6 := hw.1
    obtain ⟨⟨c⟩⟩ := code
    obtain ⟨_, ⟨⟨d⟩⟩, _⟩ := y
    simp only [ByteArray.toList_eq] at h6
    simpa using h6
  have hv : n = some y.amt := by
   rw [← hn, hu.1]
   exact numP_itoa h3.1 h3.2 (by omega) (by omega)
  subst hv
  simp only [Option.isSome_some, Bool.true_and, Option.getD_some] at hb hf
  have : (⟨(K : Int), code, y.amt⟩ : Ln) = y := by
   obtain ⟨k, c, a⟩ := y
   simp only at hk hu
   rw [hk, hu.2]
  rw [this, hy] at hf
  rw [hf] at hb
  cases hb
 ·obtain ⟨v, hv⟩ := Option.isSome_iff_exists.1 hs
  subst hv
  have := (numP_eq hn).1
  simp only [lnW, Option.getD_some, this]
set_option maxRecDepth 100000 in
set_option maxHeartbeats 8000000 in
theorem lineOf_any (P : List ByteArray) (A : Option Addr) (cap : Nat) (w : World) (hv : Sl w 1 (.slice A P.length cap) (txts P)) (hm : 1 ≤ P.length) (hs : ∀ x ∈ P, x.size ≤ 1000000) (hT : Tabs w) (hE : Errs w) (hW : Words w) :
  Calls Tryz.prog 66 #[.slice A P.length cap] w (LnR (P.map (·.data.toList)) w) := by
 have HT := Lib.hid hT
 have HER := Lib.hid hE
 have HW := Lib.hid hW
 have HV := Lib.hid hv
 match P, hm, hs with
 | a :: P', _, hs =>
 have hsz := Lib.hid hs
 obtain ⟨bk, off, rfl, hc⟩ := hv.cells (by simp [txts])
 have hbk := hc.1
 have c0 : w.cell? ⟨bk, off, none⟩ = some (.string a) := hc.txt (k := 0) (by simp)
 have HC := Lib.hid hc
 clear hT hE hW hv hc hs
 rw [List.length_cons] at *
 have hr0 := Row.new w 45 #[.int .i64 0, .string ⟨#[]⟩, .int .i64 0]
 have hB0 := (Below.refl w.heap.size w).alloc (Nat.le_refl _) (.cells #[.int .i64 0, .string ⟨#[]⟩, .int .i64 0] 45)
 have hcap : P'.length + 1 ≤ cap := by
  obtain ⟨A', cap', hv, k1, _⟩ := HV.out
  injection hv with e1 e2 e3
  subst e3
  rw [txts_len] at k1
  simpa using k1
 go_enter Tryz.func66, Tryz.ntmps66
 go_wp2_with fail
 obtain ⟨w0, hw0⟩ : ∃ w0, w.alloc (.cells #[.int .i64 0, .string ⟨#[]⟩, .int .i64 0] 45) = w0 := ⟨_, rfl⟩
 rw [hw0] at hr0 hB0 ⊢
 obtain ⟨r, hr⟩ : ∃ r, w.heap.size = r := ⟨_, rfl⟩
 rw [hr] at hr0 ⊢
 have hwr : w.heap.size ≤ r := by omega
 have HB0 := Lib.hid hB0
 have HR0 := Lib.hid hr0
 clear hw0 hr hB0 hr0 c0
 refine (kindOf_any a w0 (HW.out.below HB0.out)).mono ?_
 rintro e w1 ⟨rfl, ⟨K, hK1, hK2, rfl, hKw⟩ | ⟨rfl, hK⟩⟩
 rotate_left
 ·have HN := Lib.hid (lnW_kind (ws := P'.map (·.data.toList)) hK)
  clear hK
  go_wp2_with (refine wpList_storeRow rfl 45 (.tmp 2) _ rfl #[.int .i64 0, .string ⟨#[]⟩, .int .i64 0] rfl rfl HR0.out (by simp) (by kernel_rfl) (by simp [Value.oneCell']) (by kernel_rfl) ?_; intro wZ RZ gZ _)
  (try simp only [Exit.inBlock, Exit.then]); refine bodyPost_ret (v := .tuple #[.agg #[.int .i64 0, .string ⟨#[]⟩, .int .i64 0], .bool false]) (results_rows rfl _ rfl RZ Tryz.underlying45 rfl (by kernel_rfl) rfl) rfl ?_
  exact ⟨⟨0, ⟨#[]⟩, 0⟩, false, rfl, below_rdr HB0.out gZ hwr, by simp, fun _ => HN.out⟩
 have HK := Lib.hid hKw
 clear hKw
 have hK10 : (K : Int) ≤ 10 := by omega
 rcases P' with _ | ⟨b, P'⟩
 ·by_cases hcp : cap = 1
  all_goals
   simp only [List.length_nil, Nat.zero_add] at hcap ⊢
   cases hbare : bareB (K : Int)
   all_goals
    have HN : Hid (∀ y, formB y = true → [a.data.toList] ≠ lnW y) := by
     rintro y hy he
     rw [← HK.out] at he
     have := lnW_count ⟨hK1, hK2⟩ hy he
     rw [hbare] at this
     simp at this
    go_wp2_with (first | (go_at_call 24; refine (bare_any _ _).mono ?_; rintro x w2 ⟨rfl, rfl⟩; rw [hbare]) | (refine wpList_storeRow rfl 45 (.tmp 2) _ rfl #[.int .i64 0, .string ⟨#[]⟩, .int .i64 0] rfl rfl (HR0.out.alloc _) (by simp) (by kernel_rfl) (by simp [Value.oneCell']) (by kernel_rfl) ?_; intro wZ RZ gZ _))
    (try simp only [Exit.inBlock, Exit.then]); refine bodyPost_ret (v := .tuple #[.agg #[.int .i64 0, .string ⟨#[]⟩, .int .i64 0], .bool false]) (results_rows rfl _ rfl RZ Tryz.underlying45 rfl (by kernel_rfl) rfl) rfl ?_
    exact ⟨⟨0, ⟨#[]⟩, 0⟩, false, rfl, below_rdr (HB0.out.alloc HB0.out.size _) gZ hwr, by simp, fun _ => HN.out⟩
 ·have hcp : ¬ cap = 1 := by simp only [List.length_cons] at hcap; omega
  have hcp2 : ¬ (1 = cap) := fun h => hcp h.symm
  have hBx := HB0.out.alloc HB0.out.size (.cells #[.int .i64 (K : Int), .string ⟨#[]⟩, .int .i64 0] 45)
  have c1 := (hBx.cell (p := ⟨bk, off + 1, none⟩) hbk).trans (show w.cell? ⟨bk, off + 1, none⟩ = some (.string b) from HC.out.txt (k := 1) (by simp))
  have HBx := Lib.hid hBx
  clear hBx
  simp only [List.length_cons] at hcap ⊢
  cases hbare : bareB (K : Int)
  ·rcases P' with _ | ⟨c, P'⟩
   ·by_cases hcp3 : cap = 2
    all_goals
     simp only [List.length_nil, Nat.zero_add] at hcap ⊢
     have HN : Hid (∀ y, formB y = true → [a.data.toList, b.data.toList] ≠ lnW y) := by
      rintro y hy he
      rw [← HK.out] at he
      have := lnW_count ⟨hK1, hK2⟩ hy he
      rw [hbare] at this
      simp at this
     go_wp2_with (first | (go_at_call 24; refine (bare_any _ _).mono ?_; rintro x w2 ⟨rfl, rfl⟩; rw [hbare]) | (refine wpList_storeRow rfl 45 (.tmp 2) _ rfl #[.int .i64 0, .string ⟨#[]⟩, .int .i64 0] rfl rfl (HR0.out.alloc _) (by simp) (by kernel_rfl) (by simp [Value.oneCell']) (by kernel_rfl) ?_; intro wZ RZ gZ _))
     (try simp only [Exit.inBlock, Exit.then]); refine bodyPost_ret (v := .tuple #[.agg #[.int .i64 0, .string ⟨#[]⟩, .int .i64 0], .bool false]) (results_rows rfl _ rfl RZ Tryz.underlying45 rfl (by kernel_rfl) rfl) rfl ?_
     exact ⟨⟨0, ⟨#[]⟩, 0⟩, false, rfl, below_rdr (HB0.out.alloc HB0.out.size _) gZ hwr, by simp, fun _ => HN.out⟩
   ·have hBy := HB0.out.alloc HB0.out.size (.cells #[.int .i64 (K : Int), .string b, .int .i64 0] 45)
    have c2 := (hBy.cell (p := ⟨bk, off + 2, none⟩) hbk).trans (show w.cell? ⟨bk, off + 2, none⟩ = some (.string c) from HC.out.txt (k := 2) (by simp))
    have hcp3 : ¬ cap = 2 := by simp only [List.length_cons] at hcap; omega
    have hcp4 : ¬ cap - 1 = 1 := by simp only [List.length_cons] at hcap; omega
    clear hBy
    by_cases hl : P' = []
    ·subst hl
     simp only [List.length_nil, List.length_cons, Nat.zero_add] at hcap ⊢
     have HU : Hid (∀ z, Tabs z → Errs z → Calls Tryz.prog 65 #[.string c, .int .i64 (-1000000000000), .int .i64 1000000000000] z (NumR (numTo c.data.toList) z)) := fun z hz hy => numberP_any c _ _ z hz hy (by have := hsz.out c (by simp); omega)
     have HL := Lib.hid (ln_num ⟨hK1, hK2⟩ (code := b) (u := c.data.toList) (by rw [hbare]; intro h; cases h) _ rfl)
     obtain ⟨nu, hnu⟩ : ∃ nu, numTo c.data.toList = nu := ⟨_, rfl⟩
     rw [hnu] at HU HL
     rw [HK.out, hbare] at HL
     have HB1 := Lib.hid (HB0.out.alloc HB0.out.size (.cells #[.int .i64 (K : Int), .string b, .int .i64 0] 45))
     have HX1 := Lib.hid (Row.new w1 45 #[.int .i64 (K : Int), .string b, .int .i64 0])
     have HR1 := Lib.hid (HR0.out.alloc (.cells #[.int .i64 (K : Int), .string b, .int .i64 0] 45))
     have hrl := HR0.out.lt
     clear hnu
     go_wp2_with (first | (go_at_call 24; refine (bare_any _ _).mono ?_; rintro x w2 ⟨rfl, rfl⟩; rw [hbare]))
     obtain ⟨g, hg⟩ : ∃ g, w1.heap.size = g := ⟨_, rfl⟩
     obtain ⟨wA, hw1⟩ : ∃ wA, w1.alloc (.cells #[.int .i64 (K : Int), .string b, .int .i64 0] 45) = wA := ⟨_, rfl⟩
     rw [hw1] at HB1 HX1 HR1 ⊢
     rw [hg] at HX1 hrl ⊢
     have hrg : r ≠ g := by omega
     have hgr : g ≠ r := by omega
     have hwg : w.heap.size ≤ g := by omega
     clear hw1 hg hrl c1 HBx
     refine (HU.out _ (HT.out.below HB1.out) (HER.out.below HB1.out)).mono ?_
     rintro e w2 ⟨rfl, hb2⟩
     have HB2 := Lib.hid (below_after HB1.out hb2 HB1.out.size)
     have HX2 := Lib.hid (HX1.out.below hb2 HX1.out.lt)
     have HR2 := Lib.hid (HR1.out.below hb2 HR1.out.lt)
     obtain ⟨amt, hamt⟩ : ∃ amt, nu.getD 0 = amt := ⟨_, rfl⟩
     obtain ⟨ok, hok⟩ : ∃ ok, nu.isSome = ok := ⟨_, rfl⟩
     rw [hamt, hok] at HL ⊢
     have HX3 : Hid (Row (w2.setCell ⟨g, 2, none⟩ (.int .i64 amt)) g 45 #[.int .i64 (K : Int), .string b, .int .i64 amt]) := HX2.out.set 2 _
     have HR3 : Hid (Row (w2.setCell ⟨g, 2, none⟩ (.int .i64 amt)) r 45 #[.int .i64 0, .string ⟨#[]⟩, .int .i64 0]) := HR2.out.far (p := ⟨g, 2, none⟩) hrg _
     have HB3 : Hid (Below w.heap.size w (w2.setCell ⟨g, 2, none⟩ (.int .i64 amt))) := HB2.out.setCell (p := ⟨g, 2, none⟩) hwg _
     have b2 : w2.cell? ⟨g, 2, none⟩ = some (.int .i64 0) := HX2.out.cell 2
     have bf : w2.frozen? ⟨g, 2, none⟩ = false := HX2.out.frozen 2
     have bl : g < w2.heap.size := HX2.out.lt
     clear hb2 hamt hok HB1 HX1 HR1 HU
     cases ok with
     | false =>
      go_wp2_with fail
      obtain ⟨w3, hw3⟩ : ∃ w3, w2.setCell ⟨g, 2, none⟩ (.int .i64 amt) = w3 := ⟨_, rfl⟩
      rw [hw3] at HX3 HR3 HB3 ⊢
      clear hw3 b2 bf bl HX2 HR2 HB2
      have HZ3 : Hid (∀ W, Row W r 45 #[.int .i64 0, .string ⟨#[]⟩, .int .i64 0] → Below w.heap.size w W → Row (((W.setCell ⟨r, 0, none⟩ (.int .i64 (K : Int))).setCell ⟨r, 1, none⟩ (.string b)).setCell ⟨r, 2, none⟩ (.int .i64 amt)).drew r 45 #[.int .i64 (K : Int), .string b, .int .i64 amt] ∧ Below w.heap.size w (((W.setCell ⟨r, 0, none⟩ (.int .i64 (K : Int))).setCell ⟨r, 1, none⟩ (.string b)).setCell ⟨r, 2, none⟩ (.int .i64 amt)).drew) := fun W h hb => ⟨(Row.set3 h _ _ _ : Row _ _ _ _), Below.drew (Below.set3 hb hwr _ _ _)⟩
      obtain ⟨⟨x0, x1, x2, xl⟩, ⟨f0, f1, f2⟩⟩ := row3 HX3.out
      obtain ⟨⟨a0, a1, a2, al⟩, ⟨d0, d1, d2⟩⟩ := row3 HR3.out
      have HQ := Lib.hid (HZ3.out w3 HR3.out HB3.out)
      go_region
      all_goals
       go_wp2_with fail
       refine bodyPost_ret (results_rows rfl _ rfl HQ.out.1 Tryz.underlying45 rfl (by kernel_rfl) rfl) rfl ?_
       exact ⟨⟨(K : Int), b, amt⟩, false, rfl, HQ.out.2, by simp, fun _ => HL.out.1 _ rfl rfl⟩
     | true =>
      go_wp2_with fail
      obtain ⟨w3, hw3⟩ : ∃ w3, w2.setCell ⟨g, 2, none⟩ (.int .i64 amt) = w3 := ⟨_, rfl⟩
      rw [hw3] at HX3 HR3 HB3 ⊢
      clear hw3 b2 bf bl HX2 HR2 HB2
      have HY3 : Hid (∀ W, Row W r 45 #[.int .i64 0, .string ⟨#[]⟩, .int .i64 0] → Below w.heap.size w W → Row (((W.setCell ⟨r, 0, none⟩ (.int .i64 (K : Int))).setCell ⟨r, 1, none⟩ (.string b)).setCell ⟨r, 2, none⟩ (.int .i64 amt)) r 45 #[.int .i64 (K : Int), .string b, .int .i64 amt] ∧ Below w.heap.size w (((W.setCell ⟨r, 0, none⟩ (.int .i64 (K : Int))).setCell ⟨r, 1, none⟩ (.string b)).setCell ⟨r, 2, none⟩ (.int .i64 amt))) := fun W h hb => ⟨Row.set3 h _ _ _, Below.set3 hb hwr _ _ _⟩
      obtain ⟨⟨x0, x1, x2, xl⟩, ⟨f0, f1, f2⟩⟩ := row3 HX3.out
      obtain ⟨⟨a0, a1, a2, al⟩, ⟨d0, d1, d2⟩⟩ := row3 HR3.out
      have HFO : Hid (∀ W, Calls Tryz.prog 55 #[.agg #[.int .i64 (K : Int), .string b, .int .i64 amt]] W fun e w' => e = .returned (.bool (formB ⟨(K : Int), b, amt⟩)) ∧ Below W.heap.size W w') := fun W => Form_any ⟨(K : Int), b, amt⟩ W
      obtain ⟨fb, hfb⟩ : ∃ fb, formB ⟨(K : Int), b, amt⟩ = fb := ⟨_, rfl⟩
      rw [hfb] at HFO
      have HFB := Lib.hid hfb
      have HR3d : Hid (Row w3.drew r 45 #[.int .i64 0, .string ⟨#[]⟩, .int .i64 0]) := HR3.out
      have HX3d : Hid (Row w3.drew g 45 #[.int .i64 (K : Int), .string b, .int .i64 amt]) := HX3.out
      have HB3d : Hid (Below w.heap.size w w3.drew) := HB3.out.drew
      clear hfb
      go_region_with ((go_at_call 55; refine (HFO.out _).mono ?_; rintro e w4 ⟨rfl, hb4⟩; have HR4 := Lib.hid (HR3d.out.below (w' := w4) hb4 HR3d.out.lt); have HB4 := Lib.hid (below_after HB3d.out hb4 HB3d.out.size); have HQ := Lib.hid (HY3.out w4 HR4.out HB4.out); obtain ⟨⟨k0, k1, k2, kl⟩, ⟨l0, l1, l2⟩⟩ := row3 (HX3d.out.below (w' := w4) hb4 HX3d.out.lt); obtain ⟨⟨m0, m1, m2, ml⟩, ⟨n0, n1, n2⟩⟩ := row3 HR4.out; clear hb4))
      all_goals
       go_wp2_with fail
       refine bodyPost_ret (results_rows rfl _ rfl HQ.out.1 Tryz.underlying45 rfl (by kernel_rfl) rfl) rfl ?_
       exact ⟨⟨(K : Int), b, amt⟩, fb, rfl, HQ.out.2, fun h => ⟨HFB.out.trans h, HL.out.2 (by simp)⟩, fun h => HL.out.1 fb (by rw [h]; rfl) HFB.out.symm⟩
    ·have hl2 : ((P'.length : Int) + 1 != 1) = true := by
      have : P'.length ≠ 0 := fun h => hl (List.length_eq_zero_iff.1 h)
      simp; omega
     have hl3 : P'.length ≠ 0 := fun h => hl (List.length_eq_zero_iff.1 h)
     have hl4 := Lib.hid hl3
     clear hl hl3
     simp only [List.length_cons] at hcap ⊢
     have HN : Hid (∀ y, formB y = true → (a.data.toList :: b.data.toList :: c.data.toList :: P'.map (·.data.toList)) ≠ lnW y) := by
      rintro y hy he
      rw [← HK.out] at he
      have := lnW_count ⟨hK1, hK2⟩ hy he
      rw [hbare] at this
      simp at this; exact hl4.out (by rw [this]; rfl)
     go_wp2_with (first | (go_at_call 24; refine (bare_any _ _).mono ?_; rintro x w2 ⟨rfl, rfl⟩; rw [hbare]) | (refine wpList_storeRow rfl 45 (.tmp 2) _ rfl #[.int .i64 0, .string ⟨#[]⟩, .int .i64 0] rfl rfl (HR0.out.alloc _) (by simp) (by kernel_rfl) (by simp [Value.oneCell']) (by kernel_rfl) ?_; intro wZ RZ gZ _))
     (try simp only [Exit.inBlock, Exit.then]); refine bodyPost_ret (v := .tuple #[.agg #[.int .i64 0, .string ⟨#[]⟩, .int .i64 0], .bool false]) (results_rows rfl _ rfl RZ Tryz.underlying45 rfl (by kernel_rfl) rfl) rfl ?_
     exact ⟨⟨0, ⟨#[]⟩, 0⟩, false, rfl, below_rdr (HB0.out.alloc HB0.out.size _) gZ hwr, by simp, fun _ => HN.out⟩
  ·by_cases hl : P' = []
   ·subst hl
    simp only [List.length_nil, Nat.zero_add] at hcap ⊢
    have HU : Hid (∀ z, Tabs z → Errs z → Calls Tryz.prog 65 #[.string b, .int .i64 (-1000000000000), .int .i64 1000000000000] z (NumR (numTo b.data.toList) z)) := fun z hz hy => numberP_any b _ _ z hz hy (by have := hsz.out b (by simp); omega)
    have HL := Lib.hid (ln_num ⟨hK1, hK2⟩ (code := ⟨#[]⟩) (u := b.data.toList) (fun _ => rfl) _ rfl)
    obtain ⟨nu, hnu⟩ : ∃ nu, numTo b.data.toList = nu := ⟨_, rfl⟩
    rw [hnu] at HU HL
    rw [HK.out, hbare] at HL
    have HB1 := Lib.hid (HB0.out.alloc HB0.out.size (.cells #[.int .i64 (K : Int), .string ⟨#[]⟩, .int .i64 0] 45))
    have HX1 := Lib.hid (Row.new w1 45 #[.int .i64 (K : Int), .string ⟨#[]⟩, .int .i64 0])
    have HR1 := Lib.hid (HR0.out.alloc (.cells #[.int .i64 (K : Int), .string ⟨#[]⟩, .int .i64 0] 45))
    have hrl := HR0.out.lt
    clear hnu
    go_wp2_with (first | (go_at_call 24; refine (bare_any _ _).mono ?_; rintro x w2 ⟨rfl, rfl⟩; rw [hbare]))
    obtain ⟨g, hg⟩ : ∃ g, w1.heap.size = g := ⟨_, rfl⟩
    obtain ⟨wA, hw1⟩ : ∃ wA, w1.alloc (.cells #[.int .i64 (K : Int), .string ⟨#[]⟩, .int .i64 0] 45) = wA := ⟨_, rfl⟩
    rw [hw1] at HB1 HX1 HR1 ⊢
    rw [hg] at HX1 hrl ⊢
    have hrg : r ≠ g := by omega
    have hgr : g ≠ r := by omega
    have hwg : w.heap.size ≤ g := by omega
    clear hw1 hg hrl c1 HBx
    refine (HU.out _ (HT.out.below HB1.out) (HER.out.below HB1.out)).mono ?_
    rintro e w2 ⟨rfl, hb2⟩
    have HB2 := Lib.hid (below_after HB1.out hb2 HB1.out.size)
    have HX2 := Lib.hid (HX1.out.below hb2 HX1.out.lt)
    have HR2 := Lib.hid (HR1.out.below hb2 HR1.out.lt)
    obtain ⟨amt, hamt⟩ : ∃ amt, nu.getD 0 = amt := ⟨_, rfl⟩
    obtain ⟨ok, hok⟩ : ∃ ok, nu.isSome = ok := ⟨_, rfl⟩
    rw [hamt, hok] at HL ⊢
    have HX3 : Hid (Row (w2.setCell ⟨g, 2, none⟩ (.int .i64 amt)) g 45 #[.int .i64 (K : Int), .string ⟨#[]⟩, .int .i64 amt]) := HX2.out.set 2 _
    have HR3 : Hid (Row (w2.setCell ⟨g, 2, none⟩ (.int .i64 amt)) r 45 #[.int .i64 0, .string ⟨#[]⟩, .int .i64 0]) := HR2.out.far (p := ⟨g, 2, none⟩) hrg _
    have HB3 : Hid (Below w.heap.size w (w2.setCell ⟨g, 2, none⟩ (.int .i64 amt))) := HB2.out.setCell (p := ⟨g, 2, none⟩) hwg _
    have b2 : w2.cell? ⟨g, 2, none⟩ = some (.int .i64 0) := HX2.out.cell 2
    have bf : w2.frozen? ⟨g, 2, none⟩ = false := HX2.out.frozen 2
    have bl : g < w2.heap.size := HX2.out.lt
    clear hb2 hamt hok HB1 HX1 HR1 HU
    cases ok with
    | false =>
     go_wp2_with fail
     obtain ⟨w3, hw3⟩ : ∃ w3, w2.setCell ⟨g, 2, none⟩ (.int .i64 amt) = w3 := ⟨_, rfl⟩
     rw [hw3] at HX3 HR3 HB3 ⊢
     clear hw3 b2 bf bl HX2 HR2 HB2
     have HZ3 : Hid (∀ W, Row W r 45 #[.int .i64 0, .string ⟨#[]⟩, .int .i64 0] → Below w.heap.size w W → Row (((W.setCell ⟨r, 0, none⟩ (.int .i64 (K : Int))).setCell ⟨r, 1, none⟩ (.string ⟨#[]⟩)).setCell ⟨r, 2, none⟩ (.int .i64 amt)).drew r 45 #[.int .i64 (K : Int), .string ⟨#[]⟩, .int .i64 amt] ∧ Below w.heap.size w (((W.setCell ⟨r, 0, none⟩ (.int .i64 (K : Int))).setCell ⟨r, 1, none⟩ (.string ⟨#[]⟩)).setCell ⟨r, 2, none⟩ (.int .i64 amt)).drew) := fun W h hb => ⟨(Row.set3 h _ _ _ : Row _ _ _ _), Below.drew (Below.set3 hb hwr _ _ _)⟩
     obtain ⟨⟨x0, x1, x2, xl⟩, ⟨f0, f1, f2⟩⟩ := row3 HX3.out
     obtain ⟨⟨a0, a1, a2, al⟩, ⟨d0, d1, d2⟩⟩ := row3 HR3.out
     have HQ := Lib.hid (HZ3.out w3 HR3.out HB3.out)
     go_region
     all_goals
      go_wp2_with fail
      refine bodyPost_ret (results_rows rfl _ rfl HQ.out.1 Tryz.underlying45 rfl (by kernel_rfl) rfl) rfl ?_
      exact ⟨⟨(K : Int), ⟨#[]⟩, amt⟩, false, rfl, HQ.out.2, by simp, fun _ => HL.out.1 _ rfl rfl⟩
    | true =>
     go_wp2_with fail
     obtain ⟨w3, hw3⟩ : ∃ w3, w2.setCell ⟨g, 2, none⟩ (.int .i64 amt) = w3 := ⟨_, rfl⟩
     rw [hw3] at HX3 HR3 HB3 ⊢
     clear hw3 b2 bf bl HX2 HR2 HB2
     have HY3 : Hid (∀ W, Row W r 45 #[.int .i64 0, .string ⟨#[]⟩, .int .i64 0] → Below w.heap.size w W → Row (((W.setCell ⟨r, 0, none⟩ (.int .i64 (K : Int))).setCell ⟨r, 1, none⟩ (.string ⟨#[]⟩)).setCell ⟨r, 2, none⟩ (.int .i64 amt)) r 45 #[.int .i64 (K : Int), .string ⟨#[]⟩, .int .i64 amt] ∧ Below w.heap.size w (((W.setCell ⟨r, 0, none⟩ (.int .i64 (K : Int))).setCell ⟨r, 1, none⟩ (.string ⟨#[]⟩)).setCell ⟨r, 2, none⟩ (.int .i64 amt))) := fun W h hb => ⟨Row.set3 h _ _ _, Below.set3 hb hwr _ _ _⟩
     obtain ⟨⟨x0, x1, x2, xl⟩, ⟨f0, f1, f2⟩⟩ := row3 HX3.out
     obtain ⟨⟨a0, a1, a2, al⟩, ⟨d0, d1, d2⟩⟩ := row3 HR3.out
     have HFO : Hid (∀ W, Calls Tryz.prog 55 #[.agg #[.int .i64 (K : Int), .string ⟨#[]⟩, .int .i64 amt]] W fun e w' => e = .returned (.bool (formB ⟨(K : Int), ⟨#[]⟩, amt⟩)) ∧ Below W.heap.size W w') := fun W => Form_any ⟨(K : Int), ⟨#[]⟩, amt⟩ W
     obtain ⟨fb, hfb⟩ : ∃ fb, formB ⟨(K : Int), ⟨#[]⟩, amt⟩ = fb := ⟨_, rfl⟩
     rw [hfb] at HFO
     have HFB := Lib.hid hfb
     have HR3d : Hid (Row w3.drew r 45 #[.int .i64 0, .string ⟨#[]⟩, .int .i64 0]) := HR3.out
     have HX3d : Hid (Row w3.drew g 45 #[.int .i64 (K : Int), .string ⟨#[]⟩, .int .i64 amt]) := HX3.out
     have HB3d : Hid (Below w.heap.size w w3.drew) := HB3.out.drew
     clear hfb
     go_region_with ((go_at_call 55; refine (HFO.out _).mono ?_; rintro e w4 ⟨rfl, hb4⟩; have HR4 := Lib.hid (HR3d.out.below (w' := w4) hb4 HR3d.out.lt); have HB4 := Lib.hid (below_after HB3d.out hb4 HB3d.out.size); have HQ := Lib.hid (HY3.out w4 HR4.out HB4.out); obtain ⟨⟨k0, k1, k2, kl⟩, ⟨l0, l1, l2⟩⟩ := row3 (HX3d.out.below (w' := w4) hb4 HX3d.out.lt); obtain ⟨⟨m0, m1, m2, ml⟩, ⟨n0, n1, n2⟩⟩ := row3 HR4.out; clear hb4))
     all_goals
      go_wp2_with fail
      refine bodyPost_ret (results_rows rfl _ rfl HQ.out.1 Tryz.underlying45 rfl (by kernel_rfl) rfl) rfl ?_
      exact ⟨⟨(K : Int), ⟨#[]⟩, amt⟩, fb, rfl, HQ.out.2, fun h => ⟨HFB.out.trans h, HL.out.2 (by simp)⟩, fun h => HL.out.1 fb (by rw [h]; rfl) HFB.out.symm⟩
   ·have hl2 : ((P'.length : Int) + 1 != 1) = true := by
     have : P'.length ≠ 0 := fun h => hl (List.length_eq_zero_iff.1 h)
     simp; omega
    have hl3 : P'.length ≠ 0 := fun h => hl (List.length_eq_zero_iff.1 h)
    have hl4 := Lib.hid hl3
    clear hl hl3
    have HN : Hid (∀ y, formB y = true → (a.data.toList :: b.data.toList :: P'.map (·.data.toList)) ≠ lnW y) := by
     rintro y hy he
     rw [← HK.out] at he
     have := lnW_count ⟨hK1, hK2⟩ hy he
     rw [hbare] at this
     simp at this; exact hl4.out (by rw [this]; rfl)
    go_wp2_with (first | (go_at_call 24; refine (bare_any _ _).mono ?_; rintro x w2 ⟨rfl, rfl⟩; rw [hbare]) | (refine wpList_storeRow rfl 45 (.tmp 2) _ rfl #[.int .i64 0, .string ⟨#[]⟩, .int .i64 0] rfl rfl (HR0.out.alloc _) (by simp) (by kernel_rfl) (by simp [Value.oneCell']) (by kernel_rfl) ?_; intro wZ RZ gZ _))
    (try simp only [Exit.inBlock, Exit.then]); refine bodyPost_ret (v := .tuple #[.agg #[.int .i64 0, .string ⟨#[]⟩, .int .i64 0], .bool false]) (results_rows rfl _ rfl RZ Tryz.underlying45 rfl (by kernel_rfl) rfl) rfl ?_
    exact ⟨⟨0, ⟨#[]⟩, 0⟩, false, rfl, below_rdr (HB0.out.alloc HB0.out.size _) gZ hwr, by simp, fun _ => HN.out⟩
end Go.Proofs.YtogdefomigiepaaGreatDoor
/- Plain laws of the text of a payslip: lines, head, bases. -/
namespace Go.Proofs.YtogdefomigiepaaGreatDoor
open Go.RowKit Go.Shelf

theorem indexq_no (l : List UInt8) (c : UInt8) (h : c ∉ l) : Lib.index l [c] = -1 := by
 induction l with
 | nil => rfl
 | cons a r ih =>
  have hne : ¬ c = a := fun e => h (by simp [e])
  have := ih (fun hc => h (by simp [hc]))
  simp [Lib.index, this, hne]
theorem indexq_yes (l t : List UInt8) (c : UInt8) (h : c ∉ l) : Lib.index (l ++ c :: t) [c] = l.length := by
 induction l with
 | nil => simp [Lib.index]
 | cons a r ih =>
  have hne : ¬ c = a := fun e => h (by simp [e])
  have := ih (fun hc => h (by simp [hc]))
  rw [List.cons_append, Lib.index, this]
  simp [hne]
theorem cutq_no (l : List UInt8) (c : UInt8) (h : c ∉ l) : Lib.cut l [c] = (l, [], false) := by
 rw [Lib.cut, indexq_no l c h]; rfl
theorem cutq_yes (l t : List UInt8) (c : UInt8) (h : c ∉ l) : Lib.cut (l ++ c :: t) [c] = (l, t, true) := by
 rw [Lib.cut, indexq_yes l t c h, if_pos (by omega)]
 simp
theorem cutq_back {l : List UInt8} {c : UInt8} (h : (Lib.cut l [c]).2.2 = true) : l = (Lib.cut l [c]).1 ++ c :: (Lib.cut l [c]).2.1 ∧ c ∉ (Lib.cut l [c]).1 := by
 by_cases hm : c ∈ l
 ·obtain ⟨a, b, rfl, hab⟩ := List.eq_append_cons_of_mem hm
  rw [cutq_yes a b c hab]; exact ⟨rfl, hab⟩
 ·rw [cutq_no l c hm] at h; cases h
theorem cutq_words {ws : List (List UInt8)} (h0 : ws ≠ []) (hf : ∀ a ∈ ws, (32 : UInt8) ∉ a ∧ (10 : UInt8) ∉ a) (t : List UInt8) :
  Lib.cut (joinBy 32 ws ++ 10 :: t) [10] = (joinBy 32 ws, t, true) ∧ splitBy 32 (joinBy 32 ws) = ws :=
 ⟨cutq_yes _ _ _ (join_free (by decide) fun a ha => (hf a ha).2), split_join h0 fun a ha => (hf a ha).1⟩
theorem splitq_back {l : List UInt8} {ws : List (List UInt8)} (h : splitBy 32 l = ws) : l = joinBy 32 ws := by rw [← h, join_split]
theorem itoaq_free (n : Int) : (32 : UInt8) ∉ Lib.itoa n ∧ (10 : UInt8) ∉ Lib.itoa n := ⟨itoa_free _ (by decide), itoa_free _ (by decide)⟩
theorem wordq_free : ∀ K : Nat, K < 11 → (32 : UInt8) ∉ wordT (K : Int) ∧ (10 : UInt8) ∉ wordT (K : Int) := by decide
theorem formB_name {x : Ln} (h : formB x = true) (hb : bareB x.kind = false) : nameB x.code.data.toList = true := by
 simp only [formB, formedB, hb, Bool.and_eq_true] at h
 simpa using h.1.2.2.2
theorem lnW_free {x : Ln} (h : formB x = true) : ∀ a ∈ lnW x, (32 : UInt8) ∉ a ∧ (10 : UInt8) ∉ a := by
 obtain ⟨h1, h2, _, h4⟩ := formB_kind h
 intro a ha
 unfold lnW at ha
 rcases List.mem_cons.1 ha with rfl | ha
 ·obtain ⟨K, hK⟩ := Int.eq_ofNat_of_zero_le (show 0 ≤ x.kind by omega)
  rw [hK]; exact wordq_free K (by omega)
 ·rcases List.mem_append.1 ha with ha | ha
  ·cases hb : bareB x.kind with
   | true => rw [hb] at ha; simp at ha
   | false =>
    rw [hb] at ha
    have ha : a = x.code.data.toList := by simpa using ha
    subst ha
    have hn := formB_name h hb
    exact ⟨name_free hn (by decide), name_free hn (by decide)⟩
  ·obtain rfl : a = Lib.itoa x.amt := by simpa using ha
   exact itoaq_free _
theorem lnW_ne (x : Ln) : lnW x ≠ [] := by simp [lnW]
theorem lnW_len (x : Ln) : 2 ≤ (lnW x).length := by unfold lnW; cases bareB x.kind <;> simp
theorem lineTq (x : Ln) : lineT x = joinBy 32 (lnW x) ++ [10] := by
 unfold lineT lnW
 cases bareB x.kind <;> simp [joinBy]
theorem itoaq_inj {a b : Int} (ha : -9223372036854775808 ≤ a ∧ a ≤ 9223372036854775807) (hb : -9223372036854775808 ≤ b ∧ b ≤ 9223372036854775807) (h : Lib.itoa a = Lib.itoa b) : a = b := by
 have h1 := numI_itoa ha.1 ha.2
 rw [h, numI_itoa hb.1 hb.2] at h1
 injection h1 with h1
 exact h1.symm
theorem codeq_eq {a b : ByteArray} (h : a.data.toList = b.data.toList) : a = b := by
 obtain ⟨⟨a⟩⟩ := a
 obtain ⟨⟨b⟩⟩ := b
 simp only at h
 rw [h]
theorem lnW_inj {x y : Ln} (hx : formB x = true) (hy : formB y = true) (h : lnW x = lnW y) : x = y := by
 obtain ⟨a1, a2, a3, a4⟩ := formB_kind hx
 obtain ⟨b1, b2, b3, b4⟩ := formB_kind hy
 obtain ⟨K, hK⟩ := Int.eq_ofNat_of_zero_le (show 0 ≤ x.kind by omega)
 obtain ⟨hk, hr⟩ := lnW_first (K := K) (ws := (if bareB x.kind then [] else [x.code.data.toList]) ++ [Lib.itoa x.amt]) ⟨by omega, by omega⟩ hy (by rw [← h]; unfold lnW; rw [hK])
 have hkk : x.kind = y.kind := by rw [hK, hk]
 obtain ⟨k, c, n⟩ := x
 obtain ⟨k', c', n'⟩ := y
 simp only at *
 subst hkk
 rw [hK] at hr a4 b4
 cases hb : bareB (K : Int) with
 | true =>
  rw [hb] at hr
  have e := itoaq_inj (by omega) (by omega) (show Lib.itoa n = Lib.itoa n' by simpa using hr)
  have e1 := a4 hb
  have e2 := b4 hb
  have ec : c = c' := codeq_eq (by
   obtain ⟨⟨c⟩⟩ := c
   obtain ⟨⟨c'⟩⟩ := c'
   have e1 : c.length = 0 := e1
   have e2 : c'.length = 0 := e2
   simp only
   rw [List.eq_nil_of_length_eq_zero e1, List.eq_nil_of_length_eq_zero e2])
  rw [e, ec]
 | false =>
  rw [hb] at hr
  simp at hr
  have ec : c = c' := by
   obtain ⟨d⟩ := c
   obtain ⟨d'⟩ := c'
   have := hr.1
   simp only at this
   rw [this]
  rw [ec, itoaq_inj (by omega) (by omega) hr.2]

def endT (l : List Ln) : List UInt8 := linesT l ++ [101, 110, 100, 10]
def wEndq : List UInt8 := [101, 110, 100]
theorem endT_cons (x : Ln) (l : List Ln) : endT (x :: l) = joinBy 32 (lnW x) ++ 10 :: endT l := by simp [endT, linesT, lineTq]
theorem endT_nil : endT [] = joinBy 32 [wEndq] ++ 10 :: [] := rfl
theorem end_free : ∀ a ∈ [wEndq], (32 : UInt8) ∉ a ∧ (10 : UInt8) ∉ a := by decide
theorem end_cut0 : Lib.cut (endT []) [10] = (wEndq, [], true) := by
 rw [endT_nil, (cutq_words (by simp) end_free []).1]; rfl
theorem end_cut1 {x : Ln} (h : formB x = true) (l : List Ln) : Lib.cut (endT (x :: l)) [10] = (joinBy 32 (lnW x), endT l, true) ∧ splitBy 32 (joinBy 32 (lnW x)) = lnW x := by
 rw [endT_cons]; exact cutq_words (lnW_ne x) (lnW_free h) _
theorem ordB_mem {l : List Ln} (h : ordB l = true) {x : Ln} (hx : x ∈ l) : formB x = true := by
 obtain ⟨i, hi, rfl⟩ := List.getElem_of_mem hx
 exact ((ordB_iff _).1 h).1 i hi
structure LsI (q0 q : List UInt8) (ls : List Ln) : Prop where
 eq : q0 = linesT ls ++ q
 ord : ordB ls = true
 len : ls.length ≤ 256
 uni : ∀ m, ordB m = true → q0 = endT m → ∃ m', m = ls ++ m' ∧ q = endT m'
def NoEnd (q0 : List UInt8) : Prop := ∀ m : List Ln, m.length ≤ 256 → ordB m = true → q0 ≠ endT m
theorem LsI.start (q : List UInt8) : LsI q q [] := ⟨rfl, rfl, by simp, fun m _ h => ⟨m, rfl, h⟩⟩
section
variable {q0 q : List UInt8} {ls : List Ln}
theorem LsI.inv (h : LsI q0 q ls) {m : List Ln} (ho : ordB m = true) (he : q0 = endT m) : (q = endT [] ∧ m = ls) ∨ ∃ x m', m = ls ++ x :: m' ∧ formB x = true ∧ q = endT (x :: m') := by
 obtain ⟨m', e1, e2⟩ := h.uni m ho he
 cases m' with
 | nil => left; exact ⟨e2, by simpa using e1⟩
 | cons x m' => right; exact ⟨x, m', e1, ordB_mem ho (by rw [e1]; simp), e2⟩
theorem LsI.cut_no (h : LsI q0 q ls) (hc : (Lib.cut q [10]).2.2 = false) : NoEnd q0 := by
 intro m _ ho he
 rcases h.inv ho he with ⟨hq, _⟩ | ⟨x, m', _, hf, hq⟩
 ·rw [hq, end_cut0] at hc; cases hc
 ·rw [hq, (end_cut1 hf m').1] at hc; cases hc
theorem LsI.rest (h : LsI q0 q ls) (hw : splitBy 32 (Lib.cut q [10]).1 = [wEndq]) (hr : (Lib.cut q [10]).2.1 ≠ []) : NoEnd q0 := by
 intro m _ ho he
 rcases h.inv ho he with ⟨hq, _⟩ | ⟨x, m', _, hf, hq⟩
 ·rw [hq, end_cut0] at hr; exact hr rfl
 ·rw [hq, (end_cut1 hf m').1] at hw
  simp only at hw
  rw [(end_cut1 hf m').2] at hw
  have := lnW_len x
  rw [hw] at this
  simp at this
theorem LsI.done (h : LsI q0 q ls) (hc : (Lib.cut q [10]).2.2 = true) (hw : splitBy 32 (Lib.cut q [10]).1 = [wEndq]) (hr : (Lib.cut q [10]).2.1 = []) : q0 = endT ls := by
 have h1 := splitq_back hw
 have h2 := (cutq_back hc).1
 rw [h1, hr] at h2
 rw [h.eq, h2]; rfl
theorem LsI.none (h : LsI q0 q ls) (hne : splitBy 32 (Lib.cut q [10]).1 ≠ [wEndq]) (hw : ∀ y, formB y = true → splitBy 32 (Lib.cut q [10]).1 ≠ lnW y) : NoEnd q0 := by
 intro m _ ho he
 rcases h.inv ho he with ⟨hq, _⟩ | ⟨x, m', _, hf, hq⟩
 ·exact hne (by rw [hq, end_cut0]; decide)
 ·exact hw x hf (by rw [hq, (end_cut1 hf m').1]; exact (end_cut1 hf m').2)
theorem LsI.next (h : LsI q0 q ls) {x : Ln} (hx : formB x = true) (hw : splitBy 32 (Lib.cut q [10]).1 = lnW x) {m : List Ln} (ho : ordB m = true) (he : q0 = endT m) : ∃ m', m = ls ++ x :: m' ∧ (Lib.cut q [10]).2.1 = endT m' := by
 rcases h.inv ho he with ⟨hq, _⟩ | ⟨y, m', e, hf, hq⟩
 ·rw [hq, end_cut0] at hw
  have := lnW_len x
  simp only at hw
  rw [← hw] at this
  exact absurd this (by decide)
 ·have e1 := (end_cut1 hf m')
  rw [hq, e1.1] at hw
  simp only at hw
  rw [e1.2] at hw
  obtain rfl := lnW_inj hf hx hw
  exact ⟨m', e, by rw [hq, e1.1]⟩
theorem LsI.full (h : LsI q0 q ls) {x : Ln} (hx : formB x = true) (hw : splitBy 32 (Lib.cut q [10]).1 = lnW x) (hl : ls.length = 256) : NoEnd q0 := by
 intro m hm ho he
 obtain ⟨m', e, _⟩ := h.next hx hw ho he
 rw [e, List.length_append, List.length_cons] at hm
 omega
theorem LsI.back (h : LsI q0 q ls) {x : Ln} (hx : formB x = true) (hw : splitBy 32 (Lib.cut q [10]).1 = lnW x) (hl : 0 < ls.length) (hlt : lnLt (ls[ls.length - 1]'(by omega)) x = false) : NoEnd q0 := by
 intro m hm ho he
 obtain ⟨m', e, _⟩ := h.next hx hw ho he
 subst e
 have := ((ordB_iff _).1 ho).2 (ls.length - 1) (by rw [List.length_append, List.length_cons]; omega)
 rw [List.getElem_append_left (by omega), List.getElem_append_right (by omega)] at this
 simp only [show ls.length - 1 + 1 - ls.length = 0 by omega, List.getElem_cons_zero] at this
 rw [hlt] at this; cases this
theorem ordB_snoc {x : Ln} (h : ordB ls = true) (hx : formB x = true) (hl : ∀ h : 0 < ls.length, lnLt (ls[ls.length - 1]'(by omega)) x = true) : ordB (ls ++ [x]) = true := by
 rw [ordB_iff] at h ⊢
 refine ⟨fun j hj => ?_, fun j hj => ?_⟩
 ·by_cases hj2 : j < ls.length
  ·rw [List.getElem_append_left hj2]; exact h.1 j hj2
  ·rw [List.getElem_append_right (by omega)]
   simp only [List.length_append, List.length_singleton] at hj
   simp only [show j - ls.length = 0 by omega, List.getElem_cons_zero]; exact hx
 ·simp only [List.length_append, List.length_singleton] at hj
  rw [List.getElem_append_left (by omega)]
  by_cases hj2 : j + 1 < ls.length
  ·rw [List.getElem_append_left hj2]; exact h.2 j hj2
  ·rw [List.getElem_append_right (by omega)]
   have := hl (by omega)
   simp only [show j + 1 - ls.length = 0 by omega, List.getElem_cons_zero]
   simp only [show ls.length - 1 = j by omega] at this
   exact this
theorem LsI.step (h : LsI q0 q ls) (hc : (Lib.cut q [10]).2.2 = true) {x : Ln} (hx : formB x = true) (hw : splitBy 32 (Lib.cut q [10]).1 = lnW x) (hn : ls.length < 256) (hl : ∀ h : 0 < ls.length, lnLt (ls[ls.length - 1]'(by omega)) x = true) : LsI q0 (Lib.cut q [10]).2.1 (ls ++ [x]) := by
 refine ⟨?_, ordB_snoc h.ord hx hl, by simp; omega, fun m ho he => ?_⟩
 ·have h1 := splitq_back hw
  have h2 := (cutq_back hc).1
  rw [h1] at h2
  rw [h.eq]
  conv => lhs; rw [h2]
  simp [linesT, lineTq]
 ·obtain ⟨m', e, e2⟩ := h.next hx hw ho he
  exact ⟨m', by rw [e]; simp, e2⟩
end
def hdW (e p : Int) : List (List UInt8) := [wPay, Lib.itoa e, wPrd, Lib.itoa p]
def bsW8 (z : List Int) (x : Int) : List (List UInt8) := wBas :: (z.map Lib.itoa ++ [wLgl, Lib.itoa x])
theorem textT_eq (e p z0 z1 z2 z3 z4 x : Int) (l : List Ln) : textT e p ⟨z0, z1, z2, z3, z4, x, l⟩ = joinBy 32 (hdW e p) ++ 10 :: (joinBy 32 (bsW8 [z0, z1, z2, z3, z4] x) ++ 10 :: endT l) := by
 simp [textT, headT, basesT, Slp.bs, hdW, bsW8, joinBy, endT, wPay, wPrd, wBas, wLgl]
theorem hdW_free (e p : Int) : ∀ a ∈ hdW e p, (32 : UInt8) ∉ a ∧ (10 : UInt8) ∉ a := by
 intro a ha
 simp only [hdW, List.mem_cons, List.not_mem_nil, or_false] at ha
 rcases ha with rfl | rfl | rfl | rfl
 ·decide
 ·exact itoaq_free _
 ·decide
 ·exact itoaq_free _
theorem bsW8_free (z : List Int) (x : Int) : ∀ a ∈ bsW8 z x, (32 : UInt8) ∉ a ∧ (10 : UInt8) ∉ a := by
 intro a ha
 simp only [bsW8, List.mem_cons, List.mem_append, List.mem_map, List.not_mem_nil, or_false] at ha
 rcases ha with rfl | ⟨n, _, rfl⟩ | rfl | rfl
 ·decide
 ·exact itoaq_free _
 ·decide
 ·exact itoaq_free _
theorem rdHd_of {e p : Int} (h1 : 1 ≤ e) (h2 : e ≤ 2147483647) (h3 : 0 ≤ p) (h4 : p ≤ 84005) : rdHd (joinBy 32 (hdW e p)) = some (e, p) := by
 rw [rdHd_four (cutq_words (by simp [hdW]) (hdW_free e p) []).2, if_pos ⟨rfl, rfl⟩, numP_itoa h1 h2 (by omega) (by omega), numP_itoa h3 h4 (by omega) (by omega)]
theorem rdHd_eq {l : List UInt8} {e p : Int} (h : rdHd l = some (e, p)) : l = joinBy 32 (hdW e p) ∧ 1 ≤ e ∧ e ≤ 2147483647 ∧ 0 ≤ p ∧ p ≤ 84005 := by
 unfold rdHd at h
 split at h
 ·rename_i a b c d hs
  split at h
  ·rename_i hw
   split at h
   ·rename_i p' v' hp hv
    injection h with h
    injection h with h1 h2
    subst h1 h2
    obtain ⟨e1, e2, e3⟩ := numP_eq hp
    obtain ⟨f1, f2, f3⟩ := numP_eq hv
    refine ⟨?_, e2, e3, f2, f3⟩
    rw [splitq_back hs, hw.1, hw.2, e1, f1]; rfl
   ·cases h
  ·cases h
 ·cases h
theorem totB_iff (n : Int) : totB n = true ↔ -1000000000000 ≤ n ∧ n ≤ 1000000000000 := by simp [totB]
theorem rdBs_of {z0 z1 z2 z3 z4 x : Int} (h : ∀ n ∈ [z0, z1, z2, z3, z4, x], totB n = true) : rdBs (joinBy 32 (bsW8 [z0, z1, z2, z3, z4] x)) = some ([z0, z1, z2, z3, z4], x) := by
 have hn : ∀ n ∈ [z0, z1, z2, z3, z4, x], numTo (Lib.itoa n) = some n := fun n hn => by
  have := (totB_iff n).1 (h n hn)
  exact numP_itoa this.1 this.2 (by omega) (by omega)
 rw [rdBs_eight (cutq_words (ws := bsW8 [z0, z1, z2, z3, z4] x) (by simp [bsW8]) (bsW8_free _ x) []).2, if_pos ⟨rfl, rfl⟩, hn z0 (by simp), hn z1 (by simp), hn z2 (by simp), hn z3 (by simp), hn z4 (by simp), hn x (by simp)]
theorem rdBs_eq {l : List UInt8} {z0 z1 z2 z3 z4 x : Int} (h : rdBs l = some ([z0, z1, z2, z3, z4], x)) : l = joinBy 32 (bsW8 [z0, z1, z2, z3, z4] x) ∧ ∀ n ∈ [z0, z1, z2, z3, z4, x], totB n = true := by
 unfold rdBs at h
 split at h
 ·rename_i a0 a1 a2 a3 a4 a5 a6 a7 hs
  split at h
  ·rename_i hw
   split at h
   ·rename_i n0 n1 n2 n3 n4 n5 k0 k1 k2 k3 k4 k5
    injection h with h
    injection h with h1 h2
    injection h1 with e0 h1
    injection h1 with e1 h1
    injection h1 with e2 h1
    injection h1 with e3 h1
    injection h1 with e4 h1
    subst e0 e1 e2 e3 e4 h2
    have q0 := numP_eq k0
    have q1 := numP_eq k1
    have q2 := numP_eq k2
    have q3 := numP_eq k3
    have q4 := numP_eq k4
    have q5 := numP_eq k5
    refine ⟨?_, ?_⟩
    ·rw [splitq_back hs, hw.1, hw.2, q0.1, q1.1, q2.1, q3.1, q4.1, q5.1]; rfl
    ·intro n hn
     simp only [List.mem_cons, List.not_mem_nil, or_false] at hn
     rw [totB_iff]
     rcases hn with rfl | rfl | rfl | rfl | rfl | rfl
     ·exact q0.2
     ·exact q1.2
     ·exact q2.2
     ·exact q3.2
     ·exact q4.2
     ·exact q5.2
   ·cases h
  ·cases h
 ·cases h
theorem slipE_zero {e p : Int} {s : Slp} : slipE e p s = 0 ↔ (1 ≤ e ∧ e ≤ 2147483647 ∧ 0 ≤ p ∧ p ≤ 84005) ∧ (∀ n ∈ [s.b0, s.b1, s.b2, s.b3, s.b4, s.legal], totB n = true) ∧ s.lines.length ≤ 256 ∧ ordB s.lines = true := by
 unfold slipE
 constructor
 ·intro h
  split at h
  ·rename_i h1
   split at h
   ·rename_i h2
    split at h
    ·rename_i h3
     split at h
     ·rename_i h4
      simp only [Bool.and_eq_true, decide_eq_true_eq] at h1
      refine ⟨by omega, fun n hn => ?_, h3, h4⟩
      simp only [List.all_eq_true, Slp.bs] at h2
      simp only [List.mem_cons, List.not_mem_nil, or_false] at hn
      rcases hn with rfl | rfl | rfl | rfl | rfl | rfl
      ·exact h2 _ (by simp)
      ·exact h2 _ (by simp)
      ·exact h2 _ (by simp)
      ·exact h2 _ (by simp)
      ·exact h2 _ (by simp)
      ·exact h1.2.2.2.2
     ·cases h
    ·cases h
   ·cases h
  ·cases h
 ·rintro ⟨⟨h1, h2, h3, h4⟩, h5, h6, h7⟩
  rw [if_pos (by simp only [Bool.and_eq_true, decide_eq_true_eq]; exact ⟨h1, h2, h3, h4, h5 _ (by simp)⟩), if_pos (by
   simp only [List.all_eq_true, Slp.bs]
   intro n hn
   exact h5 n (by
    simp only [List.mem_cons, List.not_mem_nil, or_false] at hn ⊢
    rcases hn with h | h | h | h | h
    ·exact .inl h
    ·exact .inr (.inl h)
    ·exact .inr (.inr (.inl h))
    ·exact .inr (.inr (.inr (.inl h)))
    ·exact .inr (.inr (.inr (.inr (.inl h)))))), if_pos h6, if_pos h7]
def NoTxt (t : List UInt8) : Prop := ∀ e p s, slipE e p s = 0 → t ≠ textT e p s
theorem textT_cut {e p : Int} {s : Slp} (h : slipE e p s = 0) : Lib.cut (textT e p s) [10] = (joinBy 32 (hdW e p), joinBy 32 (bsW8 s.bs s.legal) ++ 10 :: endT s.lines, true) ∧ rdHd (joinBy 32 (hdW e p)) = some (e, p) ∧
  Lib.cut (joinBy 32 (bsW8 s.bs s.legal) ++ 10 :: endT s.lines) [10] = (joinBy 32 (bsW8 s.bs s.legal), endT s.lines, true) ∧ rdBs (joinBy 32 (bsW8 s.bs s.legal)) = some (s.bs, s.legal) := by
 obtain ⟨h1, h2, h3, h4⟩ := slipE_zero.1 h
 obtain ⟨z0, z1, z2, z3, z4, x, l⟩ := s
 rw [textT_eq]
 exact ⟨(cutq_words (by simp [hdW]) (hdW_free e p) _).1, rdHd_of h1.1 h1.2.1 h1.2.2.1 h1.2.2.2, (cutq_words (by simp [bsW8]) (bsW8_free _ _) _).1, rdBs_of h2⟩
theorem no_head {t : List UInt8} (h : (Lib.cut t [10]).2.2 = false ∨ rdHd (Lib.cut t [10]).1 = none) : NoTxt t := by
 rintro e p s hs rfl
 obtain ⟨h1, h2, -⟩ := textT_cut hs
 rw [h1] at h
 rcases h with h | h
 ·cases h
 ·rw [h2] at h; cases h
theorem no_bases {t r : List UInt8} {hr : r = (Lib.cut t [10]).2.1} (h : (Lib.cut r [10]).2.2 = false ∨ rdBs (Lib.cut r [10]).1 = none) : NoTxt t := by
 rintro e p s hs rfl
 obtain ⟨h1, h2, h3, h4⟩ := textT_cut hs
 rw [h1] at hr
 subst hr
 rw [h3] at h
 rcases h with h | h
 ·cases h
 ·rw [h4] at h; cases h
theorem no_lines {t r r2 : List UInt8} {hr : r = (Lib.cut t [10]).2.1} {hr2 : r2 = (Lib.cut r [10]).2.1} (h : NoEnd r2) : NoTxt t := by
 rintro e p s hs rfl
 obtain ⟨h1, h2, h3, h4⟩ := textT_cut hs
 obtain ⟨-, -, h5, h6⟩ := slipE_zero.1 hs
 rw [h1] at hr
 subst hr
 rw [h3] at hr2
 subst hr2
 exact h _ h5 h6 rfl
theorem txt_of {t r : List UInt8} {e p z0 z1 z2 z3 z4 x : Int} {l : List Ln} (hc1 : (Lib.cut t [10]).2.2 = true) (h1 : rdHd (Lib.cut t [10]).1 = some (e, p)) (hr : r = (Lib.cut t [10]).2.1) (hc2 : (Lib.cut r [10]).2.2 = true)
  (h2 : rdBs (Lib.cut r [10]).1 = some ([z0, z1, z2, z3, z4], x)) (h3 : (Lib.cut r [10]).2.1 = endT l) (hl : l.length ≤ 256) (ho : ordB l = true) :
  t = textT e p ⟨z0, z1, z2, z3, z4, x, l⟩ ∧ slipE e p ⟨z0, z1, z2, z3, z4, x, l⟩ = 0 := by
 obtain ⟨a1, a2, a3, a4, a5⟩ := rdHd_eq h1
 obtain ⟨b1, b2⟩ := rdBs_eq h2
 have c1 := (cutq_back hc1).1
 have c2 := (cutq_back hc2).1
 refine ⟨?_, slipE_zero.2 ⟨⟨a2, a3, a4, a5⟩, b2, hl, ho⟩⟩
 rw [c1, a1, ← hr, c2, b1, h3, textT_eq]
theorem endT_inj {l m : List Ln} (hl : ordB l = true) (hm : ordB m = true) (h : endT l = endT m) : l = m := by
 induction l generalizing m with
 | nil =>
  cases m with
  | nil => rfl
  | cons y m =>
   have e := end_cut1 (ordB_mem hm (x := y) (by simp)) m
   have e0 := end_cut0
   rw [h, e.1] at e0
   injection e0 with e0 _
   have h2 := e.2
   rw [e0] at h2
   have := lnW_len y
   rw [← h2] at this
   exact absurd this (by decide)
 | cons x l ih =>
  have hx := ordB_mem hl (x := x) (by simp)
  have e := end_cut1 hx l
  cases m with
  | nil =>
   have e0 := end_cut0
   rw [← h, e.1] at e0
   injection e0 with e0 _
   have h2 := e.2
   rw [e0] at h2
   have := lnW_len x
   rw [← h2] at this
   exact absurd this (by decide)
  | cons y m =>
   have hy := ordB_mem hm (x := y) (by simp)
   have f := end_cut1 hy m
   rw [h, f.1] at e
   have e1 := e.1
   injection e1 with e1 e2
   injection e2 with e2 _
   have hw : lnW x = lnW y := by rw [← e.2, ← e1, f.2]
   obtain rfl := lnW_inj hx hy hw
   have tl : ∀ {a : Ln} {r : List Ln}, ordB (a :: r) = true → ordB r = true := fun {a r} h => by
    cases r with
    | nil => rfl
    | cons b r => simp only [ordB, Bool.and_eq_true] at h; exact h.2.2
   rw [ih (tl hl) (tl hm) e2.symm]
theorem textT_inj {e p e' p' : Int} {s s' : Slp} (h : slipE e p s = 0) (h' : slipE e' p' s' = 0) (ht : textT e p s = textT e' p' s') : e = e' ∧ p = p' ∧ s = s' := by
 obtain ⟨a1, a2, a3, a4⟩ := textT_cut h
 obtain ⟨b1, b2, b3, b4⟩ := textT_cut h'
 rw [ht, b1] at a1
 injection a1 with q1 q2
 injection q2 with q2 _
 rw [← q1, b2] at a2
 injection a2 with a2
 injection a2 with a2 a2'
 rw [← q2, b3] at a3
 injection a3 with r1 r2
 injection r2 with r2 _
 rw [← r1, b4] at a4
 injection a4 with a4
 injection a4 with s1 s2
 have s3 := endT_inj (slipE_zero.1 h').2.2.2 (slipE_zero.1 h).2.2.2 r2
 refine ⟨a2.symm, a2'.symm, ?_⟩
 obtain ⟨z0, z1, z2, z3, z4, x, l⟩ := s
 obtain ⟨y0, y1, y2, y3, y4, y, m⟩ := s'
 simp only [Slp.bs] at s1 s2 s3
 injection s1 with e0 s1
 injection s1 with e1 s1
 injection s1 with e2 s1
 injection s1 with e3 s1
 injection s1 with e4 s1
 rw [e0, e1, e2, e3, e4, s2, s3]
theorem itoaq_len {n : Int} (h : -1000000000000000000 < n ∧ n < 1000000000000000000) : (Lib.itoa n).length ≤ 21 := itoa_len n (by omega) (by omega)
theorem joinq_len : ∀ {ws : List (List UInt8)} {k : Nat}, (∀ a ∈ ws, a.length ≤ k) → (joinBy 32 ws).length ≤ ws.length * (k + 1)
 | [], _, _ => by simp [joinBy]
 | [a], k, h => by have := h a (by simp); simp [joinBy]; omega
 | a :: b :: r, k, h => by
  have ih := joinq_len (ws := b :: r) (k := k) (fun x hx => h x (by simp at hx ⊢; right; exact hx))
  have := h a (by simp)
  rw [join_cons (by simp)]
  simp only [List.length_append, List.length_cons] at ih ⊢
  rw [Nat.add_mul (r.length + 1) 1]
  omega
theorem lineq_len {x : Ln} (h : formB x = true) : (lineT x).length ≤ 76 := by
 have hw : ∀ a ∈ lnW x, a.length ≤ 24 := by
  obtain ⟨h1, h2, h3, h4⟩ := formB_kind h
  intro a ha
  unfold lnW at ha
  rcases List.mem_cons.1 ha with rfl | ha
  ·obtain ⟨K, hK⟩ := Int.eq_ofNat_of_zero_le (show 0 ≤ x.kind by omega)
   rw [hK]; have := word_len K (by omega); omega
  ·rcases List.mem_append.1 ha with ha | ha
   ·cases hb : bareB x.kind with
    | true => rw [hb] at ha; simp at ha
    | false =>
     rw [hb] at ha
     have ha : a = x.code.data.toList := by simpa using ha
     subst ha
     have hn := formB_name h hb
     unfold nameB at hn
     simp only [Bool.and_eq_true, decide_eq_true_eq] at hn
     exact hn.2.1
   ·obtain rfl : a = Lib.itoa x.amt := by simpa using ha
    have := itoaq_len (n := x.amt) (by omega)
    omega
 have hl : (lnW x).length ≤ 3 := by unfold lnW; cases bareB x.kind <;> simp
 have := joinq_len hw
 rw [lineTq, List.length_append]
 simp only [List.length_singleton]
 have : (lnW x).length * (24 + 1) ≤ 3 * 25 := Nat.mul_le_mul hl (Nat.le_refl _)
 omega
theorem linesq_len : ∀ {l : List Ln}, (∀ x ∈ l, formB x = true) → (linesT l).length ≤ l.length * 76
 | [], _ => by simp [linesT]
 | x :: l, h => by
  have ih := linesq_len (l := l) (fun y hy => h y (by simp [hy]))
  have := lineq_len (h x (by simp))
  simp only [linesT, List.map_cons, List.flatten_cons, List.length_append, List.length_cons] at ih ⊢
  omega
theorem textq_len {e p : Int} {s : Slp} (h : slipE e p s = 0) : (textT e p s).length ≤ 65536 := by
 obtain ⟨h1, h2, h3, h4⟩ := slipE_zero.1 h
 obtain ⟨z0, z1, z2, z3, z4, x, l⟩ := s
 rw [textT_eq]
 have hw1 : ∀ a ∈ hdW e p, a.length ≤ 21 := by
  intro a ha
  simp only [hdW, List.mem_cons, List.not_mem_nil, or_false] at ha
  rcases ha with rfl | rfl | rfl | rfl
  ·decide
  ·exact itoaq_len (by omega)
  ·decide
  ·exact itoaq_len (by omega)
 have hw2 : ∀ a ∈ bsW8 [z0, z1, z2, z3, z4] x, a.length ≤ 21 := by
  intro a ha
  simp only [bsW8, List.mem_cons, List.mem_append, List.mem_map, List.not_mem_nil, or_false] at ha
  have hz : ∀ n ∈ [z0, z1, z2, z3, z4, x], (Lib.itoa n).length ≤ 21 := fun n hn => itoaq_len (by have := (totB_iff n).1 (h2 n hn); omega)
  rcases ha with rfl | ⟨n, hn, rfl⟩ | rfl | rfl
  ·decide
  ·exact hz n (by rcases hn with rfl | rfl | rfl | rfl | rfl <;> simp)
  ·decide
  ·exact hz _ (by simp)
 have l1 := joinq_len hw1
 have l2 := joinq_len hw2
 have l3 := linesq_len (fun y hy => ordB_mem h4 (x := y) hy)
 have e1 : (hdW e p).length = 4 := rfl
 have e2 : (bsW8 [z0, z1, z2, z3, z4] x).length = 8 := rfl
 rw [e1] at l1
 rw [e2] at l2
 simp only at h3 l3
 simp only [List.length_append, List.length_cons, endT, List.length_nil]
 omega
end Go.Proofs.YtogdefomigiepaaGreatDoor
/- The walk of payslip's reader.lines. Written by gen_psm.py. -/
namespace Go.Proofs.YtogdefomigiepaaGreatDoor
open Go.RowKit Go.Shelf

def restSz (w : World) (D : Nat) : Nat := match w.cell? ⟨D, 0, none⟩ with
 | some (.string s) => s.size
 | _ => 0
theorem Rdr.rest {w : World} {D : Nat} {q : ByteArray} {n : Int} (h : Rdr w D q n) : restSz w D = q.size := by
 have : w.cell? ⟨D, 0, none⟩ = some (.string q) := Row.cell h 0
 rw [restSz, this]
structure LsM (a w : World) (D : Nat) (v : Value) (q : ByteArray) (n : Int) (ls : List Ln) (wr : World) : Prop where
 grown : w.grownBy wr (some D)
 below : Below a.heap.size a wr
 rdr : Rdr wr D q n
 own : Own wr w.heap.size 45 3 v (lns ls)
 lo : a.heap.size ≤ D ∧ D < w.heap.size
theorem LsM.read {a w wr w1 : World} {D : Nat} {v : Value} {q r : ByteArray} {n k : Int} {ls : List Ln} (h : LsM a w D v q n ls wr) (hg : wr.grownBy w1 (some D)) (hr : Rdr w1 D r k) : LsM a w D v r k ls w1 :=
 ⟨gb_trans h.grown hg, below_rdr h.below hg h.lo.1, hr, h.own.keepG hg (by
  cases hv : v.ownBlock with
  | none => exact .inl rfl
  | some g =>
   have := (h.own.1.lt g hv).1
   have := h.lo.2
   refine .inr fun e => ?_
   injection e; omega), h.lo⟩
theorem LsM.same {a w wr w' : World} {D : Nat} {v : Value} {q : ByteArray} {n : Int} {ls : List Ln} (h : LsM a w D v q n ls wr) (hb : Below wr.heap.size wr w') : LsM a w D v q n ls w' :=
 ⟨gb_below h.grown hb, below_after h.below hb h.below.size, Row.below h.rdr hb (Row.lt h.rdr), h.own.kept hb, h.lo⟩
theorem LsM.put {a w wr w' : World} {D : Nat} {v v' : Value} {q : ByteArray} {n : Int} {ls : List Ln} {x : Ln} (h : LsM a w D v q n ls wr) (ho : Own w' w.heap.size 45 3 v' (lns (ls ++ [x]))) (hg : wr.grownBy w' v.ownBlock) : LsM a w D v' q n (ls ++ [x]) w' := by
 have hd : ∀ g, v.ownBlock = some g → w.heap.size ≤ g := fun g hg => (h.own.1.lt g hg).1
 have hlo := h.lo
 refine ⟨gb_new h.grown hg hd, ?_, Row.keep h.rdr hg (fun e => by have := hd D e.symm; omega), ho, h.lo⟩
 exact Own.grown (h.own.more (by omega)) h.below hg h.below.size
def LsR (w : World) (D : Nat) (q : ByteArray) (e : Ending) (w' : World) : Prop :=
 w.grownBy w' (some D) ∧ ((∃ (ls : List Ln) (v : Value), e = .returned (.tuple #[v, .bool true]) ∧ Own w' w.heap.size 45 3 v (lns ls) ∧ ls.length ≤ 256 ∧ ordB ls = true ∧ q.data.toList = endT ls) ∨
  (∃ (r : ByteArray) (k : Int), e = .returned (.tuple #[.slice none 0 0, .bool false]) ∧ Rdr w' D r k ∧ NoEnd q.data.toList))
theorem LsM.no {a w wr : World} {D : Nat} {v : Value} {q0 q : ByteArray} {n : Int} {ls : List Ln} (h : LsM a w D v q n ls wr) (hn : NoEnd q0.data.toList) : LsR w D q0 (.returned (.tuple #[.slice none 0 0, .bool false])) wr := ⟨h.grown, .inr ⟨q, n, rfl, h.rdr, hn⟩⟩
theorem cut_shorter {q r : ByteArray} (hf : (Lib.cut q.data.toList [10]).2.2 = true) (hr : r.data.toList = (Lib.cut q.data.toList [10]).2.1) : r.size + 1 ≤ q.size := by
 have h := congrArg List.length (cutq_back hf).1
 rw [← hr, List.length_append, List.length_cons] at h
 have a : q.data.toList.length = q.size := by simp
 have b : r.data.toList.length = r.size := by simp
 omega
set_option maxRecDepth 100000 in
set_option maxHeartbeats 8000000 in
theorem lines_any (a0 : World) (D : Nat) (q : ByteArray) (n : Int) (w : World) (hr : Rdr w D q n) (hb : Below a0.heap.size a0 w) (hD : a0.heap.size ≤ D) (hT : Tabs a0) (hE : Errs a0) (hW : Words a0) (hq : q.size ≤ 100000) (hn : 0 ≤ n ∧ n ≤ 1000) :
  Calls Tryz.prog 33 #[.pointer (some ⟨D, 0, none⟩)] w (LsR w D q) := by
 have HT := Lib.hid hT
 have HER := Lib.hid hE
 have HW := Lib.hid hW
 have HM0 : Hid (LsM a0 w D (.slice none 0 0) q n [] w) := ⟨World.grownBy.refl _ _, hb, hr, Own.nil _ _ _ _, hD, Row.lt hr⟩
 have HI0 := Lib.hid (LsI.start q.data.toList)
 have hns : n + q.size ≤ 200000 := by omega
 clear hr hb hD hT hE hW
 go_enter Tryz.func33, Tryz.ntmps33
 go_wp2_with fail
 go_loopw [4] (fun v wr => ∃ (ls : List Ln) (p : ByteArray) (k : Int) (A : Option Addr) (cap : Nat), v = .slice A ls.length cap ∧ Hid (LsM a0 w D (.slice A ls.length cap) p k ls wr) ∧ Hid (LsI q.data.toList p.data.toList ls) ∧ p.size ≤ 100000 ∧ 0 ≤ k ∧ k + p.size ≤ 200000) (fun _ wr => restSz wr D)
 case atStart => exact ⟨[], q, n, none, 0, rfl, HM0, HI0, hq, hn.1, hns⟩
 case round =>
  clear HM0 HI0 hq hn hns
  obtain ⟨ls, p, k, A, cap, rfl, HM, HI, hp, hk, hkp⟩ := hrel
  have HNX := Lib.hid (next_any D p k wr HM.out.rdr (by omega) (by omega))
  have HRS := Lib.hid (Rdr.rest HM.out.rdr)
  have hll : ls.length ≤ 256 := HI.out.len
  go_wp2_with fail
  refine HNX.out.mono ?_
  rintro e w1 ⟨hg1, h1⟩
  have HG1 := Lib.hid hg1
  clear hg1 HNX
  rcases h1 with ⟨P, A1, cap1, r, hf, rfl, hP, hPs, hsl1, hrl, hrs, hr1⟩ | ⟨hf, rfl, hr1⟩
  rotate_left
  ·have HM1 := Lib.hid (HM.out.read HG1.out hr1)
   have HN := Lib.hid (HI.out.cut_no hf)
   clear hf hr1 HM HI HG1
   go_wp2
   go_ret2
   exact HM1.out.no HN.out
  have HM1 := Lib.hid (HM.out.read HG1.out hr1)
  have hsh := cut_shorter hf hrl
  have HF := Lib.hid hf
  have HRL := Lib.hid hrl
  have HP := Lib.hid hP
  have HPS := Lib.hid hPs
  have HSL := Lib.hid hsl1
  have hpos : 1 ≤ P.length := by
   have h := splitBy_ne 32 (Lib.cut p.data.toList [10]).1
   rw [← hP] at h
   cases P with
   | nil => exact absurd rfl h
   | cons x t => simp
  have hcap : P.length ≤ cap1 := by
   obtain ⟨A', cap', hv, k1, _⟩ := hsl1
   injection hv with e1 e2 e3
   subst e3
   rwa [txts_len] at k1
  clear hf hrl hP hPs hsl1 hr1 HM HG1 hrs
  by_cases h1 : P.length = 1
  ·obtain ⟨x0, rfl⟩ : ∃ x0, P = [x0] := by
    match P, h1 with
    | [x0], _ => exact ⟨x0, rfl⟩
   obtain ⟨bk, off, rfl, hc⟩ := HSL.out.cells (by simp [txts])
   have c0 : w1.cell? ⟨bk, off, none⟩ = some (.string x0) := hc.txt (k := 0) (by simp)
   have hbk := hc.1
   clear hc h1
   simp only [List.length_singleton] at *
   by_cases hx : x0.data.toList = wEndq
   ·have HW1 : Hid (splitBy 32 (Lib.cut p.data.toList [10]).1 = [wEndq]) := by rw [Hid, ← HP.out, ← hx]; rfl
    obtain ⟨t1, t2⟩ := str_yes hx
    unfold wEndq at t1 t2
    clear hx
    have l0 : w1.cell? ⟨D, 0, none⟩ = some (.string r) := Row.cell HM1.out.rdr 0
    have l1 : w1.cell? ⟨D, 1, none⟩ = some (.int .i64 (k + 1)) := Row.cell HM1.out.rdr 1
    have lf : w1.frozen? ⟨D, 1, none⟩ = false := Row.frozen HM1.out.rdr 1
    have ll : D < w1.heap.size := Row.lt HM1.out.rdr
    by_cases hr0 : r.data.toList = []
    ·have HDN := Lib.hid (HI.out.done HF.out HW1.out (by rw [← HRL.out]; exact hr0))
     have t3 : r.toList = [] := by rw [ByteArray.toList_eq]; exact hr0
     have t4 : r.toList.isEmpty = true := by rw [t3]; rfl
     clear hr0
     go_wp2_with fail
     go_ret2
     exact ⟨HM1.out.grown, .inl ⟨ls, _, rfl, HM1.out.own, HI.out.len, HI.out.ord, HDN.out⟩⟩
    ·have HN := Lib.hid (HI.out.rest HW1.out (by rw [← HRL.out]; exact hr0))
     have t3 : ¬ r.toList = [] := by rw [ByteArray.toList_eq]; exact hr0
     have t4 : r.toList.isEmpty = false := by rw [List.isEmpty_eq_false_iff]; exact t3
     have s1 : IntKind.i64.wrap (k + 1 + 1) = k + 1 + 1 := IntWalk.i64_in _ (by omega)
     have HR2 : Hid (Rdr (w1.setCell ⟨D, 1, none⟩ (.int .i64 (k + 1 + 1))) D r (k + 1 + 1)) := Row.set HM1.out.rdr 1 _
     have HG2 := Lib.hid (gb_set HM1.out.grown (p := ⟨D, 1, none⟩) (.inl rfl) (.int .i64 (k + 1 + 1)))
     clear hr0
     go_wp2_with fail
     go_ret2
     exact ⟨HG2.out, .inr ⟨r, _, rfl, HR2.out, HN.out⟩⟩
   ·have HNE : Hid (splitBy 32 (Lib.cut p.data.toList [10]).1 ≠ [wEndq]) := by rw [Hid, ← HP.out]; intro h; exact hx (by simpa using h)
    obtain ⟨t1, t2⟩ := str_no hx
    unfold wEndq at t1 t2
    clear hx
    go_wp2_with fail
    clear t1 t2 c0
    have HLO := Lib.hid (lineOf_any [x0] (some ⟨bk, off, none⟩) cap1 w1 HSL.out hpos (fun x hx => by have := HPS.out x hx; omega) (HT.out.below HM1.out.below) (HER.out.below HM1.out.below) (HW.out.below HM1.out.below))
    refine HLO.out.mono ?_
    rintro e w2 ⟨x, ok, rfl, hb2, hx1, hx0⟩
    have HM2 := Lib.hid (HM1.out.same hb2)
    clear hb2 HLO HM1 HSL HPS hcap
    rw [HP.out] at hx1 hx0
    cases ok with
    | false =>
     have HN := Lib.hid (HI.out.none HNE.out (hx0 rfl))
     have HM3 := Lib.hid (HM2.out.same ((Below.refl _ _).alloc (Nat.le_refl _) (.cells #[.int .i64 x.kind, .string x.code, .int .i64 x.amt] 45)))
     clear hx0 hx1
     go_wp2_with fail
     go_ret2
     exact HM3.out.no HN.out
    | true =>
     have HX := Lib.hid (hx1 rfl)
     clear hx0 hx1
     have hal := (Below.refl w2.heap.size w2).alloc (Nat.le_refl _) (.cells #[.int .i64 x.kind, .string x.code, .int .i64 x.amt] 45)
     have HM3 := Lib.hid (HM2.out.same hal)
     have HX3 := Lib.hid (Row.new w2 45 #[.int .i64 x.kind, .string x.code, .int .i64 x.amt])
     by_cases hfull : ls.length = 256
     ·have hfe : ((ls.length : Int) == 256) = true := by simp; omega
      have HN := Lib.hid (HI.out.full HX.out.1 HX.out.2 hfull)
      clear hfull hal
      go_wp2_with fail
      go_ret2
      exact HM3.out.no HN.out
     have hfe : ((ls.length : Int) == 256) = false := by simp; omega
     by_cases h0 : ls = []
     ·subst h0
      have HI2 : Hid (LsI q.data.toList r.data.toList [x]) := by have := HI.out.step HF.out HX.out.1 HX.out.2 (by simp) (fun h => absurd h (by simp)); rw [← HRL.out] at this; exact this
      clear hfull hal
      simp only [List.length_nil] at *
      go_upto_region 10 with (fail)
      obtain ⟨w3, hw3⟩ : ∃ w3, w2.alloc (.cells #[.int .i64 x.kind, .string x.code, .int .i64 x.amt] 45) = w3 := ⟨_, rfl⟩
      obtain ⟨m, hm⟩ : ∃ m, w2.heap.size = m := ⟨_, rfl⟩
      rw [hw3] at HM3 HX3 ⊢
      rw [hm] at HX3 ⊢
      clear hw3 hm
      have e0 := ext_cell HX3.out.lt (HX3.out.cell 0)
      have e1 := ext_cell HX3.out.lt (HX3.out.cell 1)
      have e2 := ext_cell HX3.out.lt (HX3.out.cell 2)
      simp at e0 e1 e2
      have HCO := Lib.hid (fun y : Ext w3 => Form_any x y.val)
      have hxy : ∀ y : Ext w3, Hid (LsM a0 w D (.slice A 0 cap) r (k + 1) [] y.val ∧ Row y.val m 45 #[.int .i64 x.kind, .string x.code, .int .i64 x.amt]) := fun y => ⟨HM3.out.same y.property, HX3.out.below y.property HX3.out.lt⟩
      refine region_ext (by kernel_rfl) (by kernel_rfl) ?_
      repeat (go_big_quiet_step ((first | (go_at_call 56; exact ext_call (HCO.out _)))))
      refine wpQuiet_nil ?_
      rintro _ ⟨y, rfl⟩
      have HM4 := hxy y
      generalize y.val = w4 at HM4 ⊢
      clear hxy e0 e1 e2 HCO y HM3 HX3
      obtain ⟨⟨z0, z1, z2, zl⟩, -⟩ := row3 HM4.out.2
      have hown := HM4.out.1.own
      have hbs : w.heap.size ≤ w4.heap.size := HM4.out.1.grown.size
      go_wp2_with (go_loud (at_builtin; refine wpList_append_sl rfl (.tmp 51) (.tmp 53) rfl rowLn w.heap.size _ _ _ (lns [x]) rfl (hown.alloc _) rfl (Sl.one rfl rfl) (lns_wide _) (by rw [lns_len, lns_len]; unfold maxLen; simp <;> omega) (by rw [lns_len, lns_len]; simp <;> omega) (by simp <;> omega) ?_; intro v5 w5 hown5 hg5 _; rw [← lns_append] at hown5; have HM5 := Lib.hid ((HM4.out.1.same ((Below.refl _ _).alloc (Nat.le_refl _) _)).put hown5 hg5); obtain ⟨A5, c5, rfl⟩ := hown5.form; clear hown5 hg5))
      rw [lns_len] at HM5 ⊢
      go_roundw
      case rel => exact ⟨[] ++ [x], r, k + 1, A5, c5, rfl, HM5, HI2, by omega, by omega, by omega⟩
      case measure => rw [HRS.out, Rdr.rest HM5.out.rdr]; omega
     ·have hlp : 0 < ls.length := by cases ls with | nil => exact absurd rfl h0 | cons a t => simp
      have d0 : decide ((0 : Int) < (ls.length : Int)) = true := decide_eq_true (by omega)
      clear h0
      obtain ⟨gA, gcap, hA, hnc, hgA, hgl⟩ := HM3.out.own.formP (by rw [lns_len]; exact hlp)
      injection hA with hA1 hA2 hA3
      subst hA1 hA3
      clear hA2
      rw [lns_len] at hnc
      have hsl3 := HM3.out.own.sl (by omega)
      obtain ⟨b', off', hAd, hc3⟩ := hsl3.cells (by rw [lns_len]; exact hlp)
      injection hAd with hAd
      injection hAd with hAd1 hAd2
      subst hAd1 hAd2
      obtain ⟨p0, p1, p2⟩ := hc3.ln (k := ls.length - 1) (by omega)
      obtain ⟨y1, hy1⟩ : ∃ y1, ls[ls.length - 1]'(by omega) = y1 := ⟨_, rfl⟩
      have HLT : Hid (∀ h : 0 < ls.length, ls[ls.length - 1]'(by omega) = y1) := fun h => hy1
      rw [hy1] at p0 p1 p2
      obtain ⟨lm, hlm⟩ : ∃ lm, ls.length - 1 = lm := ⟨_, rfl⟩
      rw [hlm] at p0 p1 p2
      simp only [Nat.zero_add] at p0 p1 p2
      have hlen : (ls.length : Int) = (lm : Int) + 1 := by omega
      have hsub : (ls.length : Int) - 1 = (lm : Int) := by omega
      have s1 : IntKind.i64.wrap ((ls.length : Int) - 1) = (lm : Int) := by rw [hsub]; exact IntWalk.i64_in _ (by omega)
      have hlm2 : (lm : Int) < (ls.length : Int) := by omega
      have hlm3 : (0 : Int) ≤ (lm : Int) := by omega
      have HCM := cmp_ge y1 x
      have hfu := Lib.hid hfull
      clear hfull hy1 hsl3
      go_upto_region 10 with (fail)
      obtain ⟨w3, hw3⟩ : ∃ w3, w2.alloc (.cells #[.int .i64 x.kind, .string x.code, .int .i64 x.amt] 45) = w3 := ⟨_, rfl⟩
      obtain ⟨m, hm⟩ : ∃ m, w2.heap.size = m := ⟨_, rfl⟩
      rw [hw3] at HM3 HX3 p0 p1 p2 hgl hc3 ⊢
      rw [hm] at HX3 ⊢
      clear hw3 hm hal hlm hlen hsub
      have e0 := ext_cell HX3.out.lt (HX3.out.cell 0)
      have e1 := ext_cell HX3.out.lt (HX3.out.cell 1)
      have e2 := ext_cell HX3.out.lt (HX3.out.cell 2)
      simp at e0 e1 e2
      have f0 := ext_cell hgl p0
      have f1 := ext_cell hgl p1
      have f2 := ext_cell hgl p2
      have HCO := Lib.hid (fun y : Ext w3 => (order_any y1 x y.val).mono fun _ w' ⟨he, q, os, hw⟩ => (⟨he, by rw [hw]; exact Lib.below_grow _ _ (Nat.le_refl _) _ _⟩ : _ ∧ Below y.val.heap.size y.val w'))
      have hxy : ∀ y : Ext w3, Hid (LsM a0 w D (.slice (some ⟨gA, 0, none⟩) ls.length cap) r (k + 1) ls y.val ∧ Row y.val m 45 #[.int .i64 x.kind, .string x.code, .int .i64 x.amt]) := fun y => ⟨HM3.out.same y.property, HX3.out.below y.property HX3.out.lt⟩
      clear p0 p1 p2 hc3
      cases ho : lnLt y1 x
      ·rw [ho] at HCM
       have HCM : decide (0 ≤ cmpLn y1 x) = true := HCM
       have HN := Lib.hid (HI.out.back HX.out.1 HX.out.2 hlp (by rw [HLT.out hlp]; exact ho))
       clear ho
       refine region_ext (by kernel_rfl) (by kernel_rfl) ?_
       repeat (go_big_quiet_step ((first | (go_at_call 56; exact ext_call (HCO.out _)))))
       refine wpQuiet_nil ?_
       rintro _ ⟨y, rfl⟩
       go_wp2_with fail
       go_ret2
       exact (hxy y).out.1.no HN.out
      ·rw [ho] at HCM
       have HCM : decide (0 ≤ cmpLn y1 x) = false := HCM
       have HI2 : Hid (LsI q.data.toList r.data.toList (ls ++ [x])) := by have := HI.out.step HF.out HX.out.1 HX.out.2 (by have := hfu.out; omega) (fun h => by rw [HLT.out h]; exact ho); rw [← HRL.out] at this; exact this
       clear ho
       refine region_ext (by kernel_rfl) (by kernel_rfl) ?_
       repeat (go_big_quiet_step ((first | (go_at_call 56; exact ext_call (HCO.out _)))))
       refine wpQuiet_nil ?_
       rintro _ ⟨y, rfl⟩
       have HM4 := hxy y
       generalize y.val = w4 at HM4 ⊢
       clear hxy e0 e1 e2 f0 f1 f2 HCO y HM3 HX3
       obtain ⟨⟨z0, z1, z2, zl⟩, -⟩ := row3 HM4.out.2
       have hown := HM4.out.1.own
       have hbs : w.heap.size ≤ w4.heap.size := HM4.out.1.grown.size
       go_wp2_with (go_loud (at_builtin; refine wpList_append_sl rfl (.tmp 51) (.tmp 53) rfl rowLn w.heap.size _ _ _ (lns [x]) rfl (hown.alloc _) rfl (Sl.one rfl rfl) (lns_wide _) (by rw [lns_len, lns_len]; unfold maxLen; simp <;> omega) (by rw [lns_len, lns_len]; simp <;> omega) (by simp <;> omega) ?_; intro v5 w5 hown5 hg5 _; rw [← lns_append] at hown5; have HM5 := Lib.hid ((HM4.out.1.same ((Below.refl _ _).alloc (Nat.le_refl _) _)).put hown5 hg5); obtain ⟨A5, c5, rfl⟩ := hown5.form; clear hown5 hg5))
       rw [lns_len] at HM5 ⊢
       go_roundw
       case rel => exact ⟨ls ++ [x], r, k + 1, A5, c5, rfl, HM5, HI2, by omega, by omega, by omega⟩
       case measure => rw [HRS.out, Rdr.rest HM5.out.rdr]; omega
  ·have hne : ((P.length : Int) == 1) = false := by simp; omega
   have HNE : Hid (splitBy 32 (Lib.cut p.data.toList [10]).1 ≠ [wEndq]) := by rw [Hid, ← HP.out]; intro h; exact h1 (by simpa using congrArg List.length h)
   clear h1
   go_wp2_with fail
   clear hne
   have HLO := Lib.hid (lineOf_any P A1 cap1 w1 HSL.out hpos (fun x hx => by have := HPS.out x hx; omega) (HT.out.below HM1.out.below) (HER.out.below HM1.out.below) (HW.out.below HM1.out.below))
   refine HLO.out.mono ?_
   rintro e w2 ⟨x, ok, rfl, hb2, hx1, hx0⟩
   have HM2 := Lib.hid (HM1.out.same hb2)
   clear hb2 HLO HM1 HSL HPS hcap
   rw [HP.out] at hx1 hx0
   cases ok with
   | false =>
    have HN := Lib.hid (HI.out.none HNE.out (hx0 rfl))
    have HM3 := Lib.hid (HM2.out.same ((Below.refl _ _).alloc (Nat.le_refl _) (.cells #[.int .i64 x.kind, .string x.code, .int .i64 x.amt] 45)))
    clear hx0 hx1
    go_wp2_with fail
    go_ret2
    exact HM3.out.no HN.out
   | true =>
    have HX := Lib.hid (hx1 rfl)
    clear hx0 hx1
    have hal := (Below.refl w2.heap.size w2).alloc (Nat.le_refl _) (.cells #[.int .i64 x.kind, .string x.code, .int .i64 x.amt] 45)
    have HM3 := Lib.hid (HM2.out.same hal)
    have HX3 := Lib.hid (Row.new w2 45 #[.int .i64 x.kind, .string x.code, .int .i64 x.amt])
    by_cases hfull : ls.length = 256
    ·have hfe : ((ls.length : Int) == 256) = true := by simp; omega
     have HN := Lib.hid (HI.out.full HX.out.1 HX.out.2 hfull)
     clear hfull hal
     go_wp2_with fail
     go_ret2
     exact HM3.out.no HN.out
    have hfe : ((ls.length : Int) == 256) = false := by simp; omega
    by_cases h0 : ls = []
    ·subst h0
     have HI2 : Hid (LsI q.data.toList r.data.toList [x]) := by have := HI.out.step HF.out HX.out.1 HX.out.2 (by simp) (fun h => absurd h (by simp)); rw [← HRL.out] at this; exact this
     clear hfull hal
     simp only [List.length_nil] at *
     go_upto_region 10 with (fail)
     obtain ⟨w3, hw3⟩ : ∃ w3, w2.alloc (.cells #[.int .i64 x.kind, .string x.code, .int .i64 x.amt] 45) = w3 := ⟨_, rfl⟩
     obtain ⟨m, hm⟩ : ∃ m, w2.heap.size = m := ⟨_, rfl⟩
     rw [hw3] at HM3 HX3 ⊢
     rw [hm] at HX3 ⊢
     clear hw3 hm
     have e0 := ext_cell HX3.out.lt (HX3.out.cell 0)
     have e1 := ext_cell HX3.out.lt (HX3.out.cell 1)
     have e2 := ext_cell HX3.out.lt (HX3.out.cell 2)
     simp at e0 e1 e2
     have HCO := Lib.hid (fun y : Ext w3 => Form_any x y.val)
     have hxy : ∀ y : Ext w3, Hid (LsM a0 w D (.slice A 0 cap) r (k + 1) [] y.val ∧ Row y.val m 45 #[.int .i64 x.kind, .string x.code, .int .i64 x.amt]) := fun y => ⟨HM3.out.same y.property, HX3.out.below y.property HX3.out.lt⟩
     refine region_ext (by kernel_rfl) (by kernel_rfl) ?_
     repeat (go_big_quiet_step ((first | (go_at_call 56; exact ext_call (HCO.out _)))))
     refine wpQuiet_nil ?_
     rintro _ ⟨y, rfl⟩
     have HM4 := hxy y
     generalize y.val = w4 at HM4 ⊢
     clear hxy e0 e1 e2 HCO y HM3 HX3
     obtain ⟨⟨z0, z1, z2, zl⟩, -⟩ := row3 HM4.out.2
     have hown := HM4.out.1.own
     have hbs : w.heap.size ≤ w4.heap.size := HM4.out.1.grown.size
     go_wp2_with (go_loud (at_builtin; refine wpList_append_sl rfl (.tmp 51) (.tmp 53) rfl rowLn w.heap.size _ _ _ (lns [x]) rfl (hown.alloc _) rfl (Sl.one rfl rfl) (lns_wide _) (by rw [lns_len, lns_len]; unfold maxLen; simp <;> omega) (by rw [lns_len, lns_len]; simp <;> omega) (by simp <;> omega) ?_; intro v5 w5 hown5 hg5 _; rw [← lns_append] at hown5; have HM5 := Lib.hid ((HM4.out.1.same ((Below.refl _ _).alloc (Nat.le_refl _) _)).put hown5 hg5); obtain ⟨A5, c5, rfl⟩ := hown5.form; clear hown5 hg5))
     rw [lns_len] at HM5 ⊢
     go_roundw
     case rel => exact ⟨[] ++ [x], r, k + 1, A5, c5, rfl, HM5, HI2, by omega, by omega, by omega⟩
     case measure => rw [HRS.out, Rdr.rest HM5.out.rdr]; omega
    ·have hlp : 0 < ls.length := by cases ls with | nil => exact absurd rfl h0 | cons a t => simp
     have d0 : decide ((0 : Int) < (ls.length : Int)) = true := decide_eq_true (by omega)
     clear h0
     obtain ⟨gA, gcap, hA, hnc, hgA, hgl⟩ := HM3.out.own.formP (by rw [lns_len]; exact hlp)
     injection hA with hA1 hA2 hA3
     subst hA1 hA3
     clear hA2
     rw [lns_len] at hnc
     have hsl3 := HM3.out.own.sl (by omega)
     obtain ⟨b', off', hAd, hc3⟩ := hsl3.cells (by rw [lns_len]; exact hlp)
     injection hAd with hAd
     injection hAd with hAd1 hAd2
     subst hAd1 hAd2
     obtain ⟨p0, p1, p2⟩ := hc3.ln (k := ls.length - 1) (by omega)
     obtain ⟨y1, hy1⟩ : ∃ y1, ls[ls.length - 1]'(by omega) = y1 := ⟨_, rfl⟩
     have HLT : Hid (∀ h : 0 < ls.length, ls[ls.length - 1]'(by omega) = y1) := fun h => hy1
     rw [hy1] at p0 p1 p2
     obtain ⟨lm, hlm⟩ : ∃ lm, ls.length - 1 = lm := ⟨_, rfl⟩
     rw [hlm] at p0 p1 p2
     simp only [Nat.zero_add] at p0 p1 p2
     have hlen : (ls.length : Int) = (lm : Int) + 1 := by omega
     have hsub : (ls.length : Int) - 1 = (lm : Int) := by omega
     have s1 : IntKind.i64.wrap ((ls.length : Int) - 1) = (lm : Int) := by rw [hsub]; exact IntWalk.i64_in _ (by omega)
     have hlm2 : (lm : Int) < (ls.length : Int) := by omega
     have hlm3 : (0 : Int) ≤ (lm : Int) := by omega
     have HCM := cmp_ge y1 x
     have hfu := Lib.hid hfull
     clear hfull hy1 hsl3
     go_upto_region 10 with (fail)
     obtain ⟨w3, hw3⟩ : ∃ w3, w2.alloc (.cells #[.int .i64 x.kind, .string x.code, .int .i64 x.amt] 45) = w3 := ⟨_, rfl⟩
     obtain ⟨m, hm⟩ : ∃ m, w2.heap.size = m := ⟨_, rfl⟩
     rw [hw3] at HM3 HX3 p0 p1 p2 hgl hc3 ⊢
     rw [hm] at HX3 ⊢
     clear hw3 hm hal hlm hlen hsub
     have e0 := ext_cell HX3.out.lt (HX3.out.cell 0)
     have e1 := ext_cell HX3.out.lt (HX3.out.cell 1)
     have e2 := ext_cell HX3.out.lt (HX3.out.cell 2)
     simp at e0 e1 e2
     have f0 := ext_cell hgl p0
     have f1 := ext_cell hgl p1
     have f2 := ext_cell hgl p2
     have HCO := Lib.hid (fun y : Ext w3 => (order_any y1 x y.val).mono fun _ w' ⟨he, q, os, hw⟩ => (⟨he, by rw [hw]; exact Lib.below_grow _ _ (Nat.le_refl _) _ _⟩ : _ ∧ Below y.val.heap.size y.val w'))
     have hxy : ∀ y : Ext w3, Hid (LsM a0 w D (.slice (some ⟨gA, 0, none⟩) ls.length cap) r (k + 1) ls y.val ∧ Row y.val m 45 #[.int .i64 x.kind, .string x.code, .int .i64 x.amt]) := fun y => ⟨HM3.out.same y.property, HX3.out.below y.property HX3.out.lt⟩
     clear p0 p1 p2 hc3
     cases ho : lnLt y1 x
     ·rw [ho] at HCM
      have HCM : decide (0 ≤ cmpLn y1 x) = true := HCM
      have HN := Lib.hid (HI.out.back HX.out.1 HX.out.2 hlp (by rw [HLT.out hlp]; exact ho))
      clear ho
      refine region_ext (by kernel_rfl) (by kernel_rfl) ?_
      repeat (go_big_quiet_step ((first | (go_at_call 56; exact ext_call (HCO.out _)))))
      refine wpQuiet_nil ?_
      rintro _ ⟨y, rfl⟩
      go_wp2_with fail
      go_ret2
      exact (hxy y).out.1.no HN.out
     ·rw [ho] at HCM
      have HCM : decide (0 ≤ cmpLn y1 x) = false := HCM
      have HI2 : Hid (LsI q.data.toList r.data.toList (ls ++ [x])) := by have := HI.out.step HF.out HX.out.1 HX.out.2 (by have := hfu.out; omega) (fun h => by rw [HLT.out h]; exact ho); rw [← HRL.out] at this; exact this
      clear ho
      refine region_ext (by kernel_rfl) (by kernel_rfl) ?_
      repeat (go_big_quiet_step ((first | (go_at_call 56; exact ext_call (HCO.out _)))))
      refine wpQuiet_nil ?_
      rintro _ ⟨y, rfl⟩
      have HM4 := hxy y
      generalize y.val = w4 at HM4 ⊢
      clear hxy e0 e1 e2 f0 f1 f2 HCO y HM3 HX3
      obtain ⟨⟨z0, z1, z2, zl⟩, -⟩ := row3 HM4.out.2
      have hown := HM4.out.1.own
      have hbs : w.heap.size ≤ w4.heap.size := HM4.out.1.grown.size
      go_wp2_with (go_loud (at_builtin; refine wpList_append_sl rfl (.tmp 51) (.tmp 53) rfl rowLn w.heap.size _ _ _ (lns [x]) rfl (hown.alloc _) rfl (Sl.one rfl rfl) (lns_wide _) (by rw [lns_len, lns_len]; unfold maxLen; simp <;> omega) (by rw [lns_len, lns_len]; simp <;> omega) (by simp <;> omega) ?_; intro v5 w5 hown5 hg5 _; rw [← lns_append] at hown5; have HM5 := Lib.hid ((HM4.out.1.same ((Below.refl _ _).alloc (Nat.le_refl _) _)).put hown5 hg5); obtain ⟨A5, c5, rfl⟩ := hown5.form; clear hown5 hg5))
      rw [lns_len] at HM5 ⊢
      go_roundw
      case rel => exact ⟨ls ++ [x], r, k + 1, A5, c5, rfl, HM5, HI2, by omega, by omega, by omega⟩
      case measure => rw [HRS.out, Rdr.rest HM5.out.rdr]; omega
end Go.Proofs.YtogdefomigiepaaGreatDoor
/- The walk of payslip.Parse. Written by gen_psr.py. -/
namespace Go.Proofs.YtogdefomigiepaaGreatDoor
open Go.RowKit Go.Shelf

theorem results_p {P : Program} {fn : Func} {p a b c d : Tmp} {ty : TypeId} (h : fn.results = #[.tmp a, .tmp b, .cell p ty, .tmp c, .tmp d]) (tmps : Array Value) {w : World} {g : Nat} {t : TypeId} {cs : Array Value} {ds : TypeDesc} (hp : tmps.getD p undef = .pointer (some ⟨g, 0, none⟩)) (hr : Row w g t cs)
  (hu : P.underlying ty = some ds) (hd : ds.isRow = true) (hi : (P.info? ty).map (·.size) = some cs.size) {x y z u : Value} (ha : tmps.getD a undef = x) (hb : tmps.getD b undef = y) (hc : tmps.getD c undef = z) (hdd : tmps.getD d undef = u) : (results fn tmps).run P w = .ok (.tuple #[x, y, .agg cs, z, u]) w := by
 subst ha hb hc hdd
 have hl := run_loadVar_mid (P := P) w g 0 ty cs.toList ds (hr.range 0 (by simp only [List.drop_zero]; exact List.take_of_length_le (Nat.le_refl _))) hu hd (by simpa using hi)
 simp only [Array.toArray_toList] at hl
 have hp' : tmps[p]?.getD undef = .pointer (some ⟨g, 0, none⟩) := by simpa using hp
 simp only [results, h]
 simp [Sem.run_bind, Result.andThen, hp', asAddr, hl]
def ParR (w : World) (t : List UInt8) (e : Ending) (w' : World) : Prop :=
 ∃ (a b : Int) (s : Slp) (v : Value) (ln f : Int), e = .returned (.tuple #[.int .i64 a, .int .i64 b, .agg (s.vals v), .int .i64 ln, .int .i64 f]) ∧ Own w' w.heap.size 45 3 v (lns s.lines) ∧ Below w.heap.size w w' ∧
  (f = 0 → ln = 0 ∧ slipE a b s = 0 ∧ t = textT a b s) ∧ (f ≠ 0 → t.length ≤ 65536 → NoTxt t)
theorem ParR.no {w w' : World} {t : List UInt8} {ln f : Int} (hf : f ≠ 0) (hb : Below w.heap.size w w') (h : t.length ≤ 65536 → NoTxt t) : ParR w t (.returned (.tuple #[.int .i64 0, .int .i64 0, .agg #[.int .i64 0, .int .i64 0, .int .i64 0, .int .i64 0, .int .i64 0, .int .i64 0, .slice none 0 0], .int .i64 ln, .int .i64 f])) w' :=
 ⟨0, 0, ⟨0, 0, 0, 0, 0, 0, []⟩, .slice none 0 0, ln, f, rfl, Own.nil _ _ _ _, hb, fun e => absurd e hf, fun _ => h⟩
structure PaS (w : World) (r D : Nat) (q : ByteArray) (n : Int) (cs : Array Value) (wr : World) : Prop where
 below : Below w.heap.size w wr
 rdr : Rdr wr D q n
 row : Row wr r 27 cs
 lo : w.heap.size ≤ r ∧ r < D
theorem PaS.read {w wr w1 : World} {r D : Nat} {q q1 : ByteArray} {n k : Int} {cs : Array Value} (h : PaS w r D q n cs wr) (hg : wr.grownBy w1 (some D)) (hr : Rdr w1 D q1 k) : PaS w r D q1 k cs w1 :=
 ⟨below_rdr h.below hg (by have := h.lo; omega), hr, h.row.keep hg (by have := h.lo; intro e; injection e; omega), h.lo⟩
theorem PaS.set {w wr : World} {r D : Nat} {q : ByteArray} {n : Int} {cs : Array Value} (h : PaS w r D q n cs wr) (i : Nat) (u : Value) : PaS w r D q n (cs.setIfInBounds i u) (wr.setCell ⟨r, i, none⟩ u) :=
 ⟨h.below.setCell (p := ⟨r, i, none⟩) h.lo.1 u, Row.far h.rdr (p := ⟨r, i, none⟩) (by have := h.lo; show D ≠ r; omega) u, h.row.set i u, h.lo⟩
theorem PaS.put {w wr w1 : World} {r D : Nat} {q : ByteArray} {n : Int} {cs cs' : Array Value} (h : PaS w r D q n cs wr) (hg : wr.grownBy w1 (some r)) (hr : Row w1 r 27 cs') : PaS w r D q n cs' w1 :=
 ⟨below_rdr h.below hg h.lo.1, Row.keep h.rdr hg (by have := h.lo; intro e; injection e; omega), hr, h.lo⟩
theorem PaS.drew {w wr : World} {r D : Nat} {q : ByteArray} {n : Int} {cs : Array Value} (h : PaS w r D q n cs wr) : PaS w r D q n cs wr.drew := ⟨h.below.drew, h.rdr, h.row, h.lo⟩
theorem PaS.set7 {w wr : World} {r D : Nat} {q : ByteArray} {n : Int} {a0 a1 a2 a3 a4 a5 a6 : Value} (h : PaS w r D q n #[a0, a1, a2, a3, a4, a5, a6] wr) (u0 u1 u2 u3 u4 u5 u6 : Value) :
  PaS w r D q n #[u0, u1, u2, u3, u4, u5, u6] (((((((wr.setCell ⟨r, 0, none⟩ u0).setCell ⟨r, 1, none⟩ u1).setCell ⟨r, 2, none⟩ u2).setCell ⟨r, 3, none⟩ u3).setCell ⟨r, 4, none⟩ u4).setCell ⟨r, 5, none⟩ u5).setCell ⟨r, 6, none⟩ u6) := by
 have h1 : PaS w r D q n #[u0, a1, a2, a3, a4, a5, a6] _ := h.set 0 u0
 have h2 : PaS w r D q n #[u0, u1, a2, a3, a4, a5, a6] _ := h1.set 1 u1
 have h3 : PaS w r D q n #[u0, u1, u2, a3, a4, a5, a6] _ := h2.set 2 u2
 have h4 : PaS w r D q n #[u0, u1, u2, u3, a4, a5, a6] _ := h3.set 3 u3
 have h5 : PaS w r D q n #[u0, u1, u2, u3, u4, a5, a6] _ := h4.set 4 u4
 have h6 : PaS w r D q n #[u0, u1, u2, u3, u4, u5, a6] _ := h5.set 5 u5
 have h7 : PaS w r D q n #[u0, u1, u2, u3, u4, u5, u6] _ := h6.set 6 u6
 exact h7
theorem row7 {w : World} {g : Nat} {t : TypeId} {a0 a1 a2 a3 a4 a5 a6 : Value} (h : Row w g t #[a0, a1, a2, a3, a4, a5, a6]) : (w.cell? ⟨g, 0, none⟩ = some a0 ∧ w.cell? ⟨g, 1, none⟩ = some a1 ∧ w.cell? ⟨g, 2, none⟩ = some a2 ∧ w.cell? ⟨g, 3, none⟩ = some a3 ∧ w.cell? ⟨g, 4, none⟩ = some a4 ∧ w.cell? ⟨g, 5, none⟩ = some a5 ∧ w.cell? ⟨g, 6, none⟩ = some a6 ∧ g < w.heap.size) ∧
  w.frozen? ⟨g, 0, none⟩ = false ∧ w.frozen? ⟨g, 1, none⟩ = false ∧ w.frozen? ⟨g, 2, none⟩ = false ∧ w.frozen? ⟨g, 3, none⟩ = false ∧ w.frozen? ⟨g, 4, none⟩ = false ∧ w.frozen? ⟨g, 5, none⟩ = false ∧ w.frozen? ⟨g, 6, none⟩ = false :=
 ⟨⟨h.cell 0, h.cell 1, h.cell 2, h.cell 3, h.cell 4, h.cell 5, h.cell 6, h.lt⟩, h.frozen 0, h.frozen 1, h.frozen 2, h.frozen 3, h.frozen 4, h.frozen 5, h.frozen 6⟩
set_option maxRecDepth 100000 in
set_option maxHeartbeats 8000000 in
theorem Parse_any (q : ByteArray) (w : World) (hT : Tabs w) (hE : Errs w) (hW : Words w) :
  Calls Tryz.prog 14 #[.string q] w (ParR w q.data.toList) := by
 have HT := Lib.hid hT
 have HER := Lib.hid hE
 have HW := Lib.hid hW
 have hql : q.data.toList.length = q.size := by simp
 have hr0 := Row.new w 27 #[.int .i64 0, .int .i64 0, .int .i64 0, .int .i64 0, .int .i64 0, .int .i64 0, .slice none 0 0]
 have hB0 := (Below.refl w.heap.size w).alloc (Nat.le_refl _) (.cells #[.int .i64 0, .int .i64 0, .int .i64 0, .int .i64 0, .int .i64 0, .int .i64 0, .slice none 0 0] 27)
 clear hT hE hW
 by_cases hl : 65536 < q.size
 ·have hd : decide ((65536 : Int) < (q.size : Int)) = true := decide_eq_true (by omega)
  have HLN : Hid (¬ q.data.toList.length ≤ 65536) := by rw [Hid]; omega
  clear hql hl
  go_enter Tryz.func14, Tryz.ntmps14
  go_wp2_with (refine wpList_storeRow rfl 27 (.tmp 4) _ rfl #[.int .i64 0, .int .i64 0, .int .i64 0, .int .i64 0, .int .i64 0, .int .i64 0, .slice none 0 0] rfl rfl hr0 (by simp) (by kernel_rfl) (by simp [Value.oneCell']) (by kernel_rfl) ?_; intro wZ RZ gZ _)
  (try simp only [Exit.inBlock, Exit.then])
  refine bodyPost_ret (results_p rfl _ rfl RZ Tryz.underlying27 rfl (by kernel_rfl) rfl rfl rfl rfl) rfl ?_
  exact ParR.no (by decide) (below_rdr hB0 gZ (Nat.le_refl _)) (fun h => absurd h HLN.out)
 have hd : decide ((65536 : Int) < (q.size : Int)) = false := decide_eq_false (by omega)
 have hq : q.size ≤ 65536 := by omega
 have hr1 := hr0.alloc (.cells #[.string q, .int .i64 0] 93)
 have hd1 := Row.new (w.alloc (.cells #[.int .i64 0, .int .i64 0, .int .i64 0, .int .i64 0, .int .i64 0, .int .i64 0, .slice none 0 0] 27)) 93 #[.string q, .int .i64 0]
 have hB1 := hB0.alloc (by simp) (.cells #[.string q, .int .i64 0] 93)
 have hrd : w.heap.size < (w.alloc (.cells #[.int .i64 0, .int .i64 0, .int .i64 0, .int .i64 0, .int .i64 0, .int .i64 0, .slice none 0 0] 27)).heap.size := by simp
 clear hr0 hB0 hl hql
 go_enter Tryz.func14, Tryz.ntmps14
 go_wp2_with fail
 obtain ⟨w0, hw0⟩ : ∃ w0, (w.alloc (.cells #[.int .i64 0, .int .i64 0, .int .i64 0, .int .i64 0, .int .i64 0, .int .i64 0, .slice none 0 0] 27)).alloc (.cells #[.string q, .int .i64 0] 93) = w0 := ⟨_, rfl⟩
 obtain ⟨D, hDD⟩ : ∃ D, (w.alloc (.cells #[.int .i64 0, .int .i64 0, .int .i64 0, .int .i64 0, .int .i64 0, .int .i64 0, .slice none 0 0] 27)).heap.size = D := ⟨_, rfl⟩
 obtain ⟨r, hrr⟩ : ∃ r, w.heap.size = r := ⟨_, rfl⟩
 rw [hw0] at hr1 hd1 hB1 ⊢
 rw [hDD] at hd1 hrd
 have hDD' : w.heap.size + 1 = D := by rw [← hDD]; simp
 have HP0 : Hid (PaS w r D q 0 #[.int .i64 0, .int .i64 0, .int .i64 0, .int .i64 0, .int .i64 0, .int .i64 0, .slice none 0 0] w0) := ⟨hB1, hd1, by rw [← hrr]; exact hr1, by omega⟩
 have HRW : Hid (w.heap.size ≤ r ∧ w.heap.size ≤ D) := by rw [Hid]; omega
 (try rw [hDD'])
 rw [hrr]
 clear hr1 hd1 hB1 hw0 hDD hDD' hrd hrr hd
 refine (head_any w D q 0 w0 HP0.out.rdr HP0.out.below HRW.out.2 HT.out HER.out (by omega) (by omega)).mono ?_
 rintro e w1 ⟨q1, a, b, ok, rfl, hg1, hz1, hR1, h1, h0⟩
 have HP1 := Lib.hid (HP0.out.read hg1 hR1)
 clear hg1 hR1 HP0
 cases ok with
 | false =>
  have HN := Lib.hid (no_head (h0 rfl))
  clear h0 h1
  have HQ := Lib.hid ((HP1.out.set7 (.int .i64 0) (.int .i64 0) (.int .i64 0) (.int .i64 0) (.int .i64 0) (.int .i64 0) (.slice none 0 0)).drew)
  obtain ⟨⟨a0, a1, a2, a3, a4, a5, a6, al⟩, ⟨b0, b1, b2, b3, b4, b5, b6⟩⟩ := row7 HP1.out.row
  have d1 : _ = some (Value.int .i64 _) := Row.cell HP1.out.rdr 1
  have dl := Row.lt HP1.out.rdr
  have hrD : r ≠ D := by have := HP1.out.lo; omega
  have hDr : D ≠ r := fun h => hrD h.symm
  go_wp2_with fail
  go_region
  all_goals
   go_wp2_with fail
   refine bodyPost_ret (results_p rfl _ rfl HQ.out.row Tryz.underlying27 rfl (by kernel_rfl) rfl rfl rfl rfl) rfl ?_
   exact ParR.no (by decide) HQ.out.below (fun _ => HN.out)
 | true =>
  have HH := Lib.hid (h1 rfl)
  clear h0 h1
  go_wp2_with fail
  refine (bases_any w D q1 (0 + 1) w1 HP1.out.rdr HP1.out.below HRW.out.2 HT.out HER.out (by omega) (by omega)).mono ?_
  rintro e w2 ⟨q2, z0, z1, z2, z3, z4, x, ok, rfl, hg2, hz2, hR2, h1, h0⟩
  have HP2 := Lib.hid (HP1.out.read hg2 hR2)
  clear hg2 hR2 HP1
  cases ok with
  | false =>
   have HN := Lib.hid (no_bases (t := q.data.toList) (hr := HH.out.2.1) (h0 rfl))
   clear h0 h1
   go_wp2_with (refine wpList_storeRow rfl 24 (.tmp 30) _ rfl #[.int .i64 z0, .int .i64 z1, .int .i64 z2, .int .i64 z3, .int .i64 z4, .int .i64 0, .slice none 0 0] rfl rfl HP2.out.row (by simp) (by kernel_rfl) (by simp [Value.oneCell']) (by kernel_rfl) ?_; intro w3 RZ gZ _; have HP3 := Lib.hid (HP2.out.put gZ RZ); have u5 : w3.cell? ⟨r, 5, none⟩ = some (.int .i64 0) := Row.cell RZ 5; have uf : w3.frozen? ⟨r, 5, none⟩ = false := Row.frozen RZ 5; have ul := Row.lt RZ; clear gZ RZ)
   have HP4 : Hid (PaS w r D q2 (0 + 1 + 1) #[.int .i64 z0, .int .i64 z1, .int .i64 z2, .int .i64 z3, .int .i64 z4, .int .i64 x, .slice none 0 0] (w3.setCell ⟨r, 5, none⟩ (.int .i64 x))) := HP3.out.set 5 _
   obtain ⟨w4, hw4⟩ : ∃ w4, w3.setCell ⟨r, 5, none⟩ (.int .i64 x) = w4 := ⟨_, rfl⟩
   rw [hw4] at HP4 ⊢
   clear hw4 u5 uf ul HP3 HP2
   have HQ := Lib.hid ((HP4.out.set7 (.int .i64 0) (.int .i64 0) (.int .i64 0) (.int .i64 0) (.int .i64 0) (.int .i64 0) (.slice none 0 0)).drew)
   obtain ⟨⟨a0, a1, a2, a3, a4, a5, a6, al⟩, ⟨b0, b1, b2, b3, b4, b5, b6⟩⟩ := row7 HP4.out.row
   have d1 : _ = some (Value.int .i64 _) := Row.cell HP4.out.rdr 1
   have dl := Row.lt HP4.out.rdr
   have hrD : r ≠ D := by have := HP4.out.lo; omega
   have hDr : D ≠ r := fun h => hrD h.symm
   go_wp2_with fail
   go_region
   all_goals
    go_wp2_with fail
    refine bodyPost_ret (results_p rfl _ rfl HQ.out.row Tryz.underlying27 rfl (by kernel_rfl) rfl rfl rfl rfl) rfl ?_
    exact ParR.no (by decide) HQ.out.below (fun _ => HN.out)
  | true =>
   have HB := Lib.hid (h1 rfl)
   clear h0 h1
   go_wp2_with (refine wpList_storeRow rfl 24 (.tmp 30) _ rfl #[.int .i64 z0, .int .i64 z1, .int .i64 z2, .int .i64 z3, .int .i64 z4, .int .i64 0, .slice none 0 0] rfl rfl HP2.out.row (by simp) (by kernel_rfl) (by simp [Value.oneCell']) (by kernel_rfl) ?_; intro w3 RZ gZ _; have HP3 := Lib.hid (HP2.out.put gZ RZ); have u5 : w3.cell? ⟨r, 5, none⟩ = some (.int .i64 0) := Row.cell RZ 5; have uf : w3.frozen? ⟨r, 5, none⟩ = false := Row.frozen RZ 5; have ul := Row.lt RZ; clear gZ RZ)
   have HP4 : Hid (PaS w r D q2 (0 + 1 + 1) #[.int .i64 z0, .int .i64 z1, .int .i64 z2, .int .i64 z3, .int .i64 z4, .int .i64 x, .slice none 0 0] (w3.setCell ⟨r, 5, none⟩ (.int .i64 x))) := HP3.out.set 5 _
   obtain ⟨w4, hw4⟩ : ∃ w4, w3.setCell ⟨r, 5, none⟩ (.int .i64 x) = w4 := ⟨_, rfl⟩
   rw [hw4] at HP4 ⊢
   clear hw4 u5 uf ul HP3 HP2
   refine (lines_any w D q2 (0 + 1 + 1) w4 HP4.out.rdr HP4.out.below HRW.out.2 HT.out HER.out HW.out (by omega) (by omega)).mono ?_
   rintro e w5 ⟨hg5, ⟨ls, v, rfl, hown5, hl5, ho5, ht5⟩ | ⟨q5, k5, rfl, hR5, hN⟩⟩
   rotate_left
   ·have HP5 := Lib.hid (HP4.out.read hg5 hR5)
    have HN := Lib.hid (no_lines (t := q.data.toList) (hr := HH.out.2.1) (hr2 := HB.out.2.1) hN)
    have HP6 : Hid (PaS w r D q5 k5 #[.int .i64 z0, .int .i64 z1, .int .i64 z2, .int .i64 z3, .int .i64 z4, .int .i64 x, .slice none 0 0] (w5.setCell ⟨r, 6, none⟩ (.slice none 0 0))) := HP5.out.set 6 _
    have u6 : w5.cell? ⟨r, 6, none⟩ = some (.slice none 0 0) := Row.cell HP5.out.row 6
    have uf : w5.frozen? ⟨r, 6, none⟩ = false := Row.frozen HP5.out.row 6
    have ul := Row.lt HP5.out.row
    clear hN hg5 hR5 HP4
    go_wp2_with fail
    obtain ⟨w6, hw6⟩ : ∃ w6, w5.setCell ⟨r, 6, none⟩ (.slice none 0 0) = w6 := ⟨_, rfl⟩
    rw [hw6] at HP6 ⊢
    clear hw6 u6 uf ul HP5
    have HQ := Lib.hid ((HP6.out.set7 (.int .i64 0) (.int .i64 0) (.int .i64 0) (.int .i64 0) (.int .i64 0) (.int .i64 0) (.slice none 0 0)).drew)
    obtain ⟨⟨a0, a1, a2, a3, a4, a5, a6, al⟩, ⟨b0, b1, b2, b3, b4, b5, b6⟩⟩ := row7 HP6.out.row
    have d1 : _ = some (Value.int .i64 _) := Row.cell HP6.out.rdr 1
    have dl := Row.lt HP6.out.rdr
    have hrD : r ≠ D := by have := HP6.out.lo; omega
    have hDr : D ≠ r := fun h => hrD h.symm
    go_wp2_with fail
    go_region
    all_goals
     go_wp2_with fail
     refine bodyPost_ret (results_p rfl _ rfl HQ.out.row Tryz.underlying27 rfl (by kernel_rfl) rfl rfl rfl rfl) rfl ?_
     exact ParR.no (by decide) HQ.out.below (fun _ => HN.out)
   ·obtain ⟨A5, c5, rfl⟩ := hown5.form
    rw [lns_len] at hown5 ⊢
    have hrow5 : Row w5 r 27 #[.int .i64 z0, .int .i64 z1, .int .i64 z2, .int .i64 z3, .int .i64 z4, .int .i64 x, .slice none 0 0] := HP4.out.row.keep hg5 (by have := HP4.out.lo; intro e; injection e; omega)
    have hrl := HP4.out.row.lt
    have hb5 := below_rdr HP4.out.below hg5 HRW.out.2
    have hro : ∀ g, (Value.slice A5 ls.length c5).ownBlock = some g → g ≠ r := fun g hg => by have := (hown5.1.lt g hg).1; omega
    have hwle : w.heap.size ≤ w4.heap.size := HP4.out.below.size
    have HTX := Lib.hid (txt_of HH.out.1 HH.out.2.2 HH.out.2.1 HB.out.1 HB.out.2.2 (by rw [← HB.out.2.1]; exact ht5) hl5 ho5)
    have HF : Hid (Row (w5.setCell ⟨r, 6, none⟩ (.slice A5 ls.length c5)) r 27 #[.int .i64 z0, .int .i64 z1, .int .i64 z2, .int .i64 z3, .int .i64 z4, .int .i64 x, .slice A5 ls.length c5] ∧ Below w.heap.size w (w5.setCell ⟨r, 6, none⟩ (.slice A5 ls.length c5)) ∧ Own (w5.setCell ⟨r, 6, none⟩ (.slice A5 ls.length c5)) w.heap.size 45 3 (.slice A5 ls.length c5) (lns ls)) := ⟨hrow5.set 6 _, hb5.setCell (p := ⟨r, 6, none⟩) HRW.out.1 _, (hown5.setOff hro 6 _).more hwle⟩
    have u6 : w5.cell? ⟨r, 6, none⟩ = some (.slice none 0 0) := Row.cell hrow5 6
    have uf : w5.frozen? ⟨r, 6, none⟩ = false := Row.frozen hrow5 6
    have ul := Row.lt hrow5
    have hro' := Lib.hid hro
    clear hown5 hrow5 hb5 hg5 HP4 ht5 hro hl5 ho5
    go_wp2_with fail
    obtain ⟨w6, hw6⟩ : ∃ w6, w5.setCell ⟨r, 6, none⟩ (.slice A5 ls.length c5) = w6 := ⟨_, rfl⟩
    rw [hw6] at HF ⊢
    clear hw6 u6 uf ul
    obtain ⟨⟨a0, a1, a2, a3, a4, a5, a6, al⟩, ⟨b0, b1, b2, b3, b4, b5, b6⟩⟩ := row7 HF.out.1
    have HQ : Hid (Row (((((((w6.setCell ⟨r, 0, none⟩ (.int .i64 z0)).setCell ⟨r, 1, none⟩ (.int .i64 z1)).setCell ⟨r, 2, none⟩ (.int .i64 z2)).setCell ⟨r, 3, none⟩ (.int .i64 z3)).setCell ⟨r, 4, none⟩ (.int .i64 z4)).setCell ⟨r, 5, none⟩ (.int .i64 x)).setCell ⟨r, 6, none⟩ (.slice A5 ls.length c5)).drew r 27 #[.int .i64 z0, .int .i64 z1, .int .i64 z2, .int .i64 z3, .int .i64 z4, .int .i64 x, .slice A5 ls.length c5] ∧
      Below w.heap.size w (((((((w6.setCell ⟨r, 0, none⟩ (.int .i64 z0)).setCell ⟨r, 1, none⟩ (.int .i64 z1)).setCell ⟨r, 2, none⟩ (.int .i64 z2)).setCell ⟨r, 3, none⟩ (.int .i64 z3)).setCell ⟨r, 4, none⟩ (.int .i64 z4)).setCell ⟨r, 5, none⟩ (.int .i64 x)).setCell ⟨r, 6, none⟩ (.slice A5 ls.length c5)).drew ∧
      Own (((((((w6.setCell ⟨r, 0, none⟩ (.int .i64 z0)).setCell ⟨r, 1, none⟩ (.int .i64 z1)).setCell ⟨r, 2, none⟩ (.int .i64 z2)).setCell ⟨r, 3, none⟩ (.int .i64 z3)).setCell ⟨r, 4, none⟩ (.int .i64 z4)).setCell ⟨r, 5, none⟩ (.int .i64 x)).setCell ⟨r, 6, none⟩ (.slice A5 ls.length c5)).drew w.heap.size 45 3 (.slice A5 ls.length c5) (lns ls)) :=
     ⟨Row.drew (((((((HF.out.1.set 0 _).set 1 _).set 2 _).set 3 _).set 4 _).set 5 _).set 6 _), (((((((HF.out.2.1.setCell (p := ⟨r, 0, none⟩) HRW.out.1 _).setCell (p := ⟨r, 1, none⟩) HRW.out.1 _).setCell (p := ⟨r, 2, none⟩) HRW.out.1 _).setCell (p := ⟨r, 3, none⟩) HRW.out.1 _).setCell (p := ⟨r, 4, none⟩) HRW.out.1 _).setCell (p := ⟨r, 5, none⟩) HRW.out.1 _).setCell (p := ⟨r, 6, none⟩) HRW.out.1 _).drew,
      (((((((HF.out.2.2.setOff hro'.out 0 _).setOff hro'.out 1 _).setOff hro'.out 2 _).setOff hro'.out 3 _).setOff hro'.out 4 _).setOff hro'.out 5 _).setOff hro'.out 6 _).kept (Below.refl _ _).drew⟩
    go_region
    all_goals
     go_wp2_with fail
     refine bodyPost_ret (results_p rfl _ rfl HQ.out.1 Tryz.underlying27 rfl (by kernel_rfl) rfl rfl rfl rfl) rfl ?_
     exact ⟨a, b, ⟨z0, z1, z2, z3, z4, x, ls⟩, _, 0, 0, rfl, HQ.out.2.2, HQ.out.2.1, fun _ => ⟨rfl, HTX.out.2, HTX.out.1⟩, fun h => absurd rfl h⟩
end Go.Proofs.YtogdefomigiepaaGreatDoor
/- Contract of payrollref32.Same, at equal lists. -/
namespace Go.Proofs.YtogdefomigiepaaGreatDoor
open Go.RowKit

set_option maxRecDepth 100000 in
set_option maxHeartbeats 1600000 in
theorem SameL_any (u v : Value) (l : List Ln) (w : World) (hu : Sl w 3 u (lns l)) (hv : Sl w 3 v (lns l)) :
  Calls Tryz.prog 34 #[u, v] w fun e w' => e = .returned (.bool true) ∧ Below w.heap.size w w' := by
 obtain ⟨A, cap, rfl, h1, h2, x1, h3⟩ := hu
 obtain ⟨B, cup, rfl, k1, k2, x2, k3⟩ := hv
 rw [lns_len] at h1 k1 ⊢
 unfold maxLen at h2 k2
 have H3 := Lib.hid h3
 have K3 := Lib.hid k3
 clear h3 k3 x1 x2
 have hne : ((l.length : Int) != (l.length : Int)) = false := by simp
 go_enter Tryz.func34, Tryz.ntmps34
 go_wp2
 go_loopw [5] (fun i wr => ∃ k : Nat, k ≤ l.length ∧ i = .int .i64 k ∧ Below w.heap.size w wr) (fun i _ => l.length - (intOf i).toNat)
 case atStart => exact ⟨0, by omega, rfl, Below.refl _ _⟩
 case round =>
  obtain ⟨k, hk, rfl, hb⟩ := hrel
  by_cases hlt : k < l.length
  ·rcases H3.out with h | ⟨b, off, rfl, hc0⟩
   ·exact (lns_pos hlt h).elim
   rcases K3.out with h | ⟨b2, off2, rfl, hd0⟩
   ·exact (lns_pos hlt h).elim
   obtain ⟨c0, c1, c2⟩ := (hc0.below hb hc0.1).ln hlt
   obtain ⟨d0, d1, d2⟩ := (hd0.below hb hd0.1).ln hlt
   clear H3 K3 hc0 hd0
   go_wp2
   go_quiet (fail)
   go_wp2
   go_roundw
   case rel => exact ⟨k + 1, by omega, by go_num, Below.draws hb _⟩
   case measure => simp [intOf]; omega
  ·go_wp2
   go_ret
   exact ⟨rfl, hb⟩

end Go.Proofs.YtogdefomigiepaaGreatDoor
/- Contract of payrollref32.SameSlip, at equal slips. -/
namespace Go.Proofs.YtogdefomigiepaaGreatDoor
open Go.RowKit Go.Shelf

set_option maxRecDepth 100000 in
set_option maxHeartbeats 4000000 in
theorem SameSlip_any (s : Slp) (u v : Value) (w : World) (hu : Sl w 3 u (lns s.lines)) (hv : Sl w 3 v (lns s.lines)) :
  Calls Tryz.prog 15 #[.agg (s.vals u), .agg (s.vals v)] w fun e w' => e = .returned (.bool true) ∧ Below w.heap.size w w' := by
 have HU := Lib.hid hu
 have HV := Lib.hid hv
 obtain ⟨A, c, rfl, -⟩ := hu
 obtain ⟨B, d, rfl, -⟩ := hv
 obtain ⟨z0, z1, z2, z3, z4, x, l⟩ := s
 simp only [Slp.vals] at *
 obtain ⟨n, hn⟩ : ∃ n, (lns l).length = n := ⟨_, rfl⟩
 rw [hn] at HU HV ⊢
 have ha := Row.new w 27 #[.int .i64 z0, .int .i64 z1, .int .i64 z2, .int .i64 z3, .int .i64 z4, .int .i64 x, .slice A n c]
 have ha2 := ha.alloc (.cells #[.int .i64 z0, .int .i64 z1, .int .i64 z2, .int .i64 z3, .int .i64 z4, .int .i64 x, .slice B n d] 27)
 have hb := Row.new (w.alloc (.cells #[.int .i64 z0, .int .i64 z1, .int .i64 z2, .int .i64 z3, .int .i64 z4, .int .i64 x, .slice A n c] 27)) 27 #[.int .i64 z0, .int .i64 z1, .int .i64 z2, .int .i64 z3, .int .i64 z4, .int .i64 x, .slice B n d]
 have hB := ((Below.refl w.heap.size w).alloc (Nat.le_refl _) (.cells #[.int .i64 z0, .int .i64 z1, .int .i64 z2, .int .i64 z3, .int .i64 z4, .int .i64 x, .slice A n c] 27)).alloc (by simp) (.cells #[.int .i64 z0, .int .i64 z1, .int .i64 z2, .int .i64 z3, .int .i64 z4, .int .i64 x, .slice B n d] 27)
 rw [World.size_alloc] at hb
 clear hn ha
 have HB := Lib.hid hB
 have HA := Lib.hid ha2
 have HBB := Lib.hid hb
 clear hB ha2 hb
 go_enter Tryz.func15, Tryz.ntmps15
 go_wp2_with (first
  | (go_loud (refine wpList_loadRow rfl 24 (.tmp 5) rfl [.int .i64 z0, .int .i64 z1, .int .i64 z2, .int .i64 z3, .int .i64 z4] _ rfl HA.out (by kernel_rfl) Tryz.underlying24 rfl (by kernel_rfl) ?_))
  | (refine wpList_loadRow rfl 24 (.tmp 7) rfl [.int .i64 z0, .int .i64 z1, .int .i64 z2, .int .i64 z3, .int .i64 z4] _ rfl HBB.out (by kernel_rfl) Tryz.underlying24 rfl (by kernel_rfl) ?_))
 refine (SameL_any (.slice A n c) (.slice B n d) l _ (HU.out.below HB.out) (HV.out.below HB.out)).mono ?_
 rintro e w2 ⟨rfl, hb2⟩
 have hB2 := below_after HB.out hb2 HB.out.size
 clear hb2
 go_wp2_with fail
 go_ret
 exact ⟨rfl, hB2⟩
end Go.Proofs.YtogdefomigiepaaGreatDoor
