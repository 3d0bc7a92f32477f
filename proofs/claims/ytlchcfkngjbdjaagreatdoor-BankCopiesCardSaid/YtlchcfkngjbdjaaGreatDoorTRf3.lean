/- Contract of payrollref42.Encode. -/
import Derived.Test.YtlchcfkngjbdjaaGreatDoorTRf2
import Derived.Test.YtlchcfkngjbdjaaGreatDoorDcm
import Derived.Test.YtlchcfkngjbdjaaGreatDoorTEnc
namespace Go.Proofs.YtlchcfkngjbdjaaGreatDoor
open Go.RowKit Go.Shelf

/-- the bytes of a list -/
def bsOf (l : List UInt8) : ByteArray := ⟨l.toArray⟩
theorem bsOf_list (l : List UInt8) : (bsOf l).data.toList = l := by simp [bsOf]
theorem bsOf_size (l : List UInt8) : (bsOf l).size = l.length := by simp [bsOf, ByteArray.size]
theorem bsOf_eq {s : ByteArray} {l : List UInt8} (h : s.data.toList = l) : s = bsOf l := bytes_ext (h.trans (bsOf_list l).symm)
theorem size_of {s : ByteArray} {l : List UInt8} (h : s.data.toList = l) : s.size = l.length := by rw [← h]; simp
theorem RetTxt.bs {l : List UInt8} {w w' : World} {e : Ending} (h : RetTxt l w e w') : e = .returned (.string (bsOf l)) ∧ Below w.heap.size w w' := by
  obtain ⟨s, rfl, hs, hb⟩ := h
  exact ⟨by rw [bsOf_eq hs.out], hb⟩
theorem itoa_20 (n : Int) (h0 : -9223372036854775808 ≤ n) (h1 : n ≤ 9223372036854775807) : (bsOf (Lib.itoa n)).size ≤ 21 := by
  rw [bsOf_size]
  have := dec_len n.natAbs 19 (by omega)
  rcases Int.lt_or_le n 0 with h | h
  · rw [itoa_neg' n h, List.length_cons]; omega
  · rw [itoa_pos' n h]; omega
theorem head_txt (n d : Int) : headL n d ++ [10] = [102, 105, 108, 101, 32] ++ Lib.itoa n ++ [32, 100, 97, 121, 32] ++ Lib.itoa d ++ [10] := by
  simp [headL, lineP, fill_head, joinBy, wFile, wDay]
theorem pay_txt (e a : Int) : payL ⟨e, a⟩ ++ [10] = [112, 97, 121, 32] ++ Lib.itoa e ++ [32] ++ Lib.itoa a ++ [10] := by
  simp [payL, lineP, fill_pay, joinBy, wPay]
theorem tot_txt (c s h : Int) : totL ⟨c, s, h⟩ ++ [10] ++ (wEnd ++ [10]) = [116, 111, 116, 97, 108, 32] ++ Lib.itoa c ++ [32] ++ Lib.itoa s ++ [32] ++ Lib.itoa h ++ [10, 101, 110, 100, 10] := by
  simp [totL, lineP, fill_total, joinBy, wTotal, wEnd]

set_option maxRecDepth 100000 in
set_option maxHeartbeats 2000000 in
theorem refEncode_any (f : Fil) (v : Value) (w : World) (hv : Sl w 2 v (pays f.l)) :
    Calls Tryz.prog 10 #[.agg (f.vals v)] w fun e w' => e = .returned (.tuple #[.string (bsOf (encT f)), .int .i64 (encE f)]) ∧ Below w.heap.size w w' := by
  have HV := Lib.hid hv
  obtain ⟨A, cap, rfl, h1, h2, _, _⟩ := hv
  rw [pays_len] at h1 HV ⊢
  unfold maxLen at h2
  obtain ⟨n, d, l⟩ := f
  have hvals : Fil.vals ⟨n, d, l⟩ (.slice A l.length cap) = #[.int .i64 n, .int .i64 d, .slice A l.length cap] := rfl
  simp only [hvals] at h1 HV ⊢
  have hR := Row.new w 37 #[.int .i64 n, .int .i64 d, .slice A l.length cap]
  have hB := (Below.refl w.heap.size w).alloc (Nat.le_refl _) (.cells #[.int .i64 n, .int .i64 d, .slice A l.length cap] 37)
  obtain ⟨w0, hw0⟩ : ∃ w0, w.alloc (.cells #[.int .i64 n, .int .i64 d, .slice A l.length cap] 37) = w0 := ⟨_, rfl⟩
  rw [hw0] at hR hB
  have HVA : Hid (Calls Tryz.prog 24 #[.agg #[.int .i64 n, .int .i64 d, .slice A l.length cap]] w0 fun e w' => e = .returned (.bool (filB ⟨n, d, l⟩)) ∧ Below w0.heap.size w0 w') := refValidF_any ⟨n, d, l⟩ _ w0 (HV.out.below hB)
  clear hvals
  obtain ⟨g, hg⟩ : ∃ g, w.heap.size = g := ⟨_, rfl⟩
  rw [hg] at hR
  obtain ⟨⟨x0, x1, x2, xl⟩, -⟩ := row3 hR
  go_enter Tryz.func10, Tryz.ntmps10
  go_wp2_with fail
  clear hw0 hg x0 x1 x2 xl
  refine HVA.out.mono ?_
  rintro e w1 ⟨rfl, hb1⟩
  have hB1 := below_after hB hb1 hB.size
  have hR1 := hR.below hb1 hR.lt
  clear hB hR hb1 HVA
  cases hfv : filB ⟨n, d, l⟩
  · have HE : Hid (bsOf (encT ⟨n, d, l⟩) = ⟨#[]⟩ ∧ encE ⟨n, d, l⟩ = 1) := ⟨by rw [encT, hfv]; rfl, by rw [encE, hfv]; rfl⟩
    clear hfv
    go_wp2
    refine bodyPost_ret (v := .tuple #[.string ⟨#[]⟩, .int .i64 1]) (by simp [results, Tryz.results10, go_sem]) rfl ?_
    exact ⟨by rw [HE.out.1, HE.out.2], hB1⟩
  obtain ⟨f1, f2, f3, f4, f5, f6, f7, f8⟩ := filB_of hfv
  simp only at f1 f2 f3 f4 f5 f6 f7 f8
  have hsb := sum_bounds f6
  have HF := Lib.hid (And.intro f6 (And.intro f7 f8))
  have HSB := Lib.hid hsb
  have HE : Hid (encT ⟨n, d, l⟩ = headL n d ++ [10] ++ paysT l ++ (totL ⟨l.length, sumA l, sumE l⟩ ++ [10] ++ (wEnd ++ [10])) ∧ encE ⟨n, d, l⟩ = 0) := ⟨by rw [encT, hfv, if_pos rfl, fileT_eq]; simp only; rw [f8]; simp only [List.append_assoc], by rw [encE, hfv]; rfl⟩
  have hc : ∀ (x : Int) (w : World), -9223372036854775808 ≤ x → x ≤ 9223372036854775807 → Calls Tryz.prog 25 #[.int .i64 x] w fun e w' => e = .returned (.string (bsOf (Lib.itoa x))) ∧ Below w.heap.size w w' := fun x w g1 g2 => (Decimal_any x w (by omega) (by omega)).mono fun _ _ h => h.bs
  have HC := Lib.hid hc
  have s1 := itoa_20 n (by omega) (by omega)
  have s2 := itoa_20 d (by omega) (by omega)
  clear hfv f6 f7 f8 hsb hc
  obtain ⟨⟨x0, x1, x2, xl⟩, -⟩ := row3 hR1
  have y0 := ext_cell xl x0
  have y1 := ext_cell xl x1
  have hbx : Hid (∀ y : Ext w1, Below w.heap.size w y.val ∧ Row y.val g 37 #[.int .i64 n, .int .i64 d, .slice A l.length cap]) := fun y => ⟨hB1.trans (y.property.mono hB1.size), hR1.below y.property xl⟩
  clear x0 x1 x2
  go_wp2_with fail
  refine region_ext (by kernel_rfl) (by kernel_rfl) ?_
  repeat (go_big_quiet_step ((go_at_call 25; exact ext_call (HC.out _ _ (by omega) (by omega)))))
  refine wpQuiet_nil ?_
  rintro _ ⟨y, rfl⟩
  obtain ⟨hBy, hRy⟩ := hbx.out y
  obtain ⟨hd, hhd⟩ : ∃ hd : ByteArray, (⟨#[102, 105, 108, 101, 32]⟩ ++ bsOf (Lib.itoa n) ++ ⟨#[32, 100, 97, 121, 32]⟩ ++ bsOf (Lib.itoa d) ++ ⟨#[10]⟩ : ByteArray) = hd := ⟨_, rfl⟩
  have hH : hd.data.toList = headL n d ++ [10] := by
    rw [← hhd, head_txt, app_list, app_list, app_list, app_list, bsOf_list, bsOf_list]
  have hHz := size_of hH
  have hHl := headL_len (n := n) (d := d) (by omega) (by omega)
  have hz0 : hd.size ≤ 500 := by omega
  have HH := Lib.hid hH
  generalize y.val = w2 at hBy hRy ⊢
  rw [hhd]
  clear hhd hH hHz hHl y0 y1 hbx hB1 hR1 xl s1 s2 y
  have HS0 : Hid (hd.data.toList = headL n d ++ [10] ++ paysT (l.take 0)) := by rw [Hid, HH.out]; simp [paysT]
  have HB0 := Lib.hid (And.intro hBy hRy)
  clear hBy hRy HH
  go_wp2_with fail
  go_loopw [4, 5] (fun o i wr => ∃ (s : ByteArray) (k : Nat), o = .string s ∧ i = .int .i64 k ∧ k ≤ l.length ∧ s.size ≤ 500 + 500 * k ∧ Hid (s.data.toList = headL n d ++ [10] ++ paysT (l.take k)) ∧ Hid (Below w.heap.size w wr ∧ Row wr g 37 #[.int .i64 n, .int .i64 d, .slice A l.length cap])) (fun _ i _ => l.length - (intOf i).toNat)
  case atStart => exact ⟨hd, 0, rfl, rfl, by omega, by omega, HS0.out, HB0.out⟩
  case round =>
    clear HS0 HB0 hz0
    obtain ⟨s, k, rfl, rfl, hk, hsz, HS, HB⟩ := hrel
    obtain ⟨wo, rfl⟩ : ∃ wo : World, wo = wr := ⟨_, rfl⟩
    obtain ⟨⟨x0, x1, x2, xl⟩, -⟩ := row3 HB.out.2
    by_cases hlt : k < l.length
    · obtain ⟨bk, off, rfl, hcw⟩ := HV.out.cells (by rw [pays_len]; omega)
      have hc0 := hcw.below HB.out.1 hcw.1
      have hbl := hc0.1
      obtain ⟨c0, c1⟩ := hc0.pay hlt
      have HP := Lib.hid (HF.out.1 _ (List.getElem_mem hlt))
      have HTK := Lib.hid (paysT_snoc hlt)
      obtain ⟨x, hx⟩ : ∃ x, l[k] = x := ⟨_, rfl⟩
      rw [hx] at c0 c1 HP HTK
      clear hx hcw hc0
      obtain ⟨pe, pa⟩ := x
      simp only at c0 c1
      obtain ⟨p1, p2, p3, p4⟩ := HP.out
      simp only at p1 p2 p3 p4
      have e2 := ext_cell xl x2
      have d0 := ext_cell hbl c0
      have d1 := ext_cell hbl c1
      have i1 : (k : Int) < (l.length : Int) := by omega
      have hbx : Hid (∀ y : Ext wo, Below w.heap.size w y.val ∧ Row y.val g 37 #[.int .i64 n, .int .i64 d, .slice (some ⟨bk, off, none⟩) l.length cap]) := fun y => ⟨HB.out.1.trans (y.property.mono HB.out.1.size), HB.out.2.below y.property xl⟩
      have s1 := itoa_20 pe (by omega) (by omega)
      have s2 := itoa_20 pa (by omega) (by omega)
      clear c0 c1
      go_wp2_with fail
      refine region_ext (by kernel_rfl) (by kernel_rfl) ?_
      repeat (go_big_quiet_step ((go_at_call 25; exact ext_call (HC.out _ _ (by omega) (by omega)))))
      refine wpQuiet_nil ?_
      rintro _ ⟨y, rfl⟩
      have HBY := Lib.hid (hbx.out y)
      obtain ⟨ns, hns⟩ : ∃ ns : ByteArray, s ++ (⟨#[112, 97, 121, 32]⟩ ++ bsOf (Lib.itoa pe) ++ ⟨#[32]⟩ ++ bsOf (Lib.itoa pa) ++ ⟨#[10]⟩ : ByteArray) = ns := ⟨_, rfl⟩
      have hN : ns.data.toList = headL n d ++ [10] ++ paysT (l.take (k + 1)) := by
        rw [← hns, HTK.out, pay_txt, app_list, HS.out, app_list, app_list, app_list, app_list, bsOf_list, bsOf_list]
        simp only [List.append_assoc]
      have hNz : ns.size ≤ 500 + 500 * (k + 1) := by
        rw [← hns, ByteArray.size_append, ByteArray.size_append, ByteArray.size_append, ByteArray.size_append, ByteArray.size_append]
        have a1 : (⟨#[112, 97, 121, 32]⟩ : ByteArray).size = 4 := rfl
        have a2 : (⟨#[32]⟩ : ByteArray).size = 1 := rfl
        have a3 : (⟨#[10]⟩ : ByteArray).size = 1 := rfl
        omega
      have HN := Lib.hid hN
      generalize y.val = w3 at HBY ⊢
      rw [hns]
      clear hns hN e2 d0 d1 hbx s1 s2 y x0 x1 x2
      go_wp2
      go_roundw
      case rel => exact ⟨ns, k + 1, by go_num, by go_num, by omega, hNz, HN.out, HBY.out⟩
      case measure => simp [intOf]; omega
    · obtain rfl : k = l.length := by omega
      have HS1 : Hid (s.data.toList = headL n d ++ [10] ++ paysT l) := by rw [Hid, HS.out, List.take_length]
      have HOF := Lib.hid (refOf_any (.slice A l.length cap) l wo (HV.out.below HB.out.1))
      have hBo := HB.out.1
      obtain ⟨-, hofE, hofC⟩ := HF.out
      rw [hofE, hofC] at HOF
      clear hofE hofC HS
      go_wp2_with fail
      refine HOF.out.mono ?_
      rintro e w3 ⟨rfl, hb3⟩
      obtain ⟨hB2, hR2⟩ := HB.out
      have hB3 := below_after hB2 hb3 hB2.size
      obtain ⟨b1, b2, b3, b4⟩ := HSB.out
      obtain ⟨tc, htc⟩ : ∃ tc : Int, (l.length : Int) = tc := ⟨_, rfl⟩
      obtain ⟨ts, hts⟩ : ∃ ts : Int, sumA l = ts := ⟨_, rfl⟩
      obtain ⟨th, hth⟩ : ∃ th : Int, sumE l = th := ⟨_, rfl⟩
      rw [hts] at b1 b2
      rw [hth] at b3 b4
      have s3 := itoa_20 (l.length : Int) (by omega) (by omega)
      have s4 := itoa_20 ts (by omega) (by omega)
      have s5 := itoa_20 th (by omega) (by omega)
      rw [hts, hth] at HE ⊢
      have hgv : Ctl.vals ⟨(l.length : Int), ts, th⟩ = #[.int .i64 l.length, .int .i64 ts, .int .i64 th] := rfl
      rw [hgv]
      have hW := Row.new w3 61 #[.int .i64 l.length, .int .i64 ts, .int .i64 th]
      have hB4 := below_after hB3 ((Below.refl w3.heap.size w3).alloc (Nat.le_refl _) (.cells #[.int .i64 l.length, .int .i64 ts, .int .i64 th] 61)) hB3.size
      obtain ⟨w4, hw4⟩ : ∃ w4, w3.alloc (.cells #[.int .i64 l.length, .int .i64 ts, .int .i64 th] 61) = w4 := ⟨_, rfl⟩
      rw [hw4] at hW hB4
      obtain ⟨q, hq⟩ : ∃ q, w3.heap.size = q := ⟨_, rfl⟩
      rw [hq] at hW
      obtain ⟨⟨z0, z1, z2, zl⟩, -⟩ := row3 hW
      have y0 := ext_cell zl z0
      have y1 := ext_cell zl z1
      have y2 := ext_cell zl z2
      have hbx : Hid (∀ y : Ext w4, Below w.heap.size w y.val) := fun y => hB4.trans (y.property.mono hB4.size)
      clear htc hts hth hgv hW hB4 hB3 hb3 hB2 hR2 HSB HF HB z0 z1 z2 x0 x1 x2 tc
      go_wp2_with fail
      clear hw4 hq
      refine region_ext (by kernel_rfl) (by kernel_rfl) ?_
      repeat (go_big_quiet_step ((go_at_call 25; exact ext_call (HC.out _ _ (by omega) (by omega)))))
      refine wpQuiet_nil ?_
      rintro _ ⟨y, rfl⟩
      clear y0 y1 y2
      go_wp2
      refine bodyPost_ret (v := .tuple #[.string _, .int .i64 0]) (by simp [results, Tryz.results10, go_sem]; rfl) rfl ?_
      refine ⟨?_, (hbx.out y)⟩
      rw [HE.out.2]
      congr 4
      refine congrArg Value.string (bsOf_eq ?_)
      rw [HE.out.1, tot_txt]
      simp only [app_list, bsOf_list, HS1.out, List.append_assoc]
end Go.Proofs.YtlchcfkngjbdjaaGreatDoor
