/- Contract of filing.Encode. -/
import Derived.Test.YtnkephafpebfkaaGreatDoorFv
import Derived.Test.YtnkephafpebfkaaGreatDoorBdrS
import Derived.Test.YtnkephafpebfkaaGreatDoorQt
namespace Go.Proofs.YtnkephafpebfkaaGreatDoor
open Go.RowKit Go.Shelf

def lnsT (l : List Ln) : List UInt8 := (l.map fun x => lnT x ++ [10]).flatten
theorem lnsT_snoc {l : List Ln} {k : Nat} (h : k < l.length) : lnsT (l.take (k + 1)) = lnsT (l.take k) ++ (lnT l[k] ++ [10]) := by
  unfold lnsT
  rw [List.take_succ_eq_append_getElem h, List.map_append, List.flatten_append]; simp
theorem retT_eq (r : Ret) : retT r = headR r.p r.v ++ [10] ++ lnsT r.l ++ (wEnd ++ [10]) := by
  simp [retT, retL, lnsT, Function.comp_def]
theorem headR_eq (p v : Int) : headR p v ++ [10] = [114, 101, 116, 117, 114, 110, 32] ++ Lib.itoa p ++ [32, 118, 101, 114, 115, 105, 111, 110, 32] ++ Lib.itoa v ++ [10] := by
  simp [headR, joinBy, wRet, wVer]
theorem lnT_eq {x : Ln} (h : filedB x.kind = true) : lnT x ++ [10] = wordF x.kind ++ (if x.kind = 6 then [] else 32 :: x.code.data.toList) ++ ([32] ++ Lib.itoa x.amt ++ [10]) := by
  obtain ⟨k, c, a⟩ := x
  simp only at h
  rcases filed_cases h with rfl | rfl | rfl
  · have : lnT ⟨4, c, a⟩ = joinBy 32 [wLevy, c.data.toList, Lib.itoa a] := rfl
    rw [this]; simp [joinBy, wordF]
  · have : lnT ⟨5, c, a⟩ = joinBy 32 [wEmp, c.data.toList, Lib.itoa a] := rfl
    rw [this]; simp [joinBy, wordF]
  · have : lnT ⟨6, c, a⟩ = joinBy 32 [wTax, Lib.itoa a] := rfl
    rw [this]; simp [joinBy, wordF]
theorem lnsT_len {l : List Ln} (h : ∀ x ∈ l, Formed x) : (lnsT l).length ≤ l.length * 61 := by
  have := sum_le (l := l.map fun x => lnT x ++ [10]) (n := 61) fun a ha => by
    obtain ⟨x, hx, rfl⟩ := List.mem_map.1 ha
    have := lnT_len (h x hx)
    rw [List.length_append, List.length_singleton]; omega
  rw [List.length_map] at this
  unfold lnsT; omega
theorem code_len {x : Ln} (h : Formed x) : x.code.size ≤ 24 := by
  cases hb : bareB x.kind
  · have := name_len (h.c hb)
    simpa using this
  · rw [h.b hb]; decide
theorem list_size (l : List UInt8) : (⟨l.toArray⟩ : ByteArray).size = l.length := by simp [ByteArray.size]
theorem word_size (k : Int) : (bsW k).size ≤ 8 := by
  rw [bsW, list_size, wordF]
  split
  · decide
  · split
    · decide
    · split <;> decide
theorem fit {a b : Nat} (c d : Nat) (h1 : a ≤ c) (h2 : b ≤ d) (h : c + d ≤ 140737488355328) : a + b ≤ 140737488355328 := by omega
theorem app_le {a b : List UInt8} (c d : Nat) (h1 : a.length ≤ c) (h2 : b.length ≤ d) : (a ++ b).length ≤ c + d := by rw [List.length_append]; omega
theorem size_app3 {a b c : ByteArray} (x y z : Nat) (h1 : a.size ≤ x) (h2 : b.size ≤ y) (h3 : c.size ≤ z) : (a ++ b ++ c).size ≤ x + y + z := by rw [ByteArray.size_append, ByteArray.size_append]; omega
theorem size_app2 {a b : ByteArray} (x y : Nat) (h1 : a.size ≤ x) (h2 : b.size ≤ y) : (a ++ b).size ≤ x + y := by rw [ByteArray.size_append]; omega
theorem list_le {a : ByteArray} (x : Nat) (h : a.size ≤ x) : a.data.toList.length ≤ x := by simpa using h
/-- a decimal -/
def bsI (n : Int) : ByteArray := ⟨(Lib.itoa n).toArray⟩
theorem bsI_list (n : Int) : (bsI n).data.toList = Lib.itoa n := by simp [bsI]
theorem bsI_size (n : Int) (h0 : -9223372036854775808 ≤ n) (h1 : n ≤ 9223372036854775807) : (bsI n).size ≤ 30 := by
  rw [bsI, list_size]; have := itoa_len n h0 h1; omega
theorem ItoaB_any (n : Int) (w : World) (h0 : -9223372036854775808 ≤ n) (h1 : n ≤ 9223372036854775807) (ht : Tabs w) :
    Calls Tryz.prog 35 #[.int .i64 n] w fun e w' => e = .returned (.string (bsI n)) ∧ Below w.heap.size w w' := Itoa_any n w h0 h1 ht
/-- where Encode stands -/
structure EnR (w : World) (b m : Nat) (r : Ret) (v : Value) (t : List UInt8) (wr : World) : Prop where
  bd : Bd wr b t
  ret : Row wr m 25 #[.int .i64 r.p, .int .i64 r.v, v]
  below : Below w.heap.size w wr
  low : m < b ∧ w.heap.size ≤ b
theorem EnR.next {w wr w' : World} {b m : Nat} {r : Ret} {v : Value} {t t' : List UInt8} (h : EnR w b m r v t wr) (hb : Below b wr w') (hd : Bd w' b t') : EnR w b m r v t' w' :=
  ⟨hd, h.ret.below hb h.low.1, h.below.trans (hb.mono h.low.2), h.low⟩
theorem EnR.same {w wr w' : World} {b m : Nat} {r : Ret} {v : Value} {t : List UInt8} (h : EnR w b m r v t wr) (hb : Below wr.heap.size wr w') : EnR w b m r v t w' :=
  h.next (hb.mono (Nat.le_of_lt h.bd.lt)) (h.bd.kept hb)

set_option maxRecDepth 100000 in
set_option maxHeartbeats 6000000 in
theorem EncodeR_any (r : Ret) (v : Value) (w : World) (hv : Sl w 3 v (lns r.l)) (hT : Tabs w) :
    Calls Tryz.prog 13 #[.agg (r.vals v)] w fun e w' => e = .returned (.tuple #[.string ⟨(encT r).toArray⟩, .int .i64 (encE r)]) ∧ Below w.heap.size w w' := by
  have HV := Lib.hid hv
  have HT := Lib.hid hT
  clear hT
  obtain ⟨A, cap, rfl, h1, h2, _, _⟩ := hv
  rw [lns_len] at h1 HV ⊢
  unfold maxLen at h2
  obtain ⟨n, d, l⟩ := r
  have hvals : Ret.vals ⟨n, d, l⟩ (.slice A l.length cap) = #[.int .i64 n, .int .i64 d, .slice A l.length cap] := rfl
  simp only [hvals] at h1 HV ⊢
  have hR := Row.new w 25 #[.int .i64 n, .int .i64 d, .slice A l.length cap]
  have hB := (Below.refl w.heap.size w).alloc (Nat.le_refl _) (.cells #[.int .i64 n, .int .i64 d, .slice A l.length cap] 25)
  obtain ⟨w0, hw0⟩ : ∃ w0, w.alloc (.cells #[.int .i64 n, .int .i64 d, .slice A l.length cap] 25) = w0 := ⟨_, rfl⟩
  rw [hw0] at hR hB
  have HVA : Hid (Calls Tryz.prog 15 #[.agg #[.int .i64 n, .int .i64 d, .slice A l.length cap]] w0 fun e w' => e = .returned (.bool (retB ⟨n, d, l⟩)) ∧ Below w0.heap.size w0 w') := ValidR_any ⟨n, d, l⟩ _ w0 (HV.out.below hB)
  clear hvals
  obtain ⟨g, hg⟩ : ∃ g, w.heap.size = g := ⟨_, rfl⟩
  rw [hg] at hR
  obtain ⟨⟨x0, x1, x2, xl⟩, -⟩ := row3 hR
  go_enter Tryz.func13, Tryz.ntmps13
  go_wp2_with fail
  have hgw : w.heap.size ≤ g := by omega
  clear hw0 hg x0 x1 x2 xl
  refine HVA.out.mono ?_
  rintro e w1 ⟨rfl, hb1⟩
  have hB1 := below_after hB hb1 hB.size
  have hR1 := hR.below hb1 hR.lt
  clear hB hR hb1 HVA
  cases hfv : retB ⟨n, d, l⟩
  · have HE : Hid ((⟨(encT ⟨n, d, l⟩).toArray⟩ : ByteArray) = ⟨#[]⟩ ∧ encE ⟨n, d, l⟩ = 1) := ⟨by rw [encT, hfv]; rfl, by rw [encE, hfv]; rfl⟩
    clear hfv
    go_wp2
    refine bodyPost_ret (v := .tuple #[.string ⟨#[]⟩, .int .i64 1]) (by simp [results, Tryz.results13, go_sem]) rfl ?_
    exact ⟨by rw [HE.out.1, HE.out.2], hB1⟩
  have hok := (retB_iff _).1 hfv
  have f1 := hok.p0
  have f2 := hok.p1
  have f3 := hok.v0
  have f4 := hok.v1
  have f5 := hok.n
  simp only at f1 f2 f3 f4 f5
  have HF := Lib.hid (fun x hx => formed_of (formB_formed (hok.f x hx)))
  have HK := Lib.hid hok.k
  have HE : Hid (encT ⟨n, d, l⟩ = headR n d ++ [10] ++ lnsT l ++ (wEnd ++ [10]) ∧ encE ⟨n, d, l⟩ = 0) := ⟨by rw [encT, hfv, if_pos rfl, retT_eq], by rw [encE, hfv]; rfl⟩
  have HL := Lib.hid hok.len
  clear hfv hok
  obtain ⟨⟨x0, x1, x2, xl⟩, -⟩ := row3 hR1
  have hs1 := hB1.size
  go_upto_region 4 with (fail)
  have hal := (Below.refl w1.heap.size w1).alloc (Nat.le_refl _) (.cells #[.pointer none, .slice none 0 0] 68)
  have hEn : EnR w w1.heap.size g ⟨n, d, l⟩ (.slice A l.length cap) [] (w1.alloc (.cells #[.pointer none, .slice none 0 0] 68)) := ⟨Bd.new w1, hR1.below hal xl, hB1.alloc hs1 _, xl, hs1⟩
  clear hal x0 x1 x2 xl hR1 hB1
  generalize w1.alloc (.cells #[.pointer none, .slice none 0 0] 68) = w2 at hEn ⊢
  generalize w1.heap.size = b at hEn hs1 ⊢
  obtain ⟨⟨x0, x1, x2, xl⟩, -⟩ := row3 hEn.ret
  have y0 := ext_cell xl x0
  have y1 := ext_cell xl x1
  have HC : Hid (∀ (x : Int) (W : Ext w2), -9223372036854775808 ≤ x → x ≤ 9223372036854775807 → Calls Tryz.prog 35 #[.int .i64 x] W.val fun e w' => e = .returned (.string (bsI x)) ∧ Below W.val.heap.size W.val w') := fun x W g0 g1 => ItoaB_any x W.val g0 g1 (HT.out.below (below_after hEn.below W.property hEn.below.size))
  have s1 := bsI_size n (by omega) (by omega)
  have s2 := bsI_size d (by omega) (by omega)
  clear x0 x1 x2
  refine region_ext_tail 10 (by kernel_rfl) (by kernel_rfl) ?_
  simp only [List.take_succ_cons, List.take_zero, List.drop_succ_cons, List.drop_zero]
  repeat (go_big_quiet_step ((go_at_call 35; exact ext_call (HC.out _ _ (by omega) (by omega)))))
  refine wpQuiet_nil ?_
  rintro _ ⟨y, rfl⟩
  have hE3 := hEn.same y.property
  obtain ⟨hd, hhd⟩ : ∃ hd : ByteArray, (⟨#[114, 101, 116, 117, 114, 110, 32]⟩ ++ bsI n ++ ⟨#[32, 118, 101, 114, 115, 105, 111, 110, 32]⟩ ++ bsI d ++ ⟨#[10]⟩ : ByteArray) = hd := ⟨_, rfl⟩
  have hH : hd.data.toList = headR n d ++ [10] := by
    rw [← hhd, headR_eq]; simp only [app_list, bsI_list]
  have hHz : hd.size ≤ 100 := by
    rw [← hhd]
    simp only [ByteArray.size_append]
    have a1 : (⟨#[114, 101, 116, 117, 114, 110, 32]⟩ : ByteArray).size = 7 := rfl
    have a2 : (⟨#[32, 118, 101, 114, 115, 105, 111, 110, 32]⟩ : ByteArray).size = 9 := rfl
    have a3 : (⟨#[10]⟩ : ByteArray).size = 1 := rfl
    omega
  generalize y.val = w3 at hE3 ⊢
  rw [hhd]
  clear hhd y0 y1 hEn s1 s2 y
  have hEb := hE3.bd
  clear xl
  go_wp2_with fail
  refine (WriteS_any b [] hd w3 hEb (by simp only [List.length_nil]; omega)).mono ?_
  rintro e w4 ⟨rfl, hd4, hb4, -⟩
  have hE4 := hE3.next hb4 hd4
  rw [List.nil_append, hH] at hE4
  have hE5 : EnR w b g ⟨n, d, l⟩ (.slice A l.length cap) (headR n d ++ [10] ++ lnsT (l.take 0)) w4 := by simpa [lnsT] using hE4
  have HE5 := Lib.hid hE5
  have x2 := hE4.ret.cell 2
  have xl := hE4.ret.lt
  simp only [List.getElem?_toArray, List.getElem?_cons_succ, List.getElem?_cons_zero] at x2
  have hHn : (headR n d ++ [10]).length ≤ 100 := by rw [← hH]; simpa using hHz
  have HHN := Lib.hid hHn
  clear hE5 hE4 hb4 hd4 hE3 hH hHz hEb hHn
  go_wp2_with fail
  clear x2 xl
  go_loopw [24] (fun i wr => ∃ k : Nat, k ≤ l.length ∧ i = .int .i64 k ∧ Hid (EnR w b g ⟨n, d, l⟩ (.slice A l.length cap) (headR n d ++ [10] ++ lnsT (l.take k)) wr)) (fun i _ => l.length - (intOf i).toNat)
  case atStart => exact ⟨0, by omega, rfl, HE5.out⟩
  case round =>
    clear HE5
    obtain ⟨k, hk, rfl, HN⟩ := hrel
    obtain ⟨wo, rfl⟩ : ∃ wo : World, wo = wr := ⟨_, rfl⟩
    have hlen : (headR n d ++ [10] ++ lnsT (l.take k)).length ≤ 16000 := by
      have := lnsT_len (l := l.take k) fun x hx => HF.out x (List.mem_of_mem_take hx)
      rw [List.length_take] at this
      have := HHN.out
      rw [List.length_append]; omega
    by_cases hlt : k < l.length
    · obtain ⟨bk, off, rfl, hcw⟩ := HV.out.cells (by rw [lns_len]; omega)
      have hc0 := hcw.below HN.out.below hcw.1
      have hbl := hc0.1
      obtain ⟨c0, c1, c2⟩ := hc0.ln hlt
      have HTK := Lib.hid (lnsT_snoc hlt)
      have hfx := HF.out _ (List.getElem_mem hlt)
      have hkx := HK.out _ (List.getElem_mem hlt)
      have hcl := code_len hfx
      have a0 := hfx.a0
      have a1 := hfx.a1
      obtain ⟨x, hx⟩ : ∃ x, l[k] = x := ⟨_, rfl⟩
      rw [hx] at c0 c1 c2 HTK hfx hkx hcl a0 a1
      have i1 : (k : Int) < (l.length : Int) := by omega
      have HLE := Lib.hid (lnT_eq hkx)
      have hal := (Below.refl wo.heap.size wo).alloc (Nat.le_refl _) (.cells #[.int .i64 x.kind, .string x.code, .int .i64 x.amt] 56)
      have hE6 := HN.out.same hal
      have hrx := Row.new wo 56 #[.int .i64 x.kind, .string x.code, .int .i64 x.amt]
      obtain ⟨w5, hw5⟩ : ∃ w5, wo.alloc (.cells #[.int .i64 x.kind, .string x.code, .int .i64 x.amt] 56) = w5 := ⟨_, rfl⟩
      rw [hw5] at hE6 hrx hal
      have hqb : b < wo.heap.size := HN.out.bd.lt
      obtain ⟨⟨z0, z1, z2, zl⟩, -⟩ := row3 hrx
      clear hx hcw hc0 hfx hkx
      go_wp2_with fail
      refine (fword_any x.kind _).mono ?_
      rintro e w' ⟨rfl, rfl⟩
      have hwz := word_size x.kind
      have hEb := hE6.bd
      obtain ⟨q, hq⟩ : ∃ q, wo.heap.size = q := ⟨_, rfl⟩
      rw [hq] at hrx z0 z1 z2 zl hqb ⊢
      clear hw5 hal hq c0 c1 c2 hbl HN
      go_wp2_with fail
      refine (WriteS_any b _ (bsW x.kind) w5 hEb (fit 16000 8 hlen hwz (by decide))).mono ?_
      rintro e w6 ⟨rfl, hd6, hb6, hk6⟩
      have hE7 := hE6.next hb6 hd6
      have hr7 := hrx.others hk6 (by omega) (by decide)
      clear hE6 hrx z0 z1 z2 zl hd6 hb6 hk6 hEb
      have hwl : (bsW x.kind).data.toList = wordF x.kind := by simp [bsW]
      have hwll : (wordF x.kind).length ≤ 8 := by rw [← hwl]; simpa using hwz
      rw [hwl] at hE7
      have hlen2 := app_le 16000 8 hlen hwll
      obtain ⟨⟨z0, z1, z2, zl⟩, -⟩ := row3 hr7
      have HBT := Lib.hid (fun W => ItoaB_any x.amt W (by omega) (by omega))
      have s3 := bsI_size x.amt (by omega) (by omega)
      clear hwl
      by_cases h6 : x.kind = 6
      · have e6 : (x.kind != 6) = false := by simpa using h6
        rw [if_pos h6] at HLE
        have HE7 := Lib.hid hE7
        have hr7' := Lib.hid hr7
        clear h6 hr7 hE7
        go_wp2_with fail
        refine (HBT.out w6 (HT.out.below HE7.out.below)).mono ?_
        rintro e w7 ⟨rfl, hb7⟩
        have hE8 := HE7.out.same hb7
        obtain ⟨u, hu⟩ : ∃ u, bsI x.amt = u := ⟨_, rfl⟩
        rw [hu] at s3 ⊢
        have hul : u.data.toList = Lib.itoa x.amt := by rw [← hu, bsI_list]
        clear hu HE7 hr7' hb7 z0 z1 z2 zl
        have hEb := hE8.bd
        have hsz := size_app3 (a := ⟨#[32]⟩) (c := ⟨#[10]⟩) 1 30 1 (by decide) s3 (by decide)
        go_wp2_with fail
        obtain ⟨U, hU⟩ : ∃ U, (⟨#[32]⟩ ++ u ++ ⟨#[10]⟩ : ByteArray) = U := ⟨_, rfl⟩
        have hUl : U.data.toList = [32] ++ Lib.itoa x.amt ++ [10] := by rw [← hU, app_list, app_list, hul]
        rw [hU] at hsz ⊢
        clear hU
        refine (WriteS_any b _ U w7 hEb (fit 16008 32 hlen2 hsz (by decide))).mono ?_
        rintro e w8 ⟨rfl, hd8, hb8, -⟩
        have hE9 := hE8.next hb8 hd8
        have HE9 : Hid (EnR w b g ⟨n, d, l⟩ (.slice (some ⟨bk, off, none⟩) l.length cap) (headR n d ++ [10] ++ lnsT (l.take (k + 1))) w8) := by
          rw [Hid, HTK.out, HLE.out]
          rw [hUl] at hE9
          simpa using hE9
        clear hE8 hE9 hd8 hb8 hEb
        go_wp2
        go_roundw
        case rel => exact ⟨k + 1, by omega, by go_num, HE9.out⟩
        case measure => simp [intOf]; omega
      · have e6 : (x.kind != 6) = true := by simpa using h6
        rw [if_neg h6] at HLE
        have hEb := hE7.bd
        have hcz := size_app2 (a := ⟨#[32]⟩) 1 24 (by decide) hcl
        clear h6
        go_wp2_with fail
        obtain ⟨V, hV⟩ : ∃ V, (⟨#[32]⟩ ++ x.code : ByteArray) = V := ⟨_, rfl⟩
        have hVl : V.data.toList = 32 :: x.code.data.toList := by rw [← hV, app_list]; rfl
        rw [hV] at hcz ⊢
        clear hV
        refine (WriteS_any b _ V w6 hEb (fit 16008 25 hlen2 hcz (by decide))).mono ?_
        rintro e w7 ⟨rfl, hd7, hb7, hk7⟩
        have hE8 := hE7.next hb7 hd7
        have hr8 := hr7.others hk7 (by omega) (by decide)
        have hlen3 := app_le 16008 25 hlen2 (list_le 25 hcz)
        clear hE7 hr7 z0 z1 z2 zl hd7 hb7 hk7 hEb
        obtain ⟨⟨z0, z1, z2, zl⟩, -⟩ := row3 hr8
        have HE8 := Lib.hid hE8
        clear hE8 hr8
        go_wp2_with fail
        refine (HBT.out w7 (HT.out.below HE8.out.below)).mono ?_
        rintro e w8 ⟨rfl, hb8⟩
        have hE9 := HE8.out.same hb8
        obtain ⟨u, hu⟩ : ∃ u, bsI x.amt = u := ⟨_, rfl⟩
        rw [hu] at s3 ⊢
        have hul : u.data.toList = Lib.itoa x.amt := by rw [← hu, bsI_list]
        clear hu HE8 hb8 z0 z1 z2 zl
        have hEb := hE9.bd
        have hsz := size_app3 (a := ⟨#[32]⟩) (c := ⟨#[10]⟩) 1 30 1 (by decide) s3 (by decide)
        go_wp2_with fail
        obtain ⟨U, hU⟩ : ∃ U, (⟨#[32]⟩ ++ u ++ ⟨#[10]⟩ : ByteArray) = U := ⟨_, rfl⟩
        have hUl : U.data.toList = [32] ++ Lib.itoa x.amt ++ [10] := by rw [← hU, app_list, app_list, hul]
        rw [hU] at hsz ⊢
        clear hU
        refine (WriteS_any b _ U w8 hEb (fit 16033 32 hlen3 hsz (by decide))).mono ?_
        rintro e w9 ⟨rfl, hd9, hb9, -⟩
        have hE10 := hE9.next hb9 hd9
        have HE10 : Hid (EnR w b g ⟨n, d, l⟩ (.slice (some ⟨bk, off, none⟩) l.length cap) (headR n d ++ [10] ++ lnsT (l.take (k + 1))) w9) := by
          rw [Hid, HTK.out, HLE.out]
          rw [hUl, hVl] at hE10
          simpa using hE10
        clear hE9 hE10 hd9 hb9 hEb
        go_wp2
        go_roundw
        case rel => exact ⟨k + 1, by omega, by go_num, HE10.out⟩
        case measure => simp [intOf]; omega
    · obtain rfl : k = l.length := by omega
      have hE := HN.out
      rw [List.take_length] at hE hlen
      have hEb := hE.bd
      clear HN
      go_wp2_with fail
      refine (WriteS_any b _ ⟨#[101, 110, 100, 10]⟩ wo hEb (fit 16000 4 hlen (by decide) (by decide))).mono ?_
      rintro e w6 ⟨rfl, hd6, hb6, -⟩
      have hE6 := hE.next hb6 hd6
      have HTX : Hid (headR n d ++ [10] ++ lnsT l ++ (⟨#[101, 110, 100, 10]⟩ : ByteArray).data.toList = encT ⟨n, d, l⟩) := by rw [Hid, HE.out.1]; rfl
      obtain ⟨T, hTT⟩ : ∃ T, encT ⟨n, d, l⟩ = T := ⟨_, rfl⟩
      rw [HTX.out, hTT] at hE6
      have HTT := Lib.hid hTT
      clear hE hd6 hb6 hEb HTX hTT
      go_wp2_with fail
      refine (BString_any b _ w6 hE6.bd).mono ?_
      rintro e w7 ⟨rfl, hb7⟩
      have hB7 := hE6.below.trans (hb7.mono hE6.low.2)
      clear hE6 hb7
      go_wp2
      go_ret2
      exact ⟨by rw [HTT.out, HE.out.2]; rfl, hB7⟩
end Go.Proofs.YtnkephafpebfkaaGreatDoor
