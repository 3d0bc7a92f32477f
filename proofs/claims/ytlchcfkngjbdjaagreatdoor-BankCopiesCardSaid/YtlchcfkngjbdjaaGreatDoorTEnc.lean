/- Contract of transfer.Encode. -/
import Derived.Test.YtlchcfkngjbdjaaGreatDoorTTxt
import Derived.Test.YtlchcfkngjbdjaaGreatDoorTWr
namespace Go.Proofs.YtlchcfkngjbdjaaGreatDoor
open Go.RowKit Go.Shelf

theorem line_head (n d : Int) : lineW [.s ⟨#[102, 105, 108, 101]⟩, .n n, .s ⟨#[100, 97, 121]⟩, .n d] = headL n d ++ [10] := rfl
theorem line_pay (p : Pay) : lineW [.s ⟨#[112, 97, 121]⟩, .n p.e, .n p.a] = payL p ++ [10] := rfl
theorem line_total (c : Ctl) : lineW [.s ⟨#[116, 111, 116, 97, 108]⟩, .n c.c, .n c.s, .n c.h] = totL c ++ [10] := rfl
theorem line_end : lineW [.s ⟨#[101, 110, 100]⟩] = wEnd ++ [10] := rfl
theorem lineW_len {ws : List Wd} (hw : ∀ x ∈ ws, x.ok) : (lineW ws).length ≤ ws.length * 101 + 1 := by
  have := preW_len hw (k := ws.length) (Nat.le_refl _)
  rw [preW, List.take_length] at this
  rw [lineW, List.length_append]; simpa using this
theorem ok_s {t : ByteArray} (h : t.size ≤ 100) : (Wd.s t).ok := h
theorem ok_n {i : Int} (h : -9223372036854775808 ≤ i ∧ i ≤ 9223372036854775807) : (Wd.n i).ok := h
theorem ok_nil : ∀ x ∈ ([] : List Wd), x.ok := fun _ h => by cases h
theorem ok_cons {a : Wd} {l : List Wd} (ha : a.ok) (hl : ∀ x ∈ l, x.ok) : ∀ x ∈ a :: l, x.ok := fun x hx => by
  rcases List.mem_cons.1 hx with rfl | hx
  · exact ha
  · exact hl x hx
theorem ok_head {n d : Int} (h : -9223372036854775808 ≤ n ∧ n ≤ 9223372036854775807) (h' : -9223372036854775808 ≤ d ∧ d ≤ 9223372036854775807) : ∀ x ∈ [Wd.s ⟨#[102, 105, 108, 101]⟩, .n n, .s ⟨#[100, 97, 121]⟩, .n d], x.ok :=
  ok_cons (ok_s (by decide)) (ok_cons (ok_n h) (ok_cons (ok_s (by decide)) (ok_cons (ok_n h') ok_nil)))
theorem ok_pay {p : Pay} (h : payV p) : ∀ x ∈ [Wd.s ⟨#[112, 97, 121]⟩, .n p.e, .n p.a], x.ok := by
  unfold payV at h
  exact ok_cons (ok_s (by decide)) (ok_cons (ok_n (by omega)) (ok_cons (ok_n (by omega)) ok_nil))
theorem ok_total {a b c : Int} (ha : -9223372036854775808 ≤ a ∧ a ≤ 9223372036854775807) (hb : -9223372036854775808 ≤ b ∧ b ≤ 9223372036854775807) (hc : -9223372036854775808 ≤ c ∧ c ≤ 9223372036854775807) : ∀ x ∈ [Wd.s ⟨#[116, 111, 116, 97, 108]⟩, .n a, .n b, .n c], x.ok :=
  ok_cons (ok_s (by decide)) (ok_cons (ok_n ha) (ok_cons (ok_n hb) (ok_cons (ok_n hc) ok_nil)))
theorem ok_end : ∀ x ∈ [Wd.s ⟨#[101, 110, 100]⟩], x.ok := ok_cons (ok_s (by decide)) ok_nil
theorem headL_len {n d : Int} (h : -9223372036854775808 ≤ n ∧ n ≤ 9223372036854775807) (h' : -9223372036854775808 ≤ d ∧ d ≤ 9223372036854775807) : (headL n d ++ [10]).length ≤ 500 := by
  rw [← line_head]
  have := lineW_len (ok_head h h')
  simp only [List.length_cons, List.length_nil] at this; omega
theorem payL_len {p : Pay} (h : payV p) : (payL p ++ [10]).length ≤ 500 := by
  rw [← line_pay]
  have := lineW_len (ok_pay h)
  simp only [List.length_cons, List.length_nil] at this; omega
theorem totL_len {c : Ctl} (ha : -9223372036854775808 ≤ c.c ∧ c.c ≤ 9223372036854775807) (hb : -9223372036854775808 ≤ c.s ∧ c.s ≤ 9223372036854775807) (hc : -9223372036854775808 ≤ c.h ∧ c.h ≤ 9223372036854775807) : (totL c ++ [10]).length ≤ 500 := by
  rw [← line_total]
  have := lineW_len (ok_total ha hb hc)
  simp only [List.length_cons, List.length_nil] at this; omega
theorem paysT_len : ∀ {l : List Pay}, (∀ p ∈ l, payV p) → (paysT l).length ≤ l.length * 500
  | [], _ => by simp [paysT]
  | p :: r, h => by
    have ih := paysT_len (l := r) fun q hq => h q (by simp [hq])
    have hp := payL_len (h p (by simp))
    simp only [paysT, List.map_cons, List.flatten_cons, List.length_append, List.length_cons] at ih hp ⊢
    omega
/-- where Encode stands -/
structure EnS (w : World) (b m o : Nat) (f : Fil) (v : Value) (c : Ctl) (t : List UInt8) (wr : World) : Prop where
  bd : Bd wr b t
  file : Row wr m 37 #[.int .i64 f.n, .int .i64 f.d, v]
  tot : Row wr o 61 #[.int .i64 c.c, .int .i64 c.s, .int .i64 c.h]
  below : Below w.heap.size w wr
  low : m < b ∧ o < b ∧ w.heap.size ≤ b
theorem EnS.next {w wr w' : World} {b m o : Nat} {f : Fil} {v : Value} {c : Ctl} {t t' : List UInt8} (h : EnS w b m o f v c t wr) (hb : Below b wr w') (hd : Bd w' b t') : EnS w b m o f v c t' w' :=
  ⟨hd, h.file.below hb h.low.1, h.tot.below hb h.low.2.1, h.below.trans (hb.mono h.low.2.2), h.low⟩
theorem EnS.same {w wr w' : World} {b m o : Nat} {f : Fil} {v : Value} {c : Ctl} {t : List UInt8} (h : EnS w b m o f v c t wr) (hb : Below wr.heap.size wr w') : EnS w b m o f v c t w' :=
  h.next (hb.mono (Nat.le_of_lt h.bd.lt)) (h.bd.kept hb)
theorem EnS.write {w wr : World} {b m o : Nat} {f : Fil} {v : Value} {c : Ctl} {t : List UInt8} (h : EnS w b m o f v c t wr) (hT : Tabs w) (ws : List Wd) (hw : ∀ x ∈ ws, x.ok) (hl : ws.length ≤ 100) (ht : t.length ≤ 1000000000) :
    Calls Tryz.prog 46 #[.pointer (some ⟨b, 0, none⟩), .slice (some ⟨wr.heap.size, 0, none⟩) ws.length ws.length] (wr.alloc (.cells (ws.map Wd.val).toArray 20)) fun e w' => e = .returned (.tuple #[]) ∧ EnS w b m o f v c (t ++ lineW ws) w' := by
  have hlt := h.bd.lt
  have h1 := h.same ((Below.refl wr.heap.size wr).alloc (Nat.le_refl _) (.cells (ws.map Wd.val).toArray 20))
  refine (write_any b wr.heap.size t ws _ h1.bd (Row.new _ _ _) (by omega) (fun w' hb => hT.below (h1.below.trans (hb.mono h1.low.2.2))) hw hl ht).mono ?_
  rintro e w' ⟨rfl, hd, hb⟩
  exact ⟨rfl, h1.next hb hd⟩
theorem EnS.writeHead {w wr : World} {b m o : Nat} {f : Fil} {v : Value} {c : Ctl} {t : List UInt8} (h : EnS w b m o f v c t wr) (hT : Tabs w) {n d : Int} (hn : -9223372036854775808 ≤ n ∧ n ≤ 9223372036854775807) (hd : -9223372036854775808 ≤ d ∧ d ≤ 9223372036854775807) (ht : t.length ≤ 1000000000) :
    Calls Tryz.prog 46 #[.pointer (some ⟨b, 0, none⟩), .slice (some ⟨wr.heap.size, 0, none⟩) 4 4] (wr.alloc (.cells #[.iface 9 (.string ⟨#[102, 105, 108, 101]⟩), .iface 3 (.int .i64 n), .iface 9 (.string ⟨#[100, 97, 121]⟩), .iface 3 (.int .i64 d)] 20)) fun e w' => e = .returned (.tuple #[]) ∧ EnS w b m o f v c (t ++ (headL n d ++ [10])) w' :=
  h.write hT [.s ⟨#[102, 105, 108, 101]⟩, .n n, .s ⟨#[100, 97, 121]⟩, .n d] (ok_head hn hd) (by simp) ht
theorem EnS.writePay {w wr : World} {b m o : Nat} {f : Fil} {v : Value} {c : Ctl} {t : List UInt8} (h : EnS w b m o f v c t wr) (hT : Tabs w) {p : Pay} (hp : payV p) (ht : t.length ≤ 1000000000) :
    Calls Tryz.prog 46 #[.pointer (some ⟨b, 0, none⟩), .slice (some ⟨wr.heap.size, 0, none⟩) 3 3] (wr.alloc (.cells #[.iface 9 (.string ⟨#[112, 97, 121]⟩), .iface 3 (.int .i64 p.e), .iface 3 (.int .i64 p.a)] 20)) fun e w' => e = .returned (.tuple #[]) ∧ EnS w b m o f v c (t ++ (payL p ++ [10])) w' :=
  h.write hT [.s ⟨#[112, 97, 121]⟩, .n p.e, .n p.a] (ok_pay hp) (by simp) ht
theorem EnS.writeTotal {w wr : World} {b m o : Nat} {f : Fil} {v : Value} {c : Ctl} {t : List UInt8} (h : EnS w b m o f v c t wr) (hT : Tabs w) {x y z : Int} (hx : -9223372036854775808 ≤ x ∧ x ≤ 9223372036854775807) (hy : -9223372036854775808 ≤ y ∧ y ≤ 9223372036854775807) (hz : -9223372036854775808 ≤ z ∧ z ≤ 9223372036854775807) (ht : t.length ≤ 1000000000) :
    Calls Tryz.prog 46 #[.pointer (some ⟨b, 0, none⟩), .slice (some ⟨wr.heap.size, 0, none⟩) 4 4] (wr.alloc (.cells #[.iface 9 (.string ⟨#[116, 111, 116, 97, 108]⟩), .iface 3 (.int .i64 x), .iface 3 (.int .i64 y), .iface 3 (.int .i64 z)] 20)) fun e w' => e = .returned (.tuple #[]) ∧ EnS w b m o f v c (t ++ (totL ⟨x, y, z⟩ ++ [10])) w' :=
  h.write hT [.s ⟨#[116, 111, 116, 97, 108]⟩, .n x, .n y, .n z] (ok_total hx hy hz) (by simp) ht
theorem EnS.writeEnd {w wr : World} {b m o : Nat} {f : Fil} {v : Value} {c : Ctl} {t : List UInt8} (h : EnS w b m o f v c t wr) (hT : Tabs w)  (ht : t.length ≤ 1000000000) :
    Calls Tryz.prog 46 #[.pointer (some ⟨b, 0, none⟩), .slice (some ⟨wr.heap.size, 0, none⟩) 1 1] (wr.alloc (.cells #[.iface 9 (.string ⟨#[101, 110, 100]⟩)] 20)) fun e w' => e = .returned (.tuple #[]) ∧ EnS w b m o f v c (t ++ (wEnd ++ [10])) w' :=
  h.write hT [.s ⟨#[101, 110, 100]⟩] (ok_end) (by simp) ht
theorem row_cells3 {w : World} {g : Nat} {t : TypeId} {a b c : Value} (h : Row w g t #[a, b, c]) : w.cell? ⟨g, 0, none⟩ = some a ∧ w.cell? ⟨g, 1, none⟩ = some b ∧ w.cell? ⟨g, 2, none⟩ = some c ∧ g < w.heap.size := ⟨h.cell 0, h.cell 1, h.cell 2, h.lt⟩
set_option maxRecDepth 100000 in
set_option maxHeartbeats 4000000 in
theorem Encode_any (f : Fil) (v : Value) (w : World) (hv : Sl w 2 v (pays f.l)) (hT : Tabs w) :
    Calls Tryz.prog 32 #[.agg (f.vals v)] w fun e w' => e = .returned (.tuple #[.string ⟨(encT f).toArray⟩, .int .i64 (encE f)]) ∧ Below w.heap.size w w' := by
  have HV := Lib.hid hv
  have HT := Lib.hid hT
  obtain ⟨A, cap, rfl, h1, h2, _, _⟩ := hv
  rw [pays_len] at h1 HV ⊢
  unfold maxLen at h2
  clear hT
  have HVL : Hid (f.vals (.slice A f.l.length cap) = #[.int .i64 f.n, .int .i64 f.d, .slice A f.l.length cap]) := rfl
  rw [HVL.out]
  have HC : Hid (∀ W, Below w.heap.size w W → Calls Tryz.prog 40 #[.agg #[.int .i64 f.n, .int .i64 f.d, .slice A f.l.length cap]] W fun e w' => e = .returned (.bool (filB f)) ∧ Below W.heap.size W w') := fun W hb => by
    have := Valid_any f (.slice A f.l.length cap) W (HV.out.below hb)
    rwa [HVL.out] at this
  have hB0 := (Below.refl w.heap.size w).alloc (Nat.le_refl _) (.cells #[.int .i64 f.n, .int .i64 f.d, .slice A f.l.length cap] 37)
  have hR0 := Row.new w 37 #[.int .i64 f.n, .int .i64 f.d, .slice A f.l.length cap]
  go_enter Tryz.func32, Tryz.ntmps32
  go_wp2_with fail
  obtain ⟨w0, hw0⟩ : ∃ w0, w.alloc (.cells #[.int .i64 f.n, .int .i64 f.d, .slice A f.l.length cap] 37) = w0 := ⟨_, rfl⟩
  rw [hw0] at hB0 hR0 ⊢
  clear hw0
  refine (HC.out _ hB0).mono ?_
  rintro e w1 ⟨rfl, hb1⟩
  have hB1 := below_after hB0 hb1 hB0.size
  have hR1 := hR0.below hb1 hR0.lt
  have hs1 := hB1.size
  clear hB0 hR0 hb1
  cases hF : filB f
  · have HF : Hid (encT f = [] ∧ encE f = 1) := by simp [Hid, encT, encE, hF]
    go_wp2
    go_ret2
    exact ⟨by rw [HF.out.1, HF.out.2]; rfl, hB1⟩
  · have HF : Hid (encT f = headL f.n f.d ++ [10] ++ paysT f.l ++ (totL (ofC f.l) ++ [10]) ++ (wEnd ++ [10]) ∧ encE f = 0) := by
      simp only [Hid, encT, encE, hF, if_true, fileT_eq, and_self]
    obtain ⟨k1, k2, k3, k4, k5, k6, k7, k8⟩ := filB_of hF
    have hsb := sum_bounds k6
    have HV6 := Lib.hid k6
    have H8 := Lib.hid k8
    have H7 := Lib.hid k7
    clear k6 k7 k8 hF
    obtain ⟨m, hm⟩ : ∃ m, w.heap.size = m := ⟨_, rfl⟩
    rw [hm] at hR1 ⊢
    obtain ⟨c0, c1, c2, cl⟩ := row_cells3 hR1
    go_wp2_with fail
    refine (Of_any _ f.l _ (HV.out.below hB1)).mono ?_
    rw [H7.out]
    rintro e w2 ⟨rfl, hb2⟩
    have hB2 := below_after hB1 hb2 hB1.size
    have hR2 := hR1.below hb2 hR1.lt
    have HO : Hid ((ofC f.l).vals = #[.int .i64 f.l.length, .int .i64 (sumA f.l), .int .i64 (sumE f.l)]) := by rw [Hid, H8.out]; rfl
    rw [HO.out]
    clear hb2 c0 c1 c2 cl hB1 hR1
    obtain ⟨c0, c1, c2, cl⟩ := row_cells3 hR2
    go_wp2_with fail
    obtain ⟨o, ho⟩ : ∃ o, w2.heap.size = o := ⟨_, rfl⟩
    obtain ⟨b, hb⟩ : ∃ b, (w2.alloc (.cells #[.int .i64 f.l.length, .int .i64 (sumA f.l), .int .i64 (sumE f.l)] 61)).heap.size = b := ⟨_, rfl⟩
    have hob : b = o + 1 := by rw [← hb, ← ho, World.size_alloc]
    have hmo : m < o := by omega
    have hE3 : EnS w b m o f (.slice A f.l.length cap) ⟨f.l.length, sumA f.l, sumE f.l⟩ [] ((w2.alloc (.cells #[.int .i64 f.l.length, .int .i64 (sumA f.l), .int .i64 (sumE f.l)] 61)).alloc (.cells #[.pointer none, .slice none 0 0] 88)) := by
      refine ⟨by rw [← hb]; exact Bd.new _, (hR2.alloc _).alloc _, ?_, ?_, by omega, by omega, by omega⟩
      · rw [← ho]; exact (Row.new w2 _ _).alloc _
      · exact (hB2.alloc hB2.size _).alloc (by rw [World.size_alloc]; have := hB2.size; omega) _
    obtain ⟨w3, hw3⟩ : ∃ w3, (w2.alloc (.cells #[.int .i64 f.l.length, .int .i64 (sumA f.l), .int .i64 (sumE f.l)] 61)).alloc (.cells #[.pointer none, .slice none 0 0] 88) = w3 := ⟨_, rfl⟩
    have hz3 : w2.heap.size + 1 + 1 = w3.heap.size := by rw [← hw3]; simp
    have hb' : w2.heap.size + 1 = b := by omega
    rw [hw3] at hE3 ⊢
    rw [hz3, hb', ho]
    clear c0 c1 c2 cl hR2 hB2 hw3 hz3 hb' hb ho hob hmo
    refine (hE3.writeHead HT.out (n := f.n) (d := f.d) (by omega) (by omega) (by simp)).mono ?_
    rintro e w4 ⟨rfl, hE4⟩
    rw [List.nil_append] at hE4
    have hhl := headL_len (n := f.n) (d := f.d) (by omega) (by omega)
    clear hE3
    obtain ⟨c0, c1, c2, cl⟩ := row_cells3 hE4.file
    go_wp2_with fail
    clear c0 c1 c2 cl
    go_loopw [33] (fun i wr => ∃ k : Nat, k ≤ f.l.length ∧ i = .int .i64 k ∧ EnS w b m o f (.slice A f.l.length cap) ⟨f.l.length, sumA f.l, sumE f.l⟩ (headL f.n f.d ++ [10] ++ paysT (f.l.take k)) wr) (fun i _ => f.l.length - (intOf i).toNat)
    case atStart => exact ⟨0, by omega, rfl, by simpa [paysT] using hE4⟩
    case round =>
      clear hE4
      obtain ⟨k, hk, rfl, hE⟩ := hrel
      obtain ⟨wo, rfl⟩ : ∃ wo : World, wo = wr := ⟨_, rfl⟩
      have hpt : (headL f.n f.d ++ [10] ++ paysT (f.l.take k)).length ≤ 4000000 := by
        have := paysT_len (l := f.l.take k) fun p hp => HV6.out p (List.mem_of_mem_take hp)
        rw [List.length_take] at this
        rw [List.length_append]; omega
      by_cases hlt : k < f.l.length
      · obtain ⟨bk, off, rfl, hc0⟩ := (HV.out.below hE.below).cells (by rw [pays_len]; omega)
        obtain ⟨c0, c1⟩ := hc0.pay hlt
        have hcl := hc0.1
        have HSN := Lib.hid (paysT_snoc hlt)
        have hpv := HV6.out _ (List.getElem_mem hlt)
        obtain ⟨x, hx⟩ : ∃ x, f.l[k] = x := ⟨_, rfl⟩
        rw [hx] at c0 c1 HSN hpv
        clear hx hc0
        go_wp2_with fail
        have hE1 := hE.same ((Below.refl wo.heap.size wo).alloc (Nat.le_refl _) (.cells #[.int .i64 x.e, .int .i64 x.a] 46))
        obtain ⟨w5, hw5⟩ : ∃ w5, wo.alloc (.cells #[.int .i64 x.e, .int .i64 x.a] 46) = w5 := ⟨_, rfl⟩
        have hz5 : wo.heap.size + 1 = w5.heap.size := by rw [← hw5]; simp
        rw [hw5] at hE1 ⊢
        rw [hz5]
        clear hw5
        refine (hE1.writePay HT.out hpv (by omega)).mono ?_
        rintro e w6 ⟨rfl, hE6⟩
        rw [List.append_assoc, ← HSN.out] at hE6
        go_wp2
        go_roundw
        case rel => exact ⟨k + 1, by omega, by go_num, hE6⟩
        case measure => simp [intOf]; omega
      · obtain rfl : k = f.l.length := by omega
        rw [List.take_length] at hE hpt
        obtain ⟨c0, c1, c2, cl⟩ := row_cells3 hE.tot
        go_wp2_with fail
        clear c0 c1 c2 cl
        refine (hE.writeTotal HT.out (x := f.l.length) (y := sumA f.l) (z := sumE f.l) (by omega) (by omega) (by omega) (by omega)).mono ?_
        rintro e w6 ⟨rfl, hE6⟩
        have HLT : Hid (totL ⟨f.l.length, sumA f.l, sumE f.l⟩ ++ [10] = totL (ofC f.l) ++ [10]) := by rw [Hid, H8.out]
        have htl := totL_len (c := ofC f.l) (by rw [H8.out]; simp only; omega) (by rw [H8.out]; simp only; omega) (by rw [H8.out]; simp only; omega)
        rw [HLT.out] at hE6
        clear hE
        go_wp2_with fail
        refine (hE6.writeEnd HT.out (by rw [List.length_append]; omega)).mono ?_
        rintro e w7 ⟨rfl, hE7⟩
        rw [← HF.out.1] at hE7
        clear hE6
        go_wp2_with fail
        refine (BString_any b _ w7 hE7.bd).mono ?_
        rintro e w8 ⟨rfl, hb8⟩
        have hB8 := hE7.below.trans (hb8.mono hE7.low.2.2)
        go_wp2
        go_ret2
        exact ⟨by rw [HF.out.2]; rfl, hB8⟩
end Go.Proofs.YtlchcfkngjbdjaaGreatDoor
