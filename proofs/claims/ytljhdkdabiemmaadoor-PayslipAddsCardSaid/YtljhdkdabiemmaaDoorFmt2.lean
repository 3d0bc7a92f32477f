/- Contract of payslip.Format. -/
import Derived.Test.YtljhdkdabiemmaaDoorFmt
namespace Go.Proofs.YtljhdkdabiemmaaDoor
open Go.RowKit Go.Shelf

/-- the words of the kinds of lines -/
def wordsL : List (List UInt8) := [[], [101, 97, 114, 110, 105, 110, 103], [98, 101, 110, 101, 102, 105, 116], [98, 101, 102, 111, 114, 101], [108, 101, 118, 121], [101, 109, 112, 108, 111, 121, 101, 114], [116, 97, 120], [97, 116, 116, 97, 99, 104, 101, 100], [97, 102, 116, 101, 114], [110, 101, 116], [115, 104, 111, 114, 116]]
def wordT (k : Int) : List UInt8 := wordsL.getD k.toNat []
def Words (w : World) : Prop := w.var? Tryd.prog "payroll/payslip.words" = some (wordsL.map fun t => Value.string ⟨t.toArray⟩).toArray
theorem Words.below {w w' : World} (h : Words w) (hb : Below w.heap.size w w') : Words w' := var_below h hb rfl
/-- the text of a line -/
def lineT (x : Ln) : List UInt8 := wordT x.kind ++ (if bareB x.kind then [] else 32 :: x.code.data.toList) ++ (32 :: Lib.itoa x.amt) ++ [10]
def linesT (l : List Ln) : List UInt8 := (l.map lineT).flatten
def basesT (l : List Int) : List UInt8 := (l.map fun b => 32 :: Lib.itoa b).flatten
def headT (e p : Int) : List UInt8 := [112, 97, 121, 115, 108, 105, 112, 32] ++ Lib.itoa e ++ [32, 112, 101, 114, 105, 111, 100, 32] ++ Lib.itoa p ++ [10]
def textT (e p : Int) (s : Slp) : List UInt8 := headT e p ++ [98, 97, 115, 101, 115] ++ basesT s.bs ++ ([32, 108, 101, 103, 97, 108, 32] ++ Lib.itoa s.legal ++ [10]) ++ linesT s.lines ++ [101, 110, 100, 10]
def formatT (e p : Int) (s : Slp) : List UInt8 := if slipE e p s = 0 then textT e p s else []
theorem lt_var {P : Program} {w : World} {name : String} {cs : Array Value} {g : Nat} (h : w.var? P name = some cs) (hg : P.globalNamed name = some g) : g < w.heap.size ∧ ∀ i, w.cell? ⟨g, i, none⟩ = cs[i]? := by
  unfold World.var? at h
  rw [hg] at h
  simp only [Option.bind_some] at h
  cases hh : w.heap[g]? with
  | none => rw [hh] at h; cases h
  | some o =>
    refine ⟨(Array.getElem?_eq_some_iff.1 hh).1, fun i => ?_⟩
    rw [hh] at h
    cases o with
    | cells c t f =>
      simp only [Option.some.injEq] at h
      subst h
      simp [World.cell?, hh]
    | _ => cases h
theorem lit_size (a : Array UInt8) : (⟨a⟩ : ByteArray).size = a.size := rfl
theorem basesT_snoc (l : List Int) (k : Nat) (h : k < l.length) : basesT (l.take (k + 1)) = basesT (l.take k) ++ 32 :: Lib.itoa l[k] := by
  unfold basesT
  rw [List.take_succ_eq_append_getElem h, List.map_append, List.flatten_append]; simp
theorem linesT_snoc (l : List Ln) (k : Nat) (h : k < l.length) : linesT (l.take (k + 1)) = linesT (l.take k) ++ lineT l[k] := by
  unfold linesT
  rw [List.take_succ_eq_append_getElem h, List.map_append, List.flatten_append]; simp
theorem word_len : ∀ K : Nat, K < 11 → (wordT (K : Int)).length ≤ 8 := by decide
theorem words_get (K : Nat) (h : K < 11) : ((wordsL.map fun t => Value.string ⟨t.toArray⟩).toArray)[K]? = some (.string ⟨(wordT (K : Int)).toArray⟩) := by
  match K, h with
  | 0, _ => rfl
  | 1, _ => rfl
  | 2, _ => rfl
  | 3, _ => rfl
  | 4, _ => rfl
  | 5, _ => rfl
  | 6, _ => rfl
  | 7, _ => rfl
  | 8, _ => rfl
  | 9, _ => rfl
  | 10, _ => rfl
theorem wordsNo : Tryd.prog.globalNamed "payroll/payslip.words" = some 0 := by kernel_rfl

set_option maxRecDepth 100000 in
set_option maxHeartbeats 6400000 in
theorem Format_any (e p : Int) (s : Slp) (v : Value) (w : World) (hv : Sl w 3 v (lns s.lines)) (hT : Tabs w) (hW : Words w) (hc : ∀ x ∈ s.lines, x.code.size ≤ 1000000) (he : -9223372036854775808 ≤ e ∧ e ≤ 9223372036854775807) :
    Calls Tryd.prog 24 #[.int .i64 e, .int .i64 p, .agg (s.vals v)] w fun x w' => x = .returned (.tuple #[.string ⟨(formatT e p s).toArray⟩, .int .i64 (slipE e p s)]) ∧ Below w.heap.size w w' := by
  have HV := Lib.hid hv
  obtain ⟨A, cap, rfl, h1, h2, x1, h3⟩ := hv
  rw [lns_len] at h1 HV ⊢
  unfold maxLen at h2
  have H3 := Lib.hid h3
  have HC := Lib.hid hc
  have HT := Lib.hid hT
  have HW := Lib.hid hW
  clear h3 x1 hT hW hc
  have hvals : s.vals (.slice A s.lines.length cap) = #[.int .i64 s.b0, .int .i64 s.b1, .int .i64 s.b2, .int .i64 s.b3, .int .i64 s.b4, .int .i64 s.legal, .slice A s.lines.length cap] := rfl
  rw [hvals]
  clear hvals
  go_enter Tryd.func24, Tryd.ntmps24
  go_wp2_with fail
  obtain ⟨w0, hw0⟩ : ∃ w0, w0 = w.alloc (Obj.cells #[Value.int IntKind.i64 s.b0, Value.int IntKind.i64 s.b1, Value.int IntKind.i64 s.b2, Value.int IntKind.i64 s.b3, Value.int IntKind.i64 s.b4, Value.int IntKind.i64 s.legal, Value.slice A s.lines.length cap] 54) := ⟨_, rfl⟩
  rw [← hw0]
  have hb0 : Below w.heap.size w w0 := by rw [hw0]; exact (Below.refl _ _).alloc (Nat.le_refl _) _
  have hR0 : Row w0 w.heap.size 54 (s.vals (.slice A s.lines.length cap)) := by rw [hw0]; exact Row.new _ _ _
  clear hw0
  refine (slipError_any e p s _ w0 (HV.out.below hb0)).mono ?_
  rintro x w1 ⟨rfl, hb1'⟩
  have hb1 := below_after hb0 hb1' hb0.size
  have hR1 := hR0.below hb1' hR0.lt
  have hs1 := hb1.size
  have hl1 := hR1.lt
  clear hb0 hR0 hb1'
  by_cases hz : slipE e p s = 0
  rotate_left
  · have hz' : (slipE e p s != 0) = true := by simpa using hz
    have HF : Hid (formatT e p s = []) := by rw [Hid, formatT, if_neg hz]
    obtain ⟨E, hE⟩ : ∃ E, E = slipE e p s := ⟨_, rfl⟩
    rw [← hE] at hz' ⊢
    have HE := Lib.hid hE
    clear hz hE
    go_wp2_with fail
    go_ret2
    exact ⟨by rw [HF.out, ← HE.out]; rfl, hb1⟩
  have HF : Hid (formatT e p s = textT e p s) := by rw [Hid, formatT, if_pos hz]
  have hz2 := hz
  have HZ := Lib.hid hz
  rw [hz]
  simp only [slipE] at hz2
  split at hz2
  rotate_left
  · cases hz2
  rename_i hc1
  simp only [Bool.and_eq_true, decide_eq_true_eq] at hc1
  obtain ⟨g1, g2, g3, g4, g5⟩ := hc1
  have hleg : -1000000000000 ≤ s.legal ∧ s.legal ≤ 1000000000000 := by simp [totB] at g5; omega
  split at hz2
  rotate_left
  · cases hz2
  rename_i hc2
  have HBS := Lib.hid (fun b (hb : b ∈ s.bs) => (show -1000000000000 ≤ b ∧ b ≤ 1000000000000 by have := List.all_eq_true.1 hc2 b hb; simp [totB] at this; omega))
  split at hz2
  rotate_left
  · cases hz2
  rename_i hn
  split at hz2
  rotate_left
  · cases hz2
  rename_i hord
  have HOR := Lib.hid ((ordB_iff _).1 hord).1
  clear hz hz2 g5 hc2 hord
  go_wp2_with fail
  have hbd := Bd.new w1
  obtain ⟨w2, hw2⟩ : ∃ w2, w2 = w1.alloc (Obj.cells #[Value.pointer none, Value.slice none 0 0] 70) := ⟨_, rfl⟩
  rw [← hw2] at hbd ⊢
  have hb2 : Below w1.heap.size w1 w2 := by rw [hw2]; exact (Below.refl _ _).alloc (Nat.le_refl _) _
  obtain ⟨b, hbe⟩ : ∃ b, b = w1.heap.size := ⟨_, rfl⟩
  rw [← hbe] at hbd hb2 ⊢
  have hwb : w.heap.size < b := by omega
  have hR2 := hR1.below hb2 (by omega)
  have hB2 : Below w.heap.size w w2 := hb1.trans (hb2.mono (by omega))
  clear hw2 hbe hb1 hR1 hb2 hs1 hl1
  have hl2 := hbd.lt
  refine (ItoaD_any e _ he.1 he.2 (HT.out.below hB2)).mono ?_
  rintro x w3 ⟨t1, rfl, H1, n1, hb3⟩
  have hB3 := below_after hB2 hb3 hB2.size
  have hbd3 := hbd.kept hb3
  have hR3 := hR2.below hb3 hR2.lt
  clear hb3 hB2 hbd hR2
  go_wp2_with fail
  refine (ItoaD_any p _ (by omega) (by omega) (HT.out.below hB3)).mono ?_
  rintro x w4 ⟨t2, rfl, H2, n2, hb4⟩
  have hB4 := below_after hB3 hb4 hB3.size
  have hbd4 := hbd3.kept hb4
  have hR4 := hR3.below hb4 hR3.lt
  clear hb4 hB3 hbd3 hR3
  go_wp2_with fail
  refine (WriteS_any b [] _ w4 hbd4 (by simp only [ByteArray.size_append, lit_size, List.size_toArray, List.length_cons, List.length_nil]; omega)).mono ?_
  rintro x w5 ⟨rfl, hbd5, hb5, -⟩
  have hB5 := hB4.trans (hb5.mono (by omega))
  have hR5 := hR4.below hb5 hwb
  have hN5 : Hid ([] ++ (({ data := #[112, 97, 121, 115, 108, 105, 112, 32] } : ByteArray) ++ t1 ++ { data := #[32, 112, 101, 114, 105, 111, 100, 32] } ++ t2 ++ { data := #[10] }).data.toList = headT e p) := by
    rw [Hid]; simp only [ByteArray.data_append, Array.toList_append, H1.out, H2.out, headT, List.nil_append]
  rw [hN5.out] at hbd5
  have hlh : (headT e p).length ≤ 60 := by
    have h1 := itoa_len e he.1 he.2
    have h2 := itoa_len p (by omega) (by omega)
    simp only [headT, List.length_append, List.length_cons, List.length_nil]; omega
  clear hbd4 hb5 hB4 hR4 hN5 H1 H2 n1 n2
  go_wp2_with fail
  refine (WriteS_any b _ _ w5 hbd5 (by simp only [lit_size, List.size_toArray, List.length_cons, List.length_nil]; omega)).mono ?_
  rintro x w6 ⟨rfl, hbd6, hb6, -⟩
  have hB6 := hB5.trans (hb6.mono (by omega))
  have hR6 := hR5.below hb6 hwb
  clear hbd5 hb6 hB5 hR5
  go_wp2_with fail
  refine (fields_any _ _).mono ?_
  rintro x w7 ⟨rfl, hb7⟩
  have hB7 := below_after hB6 hb7 hB6.size
  have hbd7 := hbd6.kept hb7
  have hR7 := hR6.below hb7 hR6.lt
  clear hbd6 hb7 hB6 hR6
  have ix0 : ∀ w', (Instr.index 77 (.agg #[.pointer (some ⟨w.heap.size, 0, none⟩), .pointer (some ⟨w.heap.size, 1, none⟩), .pointer (some ⟨w.heap.size, 2, none⟩), .pointer (some ⟨w.heap.size, 3, none⟩), .pointer (some ⟨w.heap.size, 4, none⟩)]) (.int .i64 0)).run Tryd.prog w' = .ok (.pointer (some ⟨w.heap.size, 0, none⟩)) w' := fun _ => by kernel_rfl
  have ix1 : ∀ w', (Instr.index 77 (.agg #[.pointer (some ⟨w.heap.size, 0, none⟩), .pointer (some ⟨w.heap.size, 1, none⟩), .pointer (some ⟨w.heap.size, 2, none⟩), .pointer (some ⟨w.heap.size, 3, none⟩), .pointer (some ⟨w.heap.size, 4, none⟩)]) (.int .i64 1)).run Tryd.prog w' = .ok (.pointer (some ⟨w.heap.size, 1, none⟩)) w' := fun _ => by kernel_rfl
  have ix2 : ∀ w', (Instr.index 77 (.agg #[.pointer (some ⟨w.heap.size, 0, none⟩), .pointer (some ⟨w.heap.size, 1, none⟩), .pointer (some ⟨w.heap.size, 2, none⟩), .pointer (some ⟨w.heap.size, 3, none⟩), .pointer (some ⟨w.heap.size, 4, none⟩)]) (.int .i64 2)).run Tryd.prog w' = .ok (.pointer (some ⟨w.heap.size, 2, none⟩)) w' := fun _ => by kernel_rfl
  have ix3 : ∀ w', (Instr.index 77 (.agg #[.pointer (some ⟨w.heap.size, 0, none⟩), .pointer (some ⟨w.heap.size, 1, none⟩), .pointer (some ⟨w.heap.size, 2, none⟩), .pointer (some ⟨w.heap.size, 3, none⟩), .pointer (some ⟨w.heap.size, 4, none⟩)]) (.int .i64 3)).run Tryd.prog w' = .ok (.pointer (some ⟨w.heap.size, 3, none⟩)) w' := fun _ => by kernel_rfl
  have ix4 : ∀ w', (Instr.index 77 (.agg #[.pointer (some ⟨w.heap.size, 0, none⟩), .pointer (some ⟨w.heap.size, 1, none⟩), .pointer (some ⟨w.heap.size, 2, none⟩), .pointer (some ⟨w.heap.size, 3, none⟩), .pointer (some ⟨w.heap.size, 4, none⟩)]) (.int .i64 4)).run Tryd.prog w' = .ok (.pointer (some ⟨w.heap.size, 4, none⟩)) w' := fun _ => by kernel_rfl
  go_wp2_with fail
  go_loopw [33] (fun i wr => ∃ k : Nat, k ≤ 5 ∧ i = .int .i64 k ∧ Bd wr b (headT e p ++ [98, 97, 115, 101, 115] ++ basesT (s.bs.take k)) ∧ Row wr w.heap.size 54 (s.vals (.slice A s.lines.length cap)) ∧ Below w.heap.size w wr ∧ (headT e p ++ [98, 97, 115, 101, 115] ++ basesT (s.bs.take k)).length ≤ 100 + 30 * k) (fun i _ => 5 - (intOf i).toNat)
  case atStart => exact ⟨0, by omega, rfl, by simpa [basesT] using hbd7, hR7, hB7, by simp [basesT]; omega⟩
  case round =>
    obtain ⟨k, hk, rfl, hbd, hR, hB, hlen⟩ := hrel
    by_cases hk5 : k < 5
    · obtain rfl | rfl | rfl | rfl | rfl : k = 0 ∨ k = 1 ∨ k = 2 ∨ k = 3 ∨ k = 4 := by omega
      · have hbk := HBS.out s.b0 (by simp [Slp.bs])
        have hcell := hR.cell 0
        simp only [Slp.vals] at hcell
        have hcell : wr.cell? ⟨w.heap.size, 0, none⟩ = some (.int .i64 s.b0) := hcell
        have HSN : Hid (basesT (s.bs.take (0 + 1)) = basesT (s.bs.take 0) ++ 32 :: Lib.itoa s.b0) := basesT_snoc s.bs 0 (by simp [Slp.bs])
        go_wp2_with fail
        refine (ItoaD_any s.b0 _ (by omega) (by omega) (HT.out.below hB)).mono ?_
        rintro x wa ⟨ta, rfl, HA, na, hba⟩
        have hBa := below_after hB hba hB.size
        have hbda := hbd.kept hba
        have hRa := hR.below hba hR.lt
        clear hcell
        go_wp2_with fail
        refine (WriteS_any b _ _ wa hbda (by simp only [ByteArray.size_append, lit_size, List.size_toArray, List.length_cons, List.length_nil]; omega)).mono ?_
        rintro x wb ⟨rfl, hbdb, hbb, -⟩
        have hBb := hBa.trans (hbb.mono (by omega))
        have hRb := hRa.below hbb hwb
        have hN : Hid (headT e p ++ [98, 97, 115, 101, 115] ++ basesT (s.bs.take 0) ++ (({ data := #[32] } : ByteArray) ++ ta).data.toList = headT e p ++ [98, 97, 115, 101, 115] ++ basesT (s.bs.take (0 + 1))) := by
          rw [Hid, HSN.out, ByteArray.data_append, Array.toList_append, HA.out]; simp
        rw [hN.out] at hbdb
        have hlb : (headT e p ++ [98, 97, 115, 101, 115] ++ basesT (s.bs.take (0 + 1))).length ≤ 100 + 30 * (0 + 1) := by
          rw [HSN.out]; have := itoa_len s.b0 (by omega) (by omega); simp only [List.length_append, List.length_cons] at hlen ⊢; omega
        clear hba hbb hbda hRa hBa hbd hR hB hN HSN
        go_wp2_with fail
        go_roundw
        case rel => exact ⟨1, by omega, by go_num, hbdb, hRb, hBb, hlb⟩
        case measure => simp [intOf]
      · have hbk := HBS.out s.b1 (by simp [Slp.bs])
        have hcell := hR.cell 1
        simp only [Slp.vals] at hcell
        have hcell : wr.cell? ⟨w.heap.size, 1, none⟩ = some (.int .i64 s.b1) := hcell
        have HSN : Hid (basesT (s.bs.take (1 + 1)) = basesT (s.bs.take 1) ++ 32 :: Lib.itoa s.b1) := basesT_snoc s.bs 1 (by simp [Slp.bs])
        go_wp2_with fail
        refine (ItoaD_any s.b1 _ (by omega) (by omega) (HT.out.below hB)).mono ?_
        rintro x wa ⟨ta, rfl, HA, na, hba⟩
        have hBa := below_after hB hba hB.size
        have hbda := hbd.kept hba
        have hRa := hR.below hba hR.lt
        clear hcell
        go_wp2_with fail
        refine (WriteS_any b _ _ wa hbda (by simp only [ByteArray.size_append, lit_size, List.size_toArray, List.length_cons, List.length_nil]; omega)).mono ?_
        rintro x wb ⟨rfl, hbdb, hbb, -⟩
        have hBb := hBa.trans (hbb.mono (by omega))
        have hRb := hRa.below hbb hwb
        have hN : Hid (headT e p ++ [98, 97, 115, 101, 115] ++ basesT (s.bs.take 1) ++ (({ data := #[32] } : ByteArray) ++ ta).data.toList = headT e p ++ [98, 97, 115, 101, 115] ++ basesT (s.bs.take (1 + 1))) := by
          rw [Hid, HSN.out, ByteArray.data_append, Array.toList_append, HA.out]; simp
        rw [hN.out] at hbdb
        have hlb : (headT e p ++ [98, 97, 115, 101, 115] ++ basesT (s.bs.take (1 + 1))).length ≤ 100 + 30 * (1 + 1) := by
          rw [HSN.out]; have := itoa_len s.b1 (by omega) (by omega); simp only [List.length_append, List.length_cons] at hlen ⊢; omega
        clear hba hbb hbda hRa hBa hbd hR hB hN HSN
        go_wp2_with fail
        go_roundw
        case rel => exact ⟨2, by omega, by go_num, hbdb, hRb, hBb, hlb⟩
        case measure => simp [intOf]
      · have hbk := HBS.out s.b2 (by simp [Slp.bs])
        have hcell := hR.cell 2
        simp only [Slp.vals] at hcell
        have hcell : wr.cell? ⟨w.heap.size, 2, none⟩ = some (.int .i64 s.b2) := hcell
        have HSN : Hid (basesT (s.bs.take (2 + 1)) = basesT (s.bs.take 2) ++ 32 :: Lib.itoa s.b2) := basesT_snoc s.bs 2 (by simp [Slp.bs])
        go_wp2_with fail
        refine (ItoaD_any s.b2 _ (by omega) (by omega) (HT.out.below hB)).mono ?_
        rintro x wa ⟨ta, rfl, HA, na, hba⟩
        have hBa := below_after hB hba hB.size
        have hbda := hbd.kept hba
        have hRa := hR.below hba hR.lt
        clear hcell
        go_wp2_with fail
        refine (WriteS_any b _ _ wa hbda (by simp only [ByteArray.size_append, lit_size, List.size_toArray, List.length_cons, List.length_nil]; omega)).mono ?_
        rintro x wb ⟨rfl, hbdb, hbb, -⟩
        have hBb := hBa.trans (hbb.mono (by omega))
        have hRb := hRa.below hbb hwb
        have hN : Hid (headT e p ++ [98, 97, 115, 101, 115] ++ basesT (s.bs.take 2) ++ (({ data := #[32] } : ByteArray) ++ ta).data.toList = headT e p ++ [98, 97, 115, 101, 115] ++ basesT (s.bs.take (2 + 1))) := by
          rw [Hid, HSN.out, ByteArray.data_append, Array.toList_append, HA.out]; simp
        rw [hN.out] at hbdb
        have hlb : (headT e p ++ [98, 97, 115, 101, 115] ++ basesT (s.bs.take (2 + 1))).length ≤ 100 + 30 * (2 + 1) := by
          rw [HSN.out]; have := itoa_len s.b2 (by omega) (by omega); simp only [List.length_append, List.length_cons] at hlen ⊢; omega
        clear hba hbb hbda hRa hBa hbd hR hB hN HSN
        go_wp2_with fail
        go_roundw
        case rel => exact ⟨3, by omega, by go_num, hbdb, hRb, hBb, hlb⟩
        case measure => simp [intOf]
      · have hbk := HBS.out s.b3 (by simp [Slp.bs])
        have hcell := hR.cell 3
        simp only [Slp.vals] at hcell
        have hcell : wr.cell? ⟨w.heap.size, 3, none⟩ = some (.int .i64 s.b3) := hcell
        have HSN : Hid (basesT (s.bs.take (3 + 1)) = basesT (s.bs.take 3) ++ 32 :: Lib.itoa s.b3) := basesT_snoc s.bs 3 (by simp [Slp.bs])
        go_wp2_with fail
        refine (ItoaD_any s.b3 _ (by omega) (by omega) (HT.out.below hB)).mono ?_
        rintro x wa ⟨ta, rfl, HA, na, hba⟩
        have hBa := below_after hB hba hB.size
        have hbda := hbd.kept hba
        have hRa := hR.below hba hR.lt
        clear hcell
        go_wp2_with fail
        refine (WriteS_any b _ _ wa hbda (by simp only [ByteArray.size_append, lit_size, List.size_toArray, List.length_cons, List.length_nil]; omega)).mono ?_
        rintro x wb ⟨rfl, hbdb, hbb, -⟩
        have hBb := hBa.trans (hbb.mono (by omega))
        have hRb := hRa.below hbb hwb
        have hN : Hid (headT e p ++ [98, 97, 115, 101, 115] ++ basesT (s.bs.take 3) ++ (({ data := #[32] } : ByteArray) ++ ta).data.toList = headT e p ++ [98, 97, 115, 101, 115] ++ basesT (s.bs.take (3 + 1))) := by
          rw [Hid, HSN.out, ByteArray.data_append, Array.toList_append, HA.out]; simp
        rw [hN.out] at hbdb
        have hlb : (headT e p ++ [98, 97, 115, 101, 115] ++ basesT (s.bs.take (3 + 1))).length ≤ 100 + 30 * (3 + 1) := by
          rw [HSN.out]; have := itoa_len s.b3 (by omega) (by omega); simp only [List.length_append, List.length_cons] at hlen ⊢; omega
        clear hba hbb hbda hRa hBa hbd hR hB hN HSN
        go_wp2_with fail
        go_roundw
        case rel => exact ⟨4, by omega, by go_num, hbdb, hRb, hBb, hlb⟩
        case measure => simp [intOf]
      · have hbk := HBS.out s.b4 (by simp [Slp.bs])
        have hcell := hR.cell 4
        simp only [Slp.vals] at hcell
        have hcell : wr.cell? ⟨w.heap.size, 4, none⟩ = some (.int .i64 s.b4) := hcell
        have HSN : Hid (basesT (s.bs.take (4 + 1)) = basesT (s.bs.take 4) ++ 32 :: Lib.itoa s.b4) := basesT_snoc s.bs 4 (by simp [Slp.bs])
        go_wp2_with fail
        refine (ItoaD_any s.b4 _ (by omega) (by omega) (HT.out.below hB)).mono ?_
        rintro x wa ⟨ta, rfl, HA, na, hba⟩
        have hBa := below_after hB hba hB.size
        have hbda := hbd.kept hba
        have hRa := hR.below hba hR.lt
        clear hcell
        go_wp2_with fail
        refine (WriteS_any b _ _ wa hbda (by simp only [ByteArray.size_append, lit_size, List.size_toArray, List.length_cons, List.length_nil]; omega)).mono ?_
        rintro x wb ⟨rfl, hbdb, hbb, -⟩
        have hBb := hBa.trans (hbb.mono (by omega))
        have hRb := hRa.below hbb hwb
        have hN : Hid (headT e p ++ [98, 97, 115, 101, 115] ++ basesT (s.bs.take 4) ++ (({ data := #[32] } : ByteArray) ++ ta).data.toList = headT e p ++ [98, 97, 115, 101, 115] ++ basesT (s.bs.take (4 + 1))) := by
          rw [Hid, HSN.out, ByteArray.data_append, Array.toList_append, HA.out]; simp
        rw [hN.out] at hbdb
        have hlb : (headT e p ++ [98, 97, 115, 101, 115] ++ basesT (s.bs.take (4 + 1))).length ≤ 100 + 30 * (4 + 1) := by
          rw [HSN.out]; have := itoa_len s.b4 (by omega) (by omega); simp only [List.length_append, List.length_cons] at hlen ⊢; omega
        clear hba hbb hbda hRa hBa hbd hR hB hN HSN
        go_wp2_with fail
        go_roundw
        case rel => exact ⟨5, by omega, by go_num, hbdb, hRb, hBb, hlb⟩
        case measure => simp [intOf]
    · obtain rfl : k = 5 := by omega
      clear ix0 ix1 ix2 ix3 ix4 hbd7 hR7 hB7
      obtain ⟨pre, hpre⟩ : ∃ pre, pre = headT e p ++ [98, 97, 115, 101, 115] ++ basesT s.bs := ⟨_, rfl⟩
      have hbd : Bd wr b pre := by rw [hpre]; exact hbd
      have hlen : pre.length ≤ 250 := by rw [hpre]; exact hlen
      have HPRE := Lib.hid hpre
      clear hpre
      have hc5 : wr.cell? ⟨w.heap.size, 5, none⟩ = some (.int .i64 s.legal) := hR.cell 5
      go_wp2_with fail
      refine (ItoaD_any s.legal _ (by omega) (by omega) (HT.out.below hB)).mono ?_
      rintro x wa ⟨ta, rfl, HA, na, hba⟩
      have hBa := below_after hB hba hB.size
      have hbda := hbd.kept hba
      have hRa := hR.below hba hR.lt
      clear hc5 hba hbd hR hB
      go_wp2_with fail
      refine (WriteS_any b _ _ wa hbda (by simp only [ByteArray.size_append, lit_size, List.size_toArray, List.length_cons, List.length_nil]; omega)).mono ?_
      rintro x wb ⟨rfl, hbdb, hbb, -⟩
      have hBb := hBa.trans (hbb.mono (by omega))
      have hRb := hRa.below hbb hwb
      obtain ⟨pro, hpro⟩ : ∃ pro, pro = pre ++ ([32, 108, 101, 103, 97, 108, 32] ++ Lib.itoa s.legal ++ [10]) := ⟨_, rfl⟩
      have hN : pre ++ (({ data := #[32, 108, 101, 103, 97, 108, 32] } : ByteArray) ++ ta ++ { data := #[10] }).data.toList = pro := by
        rw [hpro, ByteArray.data_append, Array.toList_append, ByteArray.data_append, Array.toList_append, HA.out]
      have hl2 : pro.length ≤ 300 := by
        have := itoa_len s.legal (by omega) (by omega)
        rw [hpro]; simp only [List.length_append, List.length_cons, List.length_nil]; omega
      rw [hN] at hbdb
      have HPRO := Lib.hid hpro
      clear hN hpro hbda hRa hBa hbb HA na
      have hc6 : wb.cell? ⟨w.heap.size, 6, none⟩ = some (.slice A s.lines.length cap) := hRb.cell 6
      go_wp2_with fail
      clear hc6
      go_loopw [52] (fun i wr => ∃ k : Nat, k ≤ s.lines.length ∧ i = .int .i64 k ∧ Bd wr b (pro ++ linesT (s.lines.take k)) ∧ Below w.heap.size w wr ∧ (linesT (s.lines.take k)).length ≤ 1000100 * k) (fun i _ => s.lines.length - (intOf i).toNat)
      case atStart => exact ⟨0, by omega, rfl, by simpa [linesT] using hbdb, hBb, by simp [linesT]⟩
      case round =>
        clear hbdb hBb hRb
        obtain ⟨k, hk, rfl, hbd, hB, hln⟩ := hrel
        have hbs := hB.size
        have hbl := hbd.lt
        by_cases hlt : k < s.lines.length
        · rcases H3.out with h | ⟨bb, off, rfl, hc0⟩
          · exact (lns_pos hlt h).elim
          · obtain ⟨c0, c1, c2⟩ := (hc0.below hB hc0.1).ln hlt
            have hform := HOR.out k hlt
            have hcs := HC.out s.lines[k] (List.getElem_mem hlt)
            have hkd : 1 ≤ s.lines[k].kind ∧ s.lines[k].kind ≤ 10 ∧ (-1000000000000 ≤ s.lines[k].amt ∧ s.lines[k].amt ≤ 1000000000000) := by
              simp only [formB, formedB, totB, Bool.and_eq_true, decide_eq_true_eq] at hform
              omega
            obtain ⟨K, hK⟩ := Int.eq_ofNat_of_zero_le (show 0 ≤ s.lines[k].kind by omega)
            have hK1 : 1 ≤ K := by omega
            have hK2 : K ≤ 10 := by omega
            have ham := hkd.2.2
            have HSN0 := linesT_snoc s.lines k hlt
            have hwl : (wordT s.lines[k].kind).length ≤ 8 := by
              rw [hK]
              exact word_len K (by omega)
            have hil := itoa_len s.lines[k].amt (by omega) (by omega)
            have HLN : Hid ((linesT (s.lines.take (k + 1))).length ≤ 1000100 * (k + 1)) := by
              rw [Hid, HSN0, List.length_append, lineT]
              have hcl : s.lines[k].code.data.toList.length = s.lines[k].code.size := by rw [Array.length_toList]; rfl
              simp only [List.length_append, List.length_cons, List.length_nil]
              split
              · simp only [List.length_nil]; omega
              · simp only [List.length_cons, hcl]; omega
            have HLT : Hid (lineT s.lines[k] = wordT (K : Int) ++ (if bareB (K : Int) then [] else 32 :: s.lines[k].code.data.toList) ++ (32 :: Lib.itoa s.lines[k].amt) ++ [10]) := by rw [Hid, lineT, hK]
            have hwl2 : (wordT (K : Int)).length ≤ 8 := by rw [← hK]; exact hwl
            rw [hK] at c0
            have HSN : Hid (pro ++ linesT (s.lines.take (k + 1)) = pro ++ linesT (s.lines.take k) ++ (wordT (K : Int) ++ (if bareB (K : Int) then [] else 32 :: s.lines[k].code.data.toList) ++ (32 :: Lib.itoa s.lines[k].amt) ++ [10])) := by
              rw [Hid, HSN0, HLT.out, ← List.append_assoc pro]
            obtain ⟨tw, htw⟩ : ∃ tw : ByteArray, tw = ⟨(wordT (K : Int)).toArray⟩ := ⟨_, rfl⟩
            have HWD : Hid (tw.data.toList = wordT (K : Int)) := by rw [Hid, htw]
            have hws : tw.size ≤ 8 := by rw [htw]; simpa [ByteArray.size] using hwl2
            have hcw : wr.cell? ⟨0, K, none⟩ = some (.string tw) := by
              rw [(lt_var (HW.out.below hB) wordsNo).2 K, htw]
              exact words_get K (by omega)
            have h00 : 0 < wr.heap.size := (lt_var (HW.out.below hB) wordsNo).1
            clear htw hK hkd hform hwl hwl2 HLT HSN0 hil H3 hc0
            have i0 : (0 : Int) ≤ (K : Int) := by omega
            have i1 : (K : Int) < 11 := by omega
            go_wp2_with fail
            obtain ⟨wy, hwy⟩ : ∃ wy, wy = wr.alloc (Obj.cells #[Value.int IntKind.i64 (K : Int), Value.string s.lines[k].code, Value.int IntKind.i64 s.lines[k].amt] 25) := ⟨_, rfl⟩
            rw [← hwy]
            have hby : Below wr.heap.size wr wy := by rw [hwy]; exact (Below.refl _ _).alloc (Nat.le_refl _) _
            have hRy : Row wy wr.heap.size 25 #[Value.int IntKind.i64 (K : Int), Value.string s.lines[k].code, Value.int IntKind.i64 s.lines[k].amt] := by rw [hwy]; exact Row.new _ _ _
            have hBy := below_after hB hby hbs
            have hbdy := hbd.kept hby
            obtain ⟨L, hL⟩ : ∃ L, L = wr.heap.size := ⟨_, rfl⟩
            rw [← hL] at hRy ⊢
            have hLb : L ≠ b := by omega
            clear hwy hby c0 c1 c2 hcw hL hbd hB
            refine (WriteS_any b _ _ wy hbdy (by simp only [List.length_append]; omega)).mono ?_
            rintro x wz ⟨rfl, hbdz, hbz, hkz⟩
            have hBz := hBy.trans (hbz.mono (by omega))
            have hRz := hRy.others hkz hLb (by decide)
            have c0 : wz.cell? ⟨L, 0, none⟩ = some (.int .i64 (K : Int)) := hRz.cell 0
            have c1 : wz.cell? ⟨L, 1, none⟩ = some (.string s.lines[k].code) := hRz.cell 1
            have c2 : wz.cell? ⟨L, 2, none⟩ = some (.int .i64 s.lines[k].amt) := hRz.cell 2
            clear hbdy hbz hkz hRy hBy
            cases hbare : bareB (K : Int)
            · have HBARE := Lib.hid hbare
              go_wp2_with (go_at_call 33; refine (bare_any _ _).mono ?_; rintro x w2 ⟨rfl, rfl⟩; rw [hbare])
              refine (WriteS_any b _ _ wz hbdz (by simp only [ByteArray.size_append, lit_size, List.size_toArray, List.length_append, List.length_cons, List.length_nil, Array.length_toList]; have : tw.data.size = tw.size := rfl; omega)).mono ?_
              rintro x wc ⟨rfl, hbdc, hbc, hkc⟩
              have hBc := hBz.trans (hbc.mono (by omega))
              have hRc := hRz.others hkc hLb (by decide)
              have c2 : wc.cell? ⟨L, 2, none⟩ = some (.int .i64 s.lines[k].amt) := hRc.cell 2
              clear hbc hkc hBz hbdz hRz
              go_wp2_with fail
              refine (ItoaD_any s.lines[k].amt _ (by omega) (by omega) (HT.out.below hBc)).mono ?_
              rintro x wd ⟨td, rfl, HD, nd, hbd1⟩
              have hBd := below_after hBc hbd1 hBc.size
              have hbdd := hbdc.kept hbd1
              clear hbd1
              go_wp2_with fail
              refine (WriteS_any b _ _ wd hbdd (by simp only [ByteArray.size_append, lit_size, List.size_toArray, List.length_append, List.length_cons, List.length_nil, Array.length_toList, ByteArray.data_append, Array.size_append]; have : tw.data.size = tw.size := rfl; have : s.lines[k].code.data.size = s.lines[k].code.size := rfl; omega)).mono ?_
              rintro x we ⟨rfl, hbde, hbe, -⟩
              have hBe := hBd.trans (hbe.mono (by omega))
              have hN : Hid ((pro ++ linesT (s.lines.take k) ++ tw.data.toList ++ (({ data := #[32] } : ByteArray) ++ s.lines[k].code).data.toList) ++ (({ data := #[32] } : ByteArray) ++ td ++ { data := #[10] }).data.toList = pro ++ linesT (s.lines.take (k + 1))) := by
                rw [Hid, HSN.out, HBARE.out]
                simp only [ByteArray.data_append, Array.toList_append, HD.out, HWD.out]
                simp
              rw [hN.out] at hbde
              go_wp2_with fail
              go_roundw
              case rel => exact ⟨k + 1, by omega, by go_num, hbde, hBe, HLN.out⟩
              case measure => simp [intOf]; omega
            · have HBARE := Lib.hid hbare
              have hbdc := hbdz
              have hBc := hBz
              go_wp2_with (go_at_call 33; refine (bare_any _ _).mono ?_; rintro x w2 ⟨rfl, rfl⟩; rw [hbare])
              refine (ItoaD_any s.lines[k].amt _ (by omega) (by omega) (HT.out.below hBc)).mono ?_
              rintro x wd ⟨td, rfl, HD, nd, hbd1⟩
              have hBd := below_after hBc hbd1 hBc.size
              have hbdd := hbdc.kept hbd1
              clear hbd1
              go_wp2_with fail
              refine (WriteS_any b _ _ wd hbdd (by simp only [ByteArray.size_append, lit_size, List.size_toArray, List.length_append, List.length_cons, List.length_nil, Array.length_toList]; have : tw.data.size = tw.size := rfl; omega)).mono ?_
              rintro x we ⟨rfl, hbde, hbe, -⟩
              have hBe := hBd.trans (hbe.mono (by omega))
              have hN : Hid ((pro ++ linesT (s.lines.take k) ++ tw.data.toList) ++ (({ data := #[32] } : ByteArray) ++ td ++ { data := #[10] }).data.toList = pro ++ linesT (s.lines.take (k + 1))) := by
                rw [Hid, HSN.out, HBARE.out]
                simp only [ByteArray.data_append, Array.toList_append, HD.out, HWD.out]
                simp
              rw [hN.out] at hbde
              go_wp2_with fail
              go_roundw
              case rel => exact ⟨k + 1, by omega, by go_num, hbde, hBe, HLN.out⟩
              case measure => simp [intOf]; omega
        · obtain rfl : k = s.lines.length := by omega
          have hle : (pro ++ linesT s.lines).length ≤ 300000000 := by
            rw [List.take_length] at hln
            rw [List.length_append]; omega
          rw [List.take_length] at hbd
          go_wp2_with fail
          refine (WriteS_any b _ _ wr hbd (by simp only [lit_size, List.size_toArray, List.length_cons, List.length_nil]; omega)).mono ?_
          rintro x wc ⟨rfl, hbdc, hbc, -⟩
          have hBc := hB.trans (hbc.mono (by omega))
          have HFIN : Hid ((pro ++ linesT s.lines ++ ({ data := #[101, 110, 100, 10] } : ByteArray).data.toList) = formatT e p s) := by
            rw [Hid, HF.out, textT, HPRO.out, HPRE.out]
          rw [HFIN.out] at hbdc
          go_wp2_with fail
          refine (BString_any b _ wc hbdc).mono ?_
          rintro x wd ⟨rfl, hbd2⟩
          have hBd := hBc.trans (hbd2.mono (by omega))
          go_wp2_with fail
          go_ret2
          exact ⟨tup_int HZ.out.symm, hBd⟩
end Go.Proofs.YtljhdkdabiemmaaDoor
