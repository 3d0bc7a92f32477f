/- Contracts and plain facts that the laws of this seat share, part 23. -/
import Derived.Test.YtogdefomigiepaaGreatDoorPkV
import Derived.Test.YtogdefomigiepaaGreatDoorPkB
import Derived.Test.YtogdefomigiepaaGreatDoorPkA
import Derived.Test.YtogdefomigiepaaGreatDoorRows
import Derived.WalkKit
import Derived.WalkSpells
import Derived.WalkLawsBesides
import Derived.Lib.Hide
import Derived.Shelf.Strings.SplitShaped
import Derived.Lib.IndexBytes
import Derived.Lib.IndexMore
import Derived.Deep.QuietTactic
import Derived.BigQuiet
import Derived.RegionTactic
import Derived.Lib.AtoiAllCases
import Derived.Lib.AtoiErrMem
set_option linter.unusedVariables false
set_option linter.unusedSimpArgs false
/- Contract of payslip.Format. -/
namespace Go.Proofs.YtogdefomigiepaaGreatDoor
open Go.RowKit Go.Shelf

def wordsF : List (List UInt8) := [[], [101, 97, 114, 110, 105, 110, 103], [98, 101, 110, 101, 102, 105, 116], [98, 101, 102, 111, 114, 101], [108, 101, 118, 121], [101, 109, 112, 108, 111, 121, 101, 114], [116, 97, 120], [97, 116, 116, 97, 99, 104, 101, 100], [97, 102, 116, 101, 114], [110, 101, 116], [115, 104, 111, 114, 116]]
def wordT (k : Int) : List UInt8 := wordsF.getD k.toNat []
def Words (w : World) : Prop := w.var? Tryz.prog "payroll/payslip.words" = some (wordsF.map fun t => Value.string ⟨t.toArray⟩).toArray
theorem Words.below {w w' : World} (h : Words w) (hb : Below w.heap.size w w') : Words w' := var_below h hb rfl
def lineT (x : Ln) : List UInt8 := wordT x.kind ++ (if bareB x.kind then [] else 32 :: x.code.data.toList) ++ (32 :: Lib.itoa x.amt) ++ [10]
def linesT (l : List Ln) : List UInt8 := (l.map lineT).flatten
def basesT (l : List Int) : List UInt8 := (l.map fun b => 32 :: Lib.itoa b).flatten
def headT (e p : Int) : List UInt8 := [112, 97, 121, 115, 108, 105, 112, 32] ++ Lib.itoa e ++ [32, 112, 101, 114, 105, 111, 100, 32] ++ Lib.itoa p ++ [10]
def textT (e p : Int) (s : Slp) : List UInt8 := headT e p ++ [98, 97, 115, 101, 115] ++ basesT s.bs ++ ([32, 108, 101, 103, 97, 108, 32] ++ Lib.itoa s.legal ++ [10]) ++ linesT s.lines ++ [101, 110, 100, 10]
def formatT (e p : Int) (s : Slp) : List UInt8 := if slipE e p s = 0 then textT e p s else []
theorem lt_var {P : Program} {w : World} {name : String} {cs : Array Value} {g : Nat} (h : w.var? P name = some cs) (hg : P.globalNamed name = some g) : g < w.heap.size ∧ ∀ i, w.cell? ⟨g, i, none⟩ = cs[i]? := by
 unfold World.var? at h
 rw [hg] at h
 simp only [Option.bind_some] at h
 cases hh : w.heap[g]? with
 | none => rw [hh] at h; cases h
 | some o =>
  refine ⟨(Array.getElem?_eq_some_iff.1 hh).1, fun i => ?_⟩
  rw [hh] at h
  cases o with
  | cells c t f =>
   simp only [Option.some.injEq] at h
   subst h
   simp [World.cell?, hh]
  | _ => cases h
theorem lit_size (a : Array UInt8) : (⟨a⟩ : ByteArray).size = a.size := rfl
theorem basesT_snoc (l : List Int) (k : Nat) (h : k < l.length) : basesT (l.take (k + 1)) = basesT (l.take k) ++ 32 :: Lib.itoa l[k] := by
 unfold basesT
 rw [List.take_succ_eq_append_getElem h, List.map_append, List.flatten_append]; simp
theorem linesT_snoc (l : List Ln) (k : Nat) (h : k < l.length) : linesT (l.take (k + 1)) = linesT (l.take k) ++ lineT l[k] := by
 unfold linesT
 rw [List.take_succ_eq_append_getElem h, List.map_append, List.flatten_append]; simp
theorem word_len : ∀ K : Nat, K < 11 → (wordT (K : Int)).length ≤ 8 := by decide
theorem words_get (K : Nat) (h : K < 11) : ((wordsF.map fun t => Value.string ⟨t.toArray⟩).toArray)[K]? = some (.string ⟨(wordT (K : Int)).toArray⟩) := by
 match K, h with
 | 0, _ => rfl
 | 1, _ => rfl
 | 2, _ => rfl
 | 3, _ => rfl
 | 4, _ => rfl
 | 5, _ => rfl
 | 6, _ => rfl
 | 7, _ => rfl
 | 8, _ => rfl
 | 9, _ => rfl
 | 10, _ => rfl
theorem wordsNo : Tryz.prog.globalNamed "payroll/payslip.words" = some 0 := by kernel_rfl

set_option maxRecDepth 100000 in
set_option maxHeartbeats 6400000 in
theorem Format_any (e p : Int) (s : Slp) (v : Value) (w : World) (hv : Sl w 3 v (lns s.lines)) (hT : Tabs w) (hW : Words w) (hc : ∀ x ∈ s.lines, x.code.size ≤ 1000000) (he : -9223372036854775808 ≤ e ∧ e ≤ 9223372036854775807) :
  Calls Tryz.prog 11 #[.int .i64 e, .int .i64 p, .agg (s.vals v)] w fun x w' => x = .returned (.tuple #[.string ⟨(formatT e p s).toArray⟩, .int .i64 (slipE e p s)]) ∧ Below w.heap.size w w' := by
 have HV := Lib.hid hv
 obtain ⟨A, cap, rfl, h1, h2, x1, h3⟩ := hv
 rw [lns_len] at h1 HV ⊢
 unfold maxLen at h2
 have H3 := Lib.hid h3
 have HC := Lib.hid hc
 have HT := Lib.hid hT
 have HW := Lib.hid hW
 clear h3 x1 hT hW hc
 have hvals : s.vals (.slice A s.lines.length cap) = #[.int .i64 s.b0, .int .i64 s.b1, .int .i64 s.b2, .int .i64 s.b3, .int .i64 s.b4, .int .i64 s.legal, .slice A s.lines.length cap] := rfl
 rw [hvals]
 clear hvals
 go_enter Tryz.func11, Tryz.ntmps11
 go_wp2_with fail
 obtain ⟨w0, hw0⟩ : ∃ w0, w0 = w.alloc (Obj.cells #[Value.int IntKind.i64 s.b0, Value.int IntKind.i64 s.b1, Value.int IntKind.i64 s.b2, Value.int IntKind.i64 s.b3, Value.int IntKind.i64 s.b4, Value.int IntKind.i64 s.legal, Value.slice A s.lines.length cap] 27) := ⟨_, rfl⟩
 rw [← hw0]
 have hb0 : Below w.heap.size w w0 := by rw [hw0]; exact (Below.refl _ _).alloc (Nat.le_refl _) _
 have hR0 : Row w0 w.heap.size 27 (s.vals (.slice A s.lines.length cap)) := by rw [hw0]; exact Row.new _ _ _
 clear hw0
 refine (slipError_any e p s _ w0 (HV.out.below hb0)).mono ?_
 rintro x w1 ⟨rfl, hb1'⟩
 have hb1 := below_after hb0 hb1' hb0.size
 have hR1 := hR0.below hb1' hR0.lt
 have hs1 := hb1.size
 have hl1 := hR1.lt
 clear hb0 hR0 hb1'
 by_cases hz : slipE e p s = 0
 rotate_left
 ·have hz' : (slipE e p s != 0) = true := by simpa using hz
  have HF : Hid (formatT e p s = []) := by rw [Hid, formatT, if_neg hz]
  obtain ⟨E, hE⟩ : ∃ E, E = slipE e p s := ⟨_, rfl⟩
  rw [← hE] at hz' ⊢
  have HE := Lib.hid hE
  clear hz hE
  go_wp2_with fail
  go_ret2
  exact ⟨by rw [HF.out, ← HE.out]; rfl, hb1⟩
 have HF : Hid (formatT e p s = textT e p s) := by rw [Hid, formatT, if_pos hz]
 have hz2 := hz
 have HZ := Lib.hid hz
 rw [hz]
 simp only [slipE] at hz2
 split at hz2
 rotate_left
 ·cases hz2
 rename_i hc1
 simp only [Bool.and_eq_true, decide_eq_true_eq] at hc1
 obtain ⟨g1, g2, g3, g4, g5⟩ := hc1
 have hleg : -1000000000000 ≤ s.legal ∧ s.legal ≤ 1000000000000 := by simp [totB] at g5; omega
 split at hz2
 rotate_left
 ·cases hz2
 rename_i hc2
 have HBS := Lib.hid (fun b (hb : b ∈ s.bs) => (show -1000000000000 ≤ b ∧ b ≤ 1000000000000 by have := List.all_eq_true.1 hc2 b hb; simp [totB] at this; omega))
 split at hz2
 rotate_left
 ·cases hz2
 rename_i hn
 split at hz2
 rotate_left
 ·cases hz2
 rename_i hord
 have HOR := Lib.hid ((ordB_iff _).1 hord).1
 clear hz hz2 g5 hc2 hord
 go_wp2_with fail
 have hbd := Bd.new w1
 obtain ⟨w2, hw2⟩ : ∃ w2, w2 = w1.alloc (Obj.cells #[Value.pointer none, Value.slice none 0 0] 77) := ⟨_, rfl⟩
 rw [← hw2] at hbd ⊢
 have hb2 : Below w1.heap.size w1 w2 := by rw [hw2]; exact (Below.refl _ _).alloc (Nat.le_refl _) _
 obtain ⟨b, hbe⟩ : ∃ b, b = w1.heap.size := ⟨_, rfl⟩
 rw [← hbe] at hbd hb2 ⊢
 have hwb : w.heap.size < b := by omega
 have hR2 := hR1.below hb2 (by omega)
 have hB2 : Below w.heap.size w w2 := hb1.trans (hb2.mono (by omega))
 clear hw2 hbe hb1 hR1 hb2 hs1 hl1
 have hl2 := hbd.lt
 refine (ItoaD_any e _ he.1 he.2 (HT.out.below hB2)).mono ?_
 rintro x w3 ⟨t1, rfl, H1, n1, hb3⟩
 have hB3 := below_after hB2 hb3 hB2.size
 have hbd3 := hbd.kept hb3
 have hR3 := hR2.below hb3 hR2.lt
 clear hb3 hB2 hbd hR2
 go_wp2_with fail
 refine (ItoaD_any p _ (by omega) (by omega) (HT.out.below hB3)).mono ?_
 rintro x w4 ⟨t2, rfl, H2, n2, hb4⟩
 have hB4 := below_after hB3 hb4 hB3.size
 have hbd4 := hbd3.kept hb4
 have hR4 := hR3.below hb4 hR3.lt
 clear hb4 hB3 hbd3 hR3
 go_wp2_with fail
 refine (WriteS_any b [] _ w4 hbd4 (by simp only [ByteArray.size_append, lit_size, List.size_toArray, List.length_cons, List.length_nil]; omega)).mono ?_
 rintro x w5 ⟨rfl, hbd5, hb5, -⟩
 have hB5 := hB4.trans (hb5.mono (by omega))
 have hR5 := hR4.below hb5 hwb
 have hN5 : Hid ([] ++ (({ data := #[112, 97, 121, 115, 108, 105, 112, 32] } : ByteArray) ++ t1 ++ { data := #[32, 112, 101, 114, 105, 111, 100, 32] } ++ t2 ++ { data := #[10] }).data.toList = headT e p) := by
  rw [Hid]; simp only [ByteArray.data_append, Array.toList_append, H1.out, H2.out, headT, List.nil_append]
 rw [hN5.out] at hbd5
 have hlh : (headT e p).length ≤ 60 := by
  have h1 := itoa_len e he.1 he.2
  have h2 := itoa_len p (by omega) (by omega)
  simp only [headT, List.length_append, List.length_cons, List.length_nil]; omega
 clear hbd4 hb5 hB4 hR4 hN5 H1 H2 n1 n2
 go_wp2_with fail
 refine (WriteS_any b _ _ w5 hbd5 (by simp only [lit_size, List.size_toArray, List.length_cons, List.length_nil]; omega)).mono ?_
 rintro x w6 ⟨rfl, hbd6, hb6, -⟩
 have hB6 := hB5.trans (hb6.mono (by omega))
 have hR6 := hR5.below hb6 hwb
 clear hbd5 hb6 hB5 hR5
 go_wp2_with fail
 refine (fields_any _ _).mono ?_
 rintro x w7 ⟨rfl, hb7⟩
 have hB7 := below_after hB6 hb7 hB6.size
 have hbd7 := hbd6.kept hb7
 have hR7 := hR6.below hb7 hR6.lt
 clear hbd6 hb7 hB6 hR6
 have ix0 : ∀ w', (Instr.index 84 (.agg #[.pointer (some ⟨w.heap.size, 0, none⟩), .pointer (some ⟨w.heap.size, 1, none⟩), .pointer (some ⟨w.heap.size, 2, none⟩), .pointer (some ⟨w.heap.size, 3, none⟩), .pointer (some ⟨w.heap.size, 4, none⟩)]) (.int .i64 0)).run Tryz.prog w' = .ok (.pointer (some ⟨w.heap.size, 0, none⟩)) w' := fun _ => by kernel_rfl
 have ix1 : ∀ w', (Instr.index 84 (.agg #[.pointer (some ⟨w.heap.size, 0, none⟩), .pointer (some ⟨w.heap.size, 1, none⟩), .pointer (some ⟨w.heap.size, 2, none⟩), .pointer (some ⟨w.heap.size, 3, none⟩), .pointer (some ⟨w.heap.size, 4, none⟩)]) (.int .i64 1)).run Tryz.prog w' = .ok (.pointer (some ⟨w.heap.size, 1, none⟩)) w' := fun _ => by kernel_rfl
 have ix2 : ∀ w', (Instr.index 84 (.agg #[.pointer (some ⟨w.heap.size, 0, none⟩), .pointer (some ⟨w.heap.size, 1, none⟩), .pointer (some ⟨w.heap.size, 2, none⟩), .pointer (some ⟨w.heap.size, 3, none⟩), .pointer (some ⟨w.heap.size, 4, none⟩)]) (.int .i64 2)).run Tryz.prog w' = .ok (.pointer (some ⟨w.heap.size, 2, none⟩)) w' := fun _ => by kernel_rfl
 have ix3 : ∀ w', (Instr.index 84 (.agg #[.pointer (some ⟨w.heap.size, 0, none⟩), .pointer (some ⟨w.heap.size, 1, none⟩), .pointer (some ⟨w.heap.size, 2, none⟩), .pointer (some ⟨w.heap.size, 3, none⟩), .pointer (some ⟨w.heap.size, 4, none⟩)]) (.int .i64 3)).run Tryz.prog w' = .ok (.pointer (some ⟨w.heap.size, 3, none⟩)) w' := fun _ => by kernel_rfl
 have ix4 : ∀ w', (Instr.index 84 (.agg #[.pointer (some ⟨w.heap.size, 0, none⟩), .pointer (some ⟨w.heap.size, 1, none⟩), .pointer (some ⟨w.heap.size, 2, none⟩), .pointer (some ⟨w.heap.size, 3, none⟩), .pointer (some ⟨w.heap.size, 4, none⟩)]) (.int .i64 4)).run Tryz.prog w' = .ok (.pointer (some ⟨w.heap.size, 4, none⟩)) w' := fun _ => by kernel_rfl
 go_wp2_with fail
 go_loopw [33] (fun i wr => ∃ k : Nat, k ≤ 5 ∧ i = .int .i64 k ∧ Bd wr b (headT e p ++ [98, 97, 115, 101, 115] ++ basesT (s.bs.take k)) ∧ Row wr w.heap.size 27 (s.vals (.slice A s.lines.length cap)) ∧ Below w.heap.size w wr ∧ (headT e p ++ [98, 97, 115, 101, 115] ++ basesT (s.bs.take k)).length ≤ 100 + 30 * k) (fun i _ => 5 - (intOf i).toNat)
 case atStart => exact ⟨0, by omega, rfl, by simpa [basesT] using hbd7, hR7, hB7, by simp [basesT]; omega⟩
 case round =>
  obtain ⟨k, hk, rfl, hbd, hR, hB, hlen⟩ := hrel
  by_cases hk5 : k < 5
  ·obtain rfl | rfl | rfl | rfl | rfl : k = 0 ∨ k = 1 ∨ k = 2 ∨ k = 3 ∨ k = 4 := by omega
   ·have hbk := HBS.out s.b0 (by simp [Slp.bs])
    have hcell := hR.cell 0
    simp only [Slp.vals] at hcell
    have hcell : wr.cell? ⟨w.heap.size, 0, none⟩ = some (.int .i64 s.b0) := hcell
    have HSN : Hid (basesT (s.bs.take (0 + 1)) = basesT (s.bs.take 0) ++ 32 :: Lib.itoa s.b0) := basesT_snoc s.bs 0 (by simp [Slp.bs])
    go_wp2_with fail
    refine (ItoaD_any s.b0 _ (by omega) (by omega) (HT.out.below hB)).mono ?_
    rintro x wa ⟨ta, rfl, HA, na, hba⟩
    have hBa := below_after hB hba hB.size
    have hbda := hbd.kept hba
    have hRa := hR.below hba hR.lt
    clear hcell
    go_wp2_with fail
    refine (WriteS_any b _ _ wa hbda (by simp only [ByteArray.size_append, lit_size, List.size_toArray, List.length_cons, List.length_nil]; omega)).mono ?_
    rintro x wb ⟨rfl, hbdb, hbb, -⟩
    have hBb := hBa.trans (hbb.mono (by omega))
    have hRb := hRa.below hbb hwb
    have hN : Hid (headT e p ++ [98, 97, 115, 101, 115] ++ basesT (s.bs.take 0) ++ (({ data := #[32] } : ByteArray) ++ ta).data.toList = headT e p ++ [98, 97, 115, 101, 115] ++ basesT (s.bs.take (0 + 1))) := by
     rw [Hid, HSN.out, ByteArray.data_append, Array.toList_append, HA.out]; simp
    rw [hN.out] at hbdb
    have hlb : (headT e p ++ [98, 97, 115, 101, 115] ++ basesT (s.bs.take (0 + 1))).length ≤ 100 + 30 * (0 + 1) := by
     rw [HSN.out]; have := itoa_len s.b0 (by omega) (by omega); simp only [List.length_append, List.length_cons] at hlen ⊢; omega
    clear hba hbb hbda hRa hBa hbd hR hB hN HSN
    go_wp2_with fail
    go_roundw
    case rel => exact ⟨1, by omega, by go_num, hbdb, hRb, hBb, hlb⟩
    case measure => simp [intOf]
   ·have hbk := HBS.out s.b1 (by simp [Slp.bs])
    have hcell := hR.cell 1
    simp only [Slp.vals] at hcell
    have hcell : wr.cell? ⟨w.heap.size, 1, none⟩ = some (.int .i64 s.b1) := hcell
    have HSN : Hid (basesT (s.bs.take (1 + 1)) = basesT (s.bs.take 1) ++ 32 :: Lib.itoa s.b1) := basesT_snoc s.bs 1 (by simp [Slp.bs])
    go_wp2_with fail
    refine (ItoaD_any s.b1 _ (by omega) (by omega) (HT.out.below hB)).mono ?_
    rintro x wa ⟨ta, rfl, HA, na, hba⟩
    have hBa := below_after hB hba hB.size
    have hbda := hbd.kept hba
    have hRa := hR.below hba hR.lt
    clear hcell
    go_wp2_with fail
    refine (WriteS_any b _ _ wa hbda (by simp only [ByteArray.size_append, lit_size, List.size_toArray, List.length_cons, List.length_nil]; omega)).mono ?_
    rintro x wb ⟨rfl, hbdb, hbb, -⟩
    have hBb := hBa.trans (hbb.mono (by omega))
    have hRb := hRa.below hbb hwb
    have hN : Hid (headT e p ++ [98, 97, 115, 101, 115] ++ basesT (s.bs.take 1) ++ (({ data := #[32] } : ByteArray) ++ ta).data.toList = headT e p ++ [98, 97, 115, 101, 115] ++ basesT (s.bs.take (1 + 1))) := by
     rw [Hid, HSN.out, ByteArray.data_append, Array.toList_append, HA.out]; simp
    rw [hN.out] at hbdb
    have hlb : (headT e p ++ [98, 97, 115, 101, 115] ++ basesT (s.bs.take (1 + 1))).length ≤ 100 + 30 * (1 + 1) := by
     rw [HSN.out]; have := itoa_len s.b1 (by omega) (by omega); simp only [List.length_append, List.length_cons] at hlen ⊢; omega
    clear hba hbb hbda hRa hBa hbd hR hB hN HSN
    go_wp2_with fail
    go_roundw
    case rel => exact ⟨2, by omega, by go_num, hbdb, hRb, hBb, hlb⟩
    case measure => simp [intOf]
   ·have hbk := HBS.out s.b2 (by simp [Slp.bs])
    have hcell := hR.cell 2
    simp only [Slp.vals] at hcell
    have hcell : wr.cell? ⟨w.heap.size, 2, none⟩ = some (.int .i64 s.b2) := hcell
    have HSN : Hid (basesT (s.bs.take (2 + 1)) = basesT (s.bs.take 2) ++ 32 :: Lib.itoa s.b2) := basesT_snoc s.bs 2 (by simp [Slp.bs])
    go_wp2_with fail
    refine (ItoaD_any s.b2 _ (by omega) (by omega) (HT.out.below hB)).mono ?_
    rintro x wa ⟨ta, rfl, HA, na, hba⟩
    have hBa := below_after hB hba hB.size
    have hbda := hbd.kept hba
    have hRa := hR.below hba hR.lt
    clear hcell
    go_wp2_with fail
    refine (WriteS_any b _ _ wa hbda (by simp only [ByteArray.size_append, lit_size, List.size_toArray, List.length_cons, List.length_nil]; omega)).mono ?_
    rintro x wb ⟨rfl, hbdb, hbb, -⟩
    have hBb := hBa.trans (hbb.mono (by omega))
    have hRb := hRa.below hbb hwb
    have hN : Hid (headT e p ++ [98, 97, 115, 101, 115] ++ basesT (s.bs.take 2) ++ (({ data := #[32] } : ByteArray) ++ ta).data.toList = headT e p ++ [98, 97, 115, 101, 115] ++ basesT (s.bs.take (2 + 1))) := by
     rw [Hid, HSN.out, ByteArray.data_append, Array.toList_append, HA.out]; simp
    rw [hN.out] at hbdb
    have hlb : (headT e p ++ [98, 97, 115, 101, 115] ++ basesT (s.bs.take (2 + 1))).length ≤ 100 + 30 * (2 + 1) := by
     rw [HSN.out]; have := itoa_len s.b2 (by omega) (by omega); simp only [List.length_append, List.length_cons] at hlen ⊢; omega
    clear hba hbb hbda hRa hBa hbd hR hB hN HSN
    go_wp2_with fail
    go_roundw
    case rel => exact ⟨3, by omega, by go_num, hbdb, hRb, hBb, hlb⟩
    case measure => simp [intOf]
   ·have hbk := HBS.out s.b3 (by simp [Slp.bs])
    have hcell := hR.cell 3
    simp only [Slp.vals] at hcell
    have hcell : wr.cell? ⟨w.heap.size, 3, none⟩ = some (.int .i64 s.b3) := hcell
    have HSN : Hid (basesT (s.bs.take (3 + 1)) = basesT (s.bs.take 3) ++ 32 :: Lib.itoa s.b3) := basesT_snoc s.bs 3 (by simp [Slp.bs])
    go_wp2_with fail
    refine (ItoaD_any s.b3 _ (by omega) (by omega) (HT.out.below hB)).mono ?_
    rintro x wa ⟨ta, rfl, HA, na, hba⟩
    have hBa := below_after hB hba hB.size
    have hbda := hbd.kept hba
    have hRa := hR.below hba hR.lt
    clear hcell
    go_wp2_with fail
    refine (WriteS_any b _ _ wa hbda (by simp only [ByteArray.size_append, lit_size, List.size_toArray, List.length_cons, List.length_nil]; omega)).mono ?_
    rintro x wb ⟨rfl, hbdb, hbb, -⟩
    have hBb := hBa.trans (hbb.mono (by omega))
    have hRb := hRa.below hbb hwb
    have hN : Hid (headT e p ++ [98, 97, 115, 101, 115] ++ basesT (s.bs.take 3) ++ (({ data := #[32] } : ByteArray) ++ ta).data.toList = headT e p ++ [98, 97, 115, 101, 115] ++ basesT (s.bs.take (3 + 1))) := by
     rw [Hid, HSN.out, ByteArray.data_append, Array.toList_append, HA.out]; simp
    rw [hN.out] at hbdb
    have hlb : (headT e p ++ [98, 97, 115, 101, 115] ++ basesT (s.bs.take (3 + 1))).length ≤ 100 + 30 * (3 + 1) := by
     rw [HSN.out]; have := itoa_len s.b3 (by omega) (by omega); simp only [List.length_append, List.length_cons] at hlen ⊢; omega
    clear hba hbb hbda hRa hBa hbd hR hB hN HSN
    go_wp2_with fail
    go_roundw
    case rel => exact ⟨4, by omega, by go_num, hbdb, hRb, hBb, hlb⟩
    case measure => simp [intOf]
   ·have hbk := HBS.out s.b4 (by simp [Slp.bs])
    have hcell := hR.cell 4
    simp only [Slp.vals] at hcell
    have hcell : wr.cell? ⟨w.heap.size, 4, none⟩ = some (.int .i64 s.b4) := hcell
    have HSN : Hid (basesT (s.bs.take (4 + 1)) = basesT (s.bs.take 4) ++ 32 :: Lib.itoa s.b4) := basesT_snoc s.bs 4 (by simp [Slp.bs])
    go_wp2_with fail
    refine (ItoaD_any s.b4 _ (by omega) (by omega) (HT.out.below hB)).mono ?_
    rintro x wa ⟨ta, rfl, HA, na, hba⟩
    have hBa := below_after hB hba hB.size
    have hbda := hbd.kept hba
    have hRa := hR.below hba hR.lt
    clear hcell
    go_wp2_with fail
    refine (WriteS_any b _ _ wa hbda (by simp only [ByteArray.size_append, lit_size, List.size_toArray, List.length_cons, List.length_nil]; omega)).mono ?_
    rintro x wb ⟨rfl, hbdb, hbb, -⟩
    have hBb := hBa.trans (hbb.mono (by omega))
    have hRb := hRa.below hbb hwb
    have hN : Hid (headT e p ++ [98, 97, 115, 101, 115] ++ basesT (s.bs.take 4) ++ (({ data := #[32] } : ByteArray) ++ ta).data.toList = headT e p ++ [98, 97, 115, 101, 115] ++ basesT (s.bs.take (4 + 1))) := by
     rw [Hid, HSN.out, ByteArray.data_append, Array.toList_append, HA.out]; simp
    rw [hN.out] at hbdb
    have hlb : (headT e p ++ [98, 97, 115, 101, 115] ++ basesT (s.bs.take (4 + 1))).length ≤ 100 + 30 * (4 + 1) := by
     rw [HSN.out]; have := itoa_len s.b4 (by omega) (by omega); simp only [List.length_append, List.length_cons] at hlen ⊢; omega
    clear hba hbb hbda hRa hBa hbd hR hB hN HSN
    go_wp2_with fail
    go_roundw
    case rel => exact ⟨5, by omega, by go_num, hbdb, hRb, hBb, hlb⟩
    case measure => simp [intOf]
  ·obtain rfl : k = 5 := by omega
   clear ix0 ix1 ix2 ix3 ix4 hbd7 hR7 hB7
   obtain ⟨pre, hpre⟩ : ∃ pre, pre = headT e p ++ [98, 97, 115, 101, 115] ++ basesT s.bs := ⟨_, rfl⟩
   have hbd : Bd wr b pre := by rw [hpre]; exact hbd
   have hlen : pre.length ≤ 250 := by rw [hpre]; exact hlen
   have HPRE := Lib.hid hpre
   clear hpre
   have hc5 : wr.cell? ⟨w.heap.size, 5, none⟩ = some (.int .i64 s.legal) := hR.cell 5
   go_wp2_with fail
   refine (ItoaD_any s.legal _ (by omega) (by omega) (HT.out.below hB)).mono ?_
   rintro x wa ⟨ta, rfl, HA, na, hba⟩
   have hBa := below_after hB hba hB.size
   have hbda := hbd.kept hba
   have hRa := hR.below hba hR.lt
   clear hc5 hba hbd hR hB
   go_wp2_with fail
   refine (WriteS_any b _ _ wa hbda (by simp only [ByteArray.size_append, lit_size, List.size_toArray, List.length_cons, List.length_nil]; omega)).mono ?_
   rintro x wb ⟨rfl, hbdb, hbb, -⟩
   have hBb := hBa.trans (hbb.mono (by omega))
   have hRb := hRa.below hbb hwb
   obtain ⟨pro, hpro⟩ : ∃ pro, pro = pre ++ ([32, 108, 101, 103, 97, 108, 32] ++ Lib.itoa s.legal ++ [10]) := ⟨_, rfl⟩
   have hN : pre ++ (({ data := #[32, 108, 101, 103, 97, 108, 32] } : ByteArray) ++ ta ++ { data := #[10] }).data.toList = pro := by
    rw [hpro, ByteArray.data_append, Array.toList_append, ByteArray.data_append, Array.toList_append, HA.out]
   have hl2 : pro.length ≤ 300 := by
    have := itoa_len s.legal (by omega) (by omega)
    rw [hpro]; simp only [List.length_append, List.length_cons, List.length_nil]; omega
   rw [hN] at hbdb
   have HPRO := Lib.hid hpro
   clear hN hpro hbda hRa hBa hbb HA na
   have hc6 : wb.cell? ⟨w.heap.size, 6, none⟩ = some (.slice A s.lines.length cap) := hRb.cell 6
   go_wp2_with fail
   clear hc6
   go_loopw [52] (fun i wr => ∃ k : Nat, k ≤ s.lines.length ∧ i = .int .i64 k ∧ Bd wr b (pro ++ linesT (s.lines.take k)) ∧ Below w.heap.size w wr ∧ (linesT (s.lines.take k)).length ≤ 1000100 * k) (fun i _ => s.lines.length - (intOf i).toNat)
   case atStart => exact ⟨0, by omega, rfl, by simpa [linesT] using hbdb, hBb, by simp [linesT]⟩
   case round =>
    clear hbdb hBb hRb
    obtain ⟨k, hk, rfl, hbd, hB, hln⟩ := hrel
    have hbs := hB.size
    have hbl := hbd.lt
    by_cases hlt : k < s.lines.length
    ·rcases H3.out with h | ⟨bb, off, rfl, hc0⟩
     ·exact (lns_pos hlt h).elim
     ·obtain ⟨c0, c1, c2⟩ := (hc0.below hB hc0.1).ln hlt
      have hform := HOR.out k hlt
      have hcs := HC.out s.lines[k] (List.getElem_mem hlt)
      have hkd : 1 ≤ s.lines[k].kind ∧ s.lines[k].kind ≤ 10 ∧ (-1000000000000 ≤ s.lines[k].amt ∧ s.lines[k].amt ≤ 1000000000000) := by
       simp only [formB, formedB, totB, Bool.and_eq_true, decide_eq_true_eq] at hform
       omega
      obtain ⟨K, hK⟩ := Int.eq_ofNat_of_zero_le (show 0 ≤ s.lines[k].kind by omega)
      have hK1 : 1 ≤ K := by omega
      have hK2 : K ≤ 10 := by omega
      have ham := hkd.2.2
      have HSN0 := linesT_snoc s.lines k hlt
      have hwl : (wordT s.lines[k].kind).length ≤ 8 := by
       rw [hK]
       exact word_len K (by omega)
      have hil := itoa_len s.lines[k].amt (by omega) (by omega)
      have HLN : Hid ((linesT (s.lines.take (k + 1))).length ≤ 1000100 * (k + 1)) := by
       rw [Hid, HSN0, List.length_append, lineT]
       have hcl : s.lines[k].code.data.toList.length = s.lines[k].code.size := by rw [Array.length_toList]; rfl
       simp only [List.length_append, List.length_cons, List.length_nil]
       split
       ·simp only [List.length_nil]; omega
       ·simp only [List.length_cons, hcl]; omega
      have HLT : Hid (lineT s.lines[k] = wordT (K : Int) ++ (if bareB (K : Int) then [] else 32 :: s.lines[k].code.data.toList) ++ (32 :: Lib.itoa s.lines[k].amt) ++ [10]) := by rw [Hid, lineT, hK]
      have hwl2 : (wordT (K : Int)).length ≤ 8 := by rw [← hK]; exact hwl
      rw [hK] at c0
      have HSN : Hid (pro ++ linesT (s.lines.take (k + 1)) = pro ++ linesT (s.lines.take k) ++ (wordT (K : Int) ++ (if bareB (K : Int) then [] else 32 :: s.lines[k].code.data.toList) ++ (32 :: Lib.itoa s.lines[k].amt) ++ [10])) := by
       rw [Hid, HSN0, HLT.out, ← List.append_assoc pro]
      obtain ⟨tw, htw⟩ : ∃ tw : ByteArray, tw = ⟨(wordT (K : Int)).toArray⟩ := ⟨_, rfl⟩
      have HWD : Hid (tw.data.toList = wordT (K : Int)) := by rw [Hid, htw]
      have hws : tw.size ≤ 8 := by rw [htw]; simpa [ByteArray.size] using hwl2
      have hcw : wr.cell? ⟨0, K, none⟩ = some (.string tw) := by
       rw [(lt_var (HW.out.below hB) wordsNo).2 K, htw]
       exact words_get K (by omega)
      have h00 : 0 < wr.heap.size := (lt_var (HW.out.below hB) wordsNo).1
      clear htw hK hkd hform hwl hwl2 HLT HSN0 hil H3 hc0
      have i0 : (0 : Int) ≤ (K : Int) := by omega
      have i1 : (K : Int) < 11 := by omega
      go_wp2_with fail
      obtain ⟨wy, hwy⟩ : ∃ wy, wy = wr.alloc (Obj.cells #[Value.int IntKind.i64 (K : Int), Value.string s.lines[k].code, Value.int IntKind.i64 s.lines[k].amt] 45) := ⟨_, rfl⟩
      rw [← hwy]
      have hby : Below wr.heap.size wr wy := by rw [hwy]; exact (Below.refl _ _).alloc (Nat.le_refl _) _
      have hRy : Row wy wr.heap.size 45 #[Value.int IntKind.i64 (K : Int), Value.string s.lines[k].code, Value.int IntKind.i64 s.lines[k].amt] := by rw [hwy]; exact Row.new _ _ _
      have hBy := below_after hB hby hbs
      have hbdy := hbd.kept hby
      obtain ⟨L, hL⟩ : ∃ L, L = wr.heap.size := ⟨_, rfl⟩
      rw [← hL] at hRy ⊢
      have hLb : L ≠ b := by omega
      clear hwy hby c0 c1 c2 hcw hL hbd hB
      refine (WriteS_any b _ _ wy hbdy (by simp only [List.length_append]; omega)).mono ?_
      rintro x wz ⟨rfl, hbdz, hbz, hkz⟩
      have hBz := hBy.trans (hbz.mono (by omega))
      have hRz := hRy.others hkz hLb (by decide)
      have c0 : wz.cell? ⟨L, 0, none⟩ = some (.int .i64 (K : Int)) := hRz.cell 0
      have c1 : wz.cell? ⟨L, 1, none⟩ = some (.string s.lines[k].code) := hRz.cell 1
      have c2 : wz.cell? ⟨L, 2, none⟩ = some (.int .i64 s.lines[k].amt) := hRz.cell 2
      clear hbdy hbz hkz hRy hBy
      cases hbare : bareB (K : Int)
      ·have HBARE := Lib.hid hbare
       go_wp2_with (go_at_call 24; refine (bare_any _ _).mono ?_; rintro x w2 ⟨rfl, rfl⟩; rw [hbare])
       refine (WriteS_any b _ _ wz hbdz (by simp only [ByteArray.size_append, lit_size, List.size_toArray, List.length_append, List.length_cons, List.length_nil, Array.length_toList]; have : tw.data.size = tw.size := rfl; omega)).mono ?_
       rintro x wc ⟨rfl, hbdc, hbc, hkc⟩
       have hBc := hBz.trans (hbc.mono (by omega))
       have hRc := hRz.others hkc hLb (by decide)
       have c2 : wc.cell? ⟨L, 2, none⟩ = some (.int .i64 s.lines[k].amt) := hRc.cell 2
       clear hbc hkc hBz hbdz hRz
       go_wp2_with fail
       refine (ItoaD_any s.lines[k].amt _ (by omega) (by omega) (HT.out.below hBc)).mono ?_
       rintro x wd ⟨td, rfl, HD, nd, hbd1⟩
       have hBd := below_after hBc hbd1 hBc.size
       have hbdd := hbdc.kept hbd1
       clear hbd1
       go_wp2_with fail
       refine (WriteS_any b _ _ wd hbdd (by simp only [ByteArray.size_append, lit_size, List.size_toArray, List.length_append, List.length_cons, List.length_nil, Array.length_toList, ByteArray.data_append, Array.size_append]; have : tw.data.size = tw.size := rfl; have : s.lines[k].code.data.size = s.lines[k].code.size := rfl; omega)).mono ?_
       rintro x we ⟨rfl, hbde, hbe, -⟩
       have hBe := hBd.trans (hbe.mono (by omega))
       have hN : Hid ((pro ++ linesT (s.lines.take k) ++ tw.data.toList ++ (({ data := #[32] } : ByteArray) ++ s.lines[k].code).data.toList) ++ (({ data := #[32] } : ByteArray) ++ td ++ { data := #[10] }).data.toList = pro ++ linesT (s.lines.take (k + 1))) := by
        rw [Hid, HSN.out, HBARE.out]
        simp only [ByteArray.data_append, Array.toList_append, HD.out, HWD.out]
        simp
       rw [hN.out] at hbde
       go_wp2_with fail
       go_roundw
       case rel => exact ⟨k + 1, by omega, by go_num, hbde, hBe, HLN.out⟩
       case measure => simp [intOf]; omega
      ·have HBARE := Lib.hid hbare
       have hbdc := hbdz
       have hBc := hBz
       go_wp2_with (go_at_call 24; refine (bare_any _ _).mono ?_; rintro x w2 ⟨rfl, rfl⟩; rw [hbare])
       refine (ItoaD_any s.lines[k].amt _ (by omega) (by omega) (HT.out.below hBc)).mono ?_
       rintro x wd ⟨td, rfl, HD, nd, hbd1⟩
       have hBd := below_after hBc hbd1 hBc.size
       have hbdd := hbdc.kept hbd1
       clear hbd1
       go_wp2_with fail
       refine (WriteS_any b _ _ wd hbdd (by simp only [ByteArray.size_append, lit_size, List.size_toArray, List.length_append, List.length_cons, List.length_nil, Array.length_toList]; have : tw.data.size = tw.size := rfl; omega)).mono ?_
       rintro x we ⟨rfl, hbde, hbe, -⟩
       have hBe := hBd.trans (hbe.mono (by omega))
       have hN : Hid ((pro ++ linesT (s.lines.take k) ++ tw.data.toList) ++ (({ data := #[32] } : ByteArray) ++ td ++ { data := #[10] }).data.toList = pro ++ linesT (s.lines.take (k + 1))) := by
        rw [Hid, HSN.out, HBARE.out]
        simp only [ByteArray.data_append, Array.toList_append, HD.out, HWD.out]
        simp
       rw [hN.out] at hbde
       go_wp2_with fail
       go_roundw
       case rel => exact ⟨k + 1, by omega, by go_num, hbde, hBe, HLN.out⟩
       case measure => simp [intOf]; omega
    ·obtain rfl : k = s.lines.length := by omega
     have hle : (pro ++ linesT s.lines).length ≤ 300000000 := by
      rw [List.take_length] at hln
      rw [List.length_append]; omega
     rw [List.take_length] at hbd
     go_wp2_with fail
     refine (WriteS_any b _ _ wr hbd (by simp only [lit_size, List.size_toArray, List.length_cons, List.length_nil]; omega)).mono ?_
     rintro x wc ⟨rfl, hbdc, hbc, -⟩
     have hBc := hB.trans (hbc.mono (by omega))
     have HFIN : Hid ((pro ++ linesT s.lines ++ ({ data := #[101, 110, 100, 10] } : ByteArray).data.toList) = formatT e p s) := by
      rw [Hid, HF.out, textT, HPRO.out, HPRE.out]
     rw [HFIN.out] at hbdc
     go_wp2_with fail
     refine (BString_any b _ wc hbdc).mono ?_
     rintro x wd ⟨rfl, hbd2⟩
     have hBd := hBc.trans (hbd2.mono (by omega))
     go_wp2_with fail
     go_ret2
     exact ⟨tup_int HZ.out.symm, hBd⟩
end Go.Proofs.YtogdefomigiepaaGreatDoor
/- Contracts of payrollref34: total, Ordered, bases, Format. -/
namespace Go.Proofs.YtogdefomigiepaaGreatDoor
open Go.RowKit

theorem refTotal_any (n : Int) (w : World) :
  Calls Tryz.prog 26 #[.int .i64 n] w fun e w' => e = .returned (.bool (totB n)) ∧ w = w' := by
 have e : (decide (-1000000000000 ≤ n) && decide (n ≤ 1000000000000)) = totB n := rfl
 by_cases h1 : -1000000000000 ≤ n
 ·have H : Hid (decide (n ≤ 1000000000000) = totB n) := by rw [Hid, ← e]; simp [h1]
  clear e
  go_enter Tryz.func26, Tryz.ntmps26
  go_wp2
  go_ret
  exact ⟨ret_bool H.out, rfl⟩
 ·have H : Hid (totB n = false) := by rw [Hid, ← e]; simp [h1]
  have h2 : decide (-1000000000000 ≤ n) = false := decide_eq_false h1
  clear e h1
  go_enter Tryz.func26, Tryz.ntmps26
  go_wp2
  go_ret
  exact ⟨ret_bool H.out.symm, rfl⟩
end Go.Proofs.YtogdefomigiepaaGreatDoor
/- Contracts of payrollref34: bases, Format. Written by gen_rffm.py. -/
namespace Go.Proofs.YtogdefomigiepaaGreatDoor
open Go.RowKit

theorem word_same : ∀ j : Nat, j < 10 → wordT ((j : Int) + 1) = wordL ((j : Int) + 1) := by decide +kernel
theorem lineT_eq {x : Ln} (hf : formedB x = true) : lineT x = lnT x ++ [10] := by
 simp only [formedB, Bool.and_eq_true, decide_eq_true_eq] at hf
 obtain ⟨j, hj, hk⟩ : ∃ j : Nat, j < 10 ∧ x.kind = (j : Int) + 1 := ⟨(x.kind - 1).toNat, by omega, by omega⟩
 have hw : wordT x.kind = wordL x.kind := by rw [hk]; exact word_same j hj
 cases hb : bareB x.kind
 ·rw [lnT_code hb, lineT, hw, hb]; simp
 ·rw [lnT_bare hb, lineT, hw, hb]; simp
def bas2 (s : Slp) : List UInt8 := [98, 97, 115, 101, 115] ++ basesT s.bs ++ ([32, 108, 101, 103, 97, 108, 32] ++ Lib.itoa s.legal ++ [10])
set_option maxRecDepth 100000 in
set_option maxHeartbeats 4000000 in
theorem basesR_any (s : Slp) (A : Option Addr) (n c : Nat) (w : World) (hb : (-1000000000000 ≤ s.b0 ∧ s.b0 ≤ 1000000000000) ∧ (-1000000000000 ≤ s.b1 ∧ s.b1 ≤ 1000000000000) ∧ (-1000000000000 ≤ s.b2 ∧ s.b2 ≤ 1000000000000) ∧ (-1000000000000 ≤ s.b3 ∧ s.b3 ≤ 1000000000000) ∧ (-1000000000000 ≤ s.b4 ∧ s.b4 ≤ 1000000000000) ∧ (-1000000000000 ≤ s.legal ∧ s.legal ≤ 1000000000000)) :
  Calls Tryz.prog 29 #[.agg #[.int .i64 s.b0, .int .i64 s.b1, .int .i64 s.b2, .int .i64 s.b3, .int .i64 s.b4, .int .i64 s.legal, .slice A n c]] w fun e w' => e = .returned (.string (bsOf (bas2 s))) ∧ Below w.heap.size w w' := by
 have HC : Hid (∀ (x : Int) (w : World), -9223372036854775808 ≤ x → x ≤ 9223372036854775807 → Calls Tryz.prog 28 #[.int .i64 x] w fun e w' => e = .returned (.string (bsOf (Lib.itoa x))) ∧ Below w.heap.size w w') := fun x w g1 g2 => (Decimal_any x w g1 g2).mono fun e w' h => h.bs
 obtain ⟨h0, h1, h2, h3, h4, h5⟩ := hb
 have s0 := itoa_20 s.b0 (by omega) (by omega)
 have s1 := itoa_20 s.b1 (by omega) (by omega)
 have s2 := itoa_20 s.b2 (by omega) (by omega)
 have s3 := itoa_20 s.b3 (by omega) (by omega)
 have s4 := itoa_20 s.b4 (by omega) (by omega)
 have s5 := itoa_20 s.legal (by omega) (by omega)
 have hB := ((Below.refl w.heap.size w).alloc (Nat.le_refl _) (.cells #[.int .i64 s.b0, .int .i64 s.b1, .int .i64 s.b2, .int .i64 s.b3, .int .i64 s.b4, .int .i64 s.legal, .slice A n c] 27)).alloc (by simp) (.cells #[.int .i64 s.b0, .int .i64 s.b1, .int .i64 s.b2, .int .i64 s.b3, .int .i64 s.b4] 24)
 have hr1 := (Row.new w 27 #[.int .i64 s.b0, .int .i64 s.b1, .int .i64 s.b2, .int .i64 s.b3, .int .i64 s.b4, .int .i64 s.legal, .slice A n c]).alloc (.cells #[.int .i64 s.b0, .int .i64 s.b1, .int .i64 s.b2, .int .i64 s.b3, .int .i64 s.b4] 24)
 have hr2 := Row.new (w.alloc (.cells #[.int .i64 s.b0, .int .i64 s.b1, .int .i64 s.b2, .int .i64 s.b3, .int .i64 s.b4, .int .i64 s.legal, .slice A n c] 27)) 24 #[.int .i64 s.b0, .int .i64 s.b1, .int .i64 s.b2, .int .i64 s.b3, .int .i64 s.b4]
 rw [World.size_alloc] at hr2
 go_enter Tryz.func29, Tryz.ntmps29
 go_wp2_with fail
 obtain ⟨w1, hw1⟩ : ∃ w1, (w.alloc (.cells #[.int .i64 s.b0, .int .i64 s.b1, .int .i64 s.b2, .int .i64 s.b3, .int .i64 s.b4, .int .i64 s.legal, .slice A n c] 27)).alloc (.cells #[.int .i64 s.b0, .int .i64 s.b1, .int .i64 s.b2, .int .i64 s.b3, .int .i64 s.b4] 24) = w1 := ⟨_, rfl⟩
 rw [hw1] at hB hr1 hr2 ⊢
 obtain ⟨gS, hgS⟩ : ∃ g, w.heap.size = g := ⟨_, rfl⟩
 have HG := Lib.hid hgS
 rw [hgS] at hr1 hr2 ⊢
 obtain ⟨gB, hgB⟩ : ∃ g, gS + 1 = g := ⟨_, rfl⟩
 rw [hgB] at hr2 ⊢
 clear hw1 hgS hgB
 have z0 := ext_cell hr2.lt (Row.cell hr2 0 : w1.cell? ⟨gB, 0, none⟩ = some (.int .i64 s.b0))
 have z1 := ext_cell hr2.lt (Row.cell hr2 1 : w1.cell? ⟨gB, 1, none⟩ = some (.int .i64 s.b1))
 have z2 := ext_cell hr2.lt (Row.cell hr2 2 : w1.cell? ⟨gB, 2, none⟩ = some (.int .i64 s.b2))
 have z3 := ext_cell hr2.lt (Row.cell hr2 3 : w1.cell? ⟨gB, 3, none⟩ = some (.int .i64 s.b3))
 have z4 := ext_cell hr2.lt (Row.cell hr2 4 : w1.cell? ⟨gB, 4, none⟩ = some (.int .i64 s.b4))
 have z5 := ext_cell hr1.lt (Row.cell hr1 5 : w1.cell? ⟨gS, 5, none⟩ = some (.int .i64 s.legal))
 have HBY : Hid (∀ y : Ext w1, Below w.heap.size w y.val) := fun y => below_after hB y.property hB.size
 clear hB hr1 hr2
 refine region_ext (by kernel_rfl) (by kernel_rfl) ?_
 repeat (go_big_quiet_step ((go_at_call 28; exact ext_call (HC.out _ _ (by omega) (by omega)))))
 refine wpQuiet_nil ?_
 rintro _ ⟨y, rfl⟩
 go_wp2
 refine bodyPost_ret (v := .string _) (by simp [results, Tryz.results29, go_sem]; rfl) rfl ?_
 refine ⟨?_, HBY.out y⟩
 congr 2
 refine bsOf_eq ?_
 simp only [app_list, bsOf_list, bas2, basesT, Slp.bs]
 simp
def FmtRet (e p : Int) (s : Slp) (w : World) (x : Ending) (w' : World) : Prop := x = .returned (.tuple #[.string ⟨(formatT e p s).toArray⟩, .int .i64 (slipE e p s)]) ∧ Below w.heap.size w w'
theorem FmtRet.no {e p : Int} {s : Slp} {w w' : World} {n : Int} (h : slipE e p s = n) (hn : n ≠ 0) (hb : Below w.heap.size w w') : FmtRet e p s w (.returned (.tuple #[.string ⟨#[]⟩, .int .i64 n])) w' := by
 refine ⟨?_, hb⟩
 rw [formatT, if_neg (by rw [h]; exact hn), h]
set_option maxRecDepth 100000 in
set_option maxHeartbeats 16000000 in
theorem refFormat_any (e p : Int) (s : Slp) (v : Value) (w : World) (hv : Sl w 3 v (lns s.lines)) (he : -9223372036854775808 ≤ e ∧ e ≤ 9223372036854775807) (hp : -9223372036854775808 ≤ p ∧ p ≤ 9223372036854775807) :
  Calls Tryz.prog 12 #[.int .i64 e, .int .i64 p, .agg (s.vals v)] w (FmtRet e p s w) := by
 have HV := Lib.hid hv
 obtain ⟨A, cap, rfl, h1, h2, _, _⟩ := hv
 rw [lns_len] at h1 HV ⊢
 unfold maxLen at h2
 have hvals : s.vals (.slice A s.lines.length cap) = #[.int .i64 s.b0, .int .i64 s.b1, .int .i64 s.b2, .int .i64 s.b3, .int .i64 s.b4, .int .i64 s.legal, .slice A s.lines.length cap] := rfl
 rw [hvals]
 clear hvals
 have hB := ((Below.refl w.heap.size w).alloc (Nat.le_refl _) (.cells #[.int .i64 s.b0, .int .i64 s.b1, .int .i64 s.b2, .int .i64 s.b3, .int .i64 s.b4, .int .i64 s.legal, .slice A s.lines.length cap] 27)).alloc (by simp) (.cells #[.int .i64 s.b0, .int .i64 s.b1, .int .i64 s.b2, .int .i64 s.b3, .int .i64 s.b4] 24)
 have hr1 := (Row.new w 27 #[.int .i64 s.b0, .int .i64 s.b1, .int .i64 s.b2, .int .i64 s.b3, .int .i64 s.b4, .int .i64 s.legal, .slice A s.lines.length cap]).alloc (.cells #[.int .i64 s.b0, .int .i64 s.b1, .int .i64 s.b2, .int .i64 s.b3, .int .i64 s.b4] 24)
 have hr2 := Row.new (w.alloc (.cells #[.int .i64 s.b0, .int .i64 s.b1, .int .i64 s.b2, .int .i64 s.b3, .int .i64 s.b4, .int .i64 s.legal, .slice A s.lines.length cap] 27)) 24 #[.int .i64 s.b0, .int .i64 s.b1, .int .i64 s.b2, .int .i64 s.b3, .int .i64 s.b4]
 rw [World.size_alloc] at hr2
 go_enter Tryz.func12, Tryz.ntmps12
 go_upto_region 2 with (fail)
 obtain ⟨w1, hw1⟩ : ∃ w1, (w.alloc (.cells #[.int .i64 s.b0, .int .i64 s.b1, .int .i64 s.b2, .int .i64 s.b3, .int .i64 s.b4, .int .i64 s.legal, .slice A s.lines.length cap] 27)).alloc (.cells #[.int .i64 s.b0, .int .i64 s.b1, .int .i64 s.b2, .int .i64 s.b3, .int .i64 s.b4] 24) = w1 := ⟨_, rfl⟩
 rw [hw1] at hB hr1 hr2 ⊢
 obtain ⟨gS, hgS⟩ : ∃ g, w.heap.size = g := ⟨_, rfl⟩
 have HG := Lib.hid hgS
 rw [hgS] at hr1 hr2 ⊢
 obtain ⟨gB, hgB⟩ : ∃ g, gS + 1 = g := ⟨_, rfl⟩
 rw [hgB] at hr2 ⊢
 have HB1 := Lib.hid hB
 have HR1 := Lib.hid hr1
 clear hw1 hgS hgB hB
 have z0 : w1.cell? ⟨gB, 0, none⟩ = some (.int .i64 s.b0) := Row.cell hr2 0
 have z1 : w1.cell? ⟨gB, 1, none⟩ = some (.int .i64 s.b1) := Row.cell hr2 1
 have z2 : w1.cell? ⟨gB, 2, none⟩ = some (.int .i64 s.b2) := Row.cell hr2 2
 have z3 : w1.cell? ⟨gB, 3, none⟩ = some (.int .i64 s.b3) := Row.cell hr2 3
 have z4 : w1.cell? ⟨gB, 4, none⟩ = some (.int .i64 s.b4) := Row.cell hr2 4
 have z5 : w1.cell? ⟨gS, 5, none⟩ = some (.int .i64 s.legal) := Row.cell hr1 5
 have z6 : w1.cell? ⟨gS, 6, none⟩ = some (.slice A s.lines.length cap) := Row.cell hr1 6
 have l1 := hr1.lt
 have l2 := hr2.lt
 clear hr1 hr2
 by_cases g0 : 1 ≤ e
 rotate_left
 ·have d0 : decide (e < 1) = true := decide_eq_true (by omega)
  have HE : Hid (slipE e p s = 2) := by simp [Hid, slipE, Slp.bs, g0]
  go_wp2_with (go_at_call 26; refine (refTotal_any _ _).mono ?_; rintro x _ ⟨rfl, rfl⟩)
  go_ret2
  exact FmtRet.no HE.out (by omega) HB1.out
 have d0 : decide (e < 1) = false := decide_eq_false (by omega)
 by_cases g1 : e ≤ 2147483647
 rotate_left
 ·have d1 : decide (2147483647 < e) = true := decide_eq_true (by omega)
  have HE : Hid (slipE e p s = 2) := by simp [Hid, slipE, Slp.bs, g0, g1]
  go_wp2_with (go_at_call 26; refine (refTotal_any _ _).mono ?_; rintro x _ ⟨rfl, rfl⟩)
  go_ret2
  exact FmtRet.no HE.out (by omega) HB1.out
 have d1 : decide (2147483647 < e) = false := decide_eq_false (by omega)
 by_cases g2 : 0 ≤ p
 rotate_left
 ·have d2 : decide (p < 0) = true := decide_eq_true (by omega)
  have HE : Hid (slipE e p s = 2) := by simp [Hid, slipE, Slp.bs, g0, g1, g2]
  go_wp2_with (go_at_call 26; refine (refTotal_any _ _).mono ?_; rintro x _ ⟨rfl, rfl⟩)
  go_ret2
  exact FmtRet.no HE.out (by omega) HB1.out
 have d2 : decide (p < 0) = false := decide_eq_false (by omega)
 by_cases g3 : p ≤ 84005
 rotate_left
 ·have d3 : decide (84005 < p) = true := decide_eq_true (by omega)
  have HE : Hid (slipE e p s = 2) := by simp [Hid, slipE, Slp.bs, g0, g1, g2, g3]
  go_wp2_with (go_at_call 26; refine (refTotal_any _ _).mono ?_; rintro x _ ⟨rfl, rfl⟩)
  go_ret2
  exact FmtRet.no HE.out (by omega) HB1.out
 have d3 : decide (84005 < p) = false := decide_eq_false (by omega)
 cases t0 : totB s.legal
 ·have HE : Hid (slipE e p s = 2) := by simp [Hid, slipE, Slp.bs, g0, g1, g2, g3, t0]
  go_wp2_with (go_at_call 26; refine (refTotal_any _ _).mono ?_; rintro x _ ⟨rfl, rfl⟩)
  go_ret2
  exact FmtRet.no HE.out (by omega) HB1.out
 have q0 : True := trivial
 cases t1 : totB s.b0
 ·have HE : Hid (slipE e p s = 2) := by simp [Hid, slipE, Slp.bs, g0, g1, g2, g3, t0, t1]
  go_wp2_with (go_at_call 26; refine (refTotal_any _ _).mono ?_; rintro x _ ⟨rfl, rfl⟩)
  go_ret2
  exact FmtRet.no HE.out (by omega) HB1.out
 have q1 : True := trivial
 cases t2 : totB s.b1
 ·have HE : Hid (slipE e p s = 2) := by simp [Hid, slipE, Slp.bs, g0, g1, g2, g3, t0, t1, t2]
  go_wp2_with (go_at_call 26; refine (refTotal_any _ _).mono ?_; rintro x _ ⟨rfl, rfl⟩)
  go_ret2
  exact FmtRet.no HE.out (by omega) HB1.out
 have q2 : True := trivial
 cases t3 : totB s.b2
 ·have HE : Hid (slipE e p s = 2) := by simp [Hid, slipE, Slp.bs, g0, g1, g2, g3, t0, t1, t2, t3]
  go_wp2_with (go_at_call 26; refine (refTotal_any _ _).mono ?_; rintro x _ ⟨rfl, rfl⟩)
  go_ret2
  exact FmtRet.no HE.out (by omega) HB1.out
 have q3 : True := trivial
 cases t4 : totB s.b3
 ·have HE : Hid (slipE e p s = 2) := by simp [Hid, slipE, Slp.bs, g0, g1, g2, g3, t0, t1, t2, t3, t4]
  go_wp2_with (go_at_call 26; refine (refTotal_any _ _).mono ?_; rintro x _ ⟨rfl, rfl⟩)
  go_ret2
  exact FmtRet.no HE.out (by omega) HB1.out
 have q4 : True := trivial
 cases t5 : totB s.b4
 ·have HE : Hid (slipE e p s = 2) := by simp [Hid, slipE, Slp.bs, g0, g1, g2, g3, t0, t1, t2, t3, t4, t5]
  go_wp2_with (go_at_call 26; refine (refTotal_any _ _).mono ?_; rintro x _ ⟨rfl, rfl⟩)
  go_ret2
  exact FmtRet.no HE.out (by omega) HB1.out
 have q5 : True := trivial
 have b0 : -1000000000000 ≤ s.legal ∧ s.legal ≤ 1000000000000 := by simpa [totB] using t0
 have b1 : -1000000000000 ≤ s.b0 ∧ s.b0 ≤ 1000000000000 := by simpa [totB] using t1
 have b2 : -1000000000000 ≤ s.b1 ∧ s.b1 ≤ 1000000000000 := by simpa [totB] using t2
 have b3 : -1000000000000 ≤ s.b2 ∧ s.b2 ≤ 1000000000000 := by simpa [totB] using t3
 have b4 : -1000000000000 ≤ s.b3 ∧ s.b3 ≤ 1000000000000 := by simpa [totB] using t4
 have b5 : -1000000000000 ≤ s.b4 ∧ s.b4 ≤ 1000000000000 := by simpa [totB] using t5
 have HSE : Hid (slipE e p s = if s.lines.length ≤ 256 then (if ordB s.lines then 0 else 1) else 1) := by simp [Hid, slipE, Slp.bs, g0, g1, g2, g3, t0, t1, t2, t3, t4, t5]
 by_cases hn : s.lines.length ≤ 256
 rotate_left
 ·have dn : decide ((256 : Int) < (s.lines.length : Int)) = true := decide_eq_true (by omega)
  have HE : Hid (slipE e p s = 1) := by rw [Hid, HSE.out, if_neg hn]
  go_wp2_with (go_at_call 26; refine (refTotal_any _ _).mono ?_; rintro x _ ⟨rfl, rfl⟩)
  go_ret2
  exact FmtRet.no HE.out (by omega) HB1.out
 have dn : decide ((256 : Int) < (s.lines.length : Int)) = false := decide_eq_false (by omega)
 have HO := Lib.hid (Ordered_any s.lines _ w1 (HV.out.below HB1.out))
 have HC : Hid (∀ (x : Int) (w : World), -9223372036854775808 ≤ x → x ≤ 9223372036854775807 → Calls Tryz.prog 28 #[.int .i64 x] w fun e w' => e = .returned (.string (bsOf (Lib.itoa x))) ∧ Below w.heap.size w w') := fun x w g1 g2 => (Decimal_any x w g1 g2).mono fun e w' h => h.bs
 cases ho : ordB s.lines
 ·have HE : Hid (slipE e p s = 1) := by rw [Hid, HSE.out, if_pos hn, ho]; rfl
  rw [ho] at HO
  go_wp2_with (first | (go_at_call 26; refine (refTotal_any _ _).mono ?_; rintro x _ ⟨rfl, rfl⟩) | (go_at_call 27; refine HO.out.mono ?_; rintro x w2 ⟨rfl, k2⟩; have HB2 := Lib.hid (below_after HB1.out k2 HB1.out.size)))
  go_ret2
  exact FmtRet.no HE.out (by omega) HB2.out
 have HE : Hid (slipE e p s = 0) := by rw [Hid, HSE.out, if_pos hn, ho]; rfl
 have HFM := Lib.hid (fun x hx => formB_formed (((ordB_iff s.lines).1 ho).1 x hx))
 have HFD : Hid (∀ x ∈ s.lines, formedB x = true) := fun x hx => by
  obtain ⟨j, hj, rfl⟩ := List.getElem_of_mem hx
  exact formB_formed (((ordB_iff s.lines).1 ho).1 j hj)
 rw [ho] at HO
 go_upto_region 6 with (first | (go_at_call 26; refine (refTotal_any _ _).mono ?_; rintro x _ ⟨rfl, rfl⟩) | (go_at_call 27; refine HO.out.mono ?_; rintro x w2 ⟨rfl, k2⟩; have HB2 := Lib.hid (below_after HB1.out k2 HB1.out.size); have HR2 := Lib.hid (Row.below HR1.out k2 (Row.lt HR1.out)); clear k2))
 clear z0 z1 z2 z3 z4 z5 z6 l1 l2 HO HB1 HR1
 have l3 := Row.lt HR2.out
 have y0 := ext_cell l3 (Row.cell HR2.out 0 : w2.cell? ⟨gS, 0, none⟩ = some (.int .i64 s.b0))
 have y1 := ext_cell l3 (Row.cell HR2.out 1 : w2.cell? ⟨gS, 1, none⟩ = some (.int .i64 s.b1))
 have y2 := ext_cell l3 (Row.cell HR2.out 2 : w2.cell? ⟨gS, 2, none⟩ = some (.int .i64 s.b2))
 have y3 := ext_cell l3 (Row.cell HR2.out 3 : w2.cell? ⟨gS, 3, none⟩ = some (.int .i64 s.b3))
 have y4 := ext_cell l3 (Row.cell HR2.out 4 : w2.cell? ⟨gS, 4, none⟩ = some (.int .i64 s.b4))
 have y5 := ext_cell l3 (Row.cell HR2.out 5 : w2.cell? ⟨gS, 5, none⟩ = some (.int .i64 s.legal))
 have y6 := ext_cell l3 (Row.cell HR2.out 6 : w2.cell? ⟨gS, 6, none⟩ = some (.slice A s.lines.length cap))
 have HBA := Lib.hid (fun y : Ext w2 => basesR_any s A s.lines.length cap y.val ⟨b1, b2, b3, b4, b5, b0⟩)
 have s1 := itoa_20 e (by omega) (by omega)
 have s2 := itoa_20 p (by omega) (by omega)
 have s3 : (bsOf (bas2 s)).size ≤ 300 := by
  have a0 := itoa_len s.b0 (by omega) (by omega)
  have a1 := itoa_len s.b1 (by omega) (by omega)
  have a2 := itoa_len s.b2 (by omega) (by omega)
  have a3 := itoa_len s.b3 (by omega) (by omega)
  have a4 := itoa_len s.b4 (by omega) (by omega)
  have a5 := itoa_len s.legal (by omega) (by omega)
  rw [bsOf_size]
  simp only [bas2, basesT, Slp.bs, List.map_cons, List.map_nil, List.flatten_cons, List.flatten_nil, List.length_append, List.length_cons, List.length_nil]
  omega
 have hbx : Hid (∀ y : Ext w2, Below w.heap.size w y.val ∧ Row y.val gS 27 #[.int .i64 s.b0, .int .i64 s.b1, .int .i64 s.b2, .int .i64 s.b3, .int .i64 s.b4, .int .i64 s.legal, .slice A s.lines.length cap]) := fun y => ⟨below_after HB2.out y.property HB2.out.size, HR2.out.below y.property l3⟩
 refine region_ext (by kernel_rfl) (by kernel_rfl) ?_
 repeat (go_big_quiet_step (first | (go_at_call 28; exact ext_call (HC.out _ _ (by omega) (by omega))) | (go_at_call 29; exact ext_call (HBA.out _))))
 refine wpQuiet_nil ?_
 rintro _ ⟨y, rfl⟩
 obtain ⟨hBy, hRy⟩ := hbx.out y
 obtain ⟨hd, hhd⟩ : ∃ hd : ByteArray, (⟨#[112, 97, 121, 115, 108, 105, 112, 32]⟩ ++ bsOf (Lib.itoa e) ++ ⟨#[32, 112, 101, 114, 105, 111, 100, 32]⟩ ++ bsOf (Lib.itoa p) ++ ⟨#[10]⟩ ++ bsOf (bas2 s) : ByteArray) = hd := ⟨_, rfl⟩
 have hH : hd.data.toList = headT e p ++ bas2 s := by
  rw [← hhd, headT]; simp only [app_list, bsOf_list]
 have hz0 : hd.size ≤ 500 := by
  rw [← hhd]
  simp only [ByteArray.size_append]
  have a1 : (⟨#[112, 97, 121, 115, 108, 105, 112, 32]⟩ : ByteArray).size = 8 := rfl
  have a2 : (⟨#[32, 112, 101, 114, 105, 111, 100, 32]⟩ : ByteArray).size = 8 := rfl
  have a3 : (⟨#[10]⟩ : ByteArray).size = 1 := rfl
  omega
 have HH := Lib.hid hH
 generalize y.val = w3 at hBy hRy ⊢
 rw [hhd]
 clear hhd hH y0 y1 y2 y3 y4 y5 y6 hbx l3 s1 s2 s3 y HC HBA HR2
 have HS0 : Hid (hd.data.toList = headT e p ++ bas2 s ++ linesT (s.lines.take 0)) := by rw [Hid, HH.out]; simp [linesT]
 have HB0 := Lib.hid (And.intro hBy hRy)
 clear hBy hRy HH
 go_wp2_with fail
 go_loopw [9, 10] (fun o i wr => ∃ (q : ByteArray) (k : Nat), o = .string q ∧ i = .int .i64 k ∧ k ≤ s.lines.length ∧ q.size ≤ 500 + 500 * k ∧ Hid (q.data.toList = headT e p ++ bas2 s ++ linesT (s.lines.take k)) ∧ Hid (Below w.heap.size w wr ∧ Row wr gS 27 #[.int .i64 s.b0, .int .i64 s.b1, .int .i64 s.b2, .int .i64 s.b3, .int .i64 s.b4, .int .i64 s.legal, .slice A s.lines.length cap])) (fun _ i _ => s.lines.length - (intOf i).toNat)
 case atStart => exact ⟨hd, 0, rfl, rfl, by omega, by omega, HS0.out, HB0.out⟩
 case round =>
  clear HS0 HB0 hz0
  obtain ⟨q, k, rfl, rfl, hk, hsz, HS, HB⟩ := hrel
  obtain ⟨wo, rfl⟩ : ∃ wo : World, wo = wr := ⟨_, rfl⟩
  have x6 : wo.cell? ⟨gS, 6, none⟩ = some (.slice A s.lines.length cap) := Row.cell HB.out.2 6
  have xl := Row.lt HB.out.2
  by_cases hlt : k < s.lines.length
  ·obtain ⟨bk, off, rfl, hcw⟩ := HV.out.cells (by rw [lns_len]; omega)
   have hc0 := hcw.below HB.out.1 hcw.1
   have hbl := hc0.1
   obtain ⟨c0, c1, c2⟩ := hc0.ln hlt
   have hfb := HFD.out _ (List.getElem_mem hlt)
   have HTK := Lib.hid (linesT_snoc s.lines k hlt)
   have HLE := Lib.hid (lineT_eq hfb)
   have hfx := formed_of hfb
   have hll := lnT_len hfx
   obtain ⟨x, hx⟩ : ∃ x, s.lines[k] = x := ⟨_, rfl⟩
   rw [hx] at c0 c1 c2 HTK hfx hll HLE
   have HTXT := Lib.hid (Text_any x wo hfx)
   have i1 : (k : Int) < (s.lines.length : Int) := by omega
   obtain ⟨T, hT⟩ : ∃ T, bsOf (lnT x ++ [10]) = T := ⟨_, rfl⟩
   have HTL : Hid (T.data.toList = lineT x) := by rw [Hid, HLE.out, ← hT, bsOf_list]
   have htz : T.size ≤ 100 := by rw [← hT, bsOf_size, List.length_append, List.length_singleton]; omega
   rw [hT] at HTXT
   clear hx hcw hc0 hfx hT hfb
   go_wp2_with fail
   refine HTXT.out.mono ?_
   rintro x' w4 ⟨rfl, hb4⟩
   have HB4 : Hid (Below w.heap.size w w4 ∧ Row w4 gS 27 #[.int .i64 s.b0, .int .i64 s.b1, .int .i64 s.b2, .int .i64 s.b3, .int .i64 s.b4, .int .i64 s.legal, .slice (some ⟨bk, off, none⟩) s.lines.length cap]) := ⟨below_after HB.out.1 hb4 HB.out.1.size, HB.out.2.below hb4 xl⟩
   clear x6 xl c0 c1 c2 hb4 HTXT HB hbl
   obtain ⟨ns, hns⟩ : ∃ ns : ByteArray, q ++ T = ns := ⟨_, rfl⟩
   have HN : Hid (ns.data.toList = headT e p ++ bas2 s ++ linesT (s.lines.take (k + 1))) := by
    rw [Hid, ← hns, HTK.out, app_list, HS.out, HTL.out]; simp only [List.append_assoc]
   have hNz : ns.size ≤ 500 + 500 * (k + 1) := by rw [← hns, ByteArray.size_append]; omega
   have HNS := Lib.hid hns
   clear hns
   go_wp2
   go_roundw
   case rel => exact ⟨ns, k + 1, by rw [HNS.out], by go_num, by omega, hNz, HN.out, HB4.out⟩
   case measure => simp [intOf]; omega
  ·obtain rfl : k = s.lines.length := by omega
   have HS1 : Hid (q.data.toList = headT e p ++ bas2 s ++ linesT s.lines) := by rw [Hid, HS.out, List.take_length]
   have HBF := Lib.hid HB.out.1
   clear HS HB
   go_wp2
   refine bodyPost_ret (v := .tuple #[.string _, .int .i64 0]) (by simp [results, Tryz.results12, go_sem]; rfl) rfl ?_
   refine ⟨?_, HBF.out⟩
   rw [HE.out]
   congr 4
   refine congrArg Value.string ?_
   refine (bsOf_eq (l := formatT e p s) ?_)
   rw [formatT, if_pos HE.out, textT, app_list, HS1.out, bas2]
   simp only [List.append_assoc]
end Go.Proofs.YtogdefomigiepaaGreatDoor
/- Contracts of strings.Split at one byte and strings.CutSuffix at one byte; strings in memory. -/
namespace Go.Proofs.YtogdefomigiepaaGreatDoor
open Go.RowKit Go.Shelf

def txts (l : List ByteArray) : List (List Value) := l.map fun s => [.string s]
theorem txts_len (l : List ByteArray) : (txts l).length = l.length := by simp [txts]
theorem txts_at {l : List ByteArray} {k : Nat} (h : k < l.length) : (txts l)[k]? = some [.string l[k]] := by simp [txts, h]
theorem CellsAt.txt {w : World} {b off : Nat} {l : List ByteArray} (h : CellsAt w 1 b off (txts l)) {k : Nat} (hk : k < l.length) :
  w.cell? ⟨b, off + k, none⟩ = some (.string l[k]) := by
 have := h.2 k _ (txts_at hk) 0 _ rfl
 rwa [Nat.mul_one, Nat.add_zero] at this
theorem cellsAt_txts (w : World) (t : TypeId) (l : List ByteArray) : CellsAt (w.alloc (.cells (l.map Value.string).toArray t)) 1 w.heap.size 0 (txts l) := by
 refine ⟨by simp, fun i e hi j u hu => ?_⟩
 rw [World.cell?_alloc_new]
 simp only [txts, List.getElem?_map, Option.map_eq_some_iff] at hi
 obtain ⟨z, hz, rfl⟩ := hi
 match j, hu with
 | 0, hu =>
  simp only [List.getElem?_cons_zero, Option.some.injEq] at hu
  subst hu
  simp [hz]
theorem Sl.txts (w : World) (t : TypeId) (l : List ByteArray) (hl : l.length ≤ maxLen) (c : Array Value) (hc : c = (l.map Value.string).toArray) : Sl (w.alloc (.cells c t)) 1 (.slice (some ⟨w.heap.size, 0, none⟩) l.length l.length) (txts l) := by
 subst hc
 refine ⟨_, l.length, by rw [txts_len], by rw [txts_len]; omega, hl, (fun h => by cases h), .inr ⟨_, 0, rfl, cellsAt_txts w t l⟩⟩
def RetSpl (c : UInt8) (s : ByteArray) (w : World) (e : Ending) (w' : World) : Prop :=
 ∃ P : List ByteArray, ∃ A cap, e = .returned (.slice A P.length cap) ∧ P.map (·.data.toList) = splitBy c s.data.toList ∧ (∀ p ∈ P, p.size ≤ s.size) ∧ P.length ≤ s.size + 1 ∧ Sl w' 1 (.slice A P.length cap) (txts P) ∧ Below w.heap.size w w'
theorem splitB_le (sep : ByteArray) : ∀ (k : Nat) (s : ByteArray), ∀ p ∈ Lib.splitB sep 0 k s, p.size ≤ s.size
 | 0, s, p, hp => by simp [Lib.splitB] at hp; rw [hp]; omega
 | k + 1, s, p, hp => by
  unfold Lib.splitB at hp
  split at hp
  ·simp at hp; rw [hp]; omega
  ·rcases List.mem_cons.1 hp with rfl | hp
   ·rw [ByteArray.size_extract]; omega
   ·have := splitB_le sep k _ p hp
    rw [ByteArray.size_extract] at this; omega
theorem index_is (x : ByteArray) (c : UInt8) : Lib.indexB x ⟨#[c]⟩ = Lib.indexByte x.data.toList c := Lib.index_one _ _
theorem count_is (s : ByteArray) (c : UInt8) : ((Lib.countB s ⟨#[c]⟩ : Nat) : Int) = Lib.countByte s.data.toList c := by
 show ((Lib.count s.data.toList [c] : Nat) : Int) = _
 rw [Lib.count_one]; rfl
theorem gen_any (s : ByteArray) (c : UInt8) (w : World) (hs : s.size < 4294967281) :
  Calls Tryz.prog 145 #[.string s, .string ⟨#[c]⟩, .int .i64 0, .int .i64 (-1)] w fun e w' =>
   e = .returned (.slice (some ⟨w.heap.size, 0, none⟩) (Lib.splitB ⟨#[c]⟩ 0 (Lib.countB s ⟨#[c]⟩) s).length (Lib.splitB ⟨#[c]⟩ 0 (Lib.countB s ⟨#[c]⟩) s).length) ∧ w' = w.alloc (.cells ((Lib.splitB ⟨#[c]⟩ 0 (Lib.countB s ⟨#[c]⟩) s).map Value.string).toArray 9) := by
 have h1 : 1 ≤ (⟨#[c]⟩ : ByteArray).size := by simp [ByteArray.size]
 have hle := Lib.countB_le ⟨#[c]⟩ h1 s.size s (Nat.le_refl _)
 have hlen := Lib.splitB_all ⟨#[c]⟩ h1 0 _ s rfl
 have g := Any.strings_genSplit_core Tryz.lays221 (by kernel_rfl) s ⟨#[c]⟩ 0 (-1) (Lib.countB s ⟨#[c]⟩ + 1) w hs h1 (Nat.zero_le _)
  (fun x cs _ => by rw [index_is]; exact Tryz.strings_Index_one x c _) (by rw [count_is]; exact Tryz.strings_Count_one s c w) (by decide) (by decide) (by rw [if_pos (by decide)]; omega)
 rw [Nat.add_sub_cancel] at g
 have e2 : Lib.cellsOf (Lib.splitB ⟨#[c]⟩ 0 (Lib.countB s ⟨#[c]⟩) s) (Lib.countB s ⟨#[c]⟩ + 1) = ((Lib.splitB ⟨#[c]⟩ 0 (Lib.countB s ⟨#[c]⟩) s).map Value.string).toArray := by rw [← hlen]; exact Lib.cellsOf_full _
 rw [e2, ← hlen] at g
 exact g
set_option maxHeartbeats 1000000 in
theorem Split_any (s : ByteArray) (c : UInt8) (w : World) (hs : s.size < 4294967281) :
  Calls Tryz.prog 112 #[.string s, .string ⟨#[c]⟩] w (RetSpl c s w) := by
 have h1 : 1 ≤ (⟨#[c]⟩ : ByteArray).size := by simp [ByteArray.size]
 have hle := Lib.countB_le ⟨#[c]⟩ h1 s.size s (Nat.le_refl _)
 have hlen := Lib.splitB_all ⟨#[c]⟩ h1 0 _ s rfl
 have H := Lib.hid (gen_any s c w hs)
 have HL := Lib.hid (splitB_lines s c)
 have HP := Lib.hid (splitB_le ⟨#[c]⟩ (Lib.countB s ⟨#[c]⟩) s)
 obtain ⟨P, hP⟩ : ∃ P, Lib.splitB ⟨#[c]⟩ 0 (Lib.countB s ⟨#[c]⟩) s = P := ⟨_, rfl⟩
 rw [hP] at H HL HP hlen
 clear hP
 have HM : Hid (P.length ≤ s.size + 1) := by rw [Hid, hlen]; omega
 clear hlen hle
 go_enter Tryz.func112, Tryz.ntmps112
 go_wp2_with (go_at_call 145; (with_reducible refine H.out.mono ?_); rintro e w1 ⟨rfl, rfl⟩)
 go_ret
 exact ⟨P, _, _, rfl, HL.out, HP.out, HM.out, Sl.txts w _ P (by have := HM.out; unfold maxLen; omega) _ rfl, (Below.refl _ _).alloc (Nat.le_refl _) _⟩
end Go.Proofs.YtogdefomigiepaaGreatDoor
/- Contract of strings.Cut at a separator of one byte, for every string. -/
namespace Go.Proofs.YtogdefomigiepaaGreatDoor
open Go.RowKit

theorem index_lt (l : List UInt8) (c : UInt8) : Lib.indexByte l c = -1 ∨ ∃ i : Nat, Lib.indexByte l c = i ∧ i < l.length := by
 induction l with
 | nil => exact .inl rfl
 | cons a r ih =>
  unfold Lib.indexByte
  by_cases h : (a == c) = true
  ·rw [if_pos h]; exact .inr ⟨0, rfl, by simp⟩
  ·rw [if_neg h]
   rcases ih with ih | ⟨i, hi, hl⟩
   ·rw [ih]; exact .inl rfl
   ·rw [hi]
    have : ((i : Int) == -1) = false := by simp
    rw [this]
    exact .inr ⟨i + 1, by simp, by simpa using hl⟩
theorem cut_miss {l : List UInt8} {c : UInt8} (h : Lib.indexByte l c = -1) : Lib.cut l [c] = (l, [], false) := by
 rw [Lib.cut, Lib.index_one, h]; rfl
theorem cut_hit {l : List UInt8} {c : UInt8} {i : Nat} (h : Lib.indexByte l c = i) : Lib.cut l [c] = (l.take i, l.drop (i + 1), true) := by
 rw [Lib.cut, Lib.index_one, h, if_pos (by omega)]; simp
def RetCut (l : List UInt8) (c : UInt8) (w : World) (e : Ending) (w' : World) : Prop := ∃ a b : ByteArray, e = .returned (.tuple #[.string a, .string b, .bool (Lib.cut l [c]).2.2]) ∧ Hid (a.data.toList = (Lib.cut l [c]).1) ∧ Hid (b.data.toList = (Lib.cut l [c]).2.1) ∧ a.size ≤ l.length ∧ b.size ≤ l.length ∧ Below w.heap.size w w'
set_option maxRecDepth 100000 in
set_option maxHeartbeats 800000 in
theorem cutL_any (s : ByteArray) (c : UInt8) (w : World) (hs : s.size ≤ maxLen) :
  Calls Tryz.prog 144 #[.string s, .string ⟨#[c]⟩] w (RetCut s.data.toList c w) := by
 unfold maxLen at hs
 have hsz : s.data.toList.length = s.size := by simp
 have HSZ := Lib.hid hsz
 have C := Lib.hid (Tryz.stringslite_Index_one s c)
 have l1 : (⟨#[c]⟩ : ByteArray).size = 1 := rfl
 rcases index_lt s.data.toList c with hi | ⟨i, hi, hl⟩
 ·have HI := Lib.hid hi
  have HE := Lib.hid (cut_miss hi)
  rw [hi] at C
  clear hi hsz
  go_enter Tryz.func144, Tryz.ntmps144
  go_wp2_with fail
  refine (C.out _).mono ?_
  rintro e w' ⟨rfl, rfl⟩
  go_wp2_with fail
  go_ret3
  exact ⟨s, ⟨#[]⟩, by rw [HE.out]; rfl, by rw [Hid, HE.out], by rw [Hid, HE.out], by rw [HSZ.out]; exact Nat.le_refl _, Nat.zero_le _, Below.refl _ _⟩
 ·have HI := Lib.hid hi
  have HE := Lib.hid (cut_hit hi)
  rw [hi] at C
  rw [hsz] at hl
  clear hi hsz
  have HA := Lib.hid (Lib.extract_data s 0 i)
  have HB := Lib.hid (Lib.extract_to_end s (i + 1))
  have a1 : (s.extract 0 i).size ≤ s.size := by rw [ByteArray.size_extract]; omega
  have b1 : (s.extract (i + 1) s.size).size ≤ s.size := by rw [ByteArray.size_extract]; omega
  go_enter Tryz.func144, Tryz.ntmps144
  go_wp2_with fail
  refine (C.out _).mono ?_
  rintro e w' ⟨rfl, rfl⟩
  go_wp2_with fail
  go_quiet (fail)
  go_wp2_with fail
  go_ret3
  exact ⟨s.extract 0 i, s.extract (i + 1) s.size, by rw [HE.out]; rfl, by rw [Hid, HE.out, HA.out]; simp, by rw [Hid, HE.out, HB.out], by rw [HSZ.out]; exact a1, by rw [HSZ.out]; exact b1, Below.draws (Below.refl _ _) _⟩
set_option maxRecDepth 100000 in
theorem cut_any (s : ByteArray) (c : UInt8) (w : World) (hs : s.size ≤ maxLen) :
  Calls Tryz.prog 111 #[.string s, .string ⟨#[c]⟩] w (RetCut s.data.toList c w) := by
 have C := Lib.hid (cutL_any s c w hs)
 clear hs
 go_enter Tryz.func111, Tryz.ntmps111
 go_wp2_with fail
 refine C.out.mono ?_
 rintro e w' ⟨a, b, rfl, ha, hb, l1, l2, hB⟩
 obtain ⟨q, hq⟩ : ∃ q, q = (Lib.cut s.data.toList [c]).2.2 := ⟨_, rfl⟩
 rw [← hq]
 have HQ := Lib.hid hq
 clear hq
 go_wp2_with fail
 go_ret3
 exact ⟨a, b, by rw [HQ.out]; rfl, ha, hb, l1, l2, hB⟩
end Go.Proofs.YtogdefomigiepaaGreatDoor
/- Contract of strconv.Atoi, for every string. -/
namespace Go.Proofs.YtogdefomigiepaaGreatDoor
open Go.RowKit Go.Shelf

def Errs (w : World) : Prop := (∃ tp p, w.var? Tryz.prog "strconv.ErrSyntax" = some #[.iface tp p]) ∧ ∃ tp p, w.var? Tryz.prog "strconv.ErrRange" = some #[.iface tp p]
theorem Errs.below {w w' : World} (h : Errs w) (hb : Below w.heap.size w w') : Errs w' := by
 obtain ⟨⟨t, p, h1⟩, ⟨u, q, h2⟩⟩ := h
 exact ⟨⟨t, p, var_below h1 hb rfl⟩, ⟨u, q, var_below h2 hb rfl⟩⟩
def atoiV (l : List UInt8) : Option Int := match Lib.atoiAll l with | .ok v => some v | _ => none
def RetAtoi (l : List UInt8) (w : World) (e : Ending) (w' : World) : Prop :=
 Below w.heap.size w w' ∧ ((∃ v, atoiV l = some v ∧ -9223372036854775808 ≤ v ∧ v ≤ 9223372036854775807 ∧ e = .returned (.tuple #[.int .i64 v, .nilIface])) ∨ (atoiV l = none ∧ ∃ x N, e = .returned (.tuple #[.int .i64 x, .iface 249 (.pointer (some ⟨N, 0, none⟩))])))
theorem Atoi_any (s : ByteArray) (w : World) (hE : Errs w) (hs : s.size ≤ 281474976710656) :
  Calls Tryz.prog 113 #[.string s] w (RetAtoi s.data.toList w) := by
 obtain ⟨⟨t, p, h1⟩, ⟨u, q, h2⟩⟩ := hE
 cases h : Lib.atoiAll s.data.toList with
 | ok v =>
  refine (Tryz.strconv_Atoi_ok s (by omega) v h w).mono ?_
  rintro e w' ⟨rfl, hw⟩
  refine ⟨?_, .inl ⟨v, by rw [atoiV, h], (Lib.atoiAll_bounds h).1, (Lib.atoiAll_bounds h).2, rfl⟩⟩
  rcases hw with rfl | ⟨b, rfl⟩
  ·exact Below.refl _ _
  ·exact Lib.bytesWorld_below _ _ _
 | «syntax» =>
  refine (Tryz.strconv_Atoi_syntax_var s hs h t p w h1).mono ?_
  rintro e w' ⟨N, rfl, _, _, hb⟩
  exact ⟨hb, .inr ⟨by rw [atoiV, h], _, N, rfl⟩⟩
 | range =>
  refine (Tryz.strconv_Atoi_range_var s hs h u q w h2).mono ?_
  rintro e w' ⟨N, rfl, _, _, hb⟩
  exact ⟨hb, .inr ⟨by rw [atoiV, h], _, N, rfl⟩⟩
end Go.Proofs.YtogdefomigiepaaGreatDoor
/- Contracts of filing: number, readHead, readLine. -/
namespace Go.Proofs.YtogdefomigiepaaGreatDoor
open Go.RowKit Go.Shelf

theorem str_yes {q : ByteArray} {l : List UInt8} (h : q.data.toList = l) : (q.toList == l) = true ∧ q.toList = l := by
 rw [ByteArray.toList_eq, h]; simp
theorem str_no {q : ByteArray} {l : List UInt8} (h : ¬ q.data.toList = l) : (q.toList == l) = false ∧ ¬ q.toList = l := by
 rw [ByteArray.toList_eq]; exact ⟨by simpa using h, h⟩
theorem numI_of (l : List UInt8) : numI l = match atoiV l with | some v => if Lib.itoa v = l then some v else none | none => none := by
 unfold numI atoiV
 cases Lib.atoiAll l <;> rfl
def NumR (o : Option Int) (w : World) (e : Ending) (w' : World) : Prop := e = .returned (.tuple #[.int .i64 (o.getD 0), .bool o.isSome]) ∧ Below w.heap.size w w'
theorem words4 {w : World} {A : Option Addr} {cp : Nat} {W : List ByteArray} (h : Sl w 1 (.slice A W.length cp) (txts W)) (hl : W.length = 4) :
  ∃ a b c d bk off, W = [a, b, c, d] ∧ A = some ⟨bk, off, none⟩ ∧ bk < w.heap.size ∧ w.cell? ⟨bk, off, none⟩ = some (.string a) ∧ w.cell? ⟨bk, off + 1, none⟩ = some (.string b) ∧ w.cell? ⟨bk, off + 2, none⟩ = some (.string c) ∧ w.cell? ⟨bk, off + 3, none⟩ = some (.string d) :=
 match W, hl with
 | [a, b, c, d], _ => by
  obtain ⟨bk, off, rfl, hc⟩ := h.cells (by simp [txts])
  exact ⟨a, b, c, d, bk, off, rfl, rfl, hc.1, hc.txt (k := 0) (by simp), hc.txt (k := 1) (by simp), hc.txt (k := 2) (by simp), hc.txt (k := 3) (by simp)⟩
end Go.Proofs.YtogdefomigiepaaGreatDoor
