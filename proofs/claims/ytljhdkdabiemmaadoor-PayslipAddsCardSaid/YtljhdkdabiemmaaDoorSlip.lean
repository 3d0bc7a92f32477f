/- Contracts of payslip: fields, slipError. -/
import Derived.Test.YtljhdkdabiemmaaDoorColS
import Derived.Test.YtljhdkdabiemmaaDoorRow
import Derived.Test.YtljhdkdabiemmaaDoorExt
import Derived.RegionTactic
import Derived.Deep.QuietTactic
import Derived.BigQuiet
import Derived.Lib.AppendIntMem
import Derived.Deep.CutBlock
import Derived.Deep.DeepCutAuto
namespace Go.Proofs.YtljhdkdabiemmaaDoor
open Go.RowKit Go.Sort Go.Shelf

set_option maxHeartbeats 1600000 in
theorem fields_any (B : Nat) (w : World) :
    Calls Tryd.prog 40 #[.pointer (some ⟨B, 0, none⟩)] w fun e w' => e = .returned (.agg #[.pointer (some ⟨B, 0, none⟩), .pointer (some ⟨B, 1, none⟩), .pointer (some ⟨B, 2, none⟩), .pointer (some ⟨B, 3, none⟩), .pointer (some ⟨B, 4, none⟩)]) ∧ Below w.heap.size w w' := by
  go_enter Tryd.func40, Tryd.ntmps40
  go_wp2
  go_region
  go_wp2
  exact bodyPost_ret (v := .agg #[.pointer (some ⟨B, 0, none⟩), .pointer (some ⟨B, 1, none⟩), .pointer (some ⟨B, 2, none⟩), .pointer (some ⟨B, 3, none⟩), .pointer (some ⟨B, 4, none⟩)]) (by simp [results, Tryd.results40, go_sem]) rfl ⟨rfl, ((Below.refl _ _).alloc (Nat.le_refl _) _).drew⟩

/-- a payslip -/
structure Slp where
  b0 : Int
  b1 : Int
  b2 : Int
  b3 : Int
  b4 : Int
  legal : Int
  lines : List Ln
def Slp.bs (s : Slp) : List Int := [s.b0, s.b1, s.b2, s.b3, s.b4]
def Slp.vals (s : Slp) (v : Value) : Array Value := #[.int .i64 s.b0, .int .i64 s.b1, .int .i64 s.b2, .int .i64 s.b3, .int .i64 s.b4, .int .i64 s.legal, v]
/-- lines of the form of lines, in strict order -/
def ordB : List Ln → Bool
  | a :: b :: r => formB a && (lnLt a b && ordB (b :: r))
  | [a] => formB a
  | [] => true
theorem ordB_iff (l : List Ln) : ordB l = true ↔ (∀ j (h : j < l.length), formB l[j] = true) ∧ ∀ j (h : j + 1 < l.length), lnLt (l[j]'(by omega)) (l[j + 1]'h) = true := by
  induction l with
  | nil => simp [ordB]
  | cons a r ih =>
    cases r with
    | nil =>
      simp only [ordB]
      constructor
      · intro h
        exact ⟨fun j hj => by obtain rfl : j = 0 := by simp at hj; omega
                              exact h, fun j hj => by simp at hj⟩
      · intro h; exact h.1 0 (by simp)
    | cons b r =>
      simp only [ordB, Bool.and_eq_true, ih]
      constructor
      · rintro ⟨h1, h2, h3, h4⟩
        refine ⟨fun j hj => ?_, fun j hj => ?_⟩
        · cases j with
          | zero => exact h1
          | succ j => exact h3 j (by simpa using hj)
        · cases j with
          | zero => exact h2
          | succ j => exact h4 j (by simpa using hj)
      · rintro ⟨h1, h2⟩
        exact ⟨h1 0 (by simp), h2 0 (by simp), fun j hj => h1 (j + 1) (by simpa using hj), fun j hj => h2 (j + 1) (by simpa using hj)⟩
def slipE (e p : Int) (s : Slp) : Int :=
  if decide (1 ≤ e) && (decide (e ≤ 2147483647) && (decide (0 ≤ p) && (decide (p ≤ 84005) && totB s.legal))) then
    (if s.bs.all totB then (if s.lines.length ≤ 256 then (if ordB s.lines then 0 else 1) else 1) else 2) else 2
theorem cmp_ge (a b : Ln) : decide (0 ≤ cmpLn a b) = !lnLt a b := by
  rw [← ltOf_ln]
  unfold ltOf
  by_cases h : cmpLn a b < 0
  · rw [decide_eq_true h, decide_eq_false (by omega)]; rfl
  · rw [decide_eq_false h, decide_eq_true (by omega)]; rfl

set_option maxRecDepth 100000 in
set_option maxHeartbeats 3200000 in
theorem slipError_any (e p : Int) (s : Slp) (v : Value) (w : World) (hv : Sl w 3 v (lns s.lines)) :
    Calls Tryd.prog 37 #[.int .i64 e, .int .i64 p, .agg (s.vals v)] w fun x w' => x = .returned (.int .i64 (slipE e p s)) ∧ Below w.heap.size w w' := by
  obtain ⟨A, cap, rfl, h1, h2, x1, h3⟩ := hv
  rw [lns_len] at h1 ⊢
  unfold maxLen at h2
  have H3 := Lib.hid h3
  clear h3 x1
  unfold Slp.vals
  by_cases g1 : 1 ≤ e
  rotate_left
  · have H : Hid (slipE e p s = 2) := by simp [Hid, slipE, g1]
    have d1 : decide (e < 1) = true := decide_eq_true (by omega)
    go_enter Tryd.func37, Tryd.ntmps37
    go_wp2_with (go_at_call 32; refine (isTotal_any _ _).mono ?_; rintro x w1 ⟨rfl, rfl⟩)
    go_ret
    exact ⟨ret_int H.out.symm, (Below.refl _ _).alloc (Nat.le_refl _) _⟩
  by_cases g2 : e ≤ 2147483647
  rotate_left
  · have H : Hid (slipE e p s = 2) := by simp [Hid, slipE, g2]
    have d1 : decide (e < 1) = false := decide_eq_false (by omega)
    have d2 : decide (2147483647 < e) = true := decide_eq_true (by omega)
    go_enter Tryd.func37, Tryd.ntmps37
    go_wp2_with (go_at_call 32; refine (isTotal_any _ _).mono ?_; rintro x w1 ⟨rfl, rfl⟩)
    go_ret
    exact ⟨ret_int H.out.symm, (Below.refl _ _).alloc (Nat.le_refl _) _⟩
  by_cases g3 : 0 ≤ p
  rotate_left
  · have H : Hid (slipE e p s = 2) := by simp [Hid, slipE, g3]
    have d1 : decide (e < 1) = false := decide_eq_false (by omega)
    have d2 : decide (2147483647 < e) = false := decide_eq_false (by omega)
    have d3 : decide (p < 0) = true := decide_eq_true (by omega)
    go_enter Tryd.func37, Tryd.ntmps37
    go_wp2_with (go_at_call 32; refine (isTotal_any _ _).mono ?_; rintro x w1 ⟨rfl, rfl⟩)
    go_ret
    exact ⟨ret_int H.out.symm, (Below.refl _ _).alloc (Nat.le_refl _) _⟩
  have d1 : decide (e < 1) = false := decide_eq_false (by omega)
  have d2 : decide (2147483647 < e) = false := decide_eq_false (by omega)
  have d3 : decide (p < 0) = false := decide_eq_false (by omega)
  by_cases g4 : p ≤ 84005
  rotate_left
  · have H : Hid (slipE e p s = 2) := by simp [Hid, slipE, g4]
    have d4 : decide (84005 < p) = true := decide_eq_true (by omega)
    go_enter Tryd.func37, Tryd.ntmps37
    go_wp2_with (go_at_call 32; refine (isTotal_any _ _).mono ?_; rintro x w1 ⟨rfl, rfl⟩)
    go_ret
    exact ⟨ret_int H.out.symm, (Below.refl _ _).alloc (Nat.le_refl _) _⟩
  have d4 : decide (84005 < p) = false := decide_eq_false (by omega)
  cases g5 : totB s.legal
  · have H : Hid (slipE e p s = 2) := by simp [Hid, slipE, g5]
    go_enter Tryd.func37, Tryd.ntmps37
    go_wp2_with (go_at_call 32; refine (isTotal_any _ _).mono ?_; rintro x w1 ⟨rfl, rfl⟩; rw [g5])
    go_ret
    exact ⟨ret_int H.out.symm, (Below.refl _ _).alloc (Nat.le_refl _) _⟩
  have HS : Hid (slipE e p s = if s.bs.all totB then (if s.lines.length ≤ 256 then (if ordB s.lines then 0 else 1) else 1) else 2) := by simp [Hid, slipE, g1, g2, g3, g4, g5]
  go_enter Tryd.func37, Tryd.ntmps37
  go_wp2_with (first
    | (go_at_call 32; refine (isTotal_any _ _).mono ?_; rintro x w1 ⟨rfl, rfl⟩; rw [g5]))
  obtain ⟨w0, hw0⟩ : ∃ w0, w0 = w.alloc (Obj.cells #[Value.int IntKind.i64 s.b0, Value.int IntKind.i64 s.b1, Value.int IntKind.i64 s.b2, Value.int IntKind.i64 s.b3, Value.int IntKind.i64 s.b4, Value.int IntKind.i64 s.legal, Value.slice A s.lines.length cap] 54) := ⟨_, rfl⟩
  rw [← hw0]
  have hb0 : Below w.heap.size w w0 := by rw [hw0]; exact (Below.refl _ _).alloc (Nat.le_refl _) _
  have hR0 : Row w0 w.heap.size 54 (s.vals (.slice A s.lines.length cap)) := by rw [hw0]; exact Row.new _ _ _
  clear hw0 g1 g2 g3 g4 g5 d1 d2 d3 d4
  refine (fields_any _ _).mono ?_
  rintro x w1 ⟨rfl, hb1'⟩
  have hb1 := below_after hb0 hb1' hb0.size
  have hR1 := hR0.below hb1' hR0.lt
  have hs1 := hb1.size
  have hl1 := hR1.lt
  clear hb0 hR0 hb1'
  have r0 := hR1.cell 0
  have r1 := hR1.cell 1
  have r2 := hR1.cell 2
  have r3 := hR1.cell 3
  have r4 := hR1.cell 4
  have r6 := hR1.cell 6
  simp [Slp.vals] at r0 r1 r2 r3 r4 r6
  obtain ⟨B, hB⟩ : ∃ B, B = w.heap.size := ⟨_, rfl⟩
  rw [← hB] at r0 r1 r2 r3 r4 r6 hl1 ⊢
  have HB := Lib.hid hB
  have HR1 := Lib.hid hR1
  clear hB hR1
  have ix0 : ∀ w, (Instr.index 77 (.agg #[.pointer (some ⟨B, 0, none⟩), .pointer (some ⟨B, 1, none⟩), .pointer (some ⟨B, 2, none⟩), .pointer (some ⟨B, 3, none⟩), .pointer (some ⟨B, 4, none⟩)]) (.int .i64 0)).run Tryd.prog w = .ok (.pointer (some ⟨B, 0, none⟩)) w := fun _ => by kernel_rfl
  have ix1 : ∀ w, (Instr.index 77 (.agg #[.pointer (some ⟨B, 0, none⟩), .pointer (some ⟨B, 1, none⟩), .pointer (some ⟨B, 2, none⟩), .pointer (some ⟨B, 3, none⟩), .pointer (some ⟨B, 4, none⟩)]) (.int .i64 1)).run Tryd.prog w = .ok (.pointer (some ⟨B, 1, none⟩)) w := fun _ => by kernel_rfl
  have ix2 : ∀ w, (Instr.index 77 (.agg #[.pointer (some ⟨B, 0, none⟩), .pointer (some ⟨B, 1, none⟩), .pointer (some ⟨B, 2, none⟩), .pointer (some ⟨B, 3, none⟩), .pointer (some ⟨B, 4, none⟩)]) (.int .i64 2)).run Tryd.prog w = .ok (.pointer (some ⟨B, 2, none⟩)) w := fun _ => by kernel_rfl
  have ix3 : ∀ w, (Instr.index 77 (.agg #[.pointer (some ⟨B, 0, none⟩), .pointer (some ⟨B, 1, none⟩), .pointer (some ⟨B, 2, none⟩), .pointer (some ⟨B, 3, none⟩), .pointer (some ⟨B, 4, none⟩)]) (.int .i64 3)).run Tryd.prog w = .ok (.pointer (some ⟨B, 3, none⟩)) w := fun _ => by kernel_rfl
  have ix4 : ∀ w, (Instr.index 77 (.agg #[.pointer (some ⟨B, 0, none⟩), .pointer (some ⟨B, 1, none⟩), .pointer (some ⟨B, 2, none⟩), .pointer (some ⟨B, 3, none⟩), .pointer (some ⟨B, 4, none⟩)]) (.int .i64 4)).run Tryd.prog w = .ok (.pointer (some ⟨B, 4, none⟩)) w := fun _ => by kernel_rfl
  go_wp2_with fail
  go_loop [33] (fun i => ∃ k : Nat, k ≤ 5 ∧ i = .int .i64 k ∧ Hid ((s.bs.take k).all totB = true)) (fun i => 5 - (intOf i).toNat)
  case atStart => exact ⟨0, by omega, rfl, rfl⟩
  case round =>
    obtain ⟨k, hk, rfl, HK⟩ := hrel
    by_cases hk5 : k < 5
    · have HN : Hid (∀ (b : Int), s.bs[k]? = some b → totB b = false → slipE e p s = 2) := fun b hb ht => by
        have : s.bs.all totB = false := by rw [List.all_eq_false]; exact ⟨b, List.mem_of_getElem? hb, by simp [ht]⟩
        rw [HS.out, this]; rfl
      have HT : Hid (∀ (b : Int), s.bs[k]? = some b → totB b = true → (s.bs.take (k + 1)).all totB = true) := fun b hb ht => by
        obtain ⟨hl, he⟩ := List.getElem?_eq_some_iff.1 hb
        rw [List.take_succ_eq_append_getElem hl, List.all_append, HK.out, he]; simp [ht]
      obtain rfl | rfl | rfl | rfl | rfl : k = 0 ∨ k = 1 ∨ k = 2 ∨ k = 3 ∨ k = 4 := by omega
      · cases ht : totB s.b0
        · go_wp2_with (go_at_call 32; refine (isTotal_any _ _).mono ?_; rintro x w2 ⟨rfl, rfl⟩; rw [ht])
          go_ret
          exact ⟨ret_int (HN.out _ rfl ht).symm, hb1⟩
        · go_wp2_with (go_at_call 32; refine (isTotal_any _ _).mono ?_; rintro x w2 ⟨rfl, rfl⟩; rw [ht])
          go_round
          case rel => exact ⟨1, by omega, by go_num, HT.out _ rfl ht⟩
          case measure => simp [intOf]
      · cases ht : totB s.b1
        · go_wp2_with (go_at_call 32; refine (isTotal_any _ _).mono ?_; rintro x w2 ⟨rfl, rfl⟩; rw [ht])
          go_ret
          exact ⟨ret_int (HN.out _ rfl ht).symm, hb1⟩
        · go_wp2_with (go_at_call 32; refine (isTotal_any _ _).mono ?_; rintro x w2 ⟨rfl, rfl⟩; rw [ht])
          go_round
          case rel => exact ⟨2, by omega, by go_num, HT.out _ rfl ht⟩
          case measure => simp [intOf]
      · cases ht : totB s.b2
        · go_wp2_with (go_at_call 32; refine (isTotal_any _ _).mono ?_; rintro x w2 ⟨rfl, rfl⟩; rw [ht])
          go_ret
          exact ⟨ret_int (HN.out _ rfl ht).symm, hb1⟩
        · go_wp2_with (go_at_call 32; refine (isTotal_any _ _).mono ?_; rintro x w2 ⟨rfl, rfl⟩; rw [ht])
          go_round
          case rel => exact ⟨3, by omega, by go_num, HT.out _ rfl ht⟩
          case measure => simp [intOf]
      · cases ht : totB s.b3
        · go_wp2_with (go_at_call 32; refine (isTotal_any _ _).mono ?_; rintro x w2 ⟨rfl, rfl⟩; rw [ht])
          go_ret
          exact ⟨ret_int (HN.out _ rfl ht).symm, hb1⟩
        · go_wp2_with (go_at_call 32; refine (isTotal_any _ _).mono ?_; rintro x w2 ⟨rfl, rfl⟩; rw [ht])
          go_round
          case rel => exact ⟨4, by omega, by go_num, HT.out _ rfl ht⟩
          case measure => simp [intOf]
      · cases ht : totB s.b4
        · go_wp2_with (go_at_call 32; refine (isTotal_any _ _).mono ?_; rintro x w2 ⟨rfl, rfl⟩; rw [ht])
          go_ret
          exact ⟨ret_int (HN.out _ rfl ht).symm, hb1⟩
        · go_wp2_with (go_at_call 32; refine (isTotal_any _ _).mono ?_; rintro x w2 ⟨rfl, rfl⟩; rw [ht])
          go_round
          case rel => exact ⟨5, by omega, by go_num, HT.out _ rfl ht⟩
          case measure => simp [intOf]
    · obtain rfl : k = 5 := by omega
      have HS2 : Hid (slipE e p s = if s.lines.length ≤ 256 then (if ordB s.lines then 0 else 1) else 1) := by
        rw [Hid, HS.out, if_pos (show s.bs.all totB = true from HK.out)]
      clear r0 r1 r2 r3 r4 ix0 ix1 ix2 ix3 ix4 HK HS
      by_cases hn : s.lines.length ≤ 256
      rotate_left
      · have H : Hid (slipE e p s = 1) := by rw [Hid, HS2.out, if_neg hn]
        go_wp2_with fail
        go_ret
        exact ⟨ret_int H.out.symm, hb1⟩
      have dl : decide ((256 : Int) < (s.lines.length : Int)) = false := decide_eq_false (by omega)
      have HS3 : Hid (slipE e p s = if ordB s.lines then 0 else 1) := by rw [Hid, HS2.out, if_pos hn]
      clear HS2
      go_wp2_with fail
      go_loopw [49] (fun i wr => ∃ k : Nat, k ≤ s.lines.length ∧ i = .int .i64 k ∧ Below w1.heap.size w1 wr ∧ Hid (∀ j (h : j < s.lines.length), j < k → formB s.lines[j] = true) ∧ Hid (∀ j (h : j + 1 < s.lines.length), j + 1 < k → lnLt (s.lines[j]'(by omega)) (s.lines[j + 1]'h) = true)) (fun i _ => s.lines.length - (intOf i).toNat)
      case atStart => exact ⟨0, by omega, rfl, Below.refl _ _, fun j _ hj => absurd hj (by omega), fun j _ hj => absurd hj (by omega)⟩
      case round =>
        obtain ⟨k, hk, rfl, hb, HF, HO⟩ := hrel
        have hbs := hb.size
        have hBw := below_after hb1 hb hs1
        by_cases hlt : k < s.lines.length
        · rcases H3.out with h | ⟨b, off, rfl, hc0⟩
          · exact (lns_pos hlt h).elim
          · obtain ⟨c0, c1, c2⟩ := (hc0.below hBw hc0.1).ln hlt
            have q6 : wr.cell? ⟨B, 6, none⟩ = some (.slice (some ⟨b, off, none⟩) s.lines.length cap) := (hb.cell (p := ⟨B, 6, none⟩) hl1).trans r6
            obtain ⟨wy, hwy⟩ : ∃ wy, wy = wr.alloc (Obj.cells #[Value.int IntKind.i64 s.lines[k].kind, Value.string s.lines[k].code, Value.int IntKind.i64 s.lines[k].amt] 25) := ⟨_, rfl⟩
            have hby : Below wr.heap.size wr wy := by rw [hwy]; exact (Below.refl _ _).alloc (Nat.le_refl _) _
            have hRy : Row wy wr.heap.size 25 #[Value.int IntKind.i64 s.lines[k].kind, Value.string s.lines[k].code, Value.int IntKind.i64 s.lines[k].amt] := by rw [hwy]; exact Row.new _ _ _
            have hly := hRy.lt
            have e0 := ext_cell hly (hRy.cell 0)
            have e1 := ext_cell hly (hRy.cell 1)
            have e2 := ext_cell hly (hRy.cell 2)
            simp at e0 e1 e2
            have hB2 : B < wr.heap.size := Nat.lt_of_lt_of_le hl1 hbs
            have e6 := ext_cell (Nat.lt_of_lt_of_le hB2 hby.size) ((hby.cell (p := ⟨B, 6, none⟩) hB2).trans q6)
            have hxy : ∀ y : Ext wy, Hid (Below w1.heap.size w1 y.val) := fun y => below_after (below_after hb hby hbs) y.property (Nat.le_trans hbs hby.size)
            have hbl : b < wr.heap.size := Nat.lt_of_lt_of_le hc0.1 hBw.size
            have HCL := Lib.hid (((hc0.below hBw hc0.1).below hby hbl))
            have hbly : b < wy.heap.size := Nat.lt_of_lt_of_le hbl hby.size
            clear hRy H3 hc0 hby
            cases hf : formB s.lines[k]
            · have H : Hid (slipE e p s = 1) := by
                rw [Hid, HS3.out, if_neg]
                rw [ordB_iff]
                intro hh
                rw [hh.1 k hlt] at hf; cases hf
              have HCF := Lib.hid (fun y : Ext wy => (show Calls Tryd.prog 15 #[.agg #[.int .i64 s.lines[k].kind, .string s.lines[k].code, .int .i64 s.lines[k].amt]] y.val fun e w' => e = .returned (.bool false) ∧ Below y.val.heap.size y.val w' by rw [← hf]; exact Form_any _ _))
              have HCO := Lib.hid (fun y : Ext wy => Form_any s.lines[k] y.val)
              go_upto_region 14 with (fail)
              rw [← hwy]
              clear hwy
              refine region_ext (by kernel_rfl) (by kernel_rfl) ?_
              repeat (go_big_quiet_step ((first | (go_at_call 15; exact ext_call (HCF.out _)) | (go_at_call 36; exact ext_call (HCO.out _)))))
              refine wpQuiet_nil ?_
              rintro _ ⟨y, rfl⟩
              go_wp2_with fail
              go_ret
              exact ⟨ret_int H.out.symm, below_after hb1 (hxy y).out hs1⟩
            · have HCF := Lib.hid (fun y : Ext wy => (show Calls Tryd.prog 15 #[.agg #[.int .i64 s.lines[k].kind, .string s.lines[k].code, .int .i64 s.lines[k].amt]] y.val fun e w' => e = .returned (.bool true) ∧ Below y.val.heap.size y.val w' by rw [← hf]; exact Form_any _ _))
              have HF2 : Hid (∀ j (h : j < s.lines.length), j < k + 1 → formB s.lines[j] = true) := fun j h hj => by
                by_cases ej : j = k
                · subst ej; exact hf
                · exact HF.out j h (by omega)
              by_cases h0 : k = 0
              · subst h0
                simp only [Nat.zero_mul, Nat.add_zero] at c0 c1 c2
                have HCO := Lib.hid (fun y : Ext wy => Form_any s.lines[0] y.val)
                have HO2 : Hid (∀ j (h : j + 1 < s.lines.length), j + 1 < 0 + 1 → lnLt (s.lines[j]'(by omega)) (s.lines[j + 1]'h) = true) := fun j h hj => absurd hj (by omega)
                go_upto_region 14 with (fail)
                rw [← hwy]
                clear hwy
                refine region_ext (by kernel_rfl) (by kernel_rfl) ?_
                repeat (go_big_quiet_step ((first | (go_at_call 15; exact ext_call (HCF.out _)) | (go_at_call 36; exact ext_call (HCO.out _)))))
                refine wpQuiet_nil ?_
                rintro _ ⟨y, rfl⟩
                go_wp2_with fail
                go_roundw
                case rel => exact ⟨0 + 1, by omega, by go_num, (hxy y).out, HF2, HO2⟩
                case measure => simp [intOf]; omega
              · obtain ⟨m, rfl⟩ : ∃ m, k = m + 1 := ⟨k - 1, by omega⟩
                have d0 : decide ((0 : Int) < ((m : Int) + 1)) = true := decide_eq_true (by omega)
                obtain ⟨p0, p1, p2⟩ := HCL.out.ln (k := m) (by omega)
                have f0 := ext_cell hbly p0
                have f1 := ext_cell hbly p1
                have f2 := ext_cell hbly p2
                have HCO := Lib.hid (fun y : Ext wy => (order_any s.lines[m] s.lines[m + 1] y.val).mono fun _ w' ⟨he, q, os, hw⟩ => (⟨he, by rw [hw]; exact Lib.below_grow _ _ (Nat.le_refl _) _ _⟩ : _ ∧ Below y.val.heap.size y.val w'))
                have hcg := cmp_ge s.lines[m] s.lines[m + 1]
                clear p0 p1 p2
                cases ho : lnLt s.lines[m] s.lines[m + 1]
                · rw [ho] at hcg
                  have hcg : decide (0 ≤ cmpLn s.lines[m] s.lines[m + 1]) = true := hcg
                  have H : Hid (slipE e p s = 1) := by
                    rw [Hid, HS3.out, if_neg]
                    rw [ordB_iff]
                    intro hh
                    rw [hh.2 m hlt] at ho; cases ho
                  go_upto_region 14 with (fail)
                  rw [← hwy]
                  clear hwy
                  refine region_ext (by kernel_rfl) (by kernel_rfl) ?_
                  repeat (go_big_quiet_step ((first | (go_at_call 15; exact ext_call (HCF.out _)) | (go_at_call 36; exact ext_call (HCO.out _)))))
                  refine wpQuiet_nil ?_
                  rintro _ ⟨y, rfl⟩
                  go_wp2_with fail
                  go_ret
                  exact ⟨ret_int H.out.symm, below_after hb1 (hxy y).out hs1⟩
                · rw [ho] at hcg
                  have hcg : decide (0 ≤ cmpLn s.lines[m] s.lines[m + 1]) = false := hcg
                  have HO2 : Hid (∀ j (h : j + 1 < s.lines.length), j + 1 < m + 1 + 1 → lnLt (s.lines[j]'(by omega)) (s.lines[j + 1]'h) = true) := fun j h hj => by
                    by_cases ej : j = m
                    · subst ej; exact ho
                    · exact HO.out j h (by omega)
                  go_upto_region 14 with (fail)
                  rw [← hwy]
                  clear hwy
                  refine region_ext (by kernel_rfl) (by kernel_rfl) ?_
                  repeat (go_big_quiet_step ((first | (go_at_call 15; exact ext_call (HCF.out _)) | (go_at_call 36; exact ext_call (HCO.out _)))))
                  refine wpQuiet_nil ?_
                  rintro _ ⟨y, rfl⟩
                  go_wp2_with fail
                  go_roundw
                  case rel => exact ⟨m + 1 + 1, by omega, by go_num, (hxy y).out, HF2, HO2⟩
                  case measure => simp [intOf]; omega
        · obtain rfl : k = s.lines.length := by omega
          have H : Hid (slipE e p s = 0) := by
            rw [Hid, HS3.out, if_pos]
            rw [ordB_iff]
            exact ⟨fun j h => HF.out j h h, fun j h => HO.out j h h⟩
          go_wp2_with fail
          go_ret
          exact ⟨ret_int H.out.symm, hBw⟩
end Go.Proofs.YtljhdkdabiemmaaDoor
