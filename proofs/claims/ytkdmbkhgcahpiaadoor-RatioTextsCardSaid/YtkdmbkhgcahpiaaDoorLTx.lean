/- The law RatioTexts: it returns true. -/
import Derived.Test.YtkdmbkhgcahpiaaDoorLRt
import Derived.Deep.RegionHeld3
namespace Go.Proofs.YtkdmbkhgcahpiaaDoor
open Go.RowKit

/-- new memory alone has come -/
def Lies (w w' : World) : Prop := Below w.heap.size w w'
theorem Lies.next {w w' w'' : World} (h : Lies w w') (hb : Below w'.heap.size w' w'') : Lies w w'' := Below.trans h (hb.mono (Below.size h))
theorem keepX {w w' : World} {g : Nat} {x y : Value} (h1 : w.cell? ⟨g, 0, none⟩ = some x) (h2 : w.cell? ⟨g, 1, none⟩ = some y) (g1 : g < w.heap.size) (h : Lies w w') : w'.cell? ⟨g, 0, none⟩ = some x ∧ w'.cell? ⟨g, 1, none⟩ = some y ∧ Lies w w' :=
  ⟨(Below.cell h (p := ⟨g, 0, none⟩) g1).trans h1, (Below.cell h (p := ⟨g, 1, none⟩) g1).trans h2, h⟩
/-- the texts that are tried -/
def texts (s F : ByteArray) : Array Value := #[.string s, .string F, .string F, .string (F ++ ⟨#[48]⟩), .string (⟨#[45]⟩ ++ F), .string (⟨#[48]⟩ ++ F), .string ⟨#[49, 48, 48, 48, 48, 48, 48, 48, 48, 48, 48, 48, 48]⟩, .string ⟨#[49, 48, 48, 48, 48, 48, 48, 48, 48, 48, 48, 48, 49]⟩, .string ⟨#[50, 47, 52]⟩, .string ⟨#[45, 48]⟩, .string ⟨#[49, 47, 48]⟩, .string ⟨#[55, 47, 49, 48, 48, 48, 48, 48, 48]⟩, .string ⟨#[55, 47, 49, 48, 48, 48, 48, 48, 49]⟩]
theorem texts_at (s F : ByteArray) (hs : s.size ≤ 140737488351232) (hF : F.size ≤ 43) (k : Nat) (hk : k < 13) : ∃ t : ByteArray, (texts s F)[k]? = some (.string t) ∧ t.size ≤ 140737488351232 := by
  have e1 : (F ++ ⟨#[48]⟩ : ByteArray).size ≤ 44 := by rw [ByteArray.size_append]; have : (⟨#[48]⟩ : ByteArray).size = 1 := rfl; omega
  have e2 : (⟨#[45]⟩ ++ F : ByteArray).size ≤ 44 := by rw [ByteArray.size_append]; have : (⟨#[45]⟩ : ByteArray).size = 1 := rfl; omega
  have e3 : (⟨#[48]⟩ ++ F : ByteArray).size ≤ 44 := by rw [ByteArray.size_append]; have : (⟨#[48]⟩ : ByteArray).size = 1 := rfl; omega
  match k, hk with
  | 0, _ => exact ⟨s, rfl, hs⟩
  | 1, _ => exact ⟨F, rfl, by omega⟩
  | 2, _ => exact ⟨F, rfl, by omega⟩
  | 3, _ => exact ⟨_, rfl, by omega⟩
  | 4, _ => exact ⟨_, rfl, by omega⟩
  | 5, _ => exact ⟨_, rfl, by omega⟩
  | 6, _ => exact ⟨_, rfl, by decide⟩
  | 7, _ => exact ⟨_, rfl, by decide⟩
  | 8, _ => exact ⟨_, rfl, by decide⟩
  | 9, _ => exact ⟨_, rfl, by decide⟩
  | 10, _ => exact ⟨_, rfl, by decide⟩
  | 11, _ => exact ⟨_, rfl, by decide⟩
  | 12, _ => exact ⟨_, rfl, by decide⟩
set_option maxRecDepth 100000 in
set_option maxHeartbeats 6400000 in
theorem RatioTexts_any (v : Value) (zs : List Int) (a b : Int) (s : ByteArray) (w : World) (hT : Tabs w) (hE : Errs w) (hv : Sl w 1 v (ints zs)) (_ha : -9223372036854775808 ≤ a ∧ a ≤ 9223372036854775807) (_hb : -9223372036854775808 ≤ b ∧ b ≤ 9223372036854775807) (hsz : s.size ≤ 140737488351232) :
    Calls Tryd.prog 4 #[v, .agg #[.int .i64 a, .int .i64 b], .string s] w fun e w' => e = .returned (.bool true) ∧ Below w.heap.size w w' := by
  have HT := Lib.hid hT
  have HE := Lib.hid hE
  have HV := Lib.hid hv
  clear hT hE hv _ha _hb
  go_enter Tryd.func4, Tryd.ntmps4
  go_wp2_with fail
  have A0 := Row.new w 23 #[.int .i64 a, .int .i64 b]
  have hB0 : Below w.heap.size w (w.alloc (.cells #[.int .i64 a, .int .i64 b] 23)) := (Below.refl _ _).alloc (Nat.le_refl _) _
  generalize w.alloc (Obj.cells #[Value.int .i64 a, Value.int .i64 b] 23) = w0 at A0 hB0 ⊢
  have lA := A0.lt
  have hs0 := hB0.size
  refine (tapeNew_any v zs w0 (HV.out.below hB0)).mono ?_
  rintro e w1 ⟨rfl, ht1, hb1⟩
  obtain ⟨D, hD⟩ : ∃ D, D = w0.heap.size := ⟨_, rfl⟩
  rw [← hD] at ht1 lA hs0 ⊢
  have A1 := A0.below hb1 A0.lt
  have hB1 := below_after hB0 hb1 hB0.size
  have hs1 := hB1.size
  clear hb1 A0 hB0 hD HV
  go_wp2_with fail
  refine (TRat_any D _ ht1).mono ?_
  rintro e w2 ⟨n, d, hvd, rfl, ht2, hh⟩
  have A2 := A1.keepD hh (by omega)
  have hB2 := hB1.grown hh hs1 (fun g hg => by cases hg; omega)
  have hs2 := hB2.size
  have HVD := Lib.hid hvd
  clear hh ht1 A1 hB1 hvd ht2
  obtain ⟨F, hF⟩ : ∃ F, F = bsOf (fmtF n d) := ⟨_, rfl⟩
  have hFl : F.size ≤ 43 := by rw [hF, bsOf_size]; exact fmt_len n d
  have HF := Lib.hid hF
  clear hF
  go_upto_region 3 with (fail)
  have X3 := Row.new w2 23 #[.int .i64 n, .int .i64 d]
  have hal : Below w2.heap.size w2 (w2.alloc (.cells #[.int .i64 n, .int .i64 d] 23)) := (Below.refl _ _).alloc (Nat.le_refl _) _
  have A3 := A2.below hal A2.lt
  have hB3 := below_after hB2 hal hB2.size
  have oA : w.heap.size < w2.heap.size := A2.lt
  clear hal A2 hB2
  generalize w2.alloc (Obj.cells #[Value.int .i64 n, Value.int .i64 d] 23) = w3 at X3 A3 hB3 ⊢
  generalize w2.heap.size = g8 at X3 oA hs2 ⊢
  have hs3 := hB3.size
  have lX := X3.lt
  obtain ⟨x0, x1, _, _⟩ := pair_cells X3
  have C1 : Hid (∀ w', Lies w3 w' → Calls Tryd.prog 15 #[.agg #[.int .i64 n, .int .i64 d]] w' fun e w'' => e = .returned (.string F) ∧ Below w'.heap.size w' w'') := fun w' hl => by rw [HF.out]; exact (Format_any n d w' (HT.out.below (below_after hB3 hl hB3.size))).mono fun _ _ h => h.bs
  have C2 : Hid (∀ w', Calls Tryd.prog 16 #[.agg #[.int .i64 n, .int .i64 d]] w' fun e w'' => e = .returned (.string F) ∧ Below w'.heap.size w' w'') := fun w' => by rw [HF.out]; exact (refFormat_any n d w').mono fun _ _ h => h.bs
  have cat1 : ∀ w' : World, (Op.stringOp .add F ⟨#[48]⟩).run Tryd.prog w' = .ok (.string (F ++ ⟨#[48]⟩)) w' := fun w' => run_string_add_sum (P := Tryd.prog) (w := w') F ⟨#[48]⟩ (by have : (⟨#[48]⟩ : ByteArray).size = 1 := rfl; omega)
  have cat2 : ∀ w' : World, (Op.stringOp .add ⟨#[45]⟩ F).run Tryd.prog w' = .ok (.string (⟨#[45]⟩ ++ F)) w' := fun w' => run_string_add_sum (P := Tryd.prog) (w := w') ⟨#[45]⟩ F (by have : (⟨#[45]⟩ : ByteArray).size = 1 := rfl; omega)
  have cat3 : ∀ w' : World, (Op.stringOp .add ⟨#[48]⟩ F).run Tryd.prog w' = .ok (.string (⟨#[48]⟩ ++ F)) w' := fun w' => run_string_add_sum (P := Tryd.prog) (w := w') ⟨#[48]⟩ F (by have : (⟨#[48]⟩ : ByteArray).size = 1 := rfl; omega)
  go_cut [9] (fun s9 wx => ∃ g : Nat, s9 = .slice (some ⟨g, 0, none⟩) 13 13 ∧ w3.heap.size ≤ g ∧ Row wx g 9 (texts s F) ∧ Lies w3 wx)
  case first =>
    go_region_held3 (fun w' => w'.cell? ⟨g8, 0, none⟩ = some (.int .i64 n) ∧ w'.cell? ⟨g8, 1, none⟩ = some (.int .i64 d) ∧ Lies w3 w') (exact keepX x0 x1 lX (by first | assumption | exact (Below.refl _ _).drew | exact Lies.next (by assumption) ((Below.refl _ _).alloc (Nat.le_refl _) _)))
      (first
        | (go_at_call 15; have hS0 := ‹_ ∧ _ ∧ Lies w3 _›; refine (C1.out _ hS0.2.2).mono ?_; rintro e wa ⟨rfl, hba⟩; have hla := Lies.next hS0.2.2 hba; clear hS0)
        | (go_at_call 16; have hS0 := ‹_ ∧ _ ∧ Lies w3 _›; refine (C2.out _).mono ?_; rintro e wb ⟨rfl, hbb⟩; have hlb := Lies.next hS0.2.2 hbb; clear hS0))
    go_wp2_with fail
    go_meet
    exact ⟨wb.heap.size, rfl, Below.size hlb, Row.new wb _ (texts s F), Lies.next hlb ((Below.refl _ _).alloc (Nat.le_refl _) _)⟩
  case rest =>
    obtain ⟨g, rfl, hg, hTx, hl⟩ := hcut
    obtain ⟨w4, hw4⟩ : ∃ x : World, x = wc := ⟨_, rfl⟩
    subst hw4
    clear cat1 cat2 cat3 C1 C2 x0 x1
    have A4 := A3.below hl A3.lt
    have X4 := X3.below hl X3.lt
    have hB4 := below_after hB3 hl hB3.size
    clear A3 X3 hB3 hl
    go_wp2_with fail
    go_loopw [10] (fun i wr => ∃ k : Nat, k ≤ 13 ∧ i = .int .i64 k ∧ Row wr g 9 (texts s F) ∧ Row wr w.heap.size 23 #[.int .i64 a, .int .i64 b] ∧ Row wr g8 23 #[.int .i64 n, .int .i64 d] ∧ Below w.heap.size w wr) (fun i _ => 13 - (intOf i).toNat)
    case atStart => exact ⟨0, by omega, rfl, hTx, A4, X4, hB4⟩
    case round =>
      obtain ⟨k, hk, rfl, hTr, hA, hX, hB⟩ := hrel
      clear hTx A4 X4 hB4
      by_cases hlt : k < 13
      · obtain ⟨t, htc, htl⟩ := texts_at s F hsz hFl k hlt
        have c0 : wr.cell? ⟨g, k, none⟩ = some (.string t) := (hTr.cell k).trans htc
        have hsr := hB.size
        obtain ⟨P, hP⟩ : ∃ P, P = prsF t.data.toList := ⟨_, rfl⟩
        have HP := Lib.hid hP
        clear htc hP
        go_wp2_with fail
        refine (Parse_any t _ htl (HT.out.below hB) (HE.out.below hB)).mono ?_
        rintro e w5 ⟨rfl, hb5⟩
        rw [← HP.out]
        have T5 := hTr.below hb5 hTr.lt
        have A5 := hA.below hb5 hA.lt
        have X5 := hX.below hb5 hX.lt
        have hB5 := below_after hB hb5 hsr
        have c5 : w5.cell? ⟨g, k, none⟩ = some (.string t) := ((bcell hb5).1 _ _ hTr.lt).trans c0
        have l5 := T5.lt
        clear hb5 hTr hA hX hB c0
        go_wp2_with fail
        have hal : Below w5.heap.size w5 (w5.alloc (.cells #[.int .i64 P.n, .int .i64 P.d] 23)) := (Below.refl _ _).alloc (Nat.le_refl _) _
        have Y6 := Row.new w5 23 #[.int .i64 P.n, .int .i64 P.d]
        have T6 := T5.below hal T5.lt
        have A6 := A5.below hal A5.lt
        have X6 := X5.below hal X5.lt
        have hB6 := below_after hB5 hal hB5.size
        clear hal T5 A5 X5 hB5 c5 l5
        generalize w5.alloc (Obj.cells #[Value.int .i64 P.n, Value.int .i64 P.d] 23) = w6 at Y6 T6 A6 X6 hB6 ⊢
        generalize w5.heap.size = gy at Y6 ⊢
        refine (refParse_any t _ (by unfold maxLen; omega)).mono ?_
        rintro e w7 ⟨rfl, hb7⟩
        rw [← HP.out]
        have T7 := T6.below hb7 T6.lt
        have A7 := A6.below hb7 A6.lt
        have X7 := X6.below hb7 X6.lt
        have Y7 := Y6.below hb7 Y6.lt
        have hB7 := below_after hB6 hb7 hB6.size
        obtain ⟨y0, y1, _, _⟩ := pair_cells Y7
        have ly := Y7.lt
        have hs7 := hB7.size
        have hal : Below w7.heap.size w7 (w7.alloc (.cells #[.int .i64 P.n, .int .i64 P.d] 23)) := (Below.refl _ _).alloc (Nat.le_refl _) _
        have T8 := T7.below hal T7.lt
        have A8 := A7.below hal A7.lt
        have X8 := X7.below hal X7.lt
        have hB8 := below_after hB7 hal hB7.size
        clear hb7 T6 A6 X6 Y6 hB6 T7 A7 X7 Y7 hB7 hal
        go_wp2_with fail
        go_roundw
        case rel => exact ⟨k + 1, by omega, by go_num, T8, A8, X8, hB8⟩
        case measure => simp [intOf]; omega
      · obtain rfl : k = 13 := by omega
        have hsr := hB.size
        have C1 : Hid (∀ (x : Ext wr) (p q : Int), Calls Tryd.prog 15 #[.agg #[.int .i64 p, .int .i64 q]] x.val fun e w'' => e = .returned (.string (bsOf (fmtF p q))) ∧ Below x.val.heap.size x.val w'') := fun x p q => (Format_any p q _ (HT.out.below (below_after hB x.property hsr))).mono fun _ _ h => h.bs
        have C2 : Hid (∀ (x : Ext wr) (p q : Int), Calls Tryd.prog 16 #[.agg #[.int .i64 p, .int .i64 q]] x.val fun e w'' => e = .returned (.string (bsOf (fmtF p q))) ∧ Below x.val.heap.size x.val w'') := fun x p q => (refFormat_any p q _).mono fun _ _ h => h.bs
        have C5 : Hid (∀ x : Ext wr, Calls Tryd.prog 12 #[] x.val fun e w'' => e = .returned (.bool true) ∧ Below x.val.heap.size x.val w'') := fun x => sane_any _ (HT.out.below (below_after hB x.property hsr)) (HE.out.below (below_after hB x.property hsr))
        obtain ⟨a0, a1, _, _⟩ := pair_cells hA
        obtain ⟨b0, b1, _, _⟩ := pair_cells hX
        have la := hA.lt
        have lx := hX.lt
        have xa0 := ext_cell la a0
        have xa1 := ext_cell la a1
        have xb0 := ext_cell lx b0
        have xb1 := ext_cell lx b1
        have hbx : ∀ x : Ext wr, Hid (Below w.heap.size w x.val) := fun x => below_after hB x.property hsr
        clear a0 a1 b0 b1
        go_wp2_with fail
        refine region_ext (by kernel_rfl) (by kernel_rfl) ?_
        repeat (go_big_quiet_step ((first | (go_at_call 15; exact ext_call (C1.out _ _ _)) | (go_at_call 16; exact ext_call (C2.out _ _ _)) | (go_at_call 12; exact ext_call (C5.out _)))))
        refine wpQuiet_nil ?_
        rintro _ ⟨x, rfl⟩
        go_wp2
        go_ret
        exact ⟨rfl, (hbx x).out⟩
end Go.Proofs.YtkdmbkhgcahpiaaDoor
