/- payrolllaw42.awake: the example of the chapter. -/
import Derived.Test.YtlchcfkngjbdjaaGreatDoorTPaid
import Derived.Test.YtlchcfkngjbdjaaGreatDoorTEnc
namespace Go.Proofs.YtlchcfkngjbdjaaGreatDoor
open Go.RowKit Go.Shelf

def exF : Fil := ⟨7, 20000, [⟨3, 150⟩]⟩
theorem exF_val : filB exF = true := by decide
theorem exF_of : ofC exF.l = ⟨1, 150, 3⟩ := by decide
theorem exF_txt : encT exF = [102, 105, 108, 101, 32, 55, 32, 100, 97, 121, 32, 50, 48, 48, 48, 48, 10, 112, 97, 121, 32, 51, 32, 49, 53, 48, 10, 116, 111, 116, 97, 108, 32, 49, 32, 49, 53, 48, 32, 51, 10, 101, 110, 100, 10] := by
  rw [encT, exF_val, if_pos rfl, exF_of, fileT_eq]
  simp only [exF, headL, totL, paysT, payL, List.map_cons, List.map_nil, lineP, fill_head, fill_pay, fill_total]
  have h7 : Lib.itoa 7 = [55] := by simp [Lib.itoa, Lib.decDigits]
  have h20 : Lib.itoa 20000 = [50, 48, 48, 48, 48] := by simp [Lib.itoa, Lib.decDigits]
  have h3 : Lib.itoa 3 = [51] := by simp [Lib.itoa, Lib.decDigits]
  have h15 : Lib.itoa 150 = [49, 53, 48] := by simp [Lib.itoa, Lib.decDigits]
  have h1 : Lib.itoa 1 = [49] := by simp [Lib.itoa, Lib.decDigits]
  rw [h7, h20, h3, h15, h1]
  rfl
theorem exF_dec : decE (encT exF) = 0 ∧ decF (encT exF) = exF := decF_of exF_val (by
  have h := exF_txt
  rw [encT, exF_val, if_pos rfl] at h
  rw [h]; decide)
theorem exF_sub : subE [] (encT exF) = 0 ∧ subF [] (encT exF) = [exF] ∧ subE [exF] (encT exF) = 8 ∧ subF [exF] (encT exF) = [exF] := by
  have h1 : subE [] (encT exF) = 0 := by rw [subE, if_pos exF_dec.1]; rfl
  have h2 : subE [exF] (encT exF) = 8 := by rw [subE, if_pos exF_dec.1, exF_dec.2]; decide
  exact ⟨h1, by rw [subF, if_pos h1, exF_dec.2]; rfl, h2, by rw [subF, h2, if_neg (by decide)]⟩
theorem exF_paid : paidB 3 [exF] = 150 := by decide
theorem exF_enc : encE exF = 0 := by rw [encE, exF_val]; rfl
def exB : ByteArray := ⟨#[102, 105, 108, 101, 32, 55, 32, 100, 97, 121, 32, 50, 48, 48, 48, 48, 10, 112, 97, 121, 32, 51, 32, 49, 53, 48, 10, 116, 111, 116, 97, 108, 32, 49, 32, 49, 53, 48, 32, 51, 10, 101, 110, 100, 10]⟩
theorem below_map {w0 w w' : World} {M : Nat} (h : Below w0.heap.size w0 w) (hg : w.grownBy w' (some M)) (hM : w0.heap.size ≤ M) : Below w0.heap.size w0 w' :=
  h.grown hg h.size (fun g hg => by injection hg; omega)
set_option maxRecDepth 100000 in
set_option maxHeartbeats 1000000 in
theorem awake_any (w : World) (hT : Tabs w) (hE : Errs w) : Calls Tryz.prog 17 #[] w fun e w' => e = .returned (.bool true) ∧ Below w.heap.size w w' := by
  have HT := Lib.hid hT
  have HER := Lib.hid hE
  clear hT hE
  have hB0 := (Below.refl w.heap.size w).alloc (Nat.le_refl _) (.cells #[.int .i64 3, .int .i64 150] 46)
  have HEN : Hid (Calls Tryz.prog 32 #[.agg #[.int .i64 7, .int .i64 20000, .slice (some ⟨w.heap.size, 0, none⟩) 1 1]] (w.alloc (.cells #[.int .i64 3, .int .i64 150] 46)) fun e w' => e = .returned (.tuple #[.string exB, .int .i64 0]) ∧ Below (w.alloc (.cells #[.int .i64 3, .int .i64 150] 46)).heap.size (w.alloc (.cells #[.int .i64 3, .int .i64 150] 46)) w') := by
    have := Encode_any exF (.slice (some ⟨w.heap.size, 0, none⟩) 1 1) (w.alloc (.cells #[.int .i64 3, .int .i64 150] 46)) (Sl.one rfl rfl) (HT.out.below hB0)
    rw [exF_enc, exF_txt] at this
    exact this
  have HTX : Hid (exB.data.toList = encT exF) := by rw [Hid, exF_txt]; rfl
  obtain ⟨tx, htx⟩ : ∃ tx, exB = tx := ⟨_, rfl⟩
  have t3 : (tx.toList == [102, 105, 108, 101, 32, 55, 32, 100, 97, 121, 32, 50, 48, 48, 48, 48, 10, 112, 97, 121, 32, 51, 32, 49, 53, 48, 10, 116, 111, 116, 97, 108, 32, 49, 32, 49, 53, 48, 32, 51, 10, 101, 110, 100, 10]) = true := by
    rw [ByteArray.toList_eq, ← htx]; decide
  have t4 : tx.toList = [102, 105, 108, 101, 32, 55, 32, 100, 97, 121, 32, 50, 48, 48, 48, 48, 10, 112, 97, 121, 32, 51, 32, 49, 53, 48, 10, 116, 111, 116, 97, 108, 32, 49, 32, 49, 53, 48, 32, 51, 10, 101, 110, 100, 10] := by simpa using t3
  rw [htx] at HEN HTX
  clear htx
  have HT3 := Lib.hid t3
  have HT4 := Lib.hid t4
  clear t3 t4
  go_enter Tryz.func17, Tryz.ntmps17
  go_wp2_with fail
  refine HEN.out.mono ?_
  rintro e w1 ⟨rfl, hb1⟩
  have hB1 := below_after hB0 hb1 hB0.size
  clear hB0 hb1 HEN
  go_wp2_with fail
  refine (New_any w1).mono ?_
  rintro e w2 ⟨B, M, rfl, hb2, hbl2, hM, hMB⟩
  have hB2 := below_after hB1 hbl2 hB1.size
  have hMw : w.heap.size ≤ M := by have := hB1.size; omega
  have HQ : Hid (∀ W, (binOp .neq 25 (.pointer (some ⟨B, 0, none⟩)) (.pointer none)).run Tryz.prog W = .ok (.bool true) W) := fun W => by kernel_rfl
  clear hB1 hbl2 hM
  have t3 := HT3.out
  have t4 := HT4.out
  have hq := HQ.out
  go_wp2_with fail
  refine (Submit_any B M [] tx w2 hb2 (HT.out.below hB2) (HER.out.below hB2)).mono ?_
  rw [HTX.out]
  rintro e w3 ⟨es3, rfl, hb3, he3, hg3⟩
  rw [show (List.map (fun x : Fil × Value => x.1) []) = [] from rfl] at he3 ⊢
  rw [exF_sub.2.1] at he3
  rw [exF_sub.1]
  have hB3 := below_map hB2 hg3 hMw
  clear hb2 hB2 hg3
  go_wp2_with fail
  refine (Submit_any B M es3 tx w3 hb3 (HT.out.below hB3) (HER.out.below hB3)).mono ?_
  rw [HTX.out, he3]
  rintro e w4 ⟨es4, rfl, hb4, he4, hg4⟩
  rw [exF_sub.2.2.2] at he4
  rw [exF_sub.2.2.1]
  have hB4 := below_map hB3 hg4 hMw
  clear hb3 hB3 hg4 he3
  go_wp2_with fail
  refine (Paid_any B M es4 3 w4 hb4 (by have := congrArg List.length he4; simp at this; omega)).mono ?_
  rw [he4, exF_paid]
  rintro e w5 ⟨rfl, hb5⟩
  have hB5 := below_after hB4 hb5 hB4.size
  clear hb4 hB4 hb5 he4
  go_wp2
  go_ret
  exact ⟨rfl, hB5⟩
end Go.Proofs.YtlchcfkngjbdjaaGreatDoor
