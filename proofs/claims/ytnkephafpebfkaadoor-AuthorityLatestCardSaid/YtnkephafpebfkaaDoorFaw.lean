/- payrolllaw43.awake: the example of the chapter. -/
import Derived.Test.YtnkephafpebfkaaDoorFe
import Derived.Test.YtnkephafpebfkaaDoorAu
namespace Go.Proofs.YtnkephafpebfkaaDoor
open Go.RowKit Go.Shelf

def exR1 : Ret := ⟨5, 1, [⟨6, ⟨#[]⟩, -3⟩]⟩
def exR2 : Ret := ⟨5, 2, []⟩
theorem exR1_val : retB exR1 = true := by decide
theorem exR2_val : retB exR2 = true := by decide
theorem itoa5 : Lib.itoa 5 = [53] := by simp [Lib.itoa, Lib.decDigits]
theorem itoa1 : Lib.itoa 1 = [49] := by simp [Lib.itoa, Lib.decDigits]
theorem itoa2 : Lib.itoa 2 = [50] := by simp [Lib.itoa, Lib.decDigits]
theorem itoam3 : Lib.itoa (-3) = [45, 51] := by simp [Lib.itoa, Lib.decDigits]
theorem exR1_txt : encT exR1 = [114, 101, 116, 117, 114, 110, 32, 53, 32, 118, 101, 114, 115, 105, 111, 110, 32, 49, 10, 116, 97, 120, 32, 45, 51, 10, 101, 110, 100, 10] := by
  rw [encT, exR1_val, if_pos rfl]
  have h : wordsL ⟨6, ⟨#[]⟩, -3⟩ = [wTax, Lib.itoa (-3)] := rfl
  simp only [retT, retL, exR1, headR, lnT, h, List.map_cons, List.map_nil, itoa5, itoa1, itoam3]
  rfl
theorem exR2_txt : encT exR2 = [114, 101, 116, 117, 114, 110, 32, 53, 32, 118, 101, 114, 115, 105, 111, 110, 32, 50, 10, 101, 110, 100, 10] := by
  rw [encT, exR2_val, if_pos rfl]
  simp only [retT, retL, exR2, headR, List.map_nil, itoa5, itoa2]
  rfl
theorem exR1_dec : decE (encT exR1) = 0 ∧ decR (encT exR1) = exR1 := by
  rw [encT, exR1_val, if_pos rfl]; exact dec_of exR1_val
theorem exR2_dec : decE (encT exR2) = 0 ∧ decR (encT exR2) = exR2 := by
  rw [encT, exR2_val, if_pos rfl]; exact dec_of exR2_val
theorem exR_sub : (subE [] (encT exR2) = 16 ∧ subA [] (encT exR2) = []) ∧ (subE [] (encT exR1) = 0 ∧ subA [] (encT exR1) = [exR1]) ∧ (subE [exR1] (encT exR2) = 0 ∧ subA [exR1] (encT exR2) = [exR2]) ∧ (subE [exR2] (encT exR2) = 8 ∧ subA [exR2] (encT exR2) = [exR2]) := by
  have h1 : subE [] (encT exR2) = 16 := by rw [subE, if_pos exR2_dec.1, exR2_dec.2]; decide
  have h2 : subE [] (encT exR1) = 0 := by rw [subE, if_pos exR1_dec.1, exR1_dec.2]; decide
  have h3 : subE [exR1] (encT exR2) = 0 := by rw [subE, if_pos exR2_dec.1, exR2_dec.2]; decide
  have h4 : subE [exR2] (encT exR2) = 8 := by rw [subE, if_pos exR2_dec.1, exR2_dec.2]; decide
  refine ⟨⟨h1, ?_⟩, ⟨h2, ?_⟩, ⟨h3, ?_⟩, h4, ?_⟩
  · rw [subA, h1, if_neg (by decide)]
  · rw [subA, h2, if_pos rfl, exR1_dec.2]; rfl
  · rw [subA, h3, if_pos rfl, exR2_dec.2]; rfl
  · rw [subA, h4, if_neg (by decide)]
theorem exR_enc : encE exR1 = 0 ∧ encE exR2 = 0 := ⟨by rw [encE, exR1_val]; rfl, by rw [encE, exR2_val]; rfl⟩
def exB1 : ByteArray := ⟨#[114, 101, 116, 117, 114, 110, 32, 53, 32, 118, 101, 114, 115, 105, 111, 110, 32, 49, 10, 116, 97, 120, 32, 45, 51, 10, 101, 110, 100, 10]⟩
def exB2 : ByteArray := ⟨#[114, 101, 116, 117, 114, 110, 32, 53, 32, 118, 101, 114, 115, 105, 111, 110, 32, 50, 10, 101, 110, 100, 10]⟩
theorem below_map {w0 w w' : World} {M : Nat} (h : Below w0.heap.size w0 w) (hg : w.grownBy w' (some M)) (hM : w0.heap.size ≤ M) : Below w0.heap.size w0 w' :=
  h.grown hg h.size (fun g hg => by injection hg; omega)
theorem Submit_any (B M : Nat) (es : List (Ret × Value)) (s : ByteArray) (w : World) (hb : AuthS w B M es) (hT : Tabs w) (hE : Errs w) :
    Calls Tryd.prog 17 #[.pointer (some ⟨B, 0, none⟩), .string s] w fun e w' => ∃ es', e = .returned (.int .i64 (subE (es.map (·.1)) s.data.toList)) ∧ AuthS w' B M es' ∧ es'.map (·.1) = subA (es.map (·.1)) s.data.toList ∧ w.grownBy w' (some M) :=
  (SubmitA_any B M es s w hb hT hE).mono fun _ _ ⟨es', h1, h2, h3, h4, _⟩ => ⟨es', h1, h2, h3, h4⟩
set_option maxRecDepth 100000 in
set_option maxHeartbeats 2000000 in
theorem awake_any (w : World) (hT : Tabs w) (hE : Errs w) : Calls Tryd.prog 10 #[] w fun e w' => e = .returned (.bool true) ∧ Below w.heap.size w w' := by
  have HT := Lib.hid hT
  have HER := Lib.hid hE
  clear hT hE
  have hB0 := (Below.refl w.heap.size w).alloc (Nat.le_refl _) (.cells #[.int .i64 6, .string ⟨#[]⟩, .int .i64 (-3)] 28)
  have HEN : Hid (Calls Tryd.prog 7 #[.agg #[.int .i64 5, .int .i64 1, .slice (some ⟨w.heap.size, 0, none⟩) 1 1]] (w.alloc (.cells #[.int .i64 6, .string ⟨#[]⟩, .int .i64 (-3)] 28)) fun e w' => e = .returned (.tuple #[.string exB1, .int .i64 0]) ∧ Below (w.alloc (.cells #[.int .i64 6, .string ⟨#[]⟩, .int .i64 (-3)] 28)).heap.size (w.alloc (.cells #[.int .i64 6, .string ⟨#[]⟩, .int .i64 (-3)] 28)) w') := by
    have := EncodeR_any exR1 (.slice (some ⟨w.heap.size, 0, none⟩) 1 1) (w.alloc (.cells #[.int .i64 6, .string ⟨#[]⟩, .int .i64 (-3)] 28)) (Sl.one rfl rfl) (HT.out.below hB0)
    rw [exR_enc.1, exR1_txt] at this
    exact this
  have HEN2 : Hid (∀ W, Below w.heap.size w W → Calls Tryd.prog 7 #[.agg #[.int .i64 5, .int .i64 2, .slice none 0 0]] W fun e w' => e = .returned (.tuple #[.string exB2, .int .i64 0]) ∧ Below W.heap.size W w') := fun W hW => by
    have := EncodeR_any exR2 (.slice none 0 0) W (Sl.nil _ _) (HT.out.below hW)
    rw [exR_enc.2, exR2_txt] at this
    exact this
  have HTX : Hid (exB1.data.toList = encT exR1) := by rw [Hid, exR1_txt]; rfl
  have HTX2 : Hid (exB2.data.toList = encT exR2) := by rw [Hid, exR2_txt]; rfl
  obtain ⟨tx, htx⟩ : ∃ tx, exB1 = tx := ⟨_, rfl⟩
  obtain ⟨ty, hty⟩ : ∃ ty, exB2 = ty := ⟨_, rfl⟩
  have t3 : (tx.toList == [114, 101, 116, 117, 114, 110, 32, 53, 32, 118, 101, 114, 115, 105, 111, 110, 32, 49, 10, 116, 97, 120, 32, 45, 51, 10, 101, 110, 100, 10]) = true := by
    rw [ByteArray.toList_eq, ← htx]; decide
  have t4 : tx.toList = [114, 101, 116, 117, 114, 110, 32, 53, 32, 118, 101, 114, 115, 105, 111, 110, 32, 49, 10, 116, 97, 120, 32, 45, 51, 10, 101, 110, 100, 10] := by simpa using t3
  rw [htx] at HEN HTX
  rw [hty] at HEN2 HTX2
  clear htx hty
  have HT3 := Lib.hid t3
  have HT4 := Lib.hid t4
  clear t3 t4
  go_enter Tryd.func10, Tryd.ntmps10
  go_wp2_with fail
  refine HEN.out.mono ?_
  rintro e w1 ⟨rfl, hb1⟩
  have hB1 := below_after hB0 hb1 hB0.size
  clear hB0 hb1 HEN
  go_wp2_with fail
  refine (HEN2.out w1 hB1).mono ?_
  rintro e w1' ⟨rfl, hb1⟩
  have hB1' := below_after hB1 hb1 hB1.size
  clear hB1 hb1 HEN2
  go_wp2_with fail
  refine (NewA_any w1').mono ?_
  rintro e w2 ⟨B, M, rfl, hb2, hbl2, hM, hMB⟩
  have hB2 := below_after hB1' hbl2 hB1'.size
  have hMw : w.heap.size ≤ M := by have := hB1'.size; omega
  have HQ : Hid (∀ W, (binOp .neq 46 (.pointer (some ⟨B, 0, none⟩)) (.pointer none)).run Tryd.prog W = .ok (.bool true) W) := fun W => by kernel_rfl
  clear hB1' hbl2 hM
  have t3 := HT3.out
  have t4 := HT4.out
  have hq := HQ.out
  go_wp2_with fail
  clear t3 t4 hq
  refine (Submit_any B M [] ty w2 hb2 (HT.out.below hB2) (HER.out.below hB2)).mono ?_
  rw [HTX2.out]
  rintro e w3 ⟨es3, rfl, hb3, he3, hg3⟩
  rw [show (List.map (fun x : Ret × Value => x.1) []) = [] from rfl] at he3 ⊢
  rw [exR_sub.1.2] at he3
  rw [exR_sub.1.1]
  have hB3 := below_map hB2 hg3 hMw
  clear hb2 hB2 hg3
  go_wp2_with fail
  refine (Submit_any B M es3 tx w3 hb3 (HT.out.below hB3) (HER.out.below hB3)).mono ?_
  rw [HTX.out, he3]
  rintro e w4 ⟨es4, rfl, hb4, he4, hg4⟩
  rw [exR_sub.2.1.2] at he4
  rw [exR_sub.2.1.1]
  have hB4 := below_map hB3 hg4 hMw
  clear hb3 hB3 hg4 he3
  go_wp2_with fail
  refine (Submit_any B M es4 ty w4 hb4 (HT.out.below hB4) (HER.out.below hB4)).mono ?_
  rw [HTX2.out, he4]
  rintro e w5 ⟨es5, rfl, hb5, he5, hg5⟩
  rw [exR_sub.2.2.1.2] at he5
  rw [exR_sub.2.2.1.1]
  have hB5 := below_map hB4 hg5 hMw
  clear hb4 hB4 hg5 he4
  go_wp2_with fail
  refine (Submit_any B M es5 ty w5 hb5 (HT.out.below hB5) (HER.out.below hB5)).mono ?_
  rw [HTX2.out, he5]
  rintro e w6 ⟨es6, rfl, hb6, he6, hg6⟩
  rw [exR_sub.2.2.2.1]
  have hB6 := below_map hB5 hg6 hMw
  clear hb5 hB5 hg6 he5 he6 hb6
  go_wp2
  go_ret
  exact ⟨rfl, hB6⟩
end Go.Proofs.YtnkephafpebfkaaDoor
