/- Contracts of filing: word, compare, Valid. -/
import Derived.Test.YtnkephafpebfkaaGreatDoorRtS
import Derived.Test.YtnkephafpebfkaaGreatDoorLineP
import Derived.Test.YtnkephafpebfkaaGreatDoorLib
import Derived.Test.YtnkephafpebfkaaGreatDoorRow3
import Derived.Test.YtnkephafpebfkaaGreatDoorExt
import Derived.Test.YtnkephafpebfkaaGreatDoorSet1
import Derived.Test.YtnkephafpebfkaaGreatDoorTab
import Derived.Deep.RegionWith
import Derived.Deep.RegionHeld3
import Derived.StillTailTactics
namespace Go.Proofs.YtnkephafpebfkaaGreatDoor
open Go.RowKit Go.Shelf

/-- the word of a kind that is filed -/
def wordF (k : Int) : List UInt8 := if k = 4 then wLevy else if k = 5 then wEmp else if k = 6 then wTax else []
theorem wordF_no {k : Int} (h : filedB k = false) : wordF k = [] := by
  simp [filedB] at h
  rw [wordF, if_neg h.1, if_neg h.2.1, if_neg h.2.2]
theorem wordF_yes {k : Int} (h : filedB k = true) : wordF k = wordL k ∧ wordF k ≠ [] := by
  rcases filed_cases h with rfl | rfl | rfl <;> exact ⟨rfl, by decide⟩
def bsW (k : Int) : ByteArray := ⟨(wordF k).toArray⟩
theorem fword_any (k : Int) (w : World) :
    Calls Tryz.prog 36 #[.int .i64 k] w fun e w' => e = .returned (.string (bsW k)) ∧ w = w' := by
  cases h4 : (k == 4)
  · cases h5 : (k == 5)
    · cases h6 : (k == 6)
      · have H : Hid (bsW k = ⟨#[]⟩) := by simp at h4 h5 h6; rw [Hid, bsW, wordF, if_neg h4, if_neg h5, if_neg h6]
        go_enter Tryz.func36, Tryz.ntmps36
        go_wp2
        go_ret
        exact ⟨by rw [H.out]; rfl, rfl⟩
      · have H : Hid (bsW k = ⟨#[116, 97, 120]⟩) := by simp at h6; subst h6; rfl
        go_enter Tryz.func36, Tryz.ntmps36
        go_wp2
        go_ret
        exact ⟨by rw [H.out]; rfl, rfl⟩
    · have H : Hid (bsW k = ⟨#[101, 109, 112, 108, 111, 121, 101, 114]⟩) := by simp at h5; subst h5; rfl
      go_enter Tryz.func36, Tryz.ntmps36
      go_wp2
      go_ret
      exact ⟨by rw [H.out]; rfl, rfl⟩
  · have H : Hid (bsW k = ⟨#[108, 101, 118, 121]⟩) := by simp at h4; subst h4; rfl
    go_enter Tryz.func36, Tryz.ntmps36
    go_wp2
    go_ret
    exact ⟨by rw [H.out]; rfl, rfl⟩

def orI (a b : Int) : Int := if a = 0 then b else a
theorem orI_any (a b : Int) (g c : Nat) (w : World) (h0 : w.cell? ⟨g, 0, none⟩ = some (.int .i64 a)) (h1 : w.cell? ⟨g, 1, none⟩ = some (.int .i64 b)) :
    Calls Tryz.prog 63 #[.slice (some ⟨g, 0, none⟩) 2 c] w fun e w' => e = .returned (.int .i64 (orI a b)) ∧ w = w' := by
  go_enter Tryz.func63, Tryz.ntmps63
  go_wp2
  go_loop [8] (fun i => ∃ k : Nat, k ≤ 2 ∧ i = .int .i64 k ∧ Hid (1 ≤ k → a = 0) ∧ Hid (2 ≤ k → b = 0)) (fun i => 2 - (intOf i).toNat)
  case atStart => exact ⟨0, by omega, rfl, (fun h => by omega), (fun h => by omega)⟩
  case round =>
    obtain ⟨k, hk, rfl, HA, HB⟩ := hrel
    by_cases hk0 : k = 0
    · subst hk0
      cases ha : (a != 0)
      · go_wp2
        go_round
        case rel => exact ⟨1, by omega, by go_num, (fun _ => by simpa using ha), (fun h => by omega)⟩
        case measure => simp [intOf]
      · go_wp2
        go_ret
        exact ⟨ret_int (by rw [orI, if_neg (by simpa using ha)]), rfl⟩
    · by_cases hk1 : k = 1
      · subst hk1
        have ha := HA.out (Nat.le_refl _)
        have HA' := Lib.hid ha
        clear ha
        cases hb : (b != 0)
        · go_wp2
          go_round
          case rel => exact ⟨2, by omega, by go_num, (fun _ => HA'.out), (fun _ => by simpa using hb)⟩
          case measure => simp [intOf]
        · go_wp2
          go_ret
          exact ⟨ret_int (by rw [orI, if_pos HA'.out]), rfl⟩
      · obtain rfl : k = 2 := by omega
        go_wp2
        go_ret
        exact ⟨ret_int (by rw [orI, if_pos (HA.out (by omega)), HB.out (by omega)]), rfl⟩
def cmpLn (a b : Ln) : Int := orI (Lib.compareInt a.kind b.kind) (Lib.compareBytes a.code.data.toList b.code.data.toList)
theorem cmpB_lt : ∀ a b : List UInt8, Lib.compareBytes a b < 0 ↔ a < b
  | [], [] => by simp [Lib.compareBytes]
  | [], _ :: _ => by simp [Lib.compareBytes]
  | _ :: _, [] => by simp [Lib.compareBytes]
  | a :: r, b :: s => by
    have ih := cmpB_lt r s
    rw [Lib.compareBytes, List.cons_lt_cons_iff]
    by_cases h1 : a < b
    · simp [h1]
    · by_cases h2 : b < a
      · rw [if_neg h1, if_pos h2]
        have : ¬ a = b := fun e => by subst e; exact h1 h2
        simp [h1, this]
      · rw [if_neg h1, if_neg h2, ih]
        have : a = b := UInt8.le_antisymm (UInt8.not_lt.1 h2) (UInt8.not_lt.1 h1)
        subst this
        simp [h1]
theorem cmp_ge (a b : Ln) : decide (0 ≤ cmpLn a b) = !lnLt a b := by
  have key : cmpLn a b < 0 ↔ lnLt a b = true := by
    rw [lnLt_iff]
    unfold cmpLn orI Lib.compareInt
    rw [← ByteArray.toList_eq, ← ByteArray.toList_eq]
    by_cases h1 : a.kind < b.kind
    · simp [h1]
    · by_cases h2 : a.kind > b.kind
      · have : ¬ a.kind = b.kind := by omega
        simp [h1, h2, this]
      · have : a.kind = b.kind := by omega
        rw [if_neg h1, if_neg h2, if_pos rfl, cmpB_lt]
        simp [this]
  by_cases h : cmpLn a b < 0
  · rw [key.1 h, decide_eq_false (by omega)]; rfl
  · rw [decide_eq_true (by omega)]
    cases hl : lnLt a b
    · rfl
    · exact absurd (key.2 hl) h

set_option maxRecDepth 100000 in
set_option maxHeartbeats 1000000 in
theorem compare_any (a b : Ln) (w : World) : Calls Tryz.prog 41 #[.agg #[.int .i64 a.kind, .string a.code, .int .i64 a.amt], .agg #[.int .i64 b.kind, .string b.code, .int .i64 b.amt]] w fun e w' => e = .returned (.int .i64 (cmpLn a b)) ∧ Below w.heap.size w w' := by
  unfold cmpLn
  go_enter Tryz.func41, Tryz.ntmps41
  go_wp2
  refine region_tail 10 (by kernel_rfl) (by kernel_rfl) ?_
  simp only [List.take_succ_cons, List.take_zero, List.drop_succ_cons, List.drop_zero]
  repeat still_step
  still_call (Tryz.cmp_Compare_int _ _ _)
  repeat still_step
  still_call (Tryz.strings_Compare _ _ _)
  refine wpStill_nil ?_
  go_wp2_with (go_at_call 63; refine (orI_any (Lib.compareInt a.kind b.kind) (Lib.compareBytes a.code.data.toList b.code.data.toList) _ _ _ ?_ ?_).mono ?_; (simp [go_sem]); (simp [go_sem]); rintro e w' ⟨rfl, rfl⟩)
  go_ret
  have H0 := ((Below.refl w.heap.size w).alloc (Nat.le_refl _) (.cells #[.int .i64 a.kind, .string a.code, .int .i64 a.amt] 56)).alloc (by simp) (.cells #[.int .i64 b.kind, .string b.code, .int .i64 b.amt] 56)
  exact ⟨rfl, (Below.draws H0 _).alloc (Below.draws H0 _).size _⟩
/-- the lines up to k are valid -/
def LnOk (l : List Ln) (k : Nat) : Prop := ∀ j (h : j < l.length), j < k → (filedB (l[j]).kind = true ∧ formB l[j] = true) ∧ ∀ h0 : 0 < j, lnLt (l[j - 1]'(by omega)) l[j] = true
theorem lnOk_end {l : List Ln} (h : LnOk l l.length) : l.all (fun x => filedB x.kind) = true ∧ ordB l = true := by
  constructor
  · rw [List.all_eq_true]
    intro x hx
    obtain ⟨i, hi, rfl⟩ := List.getElem_of_mem hx
    exact (h i hi hi).1.1
  · rw [ordB_iff]
    exact ⟨fun j hj => (h j hj hj).1.2, fun j hj => (h (j + 1) hj hj).2 (by omega)⟩
theorem lnOk_kind {p v : Int} {l : List Ln} {k : Nat} (hk : k < l.length) (h : filedB (l[k]).kind = false) : retB ⟨p, v, l⟩ = false := by
  rw [Bool.eq_false_iff]
  intro hh
  have := ((retB_iff _).1 hh).k _ (List.getElem_mem hk)
  rw [h] at this; cases this
theorem lnOk_form {p v : Int} {l : List Ln} {k : Nat} (hk : k < l.length) (h : formB l[k] = false) : retB ⟨p, v, l⟩ = false := by
  rw [Bool.eq_false_iff]
  intro hh
  have := ((retB_iff _).1 hh).f _ (List.getElem_mem hk)
  rw [h] at this; cases this
theorem lnOk_ord {p v : Int} {l : List Ln} {k : Nat} (hk : k + 1 < l.length) (h : lnLt (l[k]'(by omega)) l[k + 1] = false) : retB ⟨p, v, l⟩ = false := by
  rw [Bool.eq_false_iff]
  intro hh
  have := ((ordB_iff _).1 ((retB_iff _).1 hh).o).2 k hk
  simp only at this
  rw [h] at this; cases this

set_option maxRecDepth 100000 in
set_option maxHeartbeats 4000000 in
theorem ValidR_any (r : Ret) (v : Value) (w : World) (hv : Sl w 3 v (lns r.l)) :
    Calls Tryz.prog 15 #[.agg (r.vals v)] w fun e w' => e = .returned (.bool (retB r)) ∧ Below w.heap.size w w' := by
  have HV := Lib.hid hv
  obtain ⟨A, cap, rfl, h1, h2, _, _⟩ := hv
  rw [lns_len] at h1 HV ⊢
  unfold maxLen at h2
  obtain ⟨n, d, l⟩ := r
  have hvals : Ret.vals ⟨n, d, l⟩ (.slice A l.length cap) = #[.int .i64 n, .int .i64 d, .slice A l.length cap] := rfl
  simp only [hvals] at h1 HV ⊢
  clear hvals
  by_cases q1 : n < 0
  · have HF : Hid (retB ⟨n, d, l⟩ = false) := by rw [Hid, Bool.eq_false_iff]; intro hh; have := ((retB_iff _).1 hh).p0; simp only at this; omega
    go_enter Tryz.func15, Tryz.ntmps15
    go_wp2
    go_ret
    exact ⟨ret_bool HF.out.symm, (Below.refl _ _).alloc (Nat.le_refl _) _⟩
  by_cases q2 : 84005 < n
  · have HF : Hid (retB ⟨n, d, l⟩ = false) := by rw [Hid, Bool.eq_false_iff]; intro hh; have := ((retB_iff _).1 hh).p1; simp only at this; omega
    go_enter Tryz.func15, Tryz.ntmps15
    go_wp2
    go_ret
    exact ⟨ret_bool HF.out.symm, (Below.refl _ _).alloc (Nat.le_refl _) _⟩
  by_cases q3 : d < 1
  · have HF : Hid (retB ⟨n, d, l⟩ = false) := by rw [Hid, Bool.eq_false_iff]; intro hh; have := ((retB_iff _).1 hh).v0; simp only at this; omega
    go_enter Tryz.func15, Tryz.ntmps15
    go_wp2
    go_ret
    exact ⟨ret_bool HF.out.symm, (Below.refl _ _).alloc (Nat.le_refl _) _⟩
  by_cases q4 : 65536 < d
  · have HF : Hid (retB ⟨n, d, l⟩ = false) := by rw [Hid, Bool.eq_false_iff]; intro hh; have := ((retB_iff _).1 hh).v1; simp only at this; omega
    go_enter Tryz.func15, Tryz.ntmps15
    go_wp2
    go_ret
    exact ⟨ret_bool HF.out.symm, (Below.refl _ _).alloc (Nat.le_refl _) _⟩
  by_cases q5 : 256 < l.length
  · have HF : Hid (retB ⟨n, d, l⟩ = false) := by rw [Hid, Bool.eq_false_iff]; intro hh; have := ((retB_iff _).1 hh).n; simp only at this; omega
    go_enter Tryz.func15, Tryz.ntmps15
    go_wp2
    go_ret
    exact ⟨ret_bool HF.out.symm, (Below.refl _ _).alloc (Nat.le_refl _) _⟩
  have HF : Hid (l.all (fun x => filedB x.kind) = true → ordB l = true → retB ⟨n, d, l⟩ = true) := fun h1 h2 => (retB_iff _).2 ⟨by simp only; omega, by simp only; omega, by simp only; omega, by simp only; omega, by simp only; omega, List.all_eq_true.1 h1, h2⟩
  go_enter Tryz.func15, Tryz.ntmps15
  go_wp2
  have hR := Row.new w 25 #[.int .i64 n, .int .i64 d, .slice A l.length cap]
  have hB := (Below.refl w.heap.size w).alloc (Nat.le_refl _) (.cells #[.int .i64 n, .int .i64 d, .slice A l.length cap] 25)
  obtain ⟨w0, hw0⟩ : ∃ w0, w.alloc (.cells #[.int .i64 n, .int .i64 d, .slice A l.length cap] 25) = w0 := ⟨_, rfl⟩
  rw [hw0] at hR hB ⊢
  clear hw0
  obtain ⟨g, hg⟩ : ∃ g, w.heap.size = g := ⟨_, rfl⟩
  rw [hg] at hR ⊢
  have hBg : Hid (∀ wr, Below w.heap.size w wr → Below w.heap.size w wr) := fun _ h => h
  clear hg
  go_loopw [32] (fun i wr => ∃ k : Nat, k ≤ l.length ∧ i = .int .i64 k ∧ Hid (Below w.heap.size w wr ∧ Row wr g 25 #[.int .i64 n, .int .i64 d, .slice A l.length cap]) ∧ Hid (LnOk l k)) (fun i _ => l.length - (intOf i).toNat)
  case atStart => exact ⟨0, by omega, rfl, ⟨hB, hR⟩, fun j _ h => by omega⟩
  case round =>
    obtain ⟨k, hk, rfl, HB, HK⟩ := hrel
    obtain ⟨wo, rfl⟩ : ∃ wo : World, wo = wr := ⟨_, rfl⟩
    have x2 := HB.out.2.cell 2
    have xl := HB.out.2.lt
    simp only [List.getElem?_toArray, List.getElem?_cons_succ, List.getElem?_cons_zero] at x2
    by_cases hlt : k < l.length
    · obtain ⟨bk, off, rfl, hcw⟩ := HV.out.cells (by rw [lns_len]; omega)
      have hc0 := hcw.below HB.out.1 hcw.1
      have hbl := hc0.1
      obtain ⟨c0, c1, c2⟩ := hc0.ln hlt
      have i1 : (k : Int) < (l.length : Int) := by omega
      have HKD := Lib.hid (fun h => lnOk_kind (p := n) (v := d) hlt h)
      have HFD := Lib.hid (fun h => lnOk_form (p := n) (v := d) hlt h)
      have HOD := Lib.hid (fun (j : Nat) (hj : j + 1 < l.length) h => lnOk_ord (p := n) (v := d) (k := j) hj h)
      have HPR : Hid (∀ (j : Nat) (hj : j < l.length), wo.cell? ⟨bk, off + j * 3, none⟩ = some (.int .i64 (l[j]).kind) ∧ wo.cell? ⟨bk, off + j * 3 + 1, none⟩ = some (.string (l[j]).code) ∧ wo.cell? ⟨bk, off + j * 3 + 2, none⟩ = some (.int .i64 (l[j]).amt)) := fun j hj => hc0.ln hj
      obtain ⟨x, hx⟩ : ∃ x, l[k] = x := ⟨_, rfl⟩
      have HX := Lib.hid hx
      rw [hx] at c0 c1 c2 HKD HFD
      clear hx hcw hc0
      have HWK := Lib.hid (fun W => fword_any x.kind W)
      have HFW := Lib.hid (fun W => Form_any x W)
      have hbx : Hid (∀ W, Below wo.heap.size wo W → Below w.heap.size w W ∧ Row W g 25 #[.int .i64 n, .int .i64 d, .slice (some ⟨bk, off, none⟩) l.length cap]) := fun W hW => ⟨below_after HB.out.1 hW HB.out.1.size, HB.out.2.below hW xl⟩
      have hal := (Below.refl wo.heap.size wo).alloc (Nat.le_refl _) (.cells #[.int .i64 x.kind, .string x.code, .int .i64 x.amt] 56)
      have hrx := Row.new wo 56 #[.int .i64 x.kind, .string x.code, .int .i64 x.amt]
      cases hfd : filedB x.kind
      · have HE := Lib.hid (HKD.out hfd)
        have e1 : (bsW x.kind).toList = [] := by rw [ByteArray.toList_eq, bsW, wordF_no hfd]
        have e2 : (bsW x.kind).toList.isEmpty = true := by rw [e1]; rfl
        have e3 : ((bsW x.kind).toList == []) = true := by rw [e1]; rfl
        have HAL := Lib.hid hal
        clear hfd HKD HFD HOD HPR hal hrx
        go_wp2_with fail
        refine (HWK.out _).mono ?_
        rintro e w' ⟨rfl, rfl⟩
        go_wp2
        go_ret
        exact ⟨ret_bool HE.out.symm, (hbx.out _ HAL.out).1⟩
      have e1 : ¬ (bsW x.kind).toList = [] := by rw [ByteArray.toList_eq]; exact (wordF_yes hfd).2
      have e2 : (bsW x.kind).toList.isEmpty = false := by cases hh : (bsW x.kind).toList with
        | nil => exact absurd hh e1
        | cons _ _ => rfl
      have HFI := Lib.hid hfd
      clear hfd HKD
      cases hfm : formB x
      · have HE := Lib.hid (HFD.out hfm)
        rw [hfm] at HFW
        have HAL := Lib.hid hal
        clear hfm HFD HOD HPR hal hrx
        go_wp2_with fail
        refine (HWK.out _).mono ?_
        rintro e w' ⟨rfl, rfl⟩
        go_wp2_with fail
        refine (HFW.out _).mono ?_
        rintro e w2 ⟨rfl, hb2⟩
        have HB2 := Lib.hid (below_after HAL.out hb2 HAL.out.size)
        clear hb2
        go_wp2
        go_ret
        exact ⟨ret_bool HE.out.symm, (hbx.out _ HB2.out).1⟩
      rw [hfm] at HFW
      have HFM := Lib.hid hfm
      clear hfm HFD
      obtain ⟨w1, hw1⟩ : ∃ w1, wo.alloc (.cells #[.int .i64 x.kind, .string x.code, .int .i64 x.amt] 56) = w1 := ⟨_, rfl⟩
      rw [hw1] at hal hrx
      obtain ⟨⟨y0, y1, y2, yl⟩, -⟩ := row3 hrx
      go_wp2_with fail
      refine (HWK.out _).mono ?_
      rintro e w' ⟨rfl, rfl⟩
      obtain ⟨q, hq⟩ : ∃ q, wo.heap.size = q := ⟨_, rfl⟩
      rw [hq] at hrx y0 y1 y2 yl ⊢
      clear hw1
      go_wp2_with fail
      refine (HFW.out _).mono ?_
      rintro e w2 ⟨rfl, hb2⟩
      have hB2 := below_after hal hb2 hal.size
      have hr2 := hrx.below hb2 hrx.lt
      clear hal hrx hb2 y0 y1 y2 yl HFW HWK
      obtain ⟨⟨y0, y1, y2, yl⟩, -⟩ := row3 hr2
      have x2' := (hB2.cell (p := ⟨g, 2, none⟩) xl).trans x2
      have xl' := (hbx.out _ hB2).2.lt
      rcases Nat.eq_zero_or_pos k with rfl | hk0
      · have HN : Hid (LnOk l (0 + 1)) := fun j hj h => by
          obtain rfl : j = 0 := by omega
          exact ⟨by rw [HX.out]; exact ⟨HFI.out, HFM.out⟩, fun h => by omega⟩
        have HB2 := Lib.hid (hbx.out _ hB2)
        clear hB2 hr2 x2 xl hq
        go_wp2_with fail
        go_quiet (fail)
        go_wp2
        go_roundw
        case rel => exact ⟨0 + 1, by omega, by go_num, ⟨Below.draws HB2.out.1 _, HB2.out.2.below (Below.draws (Below.refl _ _) _) HB2.out.2.lt⟩, HN.out⟩
        case measure => simp [intOf]; omega
      · obtain ⟨j, rfl⟩ : ∃ j, k = j + 1 := ⟨k - 1, by omega⟩
        have hjl : j < l.length := by omega
        obtain ⟨p0, p1, p2⟩ := HPR.out j hjl
        have hy0 := (hB2.cell (p := ⟨bk, off + j * 3, none⟩) hbl).trans p0
        have hy1 := (hB2.cell (p := ⟨bk, off + j * 3 + 1, none⟩) hbl).trans p1
        have hy2 := (hB2.cell (p := ⟨bk, off + j * 3 + 2, none⟩) hbl).trans p2
        have hbl' := Nat.lt_of_lt_of_le hbl hB2.size
        have HOJ := Lib.hid (HOD.out j (by omega))
        have HKJ : Hid (∀ h : j < l.length, lnLt (l[j]'h) x = true → LnOk l (j + 1 + 1)) := fun h hl' i hi hik => by
          by_cases e : i = j + 1
          · subst e
            refine ⟨by rw [HX.out]; exact ⟨HFI.out, HFM.out⟩, fun _ => ?_⟩
            rw [HX.out]
            exact hl'
          · exact HK.out i hi (by omega)
        rw [HX.out] at HOJ
        have HKJ2 := Lib.hid (HKJ.out hjl)
        obtain ⟨y, hy⟩ : ∃ y, l[j] = y := ⟨_, rfl⟩
        rw [hy] at hy0 hy1 hy2 HOJ HKJ2
        have HCM := Lib.hid (fun W : Ext w2 => compare_any y x W.val)
        have hge := cmp_ge y x
        have i2 : (j : Int) < (l.length : Int) := by omega
        have s2 : IntKind.i64.wrap ((j : Int) + 1 - 1) = (j : Int) := by rw [show (j : Int) + 1 - 1 = (j : Int) by omega]; exact IntWalk.i64_in _ (by omega)
        have g2 := ext_cell xl' x2'
        have u0 := ext_cell hbl' hy0
        have u1 := ext_cell hbl' hy1
        have u2 := ext_cell hbl' hy2
        have v0 := ext_cell yl y0
        have v1 := ext_cell yl y1
        have v2 := ext_cell yl y2
        have HB2 : Hid (∀ W : Ext w2, Below w.heap.size w W.val ∧ Row W.val g 25 #[.int .i64 n, .int .i64 d, .slice (some ⟨bk, off, none⟩) l.length cap]) := fun W => hbx.out _ (below_after hB2 W.property hB2.size)
        obtain ⟨cv, hcv⟩ : ∃ cv, cmpLn y x = cv := ⟨_, rfl⟩
        rw [hcv] at HCM hge
        clear p0 p1 p2 hy0 hy1 hy2 hB2 hr2 x2 x2' y0 y1 y2 c0 c1 c2 HPR HOD HKJ hy hcv hbx hq
        cases hly : lnLt y x
        · rw [hly] at hge
          have HE := Lib.hid (HOJ.out hly)
          clear hly HOJ HKJ2
          have hge' : decide (0 ≤ cv) = true := hge
          clear hge
          go_wp2_with fail
          refine region_ext (by kernel_rfl) (by kernel_rfl) ?_
          repeat (go_big_quiet_step ((go_at_call 41; exact ext_call (HCM.out _))))
          refine wpQuiet_nil ?_
          rintro _ ⟨W, rfl⟩
          go_wp2
          go_ret
          exact ⟨ret_bool HE.out.symm, (HB2.out W).1⟩
        · rw [hly] at hge
          have HN := Lib.hid (HKJ2.out hly)
          clear hly HOJ HKJ2
          have hge' : decide (0 ≤ cv) = false := hge
          clear hge
          go_wp2_with fail
          refine region_ext (by kernel_rfl) (by kernel_rfl) ?_
          repeat (go_big_quiet_step ((go_at_call 41; exact ext_call (HCM.out _))))
          refine wpQuiet_nil ?_
          rintro _ ⟨W, rfl⟩
          go_wp2
          go_roundw
          case rel => exact ⟨j + 1 + 1, by omega, by go_num, HB2.out W, HN.out⟩
          case measure => simp [intOf]; omega
    · obtain rfl : k = l.length := by omega
      have HE := Lib.hid (HF.out (lnOk_end HK.out).1 (lnOk_end HK.out).2)
      go_wp2
      go_ret
      exact ⟨ret_bool HE.out.symm, HB.out.1⟩
end Go.Proofs.YtnkephafpebfkaaGreatDoor
