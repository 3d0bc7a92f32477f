/- Proved: the tied card on FilingEncodes: whatever the arguments (a slice of numbers, a return, an integer, an integer), where the listed package variables hold what the program's text lays, the law returns true, and each argument reads as before. -/
import Derived.Test.YtnkephafpebfkaaGreatDoorRtS
import Derived.Test.YtnkephafpebfkaaGreatDoorLineR
import Derived.Test.YtnkephafpebfkaaGreatDoorRow3
import Derived.Test.YtnkephafpebfkaaGreatDoorExt
import Derived.Test.YtnkephafpebfkaaGreatDoorSet1
import Derived.Test.YtnkephafpebfkaaGreatDoorFv
import Derived.Sort.Walk0
import Derived.IntWalk
import Derived.Test.YtnkephafpebfkaaGreatDoorBs
import Derived.Test.YtnkephafpebfkaaGreatDoorFe
import Derived.Test.YtnkephafpebfkaaGreatDoorRgS
import Derived.Test.YtnkephafpebfkaaGreatDoorRNx
import Derived.Test.YtnkephafpebfkaaGreatDoorDkC
import Derived.Test.YtnkephafpebfkaaGreatDoorDkL
import Derived.Test.YtnkephafpebfkaaGreatDoorLnB
import Derived.Test.YtnkephafpebfkaaGreatDoorFpa
import Derived.Test.YtnkephafpebfkaaGreatDoorAuS
import Derived.Test.YtnkephafpebfkaaGreatDoorQt
import Derived.Deep.RegionHeld3
import Derived.Test.YtnkephafpebfkaaGreatDoorGen1
import Derived.Deep.CutBlock
import Derived.Deep.DeepCutAuto
import Derived.Test.YtnkephafpebfkaaGreatDoorOpenS
import Derived.Test.YtnkephafpebfkaaGreatDoorDoorT
import Derived.Test.YtnkephafpebfkaaGreatDoorLaw
import Derived.Test.YtnkephafpebfkaaGreatDoorCards
import Derived.SevenTiedAt
/- Contracts of the reference: Less, Ordered, Filed, Form, Valid. -/
namespace Go.Proofs.YtnkephafpebfkaaGreatDoor
open Go.RowKit Go.Sort

set_option maxHeartbeats 800000 in
theorem Less_any (a b : Ln) (w : World) :
    Calls Tryz.prog 85 #[.agg #[.int .i64 a.kind, .string a.code, .int .i64 a.amt], .agg #[.int .i64 b.kind, .string b.code, .int .i64 b.amt]] w fun e w' => e = .returned (.bool (lnLt a b)) ∧ Below w.heap.size w w' := by
  by_cases h1 : a.kind < b.kind
  · have H : Hid (lnLt a b = true) := by simp [Hid, lnLt, h1]
    have d1 : decide (a.kind < b.kind) = true := decide_eq_true h1
    go_enter Tryz.func85, Tryz.ntmps85
    go_wp2
    go_ret
    exact ⟨ret_bool H.out.symm, ((Below.refl _ _).alloc (Nat.le_refl _) _).alloc (by simp) _⟩
  have d1 : decide (a.kind < b.kind) = false := decide_eq_false h1
  cases e2 : (a.kind == b.kind)
  · have H : Hid (lnLt a b = false) := by simp [Hid, lnLt, h1, show ¬ a.kind = b.kind by simpa using e2]
    go_enter Tryz.func85, Tryz.ntmps85
    go_wp2
    go_ret
    exact ⟨ret_bool H.out.symm, ((Below.refl _ _).alloc (Nat.le_refl _) _).alloc (by simp) _⟩
  · have H : Hid (lnLt a b = Op.bytesLess a.code.toList b.code.toList) := by
      rw [Hid, bytesLess_eq]
      simp [lnLt, show a.kind = b.kind by simpa using e2]
    go_enter Tryz.func85, Tryz.ntmps85
    go_wp2
    go_ret
    exact ⟨ret_bool H.out.symm, ((Below.refl _ _).alloc (Nat.le_refl _) _).alloc (by simp) _⟩


/-- the lines up to k are in order -/
def OrdOk (l : List Ln) (k : Nat) : Prop := ∀ j (h : j < l.length), j < k → formB l[j] = true ∧ ∀ h0 : 0 < j, lnLt (l[j - 1]'(by omega)) l[j] = true
theorem ordOk_end {l : List Ln} (h : OrdOk l l.length) : ordB l = true := by
  rw [ordB_iff]
  exact ⟨fun j hj => (h j hj hj).1, fun j hj => (h (j + 1) hj hj).2 (by omega)⟩
theorem ordOk_form {l : List Ln} {k : Nat} (hk : k < l.length) (h : formB l[k] = false) : ordB l = false := by
  rw [Bool.eq_false_iff]
  intro hh
  have := ((ordB_iff _).1 hh).1 k hk
  rw [h] at this; cases this
theorem ordOk_lt {l : List Ln} {k : Nat} (hk : k + 1 < l.length) (h : lnLt (l[k]'(by omega)) l[k + 1] = false) : ordB l = false := by
  rw [Bool.eq_false_iff]
  intro hh
  have := ((ordB_iff _).1 hh).2 k hk
  rw [h] at this; cases this
set_option maxRecDepth 100000 in
set_option maxHeartbeats 4000000 in
theorem Ordered_any (l : List Ln) (v : Value) (w : World) (hv : Sl w 3 v (lns l)) :
    Calls Tryz.prog 66 #[v] w fun e w' => e = .returned (.bool (ordB l)) ∧ Below w.heap.size w w' := by
  have HV := Lib.hid hv
  obtain ⟨A, cap, rfl, h1, h2, _, _⟩ := hv
  rw [lns_len] at h1 HV ⊢
  unfold maxLen at h2
  go_enter Tryz.func66, Tryz.ntmps66
  go_wp2
  go_loopw [3] (fun i wr => ∃ k : Nat, k ≤ l.length ∧ i = .int .i64 k ∧ Hid (Below w.heap.size w wr) ∧ Hid (OrdOk l k)) (fun i _ => l.length - (intOf i).toNat)
  case atStart => exact ⟨0, by omega, rfl, Below.refl _ _, fun j _ h => by omega⟩
  case round =>
    obtain ⟨k, hk, rfl, HB, HK⟩ := hrel
    obtain ⟨wo, rfl⟩ : ∃ wo : World, wo = wr := ⟨_, rfl⟩
    by_cases hlt : k < l.length
    · obtain ⟨bk, off, rfl, hc⟩ := (HV.out.below HB.out).cells (by rw [lns_len]; omega)
      have hbl := hc.1
      obtain ⟨c0, c1, c2⟩ := hc.ln hlt
      have i1 : (k : Int) < (l.length : Int) := by omega
      have HFD := Lib.hid (fun h => ordOk_form hlt h)
      have HPR : Hid (∀ (j : Nat) (hj : j < l.length), ∀ y : Ext wo, y.val.cell? ⟨bk, off + j * 3, none⟩ = some (.int .i64 (l[j]).kind) ∧ y.val.cell? ⟨bk, off + j * 3 + 1, none⟩ = some (.string (l[j]).code) ∧ y.val.cell? ⟨bk, off + j * 3 + 2, none⟩ = some (.int .i64 (l[j]).amt)) := fun j hj y => ⟨ext_cell hbl (hc.ln hj).1 y, ext_cell hbl (hc.ln hj).2.1 y, ext_cell hbl (hc.ln hj).2.2 y⟩
      obtain ⟨x, hx⟩ : ∃ x, l[k] = x := ⟨_, rfl⟩
      have HX := Lib.hid hx
      rw [hx] at c0 c1 c2 HFD
      have d0 := ext_cell hbl c0
      have d1 := ext_cell hbl c1
      have d2 := ext_cell hbl c2
      have HF := Lib.hid (fun y : Ext wo => refForm_any x y.val)
      have HBY : Hid (∀ y : Ext wo, Below w.heap.size w y.val) := fun y => below_after HB.out y.property HB.out.size
      clear hx hc c0 c1 c2
      cases hf : formB x
      · rw [hf] at HF
        have HE := Lib.hid (HFD.out hf)
        clear hf HFD HPR
        go_wp2_with fail
        refine region_ext (by kernel_rfl) (by kernel_rfl) ?_
        repeat (go_big_quiet_step ((go_at_call 72; exact ext_call (HF.out _))))
        refine wpQuiet_nil ?_
        rintro _ ⟨y, rfl⟩
        go_wp2
        go_ret
        exact ⟨ret_bool HE.out.symm, HBY.out y⟩
      rw [hf] at HF
      have HFM := Lib.hid hf
      clear hf HFD
      rcases Nat.eq_zero_or_pos k with rfl | hk0
      · have HN : Hid (OrdOk l (0 + 1)) := fun j hj h => by
          obtain rfl : j = 0 := by omega
          exact ⟨by rw [HX.out]; exact HFM.out, fun h => by omega⟩
        simp only [Nat.zero_mul, Nat.add_zero] at d0 d1 d2
        clear HPR
        go_wp2_with fail
        refine region_ext (by kernel_rfl) (by kernel_rfl) ?_
        repeat (go_big_quiet_step ((go_at_call 72; exact ext_call (HF.out _))))
        refine wpQuiet_nil ?_
        rintro _ ⟨y, rfl⟩
        go_wp2
        go_roundw
        case rel => exact ⟨0 + 1, by omega, by go_num, HBY.out y, HN.out⟩
        case measure => simp [intOf]; omega
      · obtain ⟨j, rfl⟩ : ∃ j, k = j + 1 := ⟨k - 1, by omega⟩
        have hjl : j < l.length := by omega
        have HP := HPR.out j hjl
        have HOD := Lib.hid (fun h => ordOk_lt (k := j) hlt h)
        rw [HX.out] at HOD
        have HKJ : Hid (lnLt (l[j]'hjl) x = true → OrdOk l (j + 1 + 1)) := fun hl' i hi hik => by
          by_cases e : i = j + 1
          · subst e
            refine ⟨by rw [HX.out]; exact HFM.out, fun _ => ?_⟩
            rw [HX.out]
            exact hl'
          · exact HK.out i hi (by omega)
        obtain ⟨y, hy⟩ : ∃ y, l[j] = y := ⟨_, rfl⟩
        rw [hy] at HP HOD HKJ
        have p0 := fun z => (HP z).1
        have p1 := fun z => (HP z).2.1
        have p2 := fun z => (HP z).2.2
        have HLS := Lib.hid (fun z : Ext wo => Less_any y x z.val)
        have i2 : (j : Int) < (l.length : Int) := by omega
        have s2 : IntKind.i64.wrap ((j : Int) + 1 - 1) = (j : Int) := by rw [show (j : Int) + 1 - 1 = (j : Int) by omega]; exact IntWalk.i64_in _ (by omega)
        clear hy HP HPR
        cases hly : lnLt y x
        · rw [hly] at HLS
          have HE := Lib.hid (HOD.out hly)
          clear hly HOD HKJ
          go_wp2_with fail
          refine region_ext (by kernel_rfl) (by kernel_rfl) ?_
          repeat (go_big_quiet_step (first | (go_at_call 72; exact ext_call (HF.out _)) | (go_at_call 85; exact ext_call (HLS.out _))))
          refine wpQuiet_nil ?_
          rintro _ ⟨z, rfl⟩
          go_wp2
          go_ret
          exact ⟨ret_bool HE.out.symm, HBY.out z⟩
        · rw [hly] at HLS
          have HN := Lib.hid (HKJ.out hly)
          clear hly HOD HKJ
          go_wp2_with fail
          refine region_ext (by kernel_rfl) (by kernel_rfl) ?_
          repeat (go_big_quiet_step (first | (go_at_call 72; exact ext_call (HF.out _)) | (go_at_call 85; exact ext_call (HLS.out _))))
          refine wpQuiet_nil ?_
          rintro _ ⟨z, rfl⟩
          go_wp2
          go_roundw
          case rel => exact ⟨j + 1 + 1, by omega, by go_num, HBY.out z, HN.out⟩
          case measure => simp [intOf]; omega
    · obtain rfl : k = l.length := by omega
      have HE := Lib.hid (ordOk_end HK.out)
      go_wp2
      go_ret
      exact ⟨ret_bool HE.out.symm, HB.out⟩
theorem Filed_any (k : Int) (w : World) :
    Calls Tryz.prog 67 #[.int .i64 k] w fun e w' => e = .returned (.bool (filedB k)) ∧ w = w' := by
  cases h4 : (k == 4)
  · cases h5 : (k == 5)
    · go_enter Tryz.func67, Tryz.ntmps67
      go_wp2
      go_ret
      exact ⟨ret_bool (by simp at h4 h5; simp [filedB, h4, h5]; rfl), rfl⟩
    · go_enter Tryz.func67, Tryz.ntmps67
      go_wp2
      go_ret
      exact ⟨ret_bool (by simp at h5; simp [filedB, h5]), rfl⟩
  · go_enter Tryz.func67, Tryz.ntmps67
    go_wp2
    go_ret
    exact ⟨ret_bool (by simp at h4; simp [filedB, h4]), rfl⟩
def formR (l : List Ln) : Bool := l.all (fun x => filedB x.kind) && ordB l
set_option maxRecDepth 100000 in
set_option maxHeartbeats 2000000 in
theorem FormL_any (l : List Ln) (v : Value) (w : World) (hv : Sl w 3 v (lns l)) :
    Calls Tryz.prog 42 #[v] w fun e w' => e = .returned (.bool (formR l)) ∧ Below w.heap.size w w' := by
  have HV := Lib.hid hv
  have HO := Lib.hid (Ordered_any l v w hv)
  have HFR : Hid (formR l = (l.all (fun x => filedB x.kind) && ordB l)) := rfl
  obtain ⟨A, cap, rfl, h1, h2, _, _⟩ := hv
  rw [lns_len] at h1 HV HO ⊢
  unfold maxLen at h2
  cases ho : ordB l
  · rw [ho] at HO HFR
    have HE : Hid (formR l = false) := by rw [Hid, HFR.out, Bool.and_false]
    clear ho
    go_enter Tryz.func42, Tryz.ntmps42
    go_wp2_with fail
    refine HO.out.mono ?_
    rintro e w1 ⟨rfl, hb1⟩
    go_wp2
    go_ret
    exact ⟨ret_bool HE.out.symm, hb1⟩
  rw [ho] at HO HFR
  clear ho
  go_enter Tryz.func42, Tryz.ntmps42
  go_wp2_with fail
  refine HO.out.mono ?_
  rintro e w1 ⟨rfl, hb1⟩
  go_wp2_with fail
  go_loopw [3] (fun i wr => ∃ k : Nat, k ≤ l.length ∧ i = .int .i64 k ∧ Hid (Below w.heap.size w wr) ∧ Hid ((l.take k).all (fun x => filedB x.kind) = true)) (fun i _ => l.length - (intOf i).toNat)
  case atStart => exact ⟨0, by omega, rfl, hb1, rfl⟩
  case round =>
    clear hb1
    obtain ⟨k, hk, rfl, HB, HK⟩ := hrel
    obtain ⟨wo, rfl⟩ : ∃ wo : World, wo = wr := ⟨_, rfl⟩
    by_cases hlt : k < l.length
    · obtain ⟨bk, off, rfl, hc⟩ := (HV.out.below HB.out).cells (by rw [lns_len]; omega)
      have hbl := hc.1
      obtain ⟨c0, c1, c2⟩ := hc.ln hlt
      have i1 : (k : Int) < (l.length : Int) := by omega
      have HTK : Hid ((l.take (k + 1)).all (fun x => filedB x.kind) = filedB (l[k]).kind) := by
        rw [Hid, List.take_succ_eq_append_getElem hlt, List.all_append, HK.out]; simp
      have HNO : Hid (filedB (l[k]).kind = false → formR l = false) := fun h => by
        rw [HFR.out, Bool.and_true, Bool.eq_false_iff]
        intro hh
        have := List.all_eq_true.1 hh _ (List.getElem_mem hlt)
        rw [h] at this; cases this
      obtain ⟨x, hx⟩ : ∃ x, l[k] = x := ⟨_, rfl⟩
      rw [hx] at c0 c1 c2 HTK HNO
      have HFI := Lib.hid (Filed_any x.kind wo)
      clear hx hc
      cases hf : filedB x.kind
      · rw [hf] at HFI
        have HE := Lib.hid (HNO.out hf)
        clear hf HNO HTK
        go_wp2_with fail
        refine HFI.out.mono ?_
        rintro e w' ⟨rfl, rfl⟩
        go_wp2
        go_ret
        exact ⟨ret_bool HE.out.symm, HB.out⟩
      · rw [hf] at HFI HTK
        clear hf HNO
        go_wp2_with fail
        refine HFI.out.mono ?_
        rintro e w' ⟨rfl, rfl⟩
        go_wp2
        go_roundw
        case rel => exact ⟨k + 1, by omega, by go_num, HB.out, HTK.out⟩
        case measure => simp [intOf]; omega
    · have hkk : k = l.length := by omega
      have HE : Hid (formR l = true) := by
        have := HK.out
        rw [List.take_of_length_le (by omega)] at this
        rw [Hid, HFR.out, this]; rfl
      subst hkk
      go_wp2
      go_ret
      exact ⟨ret_bool HE.out.symm, HB.out⟩
set_option maxRecDepth 100000 in
set_option maxHeartbeats 2000000 in
theorem refValidR_any (r : Ret) (v : Value) (w : World) (hv : Sl w 3 v (lns r.l)) :
    Calls Tryz.prog 16 #[.agg (r.vals v)] w fun e w' => e = .returned (.bool (retB r)) ∧ Below w.heap.size w w' := by
  have HV := Lib.hid hv
  obtain ⟨A, cap, rfl, h1, h2, _, _⟩ := hv
  rw [lns_len] at h1 HV ⊢
  unfold maxLen at h2
  obtain ⟨n, d, l⟩ := r
  have hvals : Ret.vals ⟨n, d, l⟩ (.slice A l.length cap) = #[.int .i64 n, .int .i64 d, .slice A l.length cap] := rfl
  simp only [hvals] at h1 HV ⊢
  have HRB : Hid (retB ⟨n, d, l⟩ = (decide (0 ≤ n) && (decide (n ≤ 84005) && (decide (1 ≤ d) && (decide (d ≤ 65536) && (decide (l.length ≤ 256) && formR l)))))) := rfl
  clear hvals
  by_cases q1 : 0 ≤ n
  rotate_left
  · have HF : Hid (retB ⟨n, d, l⟩ = false) := by rw [Hid, HRB.out, decide_eq_false q1]; rfl
    go_enter Tryz.func16, Tryz.ntmps16
    go_wp2
    go_ret
    exact ⟨ret_bool HF.out.symm, (Below.refl _ _).alloc (Nat.le_refl _) _⟩
  by_cases q2 : n ≤ 84005
  rotate_left
  · have HF : Hid (retB ⟨n, d, l⟩ = false) := by rw [Hid, HRB.out, decide_eq_false q2]; simp
    go_enter Tryz.func16, Tryz.ntmps16
    go_wp2
    go_ret
    exact ⟨ret_bool HF.out.symm, (Below.refl _ _).alloc (Nat.le_refl _) _⟩
  by_cases q3 : 1 ≤ d
  rotate_left
  · have HF : Hid (retB ⟨n, d, l⟩ = false) := by rw [Hid, HRB.out, decide_eq_false q3]; simp
    go_enter Tryz.func16, Tryz.ntmps16
    go_wp2
    go_ret
    exact ⟨ret_bool HF.out.symm, (Below.refl _ _).alloc (Nat.le_refl _) _⟩
  by_cases q4 : d ≤ 65536
  rotate_left
  · have HF : Hid (retB ⟨n, d, l⟩ = false) := by rw [Hid, HRB.out, decide_eq_false q4]; simp
    go_enter Tryz.func16, Tryz.ntmps16
    go_wp2
    go_ret
    exact ⟨ret_bool HF.out.symm, (Below.refl _ _).alloc (Nat.le_refl _) _⟩
  by_cases q5 : l.length ≤ 256
  rotate_left
  · have HF : Hid (retB ⟨n, d, l⟩ = false) := by rw [Hid, HRB.out, decide_eq_false q5]; simp
    go_enter Tryz.func16, Tryz.ntmps16
    go_wp2
    go_ret
    exact ⟨ret_bool HF.out.symm, (Below.refl _ _).alloc (Nat.le_refl _) _⟩
  have HF : Hid (retB ⟨n, d, l⟩ = formR l) := by
    rw [Hid, HRB.out, decide_eq_true q1, decide_eq_true q2, decide_eq_true q3, decide_eq_true q4, decide_eq_true q5]; rfl
  have hB := (Below.refl w.heap.size w).alloc (Nat.le_refl _) (.cells #[.int .i64 n, .int .i64 d, .slice A l.length cap] 25)
  have HC := Lib.hid (FormL_any l (.slice A l.length cap) _ (HV.out.below hB))
  go_enter Tryz.func16, Tryz.ntmps16
  go_wp2_with fail
  refine HC.out.mono ?_
  rintro e w1 ⟨rfl, hb1⟩
  have hB1 := below_after hB hb1 hB.size
  clear hB hb1
  go_wp2
  go_ret
  exact ⟨ret_bool HF.out.symm, hB1⟩
end Go.Proofs.YtnkephafpebfkaaGreatDoor
/- Contracts of the reference: Word, Text, Encode. -/
namespace Go.Proofs.YtnkephafpebfkaaGreatDoor
open Go.RowKit Go.Shelf

theorem word_at (j : Nat) (h : j < 10) : (#[Value.string ⟨#[101, 97, 114, 110, 105, 110, 103]⟩, .string ⟨#[98, 101, 110, 101, 102, 105, 116]⟩, .string ⟨#[98, 101, 102, 111, 114, 101]⟩, .string ⟨#[108, 101, 118, 121]⟩, .string ⟨#[101, 109, 112, 108, 111, 121, 101, 114]⟩, .string ⟨#[116, 97, 120]⟩, .string ⟨#[97, 116, 116, 97, 99, 104, 101, 100]⟩, .string ⟨#[97, 102, 116, 101, 114]⟩, .string ⟨#[110, 101, 116]⟩, .string ⟨#[115, 104, 111, 114, 116]⟩] : Array Value)[j]? = some (.string (bsOf (wAll.getD j []))) := by
  match j, h with
  | 0, _ => rfl
  | 1, _ => rfl
  | 2, _ => rfl
  | 3, _ => rfl
  | 4, _ => rfl
  | 5, _ => rfl
  | 6, _ => rfl
  | 7, _ => rfl
  | 8, _ => rfl
  | 9, _ => rfl
theorem wordL_out {k : Int} (h : k < 1 ∨ 10 < k) : wordL k = [] := by
  unfold wordL
  rcases h with h | h
  · rw [if_neg (by omega)]
  · rw [if_pos (by omega), List.getD, List.getElem?_eq_none]
    · rfl
    · show wAll.length ≤ _
      have : wAll.length = 10 := rfl
      omega
theorem wordR_any (k : Int) (w : World) (h0 : -9223372036854775808 ≤ k) (h1 : k ≤ 9223372036854775807) :
    Calls Tryz.prog 61 #[.int .i64 k] w fun e w' => e = .returned (.string (bsOf (wordL k))) ∧ Below w.heap.size w w' := by
  by_cases q0 : k < 1
  · have H : Hid (bsOf (wordL k) = ⟨#[]⟩) := by rw [Hid, wordL_out (.inl q0)]; rfl
    go_enter Tryz.func61, Tryz.ntmps61
    go_wp2
    go_ret
    exact ⟨by rw [H.out]; rfl, (Below.refl _ _).alloc (Nat.le_refl _) _⟩
  by_cases q1 : 10 < k
  · have H : Hid (bsOf (wordL k) = ⟨#[]⟩) := by rw [Hid, wordL_out (.inr q1)]; rfl
    go_enter Tryz.func61, Tryz.ntmps61
    go_wp2
    go_ret
    exact ⟨by rw [H.out]; rfl, (Below.refl _ _).alloc (Nat.le_refl _) _⟩
  obtain ⟨j, hj⟩ : ∃ j : Nat, k = (j : Int) + 1 := ⟨(k - 1).toNat, by omega⟩
  subst hj
  have hj10 : j < 10 := by omega
  have H : Hid (wordL ((j : Int) + 1) = wAll.getD j []) := by
    unfold wordL
    rw [Hid, if_pos (by omega), show ((j : Int) + 1 - 1).toNat = j by omega]
  have HC := Lib.hid (word_at j hj10)
  have s1 : IntKind.i64.wrap ((j : Int) + 1 - 1) = (j : Int) := by rw [show (j : Int) + 1 - 1 = (j : Int) by omega]; exact IntWalk.i64_in _ (by omega)
  have s2 : ((j : Int) + 1 - 1) = (j : Int) := by omega
  have c0 : ∀ (o : Array Value), o[j]? = some (.string (bsOf (wAll.getD j []))) → (w.alloc (.cells o 9)).cell? ⟨w.heap.size, j, none⟩ = some (.string (bsOf (wAll.getD j []))) := fun o ho => by
    rw [World.cell?_alloc_new]; exact ho
  have c1 := c0 _ HC.out
  clear c0
  go_enter Tryz.func61, Tryz.ntmps61
  go_wp2
  go_ret
  exact ⟨by rw [H.out]; rfl, (Below.refl _ _).alloc (Nat.le_refl _) _⟩
theorem word_sz {x : Ln} (h : Formed x) : (bsOf (wordL x.kind)).size ≤ 8 := by
  obtain ⟨j, hj, _, hw⟩ := h.wd
  have hf := word_free j hj
  rw [bsOf_size, hw]
  exact hf.2.2
theorem lnT_bare {x : Ln} (h : bareB x.kind = true) : lnT x ++ [10] = wordL x.kind ++ [32] ++ Lib.itoa x.amt ++ [10] := by
  rw [lnT, wordsL, if_pos h]; simp [joinBy]
theorem lnT_code {x : Ln} (h : bareB x.kind = false) : lnT x ++ [10] = wordL x.kind ++ [32] ++ x.code.data.toList ++ [32] ++ Lib.itoa x.amt ++ [10] := by
  rw [lnT, wordsL, h]; simp [joinBy]
set_option maxRecDepth 100000 in
set_option maxHeartbeats 2000000 in
theorem Text_any (x : Ln) (w : World) (hf : Formed x) :
    Calls Tryz.prog 39 #[.agg #[.int .i64 x.kind, .string x.code, .int .i64 x.amt]] w fun e w' => e = .returned (.string (bsOf (lnT x ++ [10]))) ∧ Below w.heap.size w w' := by
  have a0 := hf.a0
  have a1 := hf.a1
  have k0 := hf.k0
  have k1 := hf.k1
  have hB := (Below.refl w.heap.size w).alloc (Nat.le_refl _) (.cells #[.int .i64 x.kind, .string x.code, .int .i64 x.amt] 56)
  have hr := Row.new w 56 #[.int .i64 x.kind, .string x.code, .int .i64 x.amt]
  obtain ⟨w1, hw1⟩ : ∃ w1, w.alloc (.cells #[.int .i64 x.kind, .string x.code, .int .i64 x.amt] 56) = w1 := ⟨_, rfl⟩
  rw [hw1] at hB hr
  obtain ⟨⟨y0, y1, y2, yl⟩, -⟩ := row3 hr
  have z0 := ext_cell yl y0
  have z1 := ext_cell yl y1
  have z2 := ext_cell yl y2
  have HW := Lib.hid (fun y : Ext w1 => wordR_any x.kind y.val (by omega) (by omega))
  have HD : Hid (∀ y : Ext w1, Calls Tryz.prog 38 #[.int .i64 x.amt] y.val fun e w' => e = .returned (.string (bsOf (Lib.itoa x.amt))) ∧ Below y.val.heap.size y.val w') := fun y => (Decimal_any x.amt y.val (by omega) (by omega)).mono fun _ _ h => h.bs
  have s1 := word_sz hf
  have s2 := itoa_20 x.amt (by omega) (by omega)
  have s3 := code_len hf
  have HBY : Hid (∀ y : Ext w1, Below w.heap.size w y.val) := fun y => below_after hB y.property hB.size
  obtain ⟨W, hW⟩ : ∃ W, wordL x.kind = W := ⟨_, rfl⟩
  obtain ⟨I, hI⟩ : ∃ I, Lib.itoa x.amt = I := ⟨_, rfl⟩
  rw [hW] at HW s1
  rw [hI] at HD s2
  have HIW := Lib.hid (And.intro hW hI)
  clear hB hr hW hI hf
  go_enter Tryz.func39, Tryz.ntmps39
  go_wp2_with fail
  cases hb : bareB x.kind
  · have HT : Hid (lnT x ++ [10] = W ++ [32] ++ x.code.data.toList ++ [32] ++ I ++ [10]) := by rw [Hid, lnT_code hb, HIW.out.1, HIW.out.2]
    refine (refBare_any x.kind _).mono ?_
    rintro e w' ⟨rfl, rfl⟩
    rw [hb]
    clear hb y0 y1 y2
    go_wp2_with fail
    refine region_ext (by kernel_rfl) (by kernel_rfl) ?_
    repeat (go_big_quiet_step (first | (go_at_call 61; exact ext_call (HW.out _)) | (go_at_call 38; exact ext_call (HD.out _))))
    refine wpQuiet_nil ?_
    rintro _ ⟨y, rfl⟩
    go_wp2
    refine bodyPost_ret (v := .string _) (by simp [results, Tryz.results39, go_sem]; rfl) rfl ?_
    refine ⟨?_, HBY.out y⟩
    congr 2
    refine bsOf_eq ?_
    rw [HT.out]
    simp only [app_list, bsOf_list]
  · have HT : Hid (lnT x ++ [10] = W ++ [32] ++ I ++ [10]) := by rw [Hid, lnT_bare hb, HIW.out.1, HIW.out.2]
    refine (refBare_any x.kind _).mono ?_
    rintro e w' ⟨rfl, rfl⟩
    rw [hb]
    clear hb y0 y1 y2
    go_wp2_with fail
    refine region_ext (by kernel_rfl) (by kernel_rfl) ?_
    repeat (go_big_quiet_step (first | (go_at_call 61; exact ext_call (HW.out _)) | (go_at_call 38; exact ext_call (HD.out _))))
    refine wpQuiet_nil ?_
    rintro _ ⟨y, rfl⟩
    go_wp2
    refine bodyPost_ret (v := .string _) (by simp [results, Tryz.results39, go_sem]; rfl) rfl ?_
    refine ⟨?_, HBY.out y⟩
    congr 2
    refine bsOf_eq ?_
    rw [HT.out]
    simp only [app_list, bsOf_list]
set_option maxRecDepth 100000 in
set_option maxHeartbeats 4000000 in
theorem refEncodeR_any (r : Ret) (v : Value) (w : World) (hv : Sl w 3 v (lns r.l)) :
    Calls Tryz.prog 14 #[.agg (r.vals v)] w fun e w' => e = .returned (.tuple #[.string (bsOf (encT r)), .int .i64 (encE r)]) ∧ Below w.heap.size w w' := by
  have HV := Lib.hid hv
  obtain ⟨A, cap, rfl, h1, h2, _, _⟩ := hv
  rw [lns_len] at h1 HV ⊢
  unfold maxLen at h2
  obtain ⟨n, d, l⟩ := r
  have hvals : Ret.vals ⟨n, d, l⟩ (.slice A l.length cap) = #[.int .i64 n, .int .i64 d, .slice A l.length cap] := rfl
  simp only [hvals] at h1 HV ⊢
  have hR := Row.new w 25 #[.int .i64 n, .int .i64 d, .slice A l.length cap]
  have hB := (Below.refl w.heap.size w).alloc (Nat.le_refl _) (.cells #[.int .i64 n, .int .i64 d, .slice A l.length cap] 25)
  obtain ⟨w0, hw0⟩ : ∃ w0, w.alloc (.cells #[.int .i64 n, .int .i64 d, .slice A l.length cap] 25) = w0 := ⟨_, rfl⟩
  rw [hw0] at hR hB
  have HVA : Hid (Calls Tryz.prog 16 #[.agg #[.int .i64 n, .int .i64 d, .slice A l.length cap]] w0 fun e w' => e = .returned (.bool (retB ⟨n, d, l⟩)) ∧ Below w0.heap.size w0 w') := refValidR_any ⟨n, d, l⟩ _ w0 (HV.out.below hB)
  clear hvals
  obtain ⟨g, hg⟩ : ∃ g, w.heap.size = g := ⟨_, rfl⟩
  rw [hg] at hR
  obtain ⟨⟨x0, x1, x2, xl⟩, -⟩ := row3 hR
  go_enter Tryz.func14, Tryz.ntmps14
  go_wp2_with fail
  clear hw0 hg x0 x1 x2 xl
  refine HVA.out.mono ?_
  rintro e w1 ⟨rfl, hb1⟩
  have hB1 := below_after hB hb1 hB.size
  have hR1 := hR.below hb1 hR.lt
  clear hB hR hb1 HVA
  cases hfv : retB ⟨n, d, l⟩
  · have HE : Hid (bsOf (encT ⟨n, d, l⟩) = ⟨#[]⟩ ∧ encE ⟨n, d, l⟩ = 1) := ⟨by rw [encT, hfv]; rfl, by rw [encE, hfv]; rfl⟩
    clear hfv
    go_wp2
    refine bodyPost_ret (v := .tuple #[.string ⟨#[]⟩, .int .i64 1]) (by simp [results, Tryz.results14, go_sem]) rfl ?_
    exact ⟨by rw [HE.out.1, HE.out.2], hB1⟩
  have hok := (retB_iff _).1 hfv
  have f1 := hok.p0
  have f2 := hok.p1
  have f3 := hok.v0
  have f4 := hok.v1
  have f5 := hok.n
  simp only at f1 f2 f3 f4 f5
  have HF := Lib.hid (fun x hx => formed_of (formB_formed (hok.f x hx)))
  have HE : Hid (encT ⟨n, d, l⟩ = headR n d ++ [10] ++ lnsT l ++ (wEnd ++ [10]) ∧ encE ⟨n, d, l⟩ = 0) := ⟨by rw [encT, hfv, if_pos rfl, retT_eq], by rw [encE, hfv]; rfl⟩
  have hc : ∀ (x : Int) (w : World), -9223372036854775808 ≤ x → x ≤ 9223372036854775807 → Calls Tryz.prog 38 #[.int .i64 x] w fun e w' => e = .returned (.string (bsOf (Lib.itoa x))) ∧ Below w.heap.size w w' := fun x w g1 g2 => (Decimal_any x w g1 g2).mono fun _ _ h => h.bs
  have HC := Lib.hid hc
  have s1 := itoa_20 n (by omega) (by omega)
  have s2 := itoa_20 d (by omega) (by omega)
  clear hfv hok hc
  obtain ⟨⟨x0, x1, x2, xl⟩, -⟩ := row3 hR1
  have y0 := ext_cell xl x0
  have y1 := ext_cell xl x1
  have hbx : Hid (∀ y : Ext w1, Below w.heap.size w y.val ∧ Row y.val g 25 #[.int .i64 n, .int .i64 d, .slice A l.length cap]) := fun y => ⟨hB1.trans (y.property.mono hB1.size), hR1.below y.property xl⟩
  clear x0 x1 x2
  go_wp2_with fail
  refine region_ext (by kernel_rfl) (by kernel_rfl) ?_
  repeat (go_big_quiet_step ((go_at_call 38; exact ext_call (HC.out _ _ (by omega) (by omega)))))
  refine wpQuiet_nil ?_
  rintro _ ⟨y, rfl⟩
  obtain ⟨hBy, hRy⟩ := hbx.out y
  obtain ⟨hd, hhd⟩ : ∃ hd : ByteArray, (⟨#[114, 101, 116, 117, 114, 110, 32]⟩ ++ bsOf (Lib.itoa n) ++ ⟨#[32, 118, 101, 114, 115, 105, 111, 110, 32]⟩ ++ bsOf (Lib.itoa d) ++ ⟨#[10]⟩ : ByteArray) = hd := ⟨_, rfl⟩
  have hH : hd.data.toList = headR n d ++ [10] := by
    rw [← hhd, headR_eq]; simp only [app_list, bsOf_list]
  have hz0 : hd.size ≤ 500 := by
    rw [← hhd]
    simp only [ByteArray.size_append]
    have a1 : (⟨#[114, 101, 116, 117, 114, 110, 32]⟩ : ByteArray).size = 7 := rfl
    have a2 : (⟨#[32, 118, 101, 114, 115, 105, 111, 110, 32]⟩ : ByteArray).size = 9 := rfl
    have a3 : (⟨#[10]⟩ : ByteArray).size = 1 := rfl
    omega
  have HH := Lib.hid hH
  generalize y.val = w2 at hBy hRy ⊢
  rw [hhd]
  clear hhd hH y0 y1 hbx hB1 hR1 xl s1 s2 y
  have HS0 : Hid (hd.data.toList = headR n d ++ [10] ++ lnsT (l.take 0)) := by rw [Hid, HH.out]; simp [lnsT]
  have HB0 := Lib.hid (And.intro hBy hRy)
  clear hBy hRy HH
  go_wp2_with fail
  go_loopw [4, 5] (fun o i wr => ∃ (s : ByteArray) (k : Nat), o = .string s ∧ i = .int .i64 k ∧ k ≤ l.length ∧ s.size ≤ 500 + 500 * k ∧ Hid (s.data.toList = headR n d ++ [10] ++ lnsT (l.take k)) ∧ Hid (Below w.heap.size w wr ∧ Row wr g 25 #[.int .i64 n, .int .i64 d, .slice A l.length cap])) (fun _ i _ => l.length - (intOf i).toNat)
  case atStart => exact ⟨hd, 0, rfl, rfl, by omega, by omega, HS0.out, HB0.out⟩
  case round =>
    clear HS0 HB0 hz0
    obtain ⟨s, k, rfl, rfl, hk, hsz, HS, HB⟩ := hrel
    obtain ⟨wo, rfl⟩ : ∃ wo : World, wo = wr := ⟨_, rfl⟩
    obtain ⟨⟨x0, x1, x2, xl⟩, -⟩ := row3 HB.out.2
    by_cases hlt : k < l.length
    · obtain ⟨bk, off, rfl, hcw⟩ := HV.out.cells (by rw [lns_len]; omega)
      have hc0 := hcw.below HB.out.1 hcw.1
      have hbl := hc0.1
      obtain ⟨c0, c1, c2⟩ := hc0.ln hlt
      have HTK := Lib.hid (lnsT_snoc hlt)
      have hfx := HF.out _ (List.getElem_mem hlt)
      have hll := lnT_len hfx
      obtain ⟨x, hx⟩ : ∃ x, l[k] = x := ⟨_, rfl⟩
      rw [hx] at c0 c1 c2 HTK hfx hll
      have HTXT := Lib.hid (Text_any x wo hfx)
      have i1 : (k : Int) < (l.length : Int) := by omega
      obtain ⟨T, hT⟩ : ∃ T, bsOf (lnT x ++ [10]) = T := ⟨_, rfl⟩
      have HTL : Hid (T.data.toList = lnT x ++ [10]) := by rw [Hid, ← hT, bsOf_list]
      have htz : T.size ≤ 100 := by rw [← hT, bsOf_size, List.length_append, List.length_singleton]; omega
      rw [hT] at HTXT
      clear hx hcw hc0 hfx hT
      go_wp2_with fail
      refine HTXT.out.mono ?_
      rintro e w3 ⟨rfl, hb3⟩
      have HB3 : Hid (Below w.heap.size w w3 ∧ Row w3 g 25 #[.int .i64 n, .int .i64 d, .slice (some ⟨bk, off, none⟩) l.length cap]) := ⟨below_after HB.out.1 hb3 HB.out.1.size, HB.out.2.below hb3 xl⟩
      clear x0 x1 x2 xl c0 c1 c2 hb3 HTXT HB hbl
      obtain ⟨ns, hns⟩ : ∃ ns : ByteArray, s ++ T = ns := ⟨_, rfl⟩
      have HN : Hid (ns.data.toList = headR n d ++ [10] ++ lnsT (l.take (k + 1))) := by
        rw [Hid, ← hns, HTK.out, app_list, HS.out, HTL.out]; simp only [List.append_assoc]
      have hNz : ns.size ≤ 500 + 500 * (k + 1) := by rw [← hns, ByteArray.size_append]; omega
      have HNS := Lib.hid hns
      clear hns
      go_wp2
      go_roundw
      case rel => exact ⟨ns, k + 1, by rw [HNS.out], by go_num, by omega, hNz, HN.out, HB3.out⟩
      case measure => simp [intOf]; omega
    · obtain rfl : k = l.length := by omega
      have HS1 : Hid (s.data.toList = headR n d ++ [10] ++ lnsT l) := by rw [Hid, HS.out, List.take_length]
      have HBF := Lib.hid HB.out.1
      clear HS HB
      go_wp2
      refine bodyPost_ret (v := .tuple #[.string _, .int .i64 0]) (by simp [results, Tryz.results14, go_sem]; rfl) rfl ?_
      refine ⟨?_, HBF.out⟩
      rw [HE.out.2]
      congr 4
      refine congrArg Value.string (bsOf_eq ?_)
      rw [HE.out.1, app_list, HS1.out]; rfl
end Go.Proofs.YtnkephafpebfkaaGreatDoor
/- Contract of paygen.Deck.Returns. -/
namespace Go.Proofs.YtnkephafpebfkaaGreatDoor
open Go.RowKit

theorem form_line {k : Int} {c : ByteArray} {a : Int} (hk : 4 ≤ k ∧ k ≤ 6) (h : (k = 6 ∧ c = ⟨#[]⟩) ∨ (k ≠ 6 ∧ nameB c.data.toList = true)) (ha : 1 ≤ a ∧ a ≤ 1000) : formB ⟨k, c, a⟩ = true ∧ filedB k = true := by
  have q3 : totB a = true := by simp [totB]; omega
  have q4 : decide (a ≠ 0) = true := by rw [decide_eq_true_eq]; omega
  have hf : filedB k = true := by simp [filedB]; omega
  have q1 : decide (1 ≤ k) = true := by rw [decide_eq_true_eq]; omega
  have q2 : decide (k ≤ 10) = true := by rw [decide_eq_true_eq]; omega
  refine ⟨?_, hf⟩
  rcases h with ⟨rfl, rfl⟩ | ⟨h6, hn⟩
  · simp only [formB, formedB, q3, q4]; rfl
  · have hb : bareB k = false := by simp [bareB]; omega
    simp only [formB, formedB, q1, q2, q3, q4, hb, hn, Bool.true_and, Bool.and_true]; rfl
theorem own_off {v : Value} {b : Nat} (h : ∀ g, v.ownBlock = some g → g < b) : v.ownBlock = none ∨ v.ownBlock ≠ some b := by
  cases hv : v.ownBlock with
  | none => exact .inl rfl
  | some g => exact .inr fun e => by have := h g hv; injection e with e; omega
/-- returns have been drawn -/
def RetsPost (w : World) (D dr n : Nat) (e : Ending) (w' : World) : Prop :=
  ∃ (x : Value) (ps : List (Ret × Value)) (d : Nat), e = .returned x ∧ GoodRs (ps.map (·.1)) ∧ ps.length ≤ n ∧ RetsOwn w' w.heap.size x ps ∧ Deck w' D d ∧ d ≤ dr + 1 + 10 * n ∧ w.grownBy w' (some D)
/-- where the outer loop stands -/
structure RgL (w : World) (D dr n K : Nat) (x : Value) (k : Nat) (ps : List (Ret × Value)) (d : Nat) (wr : World) : Prop where
  kl : k ≤ K
  good : GoodRs (ps.map (·.1))
  len : ps.length + k ≤ K
  own : RetsOwn wr w.heap.size x ps
  deck : Deck wr D d
  d : d ≤ dr + 1 + 10 * (K - k)
  grown : w.grownBy wr (some D)
set_option maxRecDepth 100000 in
set_option maxHeartbeats 8000000 in
theorem Returns_any (D dr n : Nat) (w : World) (hd : Deck w D dr) (hdr : dr ≤ 1000000) (hn : n ≤ 100) :
    Calls Tryz.prog 27 #[.pointer (some ⟨D, 0, none⟩), .int .i64 n] w (RetsPost w D dr n) := by
  have hD := hd.lt
  go_enter Tryz.func27, Tryz.ntmps27
  go_wp2_with fail
  refine (Next_any D dr _ _ hd (by omega) (by omega) (by omega)).mono ?_
  rintro e w1 ⟨r, ⟨hr1, hr2⟩, rfl, hd1, hg1⟩
  obtain ⟨K, rfl⟩ := Int.eq_ofNat_of_zero_le hr1
  have hKn : K ≤ n := by omega
  have H0 : Hid (RgL w D dr n K (.slice none 0 0) K [] (dr + 1) w1) := ⟨Nat.le_refl _, GoodRs.nil, by simp, ⟨Own.nil _ _ _ _, (fun p hp => by cases hp)⟩, hd1, by omega, hg1⟩
  clear hd hd1 hg1
  go_wp2_with fail
  go_loopw [5, 6] (fun x t wr => ∃ (k : Nat) (ps : List (Ret × Value)) (d : Nat), t = .int .i64 k ∧ Hid (RgL w D dr n K x k ps d wr)) (fun _ t _ => (intOf t).toNat)
  case atStart => exact ⟨K, [], dr + 1, rfl, H0.out⟩
  case round =>
    clear H0
    obtain ⟨k, ps, d, rfl, HL⟩ := hrel
    obtain ⟨wo, rfl⟩ : ∃ wo : World, wo = wr := ⟨_, rfl⟩
    have hk := HL.out.kl
    by_cases hpos : 0 < k
    rotate_left
    · have dp : decide ((0 : Int) < (k : Int)) = false := decide_eq_false (by omega)
      have hk0 : k = 0 := by omega
      go_wp2
      go_ret
      have hl := HL.out.len
      have hdd := HL.out.d
      exact ⟨_, ps, d, rfl, HL.out.good, by omega, HL.out.own, HL.out.deck, by omega, HL.out.grown⟩
    have dp : decide ((0 : Int) < (k : Int)) = true := decide_eq_true (by omega)
    have hdd := HL.out.d
    have hlen := HL.out.len
    have hDo := HL.out.deck.lt
    have h00 : Hid (GoodA [] 4 ∧ Own wo wo.heap.size 56 3 (.slice none 0 0) (lns []) ∧ Deck wo D d ∧ wo.grownBy wo (some D)) := ⟨GoodA.nil, Own.nil _ _ _ _, HL.out.deck, World.grownBy.refl _ _⟩
    go_wp2_with fail
    go_loopw [7, 8] (fun v t wi => ∃ (q : Int) (acc : List Ln) (di : Nat), (4 ≤ q ∧ q ≤ 7) ∧ t = .int .i64 q ∧ (di : Int) ≤ d + 3 * (q - 4) ∧ Hid (GoodA acc q ∧ Own wi wo.heap.size 56 3 v (lns acc) ∧ Deck wi D di ∧ wo.grownBy wi (some D))) (fun _ t _ => (7 - intOf t).toNat)
    case atStart => exact ⟨4, [], d, ⟨by omega, by omega⟩, rfl, by omega, h00.out⟩
    case round =>
      clear h00
      obtain ⟨q, acc, di, ⟨q0, q1⟩, rfl, hdi, HI⟩ := hrel
      obtain ⟨wi, rfl⟩ : ∃ wi : World, wi = wr := ⟨_, rfl⟩
      have hgi := HI.out.2.2.2.size
      by_cases hq : q ≤ 6
      rotate_left
      · have dq : decide (q ≤ 6) = false := decide_eq_false hq
        obtain rfl : q = 7 := by omega
        have hAL := HI.out.1.len
        go_wp2_with fail
        refine (Next_any D di 3 wi HI.out.2.2.1 (by omega) (by omega) (by omega)).mono ?_
        rintro e w2 ⟨pp, ⟨p0, p1⟩, rfl, hd2, hg2⟩
        have hgo2 := gb_trans HI.out.2.2.2 hg2
        have ho2 := (HL.out.own.keepD hgo2 (Nat.lt_of_lt_of_le hD (Nat.le_refl _)))
        have hl2 := HI.out.2.1.keepD2 hg2 hDo
        have hgood := HL.out.good
        have hver := hgood.ver _ rfl pp
        have hln := hgood.lin pp
        have hmm : ∀ z ∈ ps, z.1.l.length ≤ 256 := fun z hz => by
          have := (hgood.mem (List.mem_map.2 ⟨z, hz, rfl⟩)).2.2
          omega
        rw [List.length_map] at hver
        have HO2 := Lib.hid ho2
        have HL2 := Lib.hid hl2
        have HA := Lib.hid HI.out.1
        have hw2 := hgo2.size
        have hD2 := hd2.lt
        have hsl2 := hl2.sl (by omega)
        have hnx := Next38_any ps _ _ pp acc w2 ho2.at hmm hsl2 (by omega) ⟨hver.1, by omega⟩ (by omega)
        have HNX := Lib.hid hnx
        clear hnx ho2 hl2 hmm hsl2 HI hg2
        go_wp2_with fail
        refine HNX.out.mono ?_
        rintro e w3 ⟨hb3, hcase⟩
        have hG3 := gb_trans HL.out.grown (gb_below hgo2 hb3)
        have hd3 := hd2.below hb3
        have HO3 := Lib.hid (HO2.out.kept hb3)
        have hw3 := hb3.size
        clear HNX HO2 HL2 hgo2 hd2 hb3
        rcases hcase with ⟨hne, v3, rfl, hown3⟩ | ⟨heq, rfl⟩
        rotate_left
        · have hal := (Below.refl w3.heap.size w3).alloc (Nat.le_refl _) (.cells #[.int .i64 0, .int .i64 0, .slice none 0 0] 25)
          have HEND : Hid (RgL w D dr n K _ (k - 1) ps (di + 1) (w3.alloc (.cells #[.int .i64 0, .int .i64 0, .slice none 0 0] 25))) := ⟨by omega, hgood, by omega, HO3.out.kept hal, hd3.below hal, by omega, gb_alloc hG3 _⟩
          clear hal heq hG3 hd3 HO3 HL
          go_wp2
          go_roundw
          case rel => exact ⟨k - 1, ps, di + 1, by go_num, HEND.out⟩
          case measure => simp [intOf]; omega
        · have hnr : nextR (ps.map (·.1)) pp acc = ⟨pp, verP (ps.map (·.1)) pp + 1, acc⟩ := rfl
          obtain ⟨A3, c3, rfl⟩ := hown3.form
          rw [lns_len] at hown3 ⊢
          have hrb : retB (nextR (ps.map (·.1)) pp acc) = true := HA.out.ret ⟨p0, by omega⟩ ⟨by omega, by omega⟩
          have hgs := hgood.snoc hrb ⟨p0, by show pp ≤ 2; omega⟩ rfl (by show acc.length ≤ 3; omega)
          have hgs2 : GoodRs ((ps ++ [(nextR (ps.map (·.1)) pp acc, Value.slice A3 acc.length c3)]).map (·.1)) := by simpa using hgs
          obtain ⟨vv, hvv⟩ : ∃ vv, verP (ps.map (·.1)) pp + 1 = vv := ⟨_, rfl⟩
          obtain ⟨nr, hnn⟩ : ∃ nr, nextR (ps.map (·.1)) pp acc = nr := ⟨_, rfl⟩
          rw [hnn] at hnr hgs2
          rw [hnn]
          rw [hvv] at hnr
          have hnl : nr.l = acc := by rw [hnr]
          have hgv : nr.vals (.slice A3 acc.length c3) = #[.int .i64 pp, .int .i64 vv, .slice A3 acc.length c3] := by rw [hnr]; rfl
          rw [hgv]
          have HGV := Lib.hid hgv
          have HGS := Lib.hid hgs2
          have hlo : Own w3 w.heap.size 56 3 (.slice A3 acc.length c3) (lns nr.l) := by rw [hnl]; exact hown3.more (by have := HL.out.grown.size; omega)
          have HLO := Lib.hid hlo
          have hal := (Below.refl w3.heap.size w3).alloc (Nat.le_refl _) (.cells #[.int .i64 pp, .int .i64 vv, .slice A3 acc.length c3] 25)
          have HX1 := Lib.hid (Row.new w3 25 #[.int .i64 pp, .int .i64 vv, .slice A3 acc.length c3])
          have hwl := HL.out.grown.size
          have hpl : ps.length ≤ 100 := by omega
          clear hgs hgs2 hrb hnr hnl hgv hne hown3 hgood hvv hnn hln hver hlo HA
          obtain ⟨w4, hw4⟩ : ∃ w4, w3.alloc (.cells #[.int .i64 pp, .int .i64 vv, .slice A3 acc.length c3] 25) = w4 := ⟨_, rfl⟩
          rw [hw4] at hal HX1
          obtain ⟨⟨y0, y1, y2, yl⟩, -⟩ := row3 HX1.out
          have hw34 := hal.size
          have HO4 := Lib.hid (HO3.out.kept hal)
          have HLO4 := Lib.hid (HLO.out.kept hal)
          have hG4 := gb_below hG3 hal
          have hd4 := hd3.below hal
          have hb5 : Below w4.heap.size w4 (w4.alloc (.cells #[.int .i64 pp, .int .i64 vv, .slice A3 acc.length c3] 25)) := (Below.refl _ _).alloc (Nat.le_refl _) _
          clear HX1 HO3 HLO hG3 hd3 hal
          have hone : Sl (w4.alloc (.cells #[.int .i64 pp, .int .i64 vv, .slice A3 acc.length c3] 25)) 3 (.slice (some ⟨w4.heap.size, 0, none⟩) 1 1) (rets [(nr, .slice A3 acc.length c3)]) := by
            have : rets [(nr, .slice A3 acc.length c3)] = [[.int .i64 pp, .int .i64 vv, .slice A3 acc.length c3]] := by simp [rets, HGV.out]
            rw [this]; exact Sl.one rfl rfl
          have HONE := Lib.hid hone
          clear hone
          go_wp2_with (at_builtin; refine wpList_append_sl rfl (.tmp 50) (.tmp 52) rfl rowRet w.heap.size _ _ (rets ps) (rets [(nr, .slice A3 acc.length c3)]) rfl (HO4.out.own.alloc _) rfl HONE.out (rets_one _ _ ⟨_, _, _, rfl⟩) (by rw [rets_len, rets_len]; unfold maxLen; simp; omega) (by rw [rets_len, rets_len]; simp; omega) (by have := hb5.size; omega) ?_; intro v6 w6 hown6 hg6 _)
          have hR6 := HO4.out.app hb5 HLO4.out hown6 hg6
          have hlt6 := fun g hg => (HO4.out.own.1.lt g hg).1
          have hG6 := gb_new (gb_below hG4 hb5) hg6 hlt6
          have hd6 := (hd4.below hb5).keep hg6 (fun g hg => Nat.lt_of_lt_of_le hD (hlt6 g hg))
          have HEND : Hid (RgL w D dr n K v6 (k - 1) (ps ++ [(nr, .slice A3 acc.length c3)]) (di + 1) w6) := ⟨by omega, HGS.out, by simp; omega, hR6, hd6, by omega, hG6⟩
          clear hw4 y0 y1 y2 yl hR6 hG6 hd6 hown6 hg6 HL hG4 hd4 HO4 HLO4 HONE hlt6
          go_roundw
          case rel => exact ⟨k - 1, _, di + 1, by go_num, HEND.out⟩
          case measure => simp [intOf]; omega
      have dq : decide (q ≤ 6) = true := decide_eq_true hq
      go_wp2_with fail
      refine (Next_any D di 2 wi HI.out.2.2.1 (by omega) (by omega) (by omega)).mono ?_
      rintro e w2 ⟨s, ⟨s0, s1⟩, rfl, hd2, hg2⟩
      cases hs0 : (s == 0)
      rotate_left
      · have HEND : Hid (GoodA acc (q + 1) ∧ Own w2 wo.heap.size 56 3 _ (lns acc) ∧ Deck w2 D (di + 1) ∧ wo.grownBy w2 (some D)) := ⟨HI.out.1.skip, HI.out.2.1.keepD2 hg2 hDo, hd2, gb_trans HI.out.2.2.2 hg2⟩
        clear HI hd2 hg2
        go_wp2
        go_roundw
        case rel => exact ⟨q + 1, acc, di + 1, ⟨by omega, by omega⟩, by go_num, by omega, HEND.out⟩
        case measure => simp [intOf]; omega
      go_wp2_with fail
      refine (Next_any D (di + 1) 1000 w2 hd2 (by omega) (by omega) (by omega)).mono ?_
      rintro e w3 ⟨a, ⟨a0, a1⟩, rfl, hd3, hg3⟩
      have hG3 := gb_trans (gb_trans HI.out.2.2.2 hg2) hg3
      have HO3 := Lib.hid ((HI.out.2.1.keepD2 hg2 hDo).keepD2 hg3 hDo)
      have HA := Lib.hid HI.out.1
      have hAL := HI.out.1.len
      have HLT := Lib.hid (fun g hg => (HO3.out.1.lt g hg).2)
      clear HI hg2 hg3 hd2
      have hal := (Below.refl w3.heap.size w3).alloc (Nat.le_refl _) (.cells #[.int .i64 q, .string ⟨#[]⟩, .int .i64 (1 + a)] 56)
      have hx4 := Row.new w3 56 #[.int .i64 q, .string ⟨#[]⟩, .int .i64 (1 + a)]
      have hG4 := gb_below hG3 hal
      have hd4 := hd3.below hal
      have HO4 := Lib.hid (HO3.out.kept hal)
      have hw3 := hG3.size
      have hD3 := hd3.lt
      obtain ⟨w4, hw4⟩ : ∃ w4, w3.alloc (.cells #[.int .i64 q, .string ⟨#[]⟩, .int .i64 (1 + a)] 56) = w4 := ⟨_, rfl⟩
      rw [hw4] at hx4 hG4 hd4 HO4
      clear hG3 hd3 HO3 hal
      obtain ⟨⟨y0, y1, y2, yl⟩, ⟨f0, f1, f2⟩⟩ := row3 hx4
      obtain ⟨bx, hbx⟩ : ∃ bx, w3.heap.size = bx := ⟨_, rfl⟩
      rw [hbx] at hx4 y0 y1 y2 yl f0 f1 f2 HLT
      have hbw : wo.heap.size ≤ bx := by omega
      have hbD : bx ≠ D := by omega
      by_cases h6 : q = 6
      · have e6 : (q != 6) = false := by simpa using h6
        obtain ⟨hfo, hfi⟩ := form_line (k := q) (c := ⟨#[]⟩) (a := 1 + a) ⟨q0, hq⟩ (.inl ⟨h6, rfl⟩) ⟨by omega, by omega⟩
        have HGA := Lib.hid (HA.out.snoc (x := ⟨q, ⟨#[]⟩, 1 + a⟩) rfl hfi hfo ⟨by show 1 ≤ 1 + a; omega, by show 1 + a ≤ 1000; omega⟩)
        clear h6 hfo hfi HA
        go_wp2_with (at_builtin; refine wpList_append_sl rfl (.tmp 37) (.tmp 39) rfl rowLn wo.heap.size _ _ (lns acc) [Ln.vals ⟨q, ⟨#[]⟩, 1 + a⟩] rfl (HO4.out.alloc _) rfl (Sl.one rfl rfl) (lns_wide [⟨q, ⟨#[]⟩, 1 + a⟩]) (by rw [lns_len]; unfold maxLen; simp; omega) (by rw [lns_len]; simp; omega) (by have := hG4.size; simp only [World.size_alloc]; omega) ?_; intro v6 w6 hown6 hg6 _)
        have hlt6 := fun g hg => (HO4.out.1.lt g hg).1
        have hG6 := gb_new (gb_alloc hG4 _) hg6 hlt6
        have hd6 := (hd4.below ((Below.refl w4.heap.size w4).alloc (Nat.le_refl _) _)).keep hg6 (fun g hg => Nat.lt_of_lt_of_le hDo (hlt6 g hg))
        have HEND : Hid (GoodA (acc ++ [⟨q, ⟨#[]⟩, 1 + a⟩]) (q + 1) ∧ Own w6 wo.heap.size 56 3 v6 (lns (acc ++ [⟨q, ⟨#[]⟩, 1 + a⟩])) ∧ Deck w6 D (di + 1 + 1) ∧ wo.grownBy w6 (some D)) := ⟨HGA.out, by rw [lns_append]; exact hown6, hd6, hG6⟩
        clear hw4 hbx y0 y1 y2 yl f0 f1 f2 hG6 hd6 hown6 hg6 HL hG4 hd4 HO4 hlt6 hx4
        go_roundw
        case rel => exact ⟨q + 1, _, di + 1 + 1, ⟨by omega, by omega⟩, by go_num, by omega, HEND.out⟩
        case measure => simp [intOf]; omega
      · have e6 : (q != 6) = true := by simpa using h6
        have h6' := Lib.hid h6
        clear h6
        go_wp2_with fail
        refine (Code_any D (di + 1 + 1) w4 hd4 (by omega)).mono ?_
        rintro e w5 ⟨c, hc, rfl, d5, hd5, hK5, hg5⟩
        have hx5 := hx4.keep hg5 (fun e => hbD (Option.some.inj e))
        have hG5 := gb_trans hG4 hg5
        have HO5 := Lib.hid (HO4.out.keepD2 hg5 hDo)
        clear hw4 hx4 hG4 hd4 hg5 HO4 y0 y1 y2 yl f0 f1 f2
        obtain ⟨⟨y0, y1, y2, yl⟩, ⟨f0, f1, f2⟩⟩ := row3 hx5
        have hx6 := hx5.set 1 (.string c)
        have hG6 := gb_set (p := ⟨bx, 1, none⟩) hG5 (.inr hbw) (.string c)
        have hK6 := hK5.keep (gb_set (p := ⟨bx, 1, none⟩) (World.grownBy.refl _ (some bx)) (.inl rfl) (.string c)) (fun g hg => by injection hg; omega)
        have HO6 := Lib.hid (HO5.out.keepG (grown_set w5 bx 1 (.string c)) (own_off HLT.out))
        obtain ⟨hfo, hfi⟩ := form_line (k := q) (c := c) (a := 1 + a) ⟨q0, hq⟩ (.inr ⟨h6'.out, hc⟩) ⟨by omega, by omega⟩
        have HGA := Lib.hid (HA.out.snoc (x := ⟨q, c, 1 + a⟩) rfl hfi hfo ⟨by show 1 ≤ 1 + a; omega, by show 1 + a ≤ 1000; omega⟩)
        clear hx5 hG5 HO5 hK5 hfo hfi HA
        obtain ⟨w6, hw6⟩ : ∃ w6, w5.setCell ⟨bx, 1, none⟩ (.string c) = w6 := ⟨_, rfl⟩
        rw [hw6] at hx6 hG6 hK6 HO6
        obtain ⟨⟨u0, u1, u2, ul⟩, -⟩ := row3 hx6
        go_wp2_with (at_builtin; refine wpList_append_sl rfl (.tmp 37) (.tmp 39) rfl rowLn wo.heap.size _ _ (lns acc) [Ln.vals ⟨q, c, 1 + a⟩] rfl (HO6.out.alloc _) rfl (Sl.one rfl rfl) (lns_wide [⟨q, c, 1 + a⟩]) (by rw [lns_len]; unfold maxLen; simp; omega) (by rw [lns_len]; simp; omega) (by have := hG6.size; simp only [World.size_alloc]; omega) ?_; intro v6 w7 hown6 hg6 _)
        have hlt6 := fun g hg => (HO6.out.1.lt g hg).1
        have hG7 := gb_new (gb_alloc hG6 _) hg6 hlt6
        have hd7 := (hK6.below ((Below.refl w6.heap.size w6).alloc (Nat.le_refl _) _)).keep hg6 (fun g hg => Nat.lt_of_lt_of_le hDo (hlt6 g hg))
        have HEND : Hid (GoodA (acc ++ [⟨q, c, 1 + a⟩]) (q + 1) ∧ Own w7 wo.heap.size 56 3 v6 (lns (acc ++ [⟨q, c, 1 + a⟩])) ∧ Deck w7 D d5 ∧ wo.grownBy w7 (some D)) := ⟨HGA.out, by rw [lns_append]; exact hown6, hd7, hG7⟩
        clear hbx hw6 y0 y1 y2 yl f0 f1 f2 u0 u1 u2 ul hG7 hd7 hown6 hg6 HL hG6 hK6 HO6 hlt6 hx6
        go_roundw
        case rel => exact ⟨q + 1, _, d5, ⟨by omega, by omega⟩, by go_num, by omega, HEND.out⟩
        case measure => simp [intOf]; omega
end Go.Proofs.YtnkephafpebfkaaGreatDoor
/- payrolllaw43.drawn. -/
namespace Go.Proofs.YtnkephafpebfkaaGreatDoor
open Go.RowKit

/-- a valid return has been drawn -/
def DrawnPost (w : World) (D dr : Nat) (e : Ending) (w' : World) : Prop :=
  ∃ (f : Ret) (v : Value) (d : Nat), e = .returned (.agg (f.vals v)) ∧ retB f = true ∧ (0 ≤ f.p ∧ f.p ≤ 2) ∧ (1 ≤ f.v ∧ f.v ≤ 4) ∧ f.l.length ≤ 3 ∧ Own w' w.heap.size 56 3 v (lns f.l) ∧ Deck w' D d ∧ d ≤ dr + 13 ∧ w.grownBy w' (some D)
set_option maxRecDepth 100000 in
set_option maxHeartbeats 4000000 in
theorem drawn_any (D dr : Nat) (w : World) (hd : Deck w D dr) (hdr : dr ≤ 900000) :
    Calls Tryz.prog 10 #[.pointer (some ⟨D, 0, none⟩)] w (DrawnPost w D dr) := by
  have hD := hd.lt
  have hr0 := Row.new w 25 #[.int .i64 0, .int .i64 0, .slice none 0 0]
  have hB0 := (Below.refl w.heap.size w).alloc (Nat.le_refl _) (.cells #[.int .i64 0, .int .i64 0, .slice none 0 0] 25)
  go_enter Tryz.func10, Tryz.ntmps10
  go_wp2_with fail
  obtain ⟨w0, hw0⟩ : ∃ w0, w.alloc (.cells #[.int .i64 0, .int .i64 0, .slice none 0 0] 25) = w0 := ⟨_, rfl⟩
  rw [hw0] at hr0 hB0 ⊢
  obtain ⟨r, hr⟩ : ∃ r, w.heap.size = r := ⟨_, rfl⟩
  rw [hr] at hr0 ⊢
  have hwr : w.heap.size ≤ r := by omega
  have hrD : r ≠ D := by omega
  have hd0 : Deck w0 D dr := by rw [← hw0]; exact hd.below ((Below.refl _ _).alloc (Nat.le_refl _) _)
  have hg0 : w.grownBy w0 (some D) := gb_below (World.grownBy.refl _ _) (by rw [← hw0]; exact (Below.refl _ _).alloc (Nat.le_refl _) _)
  clear hw0 hr hd hB0
  refine (Next_any D dr 3 w0 hd0 (by omega) (by omega) (by omega)).mono ?_
  rintro e w1 ⟨p, ⟨p0, p1⟩, rfl, hd1, hg1⟩
  go_wp2_with fail
  refine (Next_any D (dr + 1) 4 w1 hd1 (by omega) (by omega) (by omega)).mono ?_
  rintro e w2 ⟨u, ⟨u0, u1⟩, rfl, hd2, hg2⟩
  have hr2 := (hr0.keep hg1 (fun e => hrD (Option.some.inj e))).keep hg2 (fun e => hrD (Option.some.inj e))
  have hG2 := gb_trans (gb_trans hg0 hg1) hg2
  clear hr0 hd0 hg0 hd1 hg1 hg2
  have hal := (Below.refl w2.heap.size w2).alloc (Nat.le_refl _) (.cells #[.int .i64 p, .int .i64 (1 + u), .slice none 0 0] 25)
  have hx3 := Row.new w2 25 #[.int .i64 p, .int .i64 (1 + u), .slice none 0 0]
  have hr3 := hr2.below hal hr2.lt
  have hG3 := gb_below hG2 hal
  have hd3 := hd2.below hal
  have hr2l := hr2.lt
  have hw2 := hG2.size
  have hD2 := hd2.lt
  clear hr2 hG2 hd2
  go_wp2_with fail
  obtain ⟨w3, hw3⟩ : ∃ w3, w2.alloc (.cells #[.int .i64 p, .int .i64 (1 + u), .slice none 0 0] 25) = w3 := ⟨_, rfl⟩
  rw [hw3] at hx3 hr3 hG3 hd3 hal ⊢
  obtain ⟨m, hm⟩ : ∃ m, w2.heap.size = m := ⟨_, rfl⟩
  rw [hm] at hx3 ⊢
  have hmr : ¬ m = r := by omega
  have hrm : ¬ r = m := by omega
  have hmD : m ≠ D := by omega
  have hwm : w.heap.size ≤ m := by omega
  clear hw3 hm hal
  refine (Returns_any D (dr + 1 + 1) 1 w3 hd3 (by omega) (by omega)).mono ?_
  rintro e w4 ⟨xv, ps, d4, rfl, hgood, hpl, hown, hd4, hdd, hg4⟩
  have hG4 := gb_trans hG3 hg4
  have hr4 := hr3.keep hg4 (fun e => hrD (Option.some.inj e))
  have hx4 := hx3.keep hg4 (fun e => hmD (Option.some.inj e))
  have hw3 := hG3.size
  have hr3l := hr3.lt
  have hm3l := hx3.lt
  clear hr3 hx3 hg4 hd3
  obtain ⟨A4, c4, rfl⟩ := hown.own.form
  rw [rets_len] at hown ⊢
  obtain ⟨⟨a0, a1, a2, al⟩, ⟨b0, b1, b2⟩⟩ := row3 hr4
  obtain ⟨⟨d0, d1, d2, dl⟩, ⟨f0, f1, f2⟩⟩ := row3 hx4
  have hmk : ∀ l : List Ln, ordB l = true → (∀ y ∈ l, filedB y.kind = true) → l.length ≤ 3 → retB ⟨p, 1 + u, l⟩ = true := fun l h1 h2 h3 =>
    (retB_iff _).2 ⟨p0, by show p ≤ 84005; omega, by show 1 ≤ 1 + u; omega, by show 1 + u ≤ 65536; omega, by show l.length ≤ 256; omega, h2, h1⟩
  have HMK := Lib.hid hmk
  have HGD := Lib.hid hgood
  clear hmk hgood
  by_cases h0 : ps.length = 0
  · obtain rfl : ps = [] := List.eq_nil_of_length_eq_zero h0
    have hS := Row.set3 hr4 (.int .i64 p) (.int .i64 (1 + u)) (.slice none 0 0)
    have HG := Lib.hid (gb_set (p := ⟨r, 2, none⟩) (gb_set (p := ⟨r, 1, none⟩) (gb_set (p := ⟨r, 0, none⟩) hG4 (.inr hwr) (.int .i64 p)) (.inr hwr) (.int .i64 (1 + u))) (.inr hwr) (.slice none 0 0))
    have HK := Lib.hid (hd4.keep (gb_set (p := ⟨r, 2, none⟩) (gb_set (p := ⟨r, 1, none⟩) (gb_set (p := ⟨r, 0, none⟩) (World.grownBy.refl _ (some r)) (.inl rfl) (.int .i64 p)) (.inl rfl) (.int .i64 (1 + u))) (.inl rfl) (.slice none 0 0)) (fun g hg => by injection hg; omega))
    have HR := Lib.hid (row3 hS).1
    simp only [List.length_nil] at hown ⊢
    clear hS hr4 hx4 hown hd4 hG4
    go_wp2
    obtain ⟨z0, z1, z2, -⟩ := HR.out
    refine bodyPost_ret (v := .agg #[.int .i64 p, .int .i64 (1 + u), .slice none 0 0]) (by simp only [results, Tryz.results10, go_sem]; simp [z0, z1, z2, go_sem]) rfl ?_
    exact ⟨⟨p, 1 + u, []⟩, .slice none 0 0, d4, rfl, HMK.out [] rfl (fun y hy => by cases hy) (by simp), ⟨p0, by show p ≤ 2; omega⟩, ⟨by show 1 ≤ 1 + u; omega, by show 1 + u ≤ 4; omega⟩, by simp, Own.nil _ _ _ _, HK.out, by omega, HG.out⟩
  · obtain ⟨q, rfl⟩ : ∃ q, ps = [q] := by
      match ps, h0, hpl with
      | [q], _, _ => exact ⟨q, rfl⟩
      | a :: b :: t, _, h => simp at h
    obtain ⟨x, xv⟩ := q
    simp only [List.length_cons, List.length_nil, Nat.zero_add] at hown ⊢
    have hxg := HGD.out 0 (by simp)
    simp only [List.map_cons, List.map_nil, List.getElem_cons_zero] at hxg
    obtain ⟨hx1, -, -, hx3⟩ := hxg
    have hxo := (retB_iff _).1 hx1
    have hln := hown.ln (x, xv) (by simp)
    simp only at hln
    obtain ⟨Ax, cx, rfl⟩ := hln.form
    rw [lns_len] at hln
    obtain ⟨bk, off, rfl, hc⟩ := hown.at.sl.cells (by simp [rets])
    have hc2 := (hc.ret (k := 0) (by simp)).2.2
    simp only [List.getElem_cons_zero, Nat.zero_mul, Nat.add_zero] at hc2
    rw [lns_len] at hc2
    have hbl := hc.1
    have hcap : 1 ≤ c4 := by
      obtain ⟨A', cap', hv, k1, _⟩ := hown.at.sl
      injection hv with e1 e2 e3
      subst e3
      simpa [rets] using k1
    have HOR := Lib.hid hxo.o
    have HKK := Lib.hid hxo.k
    have hne : ∀ z, z < w3.heap.size → Value.ownBlock (.slice Ax x.l.length cx) ≠ some z := fun z hz e => by have := (hln.1.lt z e).1; omega
    have hx5 := hx4.set 2 (.slice Ax x.l.length cx)
    have hr5 := hr4.far (p := ⟨m, 2, none⟩) (show r ≠ m from hrm) (.slice Ax x.l.length cx)
    have hG5 := gb_set (p := ⟨m, 2, none⟩) hG4 (.inr hwm) (.slice Ax x.l.length cx)
    have hK5 := hd4.keep (gb_set (p := ⟨m, 2, none⟩) (World.grownBy.refl _ (some m)) (.inl rfl) (.slice Ax x.l.length cx)) (fun g hg => by injection hg; omega)
    have hO5 := own_setL hln (hne m hm3l) 2 (.slice Ax x.l.length cx)
    have HR := Lib.hid (row3 (Row.set3 hr5 (.int .i64 p) (.int .i64 (1 + u)) (.slice Ax x.l.length cx))).1
    have HG := Lib.hid (gb_set (p := ⟨r, 2, none⟩) (gb_set (p := ⟨r, 1, none⟩) (gb_set (p := ⟨r, 0, none⟩) hG5 (.inr hwr) (.int .i64 p)) (.inr hwr) (.int .i64 (1 + u))) (.inr hwr) (.slice Ax x.l.length cx))
    have HK := Lib.hid (hK5.keep (gb_set (p := ⟨r, 2, none⟩) (gb_set (p := ⟨r, 1, none⟩) (gb_set (p := ⟨r, 0, none⟩) (World.grownBy.refl _ (some r)) (.inl rfl) (.int .i64 p)) (.inl rfl) (.int .i64 (1 + u))) (.inl rfl) (.slice Ax x.l.length cx)) (fun g hg => by injection hg; omega))
    have HO := Lib.hid ((own_set3 hO5 (hne r hr3l) (.int .i64 p) (.int .i64 (1 + u)) (.slice Ax x.l.length cx)).more hw3)
    clear hx5 hr5 hG5 hK5 hO5 hr4 hx4 hown hd4 hG4 hln hne hc hx1 hxo HGD h0
    go_wp2
    obtain ⟨z0, z1, z2, -⟩ := HR.out
    refine bodyPost_ret (v := .agg #[.int .i64 p, .int .i64 (1 + u), .slice Ax x.l.length cx]) (by simp only [results, Tryz.results10, go_sem]; simp [z0, z1, z2, go_sem]) rfl ?_
    exact ⟨⟨p, 1 + u, x.l⟩, .slice Ax x.l.length cx, d4, rfl, HMK.out x.l HOR.out HKK.out hx3, ⟨p0, by show p ≤ 2; omega⟩, ⟨by show 1 ≤ 1 + u; omega, by show 1 + u ≤ 4; omega⟩, hx3, HO.out, HK.out, by omega, HG.out⟩
end Go.Proofs.YtnkephafpebfkaaGreatDoor
/- Contracts of package paygen: ShortLines, Lines. -/
namespace Go.Proofs.YtnkephafpebfkaaGreatDoor
open Go.RowKit

/-- few lines with short codes -/
def shortLB (l : List Ln) : Bool := decide (l.length ≤ 60) && l.all fun p => decide (p.code.size ≤ 60)
set_option maxHeartbeats 800000 in
theorem ShortLines_any (v : Value) (l : List Ln) (w : World) (hv : Sl w 3 v (lns l)) :
    Calls Tryz.prog 7 #[v] w fun e w' => e = .returned (.bool (shortLB l)) ∧ Below w.heap.size w w' := by
  obtain ⟨A, cap, rfl, h1, h2, x1, h3⟩ := hv
  rw [lns_len] at h1 ⊢
  unfold maxLen at h2
  have H3 := Lib.hid h3
  clear h3 x1
  by_cases hn : l.length ≤ 60
  rotate_left
  · have H : Hid (shortLB l = false) := by simp only [Hid, shortLB, decide_eq_false hn, Bool.false_and]
    go_enter Tryz.func7, Tryz.ntmps7
    go_wp2
    go_ret
    exact ⟨ret_bool H.out.symm, Below.refl _ _⟩
  have dl : decide ((60 : Int) < (l.length : Int)) = false := decide_eq_false (by omega)
  go_enter Tryz.func7, Tryz.ntmps7
  go_wp2
  go_loopw [3] (fun i wr => ∃ k : Nat, k ≤ l.length ∧ i = .int .i64 k ∧ Below w.heap.size w wr ∧ Hid ((l.take k).all (fun p => decide (p.code.size ≤ 60)) = true)) (fun i _ => l.length - (intOf i).toNat)
  case atStart => exact ⟨0, by omega, rfl, Below.refl _ _, rfl⟩
  case round =>
    obtain ⟨k, hk, rfl, hb, HV⟩ := hrel
    by_cases hlt : k < l.length
    · rcases H3.out with h | ⟨b, off, rfl, hc0⟩
      · exact (lns_pos hlt h).elim
      · obtain ⟨_, c4, _⟩ := (hc0.below hb hc0.1).ln hlt
        clear H3 hc0
        by_cases hs : l[k].code.size ≤ 60
        · have HSN : Hid ((l.take (k + 1)).all (fun p => decide (p.code.size ≤ 60)) = true) := by
            rw [Hid, List.take_succ_eq_append_getElem hlt, List.all_append, HV.out]; simp [hs]
          go_wp2
          go_roundw
          case rel => exact ⟨k + 1, by omega, by go_num, hb, HSN⟩
          case measure => simp [intOf]; omega
        · have H : Hid (shortLB l = false) := by
            rw [Hid, Bool.eq_false_iff]
            intro hh
            simp only [shortLB, Bool.and_eq_true, List.all_eq_true, decide_eq_true_eq] at hh
            exact hs (hh.2 _ (List.getElem_mem hlt))
          go_wp2
          go_ret
          exact ⟨ret_bool H.out.symm, hb⟩
    · go_wp2
      go_ret
      refine ⟨ret_bool ?_, hb⟩
      have := HV.out
      rw [List.take_of_length_le (by omega)] at this
      rw [shortLB, this, decide_eq_true hn]; rfl

/-- drawn lines -/
def GoodL (l : List Ln) : Prop := ∀ x ∈ l, formB x = true ∧ (-600001 ≤ x.amt ∧ x.amt ≤ 600001)
def LinesPost (w : World) (D dr n : Nat) (e : Ending) (w' : World) : Prop :=
  ∃ (x : Value) (l : List Ln) (d : Nat), e = .returned x ∧ GoodL l ∧ l.length ≤ n ∧ Own w' w.heap.size 56 3 x (lns l) ∧ Deck w' D d ∧ d ≤ dr + 1 + 6 * n ∧ w.grownBy w' (some D)
theorem Own.keepD' {w w' : World} {base e sz D : Nat} {v : Value} {es : List (List Value)} (h : Own w base e sz v es) (hg : w.grownBy w' (Option.some D)) (hD : D < base) : Own w' base e sz v es := by
  refine ⟨h.1.kept hg ?_, h.2⟩
  cases hv : v.ownBlock with
  | none => exact .inl rfl
  | some g => exact .inr fun e => by have := (h.1.lt g hv).1; injection e with e; omega

set_option maxRecDepth 100000 in
set_option maxHeartbeats 1600000 in
theorem Lines_any (D dr n : Nat) (w : World) (hd : Deck w D dr) (hdr : dr ≤ 1000000) (hn : n ≤ 100) :
    Calls Tryz.prog 12 #[.pointer (some ⟨D, 0, none⟩), .int .i64 n] w (LinesPost w D dr n) := by
  have hD := hd.lt
  go_enter Tryz.func12, Tryz.ntmps12
  go_wp2_with fail
  refine (Next_any D dr _ _ hd (by omega) (by omega) (by omega)).mono ?_
  rintro e w1 ⟨r, ⟨hr1, hr2⟩, rfl, hd1, hg1⟩
  obtain ⟨K, rfl⟩ := Int.eq_ofNat_of_zero_le hr1
  have hKn : K ≤ n := by omega
  go_wp2_with fail
  go_loopw [5, 6] (fun t5 t6 wr => ∃ (k d : Nat) (l : List Ln), k ≤ K ∧ t6 = .int .i64 k ∧ Hid (GoodL l) ∧ l.length ≤ K - k ∧ Own wr w.heap.size 56 3 t5 (lns l) ∧ Deck wr D d ∧ d ≤ dr + 1 + 6 * (K - k) ∧ w.grownBy wr (some D)) (fun _ t6 _ => (intOf t6).toNat)
  case atStart => exact ⟨K, dr + 1, [], Nat.le_refl _, rfl, (fun _ h => by cases h), by simp, Own.nil _ _ _ _, hd1, by omega, hg1⟩
  case round =>
    obtain ⟨k, d, l, hk, rfl, HG, hll, hown, hK, hdd, hg⟩ := hrel
    have hws := hg.size
    by_cases hpos : 0 < k
    · have dp : decide ((0 : Int) < (k : Int)) = true := decide_eq_true (by omega)
      go_wp2_with fail
      refine (Line_any D d wr hK (by omega)).mono ?_
      rintro e w2 ⟨x, hx1, hx2, rfl, d2, hd2, hK2, hg2⟩
      have hown2 := hown.keepD' hg2 hD
      have hgg := hg.trans hg2
      have hws2 := hgg.size
      have HG2 : Hid (GoodL (l ++ [x])) := fun y hy => by
        rcases List.mem_append.1 hy with hy | hy
        · exact HG.out y hy
        · rw [List.mem_singleton.1 hy]; exact ⟨hx1, hx2⟩
      clear hown hK hg hg2 hx1 hx2
      have hDb : D < w2.heap.size := hK2.lt
      go_wp2_with (at_builtin; refine wpList_append_sl rfl (.tmp 15) (.tmp 18) rfl rowLn w.heap.size _ _ _ (lns [x]) rfl (hown2.alloc _) rfl (Sl.one rfl rfl) (lns_wide _) (by rw [lns_len, lns_len]; unfold maxLen; simp; omega) (by rw [lns_len, lns_len]; simp; omega) (by simp; omega) ?_; intro v4 w4 hown4 hg4 _; have hG4 := gb_new (gb_alloc hgg _) hg4 (fun g hg => (hown2.1.lt g hg).1); have hK4 := (hK2.below ((Below.refl _ _).alloc (Nat.le_refl _) _)).keep hg4 (fun g hg => Nat.lt_of_lt_of_le hD (hown2.1.lt g hg).1); rw [← lns_append] at hown4)
      go_roundw
      case rel => exact ⟨k - 1, d2, _, by omega, by go_num, HG2, by simp; omega, hown4, hK4, by omega, hG4⟩
      case measure => simp [intOf]; omega
    · have dp : decide ((0 : Int) < (k : Int)) = false := decide_eq_false (by omega)
      go_wp2
      go_ret
      exact ⟨_, l, d, rfl, HG.out, by omega, hown, hK, by omega, hg⟩
end Go.Proofs.YtnkephafpebfkaaGreatDoor
/- Contract of filing.Decode. -/
namespace Go.Proofs.YtnkephafpebfkaaGreatDoor
open Go.RowKit Go.Shelf

/-- the call returns a return and a number -/
def RetRet (f : Ret) (er : Int) (w : World) (e : Ending) (w' : World) : Prop :=
  ∃ v, e = .returned (.tuple #[.agg (f.vals v), .int .i64 er]) ∧ Own w' w.heap.size 56 3 v (lns f.l) ∧ Below w.heap.size w w'
theorem RetRet.no {f : Ret} {er : Int} {w w' : World} (h : f = ⟨0, 0, []⟩) (hb : Below w.heap.size w w') : RetRet f er w (.returned (.tuple #[.agg #[.int .i64 0, .int .i64 0, .slice none 0 0], .int .i64 er])) w' := by
  subst h; exact ⟨_, rfl, Own.nil _ _ _ _, hb⟩
set_option maxRecDepth 100000 in
set_option maxHeartbeats 2000000 in
theorem DecodeR_any (s : ByteArray) (w : World) (hT : Tabs w) (hE : Errs w) :
    Calls Tryz.prog 18 #[.string s] w (RetRet (decR s.data.toList) (decE s.data.toList) w) := by
  have HT := Lib.hid hT
  have HER := Lib.hid hE
  clear hT hE
  have hsz : s.data.toList.length = s.size := by simp
  have hr0 := Row.new w 25 #[.int .i64 0, .int .i64 0, .slice none 0 0]
  have hB0 := (Below.refl w.heap.size w).alloc (Nat.le_refl _) (.cells #[.int .i64 0, .int .i64 0, .slice none 0 0] 25)
  by_cases hl : 65536 < s.size
  · have HD : Hid (decE s.data.toList = 3) := by rw [Hid, decE, if_pos (by omega)]
    have HD2 := Lib.hid (decR_no (s := s.data.toList) (by rw [HD.out]; decide))
    go_enter Tryz.func18, Tryz.ntmps18
    go_wp2
    refine bodyPost_ret (v := .tuple #[.agg #[.int .i64 0, .int .i64 0, .slice none 0 0], .int .i64 3]) (by simp [results, Tryz.results18, go_sem]) rfl ?_
    rw [HD.out]
    exact RetRet.no HD2.out hB0
  have HDE : Hid (decE s.data.toList = match parseR s.data.toList with
    | some r => if retB r then 0 else 6
    | none => 6) := by rw [Hid, decE, if_neg (by omega)]; rfl
  clear hsz
  go_enter Tryz.func18, Tryz.ntmps18
  go_wp2_with fail
  obtain ⟨w0, hw0⟩ : ∃ w0, w.alloc (.cells #[.int .i64 0, .int .i64 0, .slice none 0 0] 25) = w0 := ⟨_, rfl⟩
  rw [hw0] at hr0 hB0 ⊢
  obtain ⟨r, hr⟩ : ∃ r, w.heap.size = r := ⟨_, rfl⟩
  rw [hr] at hr0 ⊢
  have hwr : w.heap.size ≤ r := by omega
  clear hw0
  refine (parseR_any s w0 (HT.out.below hB0) (HER.out.below hB0) (by omega)).mono ?_
  rintro e w1 ⟨hb1, hp⟩
  have hB1 := below_after hB0 hb1 hB0.size
  have hr1 := hr0.below hb1 hr0.lt
  have hz0 := hB0.size
  have hr0l := hr0.lt
  have hs1 := hB1.size
  clear hB0 hr0 hb1
  have H0 : ∀ W er, Below w.heap.size w W → decE s.data.toList = er → er ≠ 0 → RetRet (decR s.data.toList) (decE s.data.toList) w (.returned (.tuple #[.agg #[.int .i64 0, .int .i64 0, .slice none 0 0], .int .i64 er])) W := fun W er hb he hn => by
    rw [he]; exact RetRet.no (decR_no (by rw [he]; exact hn)) hb
  have HNO := Lib.hid H0
  clear H0
  rcases hp with ⟨f, v, hpf, rfl, hown⟩ | ⟨hpf, rfl⟩
  rotate_left
  · have HE : Hid (decE s.data.toList = 6) := by rw [Hid, HDE.out, hpf]
    have hq := Below.set3 hB1 hwr (.int .i64 0) (.int .i64 0) (.slice none 0 0)
    have hQ := (hq.alloc hq.size (.cells #[.int .i64 0, .int .i64 0, .slice none 0 0] 25))
    have hR := ((Row.set3 hr1 (.int .i64 0) (.int .i64 0) (.slice none 0 0)).alloc (.cells #[.int .i64 0, .int .i64 0, .slice none 0 0] 25))
    obtain ⟨⟨a0, a1, a2, al⟩, ⟨b0, b1, b2⟩⟩ := row3 hr1
    have HR := Lib.hid (row3 hR).1
    have HQ := Lib.hid hQ
    clear hq hQ hR hr1 hpf
    go_wp2
    obtain ⟨z0, z1, z2, -⟩ := HR.out
    refine bodyPost_ret (v := .tuple #[.agg #[.int .i64 0, .int .i64 0, .slice none 0 0], .int .i64 6]) (by simp only [results, Tryz.results18, go_sem]; simp [z0, z1, z2, go_sem]) rfl ?_
    exact HNO.out _ 6 HQ.out HE.out (by decide)
  · have HVL : Hid (f.vals v = #[.int .i64 f.p, .int .i64 f.v, v]) := rfl
    rw [HVL.out]
    have HPF := Lib.hid hpf
    have HD2 : Hid (decE s.data.toList = if retB f then 0 else 6) := by rw [Hid, HDE.out, hpf]
    have hsl := hown.sl (by omega)
    obtain ⟨Av, cv, rfl⟩ := hown.form
    rw [lns_len] at hown hsl HVL ⊢
    have hx1 := Row.new w1 25 #[.int .i64 f.p, .int .i64 f.v, .slice Av f.l.length cv]
    have hx3 := (Below.refl w1.heap.size w1).alloc (Nat.le_refl _) (.cells #[.int .i64 f.p, .int .i64 f.v, .slice Av f.l.length cv] 25)
    clear hpf
    obtain ⟨w2, hw2⟩ : ∃ w2, w1.alloc (.cells #[.int .i64 f.p, .int .i64 f.v, .slice Av f.l.length cv] 25) = w2 := ⟨_, rfl⟩
    rw [hw2] at hx1 hx3
    have hB2 := below_after hB1 hx3 hB1.size
    have hr2 := hr1.below hx3 hr1.lt
    have HS2 := Lib.hid (hsl.below hx3)
    have HO2 := Lib.hid (hown.kept hx3)
    have HV : Hid (Calls Tryz.prog 15 #[.agg #[.int .i64 f.p, .int .i64 f.v, .slice Av f.l.length cv]] w2 fun e w' => e = .returned (.bool (retB f)) ∧ Below w2.heap.size w2 w') := ValidR_any f _ w2 HS2.out
    obtain ⟨⟨y0, y1, y2, yl⟩, -⟩ := row3 hx1
    go_wp2_with fail
    refine HV.out.mono ?_
    rintro e w3 ⟨rfl, hb3⟩
    have hB3 := below_after hB2 hb3 hB2.size
    have hr3 := hr2.below hb3 hr2.lt
    have hy1 := hx1.below hb3 hx1.lt
    have HO3 := Lib.hid (HO2.out.kept hb3)
    obtain ⟨b, hb⟩ : ∃ b, w1.heap.size = b := ⟨_, rfl⟩
    rw [hb] at hy1 ⊢
    clear hB2 hr2 hx1 HS2 HO2 hb3 HV y0 y1 y2 yl hw2 hx3 hr1 hB1 hown hsl hb
    obtain ⟨⟨a0, a1, a2, al⟩, ⟨b0, b1, b2⟩⟩ := row3 hr3
    cases hF : retB f
    · rw [hF] at HD2
      have HE : Hid (decE s.data.toList = 6) := HD2.out
      have HQ := Lib.hid (Below.set3 hB3 hwr (.int .i64 0) (.int .i64 0) (.slice none 0 0))
      have HR := Lib.hid (row3 (Row.set3 hr3 (.int .i64 0) (.int .i64 0) (.slice none 0 0))).1
      clear hF hr3 hy1 hB3
      go_wp2
      obtain ⟨z0, z1, z2, -⟩ := HR.out
      refine bodyPost_ret (v := .tuple #[.agg #[.int .i64 0, .int .i64 0, .slice none 0 0], .int .i64 6]) (by simp only [results, Tryz.results18, go_sem]; simp [z0, z1, z2, go_sem]) rfl ?_
      exact HNO.out _ 6 HQ.out HE.out (by decide)
    · rw [hF] at HD2
      have HD3 : Hid (decE s.data.toList = 0) := HD2.out
      obtain ⟨⟨c0, c1, c2, cl⟩, -⟩ := row3 hy1
      have HFI : Hid (decR s.data.toList = f) := by rw [Hid, decR, if_pos HD3.out, HPF.out]
      have hS := Row.set3 hr3 (.int .i64 f.p) (.int .i64 f.v) (.slice Av f.l.length cv)
      have HQ := Lib.hid (Below.set3 hB3 hwr (.int .i64 f.p) (.int .i64 f.v) (.slice Av f.l.length cv))
      have HR := Lib.hid (row3 hS).1
      have HON := Lib.hid (own3 HO3.out (r := r) hr0l (.int .i64 f.p) (.int .i64 f.v) (.slice Av f.l.length cv))
      clear hF hr3 hy1 hS hB3
      go_wp2
      obtain ⟨z0, z1, z2, -⟩ := HR.out
      refine bodyPost_ret (v := .tuple #[.agg #[.int .i64 f.p, .int .i64 f.v, .slice Av f.l.length cv], .int .i64 0]) (by simp only [results, Tryz.results18, go_sem]; simp [z0, z1, z2, go_sem]) rfl ?_
      rw [HD3.out, HFI.out]
      exact ⟨_, rfl, HON.out.more hz0, HQ.out⟩
end Go.Proofs.YtnkephafpebfkaaGreatDoor
/- filing.Authority: New, Submit. -/
namespace Go.Proofs.YtnkephafpebfkaaGreatDoor
open Go.RowKit Go.Shelf

/-- an authority in block B with its map in block M -/
structure AuthS (w : World) (B M : Nat) (es : List (Ret × Value)) : Prop where
  box : Row w B 89 #[.map (some M)]
  map : w.heap[M]? = some (iObj (es.map entA))
  ln : ∀ p ∈ es, Sl w 3 p.2 (lns p.1.l)
  val : ∀ p ∈ es, retB p.1 = true
  dist : DistR (es.map (·.1))
theorem AuthS.below {w w' : World} {B M : Nat} {es : List (Ret × Value)} (h : AuthS w B M es) (hb : Below w.heap.size w w') : AuthS w' B M es :=
  ⟨h.box.below hb h.box.lt, (hb.block M (lt_of_some h.map)).trans h.map, fun p hp => (h.ln p hp).below hb, h.val, h.dist⟩
theorem grownBy_of_below {w w' : World} {row : Option Nat} (h : Below w.heap.size w w') : w.grownBy w' row := ⟨h.os, h.tape, h.output, h.size, fun k hk _ => h.block k hk⟩
theorem grown_trans' {w w1 w2 : World} {row : Option Nat} (h1 : w.grownBy w1 row) (h2 : w1.grownBy w2 row) : w.grownBy w2 row :=
  ⟨h2.os.trans h1.os, h2.tape.trans h1.tape, h2.output.trans h1.output, Nat.le_trans h1.size h2.size, fun i hi hne => (h2.block i (Nat.lt_of_lt_of_le hi h1.size) hne).trans (h1.block i hi hne)⟩
theorem auth_ty : Tryz.prog.underlying 87 = some (.map 3 25) := Tryz.underlying87
theorem zero_ret (w : World) : (zeroValue 25).run Tryz.prog w = .ok (.agg #[.int .i64 0, .int .i64 0, .slice none 0 0]) w := by kernel_rfl
theorem eq_nil_map (m : Nat) (w : World) : (binOp .eql 87 (.map (some m)) (.map none)).run Tryz.prog w = .ok (.bool false) w := by kernel_rfl
theorem eq_nil_auth (b : Nat) (w : World) : (binOp .eql 44 (.pointer (some ⟨b, 0, none⟩)) (.pointer none)).run Tryz.prog w = .ok (.bool false) w := by kernel_rfl
theorem field_ver (x y : Int) (A : Option Addr) (n c : Nat) (w : World) : (Instr.field 25 (.agg #[.int .i64 x, .int .i64 y, .slice A n c]) 1).run Tryz.prog w = .ok (.int .i64 y) w := by kernel_rfl
theorem NewA_any (w : World) : Calls Tryz.prog 21 #[] w fun e w' => ∃ B M, e = .returned (.pointer (some ⟨B, 0, none⟩)) ∧ AuthS w' B M [] ∧ Below w.heap.size w w' ∧ w.heap.size ≤ M ∧ M < B := by
  have hmm := @run_makeMap Tryz.prog
  go_enter Tryz.func21, Tryz.ntmps21
  go_wp2
  go_ret
  have hb := (Below.refl w.heap.size w).alloc (Nat.le_refl _) (.map #[] 0)
  refine ⟨w.heap.size + 1, w.heap.size, rfl, ⟨?_, ?_, (fun p hp => absurd hp (by simp)), (fun p hp => absurd hp (by simp)), .nil⟩, hb.alloc hb.size _, Nat.le_refl _, by omega⟩
  · have := Row.new (w.alloc (.map #[] 0)) 89 #[.map (some w.heap.size)]
    rwa [World.size_alloc] at this
  · exact (Below.heap_alloc _ _ _ (by simp)).trans (heap_alloc_new w _)
/-- a slice of the call's own does not lie in a map -/
theorem own_not_map {w : World} {base e sz M n : Nat} {v : Value} {es : List (List Value)} {a : Array MapEntry} (h : Own w base e sz v es) (hm : w.heap[M]? = some (.map a n)) : v.ownBlock = none ∨ v.ownBlock ≠ some M := by
  cases hv : v.ownBlock with
  | none => exact .inl rfl
  | some g =>
    refine .inr fun e => ?_
    rcases h.1.2 with ⟨rfl, _⟩ | ⟨g1, c1, cur1, rfl, _, hg1, _⟩
    · simp [Value.ownBlock] at hv
    · simp only [Value.ownBlock, Option.some.injEq] at hv e
      rw [hv, e, hm] at hg1
      cases hg1
/-- the version that the map knows -/
theorem get_ver {w : World} {B M : Nat} {es : List (Ret × Value)} (h : AuthS w B M es) (p : Int) : ∃ (x : Int) (A : Option Addr) (n c : Nat), ((getI (es.map entA) p).getD (.agg #[.int .i64 0, .int .i64 0, .slice none 0 0])) = .agg #[.int .i64 x, .int .i64 (verP (es.map (·.1)) p), .slice A n c] := by
  obtain ⟨h1, h2⟩ := get_ret h.dist p
  cases hh : hasP (es.map (·.1)) p
  · rw [h2 hh, verP_lat, latP_no hh]
    exact ⟨0, none, 0, 0, rfl⟩
  · obtain ⟨v, hv, he⟩ := h1 hh
    obtain ⟨A, n, c, hv'⟩ := (h.ln _ hv).is
    rw [he, verP_lat]
    simp only at hv'
    exact ⟨_, A, n, c, by rw [Option.getD_some, Ret.vals, hv']⟩
/-- what Submit leaves -/
def SubT (w : World) (B M : Nat) (es : List (Ret × Value)) (s : List UInt8) (e : Ending) (w' : World) : Prop :=
  ∃ es', e = .returned (.int .i64 (subE (es.map (·.1)) s)) ∧ AuthS w' B M es' ∧ es'.map (·.1) = subA (es.map (·.1)) s ∧ w.grownBy w' (some M) ∧ ∀ p ∈ es', p ∈ es ∨ Own w' w.heap.size 56 3 p.2 (lns p.1.l)
set_option maxRecDepth 100000 in
set_option maxHeartbeats 4000000 in
theorem SubmitA_any (B M : Nat) (es : List (Ret × Value)) (s : ByteArray) (w : World) (hb : AuthS w B M es) (hT : Tabs w) (hE : Errs w) :
    Calls Tryz.prog 24 #[.pointer (some ⟨B, 0, none⟩), .string s] w (SubT w B M es s.data.toList) := by
  have HS : Hid (subE (es.map (·.1)) s.data.toList = if decE s.data.toList = 0 then (if (decR s.data.toList).v ≤ verP (es.map (·.1)) (decR s.data.toList).p then 8 else if verP (es.map (·.1)) (decR s.data.toList).p + 1 < (decR s.data.toList).v then 16 else 0) else decE s.data.toList) := rfl
  have HF : Hid (subA (es.map (·.1)) s.data.toList = if subE (es.map (·.1)) s.data.toList = 0 then putR (es.map (·.1)) (decR s.data.toList) else (es.map (·.1))) := rfl
  have HB := Lib.hid hb
  clear hb
  have hq := eq_nil_auth B
  have HD := Lib.hid (DecodeR_any s w hT hE)
  obtain ⟨f, hf⟩ : ∃ f, decR s.data.toList = f := ⟨_, rfl⟩
  obtain ⟨er, her⟩ : ∃ er, decE s.data.toList = er := ⟨_, rfl⟩
  rw [hf, her] at HD
  rw [hf, her] at HS
  rw [hf] at HF
  have HFV : Hid (er = 0 → retB f = true) := fun h => by
    have := (decE_ok (her.trans h)).2
    rwa [hf] at this
  clear hf her
  go_enter Tryz.func24, Tryz.ntmps24
  go_wp2_with fail
  refine HD.out.mono ?_
  rintro e w1 ⟨v, rfl, hown, hb1⟩
  have hvl : f.vals v = #[.int .i64 f.p, .int .i64 f.v, v] := rfl
  rw [hvl]
  clear hvl hq
  have hB1 := HB.out.below hb1
  obtain ⟨Av, cv, rfl⟩ := hown.form
  rw [lns_len] at hown ⊢
  have hs1 := hb1.size
  by_cases h0 : er = 0
  rotate_left
  · have hne : (er != 0) = true := by simpa using h0
    have HS2 : Hid (subE (es.map (·.1)) s.data.toList = er) := by rw [Hid, HS.out, if_neg h0]
    have HF2 : Hid (subA (es.map (·.1)) s.data.toList = es.map (·.1)) := by rw [Hid, HF.out, HS2.out, if_neg h0]
    have HBN := Lib.hid (hB1.below ((Below.refl w1.heap.size w1).alloc (Nat.le_refl _) (.cells #[.int .i64 f.p, .int .i64 f.v, .slice Av f.l.length cv] 25)))
    have HG : Hid (w.grownBy (w1.alloc (.cells #[.int .i64 f.p, .int .i64 f.v, .slice Av f.l.length cv] 25)) (some M)) := grownBy_of_below (hb1.alloc hs1 _)
    clear h0 hB1 hown
    go_wp2
    go_ret
    exact ⟨es, by rw [HS2.out]; rfl, HBN.out, HF2.out.symm, HG.out, fun p hp => .inl hp⟩
  · subst h0
    have hfv := (retB_iff _).1 (HFV.out (by trivial))
    have hv0 := hfv.v0
    have hv1 := hfv.v1
    have hx := Row.new w1 25 #[.int .i64 f.p, .int .i64 f.v, .slice Av f.l.length cv]
    have hal := (Below.refl w1.heap.size w1).alloc (Nat.le_refl _) (.cells #[.int .i64 f.p, .int .i64 f.v, .slice Av f.l.length cv] 25)
    have hB2 := hB1.below hal
    have hb2 := below_after hb1 hal hs1
    have hO2 := Lib.hid (hown.kept hal)
    obtain ⟨x, A', n', c', hget⟩ := get_ver hB1 f.p
    obtain ⟨kv, hkv⟩ : ∃ kv, verP (es.map (·.1)) f.p = kv := ⟨_, rfl⟩
    have hkvb : 0 ≤ kv ∧ kv ≤ 65536 := by
      rw [← hkv, verP_lat]
      cases hh : hasP (es.map (·.1)) f.p
      · rw [latP_no hh]; simp
      · obtain ⟨q, hq, he⟩ := List.mem_map.1 (latP_mem hh).1
        have := (retB_iff _).1 (hB1.val q hq)
        have a0 := this.v0
        have a1 := this.v1
        rw [← he]; omega
    rw [hkv] at hget HS
    clear hkv
    obtain ⟨k0, k1⟩ := hkvb
    clear hfv
    go_wp2_with fail
    obtain ⟨w2, hw2⟩ : ∃ w2, w1.alloc (.cells #[.int .i64 f.p, .int .i64 f.v, .slice Av f.l.length cv] 25) = w2 := ⟨_, rfl⟩
    rw [hw2] at hx hal hB2 hb2 hO2 ⊢
    obtain ⟨b, hbb⟩ : ∃ b, w1.heap.size = b := ⟨_, rfl⟩
    rw [hbb] at hx ⊢
    have HB2 := Lib.hid hB2
    have E1 := fun y : Ext w2 => (run_lookup_i auth_ty (zero_ret y.val) (hB2.below y.property).map f.p).2
    rw [hget] at E1
    have c0 := hB2.box.cell 0
    have cl := hB2.box.lt
    simp only [List.getElem?_toArray, List.getElem?_cons_zero] at c0
    obtain ⟨⟨d0, d1, d2, dl⟩, -⟩ := row3 hx
    have HX := Lib.hid hx
    have y0 := ext_cell cl c0
    have y1 := ext_cell dl d0
    have y2 := ext_cell dl d1
    have y3 := ext_cell dl d2
    clear hx hw2 hB1 hB2 hown hget hal hbb c0 d0 d1 d2
    have EF := fun W => field_ver x kv A' n' c' W
    refine region_ext (by kernel_rfl) (by kernel_rfl) ?_
    repeat (go_big_quiet_step (fail))
    refine wpQuiet_nil ?_
    rintro _ ⟨y, rfl⟩
    have hb3 := below_after hb2 y.property hb2.size
    have hB3 := HB2.out.below y.property
    have hx3 := HX.out.below y.property HX.out.lt
    have HO3 : Hid (Own y.val w.heap.size 56 3 (.slice Av f.l.length cv) (lns f.l)) := hO2.out.kept y.property
    generalize y.val = w3 at hb3 hB3 hx3 HO3 ⊢
    clear E1 EF y0 y1 y2 y3 y cl dl HB2 HX hO2 hb2
    have c0 := hB3.box.cell 0
    have cl := hB3.box.lt
    simp only [List.getElem?_toArray, List.getElem?_cons_zero] at c0
    obtain ⟨⟨d0, d1, d2, dl⟩, -⟩ := row3 hx3
    by_cases hle : f.v ≤ kv
    · have HS2 : Hid (subE (es.map (·.1)) s.data.toList = 8) := by rw [Hid, HS.out, if_pos (by trivial), if_pos hle]
      have HF2 : Hid (subA (es.map (·.1)) s.data.toList = es.map (·.1)) := by rw [Hid, HF.out, HS2.out, if_neg (by decide)]
      have hd : decide (f.v ≤ kv) = true := decide_eq_true hle
      have HG : Hid (w.grownBy w3 (some M)) := grownBy_of_below hb3
      have HBN := Lib.hid hB3
      clear hle hB3 hx3
      go_wp2
      go_ret
      exact ⟨es, by rw [HS2.out]; rfl, HBN.out, HF2.out.symm, HG.out, fun p hp => .inl hp⟩
    have hd : decide (f.v ≤ kv) = false := decide_eq_false hle
    by_cases hgt : kv + 1 < f.v
    · have HS2 : Hid (subE (es.map (·.1)) s.data.toList = 16) := by rw [Hid, HS.out, if_pos (by trivial), if_neg hle, if_pos hgt]
      have HF2 : Hid (subA (es.map (·.1)) s.data.toList = es.map (·.1)) := by rw [Hid, HF.out, HS2.out, if_neg (by decide)]
      have HG : Hid (w.grownBy w3 (some M)) := grownBy_of_below hb3
      have HBN := Lib.hid hB3
      clear hle hB3 hx3
      go_wp2
      go_ret
      exact ⟨es, by rw [HS2.out]; rfl, HBN.out, HF2.out.symm, HG.out, fun p hp => .inl hp⟩
    have HS2 : Hid (subE (es.map (·.1)) s.data.toList = 0) := by rw [Hid, HS.out, if_pos (by trivial), if_neg hle, if_neg hgt]
    have HF2 : Hid (subA (es.map (·.1)) s.data.toList = putR (es.map (·.1)) f) := by rw [Hid, HF.out, HS2.out, if_pos rfl]
    have qm := eq_nil_map M
    clear hle
    go_wp2_with fail
    have y0 := ext_cell cl c0
    have y1 := ext_cell dl d0
    have y2 := ext_cell dl d1
    have y3 := ext_cell dl d2
    have HB3 := Lib.hid hB3
    have HX3 := Lib.hid hx3
    have hbM : b ≠ M := fun e => by have := hx3; unfold Row at this; rw [e, hB3.map] at this; cases this
    have hBM : B ≠ M := fun e => by have := hB3.box; unfold Row at this; rw [e, hB3.map] at this; cases this
    clear c0 d0 d1 d2 hB3 hx3
    refine region_ext_tail 7 (by kernel_rfl) (by kernel_rfl) ?_
    simp only [List.take_succ_cons, List.take_zero, List.drop_succ_cons, List.drop_zero]
    repeat (go_big_quiet_step (fail))
    refine wpQuiet_nil ?_
    rintro _ ⟨y, rfl⟩
    have hB4 := HB3.out.below y.property
    have hb4 := below_after hb3 y.property hb3.size
    have HO4 := Lib.hid (HO3.out.kept y.property)
    generalize y.val = w4 at hB4 hb4 HO4 ⊢
    clear y0 y1 y2 y3 y HB3 HX3 HO3 hb3
    have hput := putI_ents hB4.dist f (.slice Av f.l.length cv)
    have hM4 := lt_of_some hB4.map
    have E3 := run_update_i auth_ty hB4.map f.p (.agg #[.int .i64 f.p, .int .i64 f.v, .slice Av f.l.length cv])
    rw [show (Value.agg #[.int .i64 f.p, .int .i64 f.v, .slice Av f.l.length cv]) = .agg (f.vals (.slice Av f.l.length cv)) from rfl, hput] at E3
    rw [show (Value.agg (f.vals (.slice Av f.l.length cv))) = .agg #[.int .i64 f.p, .int .i64 f.v, .slice Av f.l.length cv] from rfl] at E3
    have hg5 : w4.grownBy (setB w4 M (iObj ((putE es f (.slice Av f.l.length cv)).map entA))) (some M) := setB_grown
    have hm5 : (setB w4 M (iObj ((putE es f (.slice Av f.l.length cv)).map entA))).heap[M]? = some (iObj ((putE es f (.slice Av f.l.length cv)).map entA)) := setB_at hM4
    obtain ⟨w5, hw5⟩ : ∃ w5, setB w4 M (iObj ((putE es f (.slice Av f.l.length cv)).map entA)) = w5 := ⟨_, rfl⟩
    rw [hw5] at E3 hg5 hm5
    have HEND : Hid (AuthS w5 B M (putE es f (.slice Av f.l.length cv)) ∧ w.grownBy w5 (some M) ∧ Own w5 w.heap.size 56 3 (.slice Av f.l.length cv) (lns f.l)) := by
      refine ⟨⟨hB4.box.keep hg5 (fun e => hBM (Option.some.inj e)), hm5, fun p hp => ?_, fun p hp => ?_, by rw [putE_fst]; exact hB4.dist.put f⟩, ?_, HO4.out.keepG hg5 (own_not_map HO4.out hB4.map)⟩
      · rcases putE_mem hp with hp | rfl
        · exact (hB4.ln p hp).ln_far hg5 (noLn_map hB4.map)
        · exact (HO4.out.sl (by omega)).ln_far hg5 (noLn_map hB4.map)
      · rcases putE_mem hp with hp | rfl
        · exact hB4.val p hp
        · exact HFV.out (by trivial)
      · exact grown_trans' (grownBy_of_below hb4) hg5
    clear hw5 hg5 hm5 hB4 HO4 hput hM4 hb4
    go_wp2
    go_ret
    exact ⟨_, by rw [HS2.out]; rfl, HEND.out.1, by rw [HF2.out, putE_fst], HEND.out.2.1, fun p hp => by
      rcases putE_mem hp with hp | rfl
      · exact .inl hp
      · exact .inr HEND.out.2.2⟩
end Go.Proofs.YtnkephafpebfkaaGreatDoor
/- payrolllaw43.awake: the example of the chapter. -/
namespace Go.Proofs.YtnkephafpebfkaaGreatDoor
open Go.RowKit Go.Shelf

def exR1 : Ret := ⟨5, 1, [⟨6, ⟨#[]⟩, -3⟩]⟩
def exR2 : Ret := ⟨5, 2, []⟩
theorem exR1_val : retB exR1 = true := by decide
theorem exR2_val : retB exR2 = true := by decide
theorem itoa5 : Lib.itoa 5 = [53] := by simp [Lib.itoa, Lib.decDigits]
theorem itoa1 : Lib.itoa 1 = [49] := by simp [Lib.itoa, Lib.decDigits]
theorem itoa2 : Lib.itoa 2 = [50] := by simp [Lib.itoa, Lib.decDigits]
theorem itoam3 : Lib.itoa (-3) = [45, 51] := by simp [Lib.itoa, Lib.decDigits]
theorem exR1_txt : encT exR1 = [114, 101, 116, 117, 114, 110, 32, 53, 32, 118, 101, 114, 115, 105, 111, 110, 32, 49, 10, 116, 97, 120, 32, 45, 51, 10, 101, 110, 100, 10] := by
  rw [encT, exR1_val, if_pos rfl]
  have h : wordsL ⟨6, ⟨#[]⟩, -3⟩ = [wTax, Lib.itoa (-3)] := rfl
  simp only [retT, retL, exR1, headR, lnT, h, List.map_cons, List.map_nil, itoa5, itoa1, itoam3]
  rfl
theorem exR2_txt : encT exR2 = [114, 101, 116, 117, 114, 110, 32, 53, 32, 118, 101, 114, 115, 105, 111, 110, 32, 50, 10, 101, 110, 100, 10] := by
  rw [encT, exR2_val, if_pos rfl]
  simp only [retT, retL, exR2, headR, List.map_nil, itoa5, itoa2]
  rfl
theorem exR1_dec : decE (encT exR1) = 0 ∧ decR (encT exR1) = exR1 := by
  rw [encT, exR1_val, if_pos rfl]; exact dec_of exR1_val
theorem exR2_dec : decE (encT exR2) = 0 ∧ decR (encT exR2) = exR2 := by
  rw [encT, exR2_val, if_pos rfl]; exact dec_of exR2_val
theorem exR_sub : (subE [] (encT exR2) = 16 ∧ subA [] (encT exR2) = []) ∧ (subE [] (encT exR1) = 0 ∧ subA [] (encT exR1) = [exR1]) ∧ (subE [exR1] (encT exR2) = 0 ∧ subA [exR1] (encT exR2) = [exR2]) ∧ (subE [exR2] (encT exR2) = 8 ∧ subA [exR2] (encT exR2) = [exR2]) := by
  have h1 : subE [] (encT exR2) = 16 := by rw [subE, if_pos exR2_dec.1, exR2_dec.2]; decide
  have h2 : subE [] (encT exR1) = 0 := by rw [subE, if_pos exR1_dec.1, exR1_dec.2]; decide
  have h3 : subE [exR1] (encT exR2) = 0 := by rw [subE, if_pos exR2_dec.1, exR2_dec.2]; decide
  have h4 : subE [exR2] (encT exR2) = 8 := by rw [subE, if_pos exR2_dec.1, exR2_dec.2]; decide
  refine ⟨⟨h1, ?_⟩, ⟨h2, ?_⟩, ⟨h3, ?_⟩, h4, ?_⟩
  · rw [subA, h1, if_neg (by decide)]
  · rw [subA, h2, if_pos rfl, exR1_dec.2]; rfl
  · rw [subA, h3, if_pos rfl, exR2_dec.2]; rfl
  · rw [subA, h4, if_neg (by decide)]
theorem exR_enc : encE exR1 = 0 ∧ encE exR2 = 0 := ⟨by rw [encE, exR1_val]; rfl, by rw [encE, exR2_val]; rfl⟩
def exB1 : ByteArray := ⟨#[114, 101, 116, 117, 114, 110, 32, 53, 32, 118, 101, 114, 115, 105, 111, 110, 32, 49, 10, 116, 97, 120, 32, 45, 51, 10, 101, 110, 100, 10]⟩
def exB2 : ByteArray := ⟨#[114, 101, 116, 117, 114, 110, 32, 53, 32, 118, 101, 114, 115, 105, 111, 110, 32, 50, 10, 101, 110, 100, 10]⟩
theorem below_map {w0 w w' : World} {M : Nat} (h : Below w0.heap.size w0 w) (hg : w.grownBy w' (some M)) (hM : w0.heap.size ≤ M) : Below w0.heap.size w0 w' :=
  h.grown hg h.size (fun g hg => by injection hg; omega)
theorem Submit_any (B M : Nat) (es : List (Ret × Value)) (s : ByteArray) (w : World) (hb : AuthS w B M es) (hT : Tabs w) (hE : Errs w) :
    Calls Tryz.prog 24 #[.pointer (some ⟨B, 0, none⟩), .string s] w fun e w' => ∃ es', e = .returned (.int .i64 (subE (es.map (·.1)) s.data.toList)) ∧ AuthS w' B M es' ∧ es'.map (·.1) = subA (es.map (·.1)) s.data.toList ∧ w.grownBy w' (some M) :=
  (SubmitA_any B M es s w hb hT hE).mono fun _ _ ⟨es', h1, h2, h3, h4, _⟩ => ⟨es', h1, h2, h3, h4⟩
set_option maxRecDepth 100000 in
set_option maxHeartbeats 2000000 in
theorem awake_any (w : World) (hT : Tabs w) (hE : Errs w) : Calls Tryz.prog 8 #[] w fun e w' => e = .returned (.bool true) ∧ Below w.heap.size w w' := by
  have HT := Lib.hid hT
  have HER := Lib.hid hE
  clear hT hE
  have hB0 := (Below.refl w.heap.size w).alloc (Nat.le_refl _) (.cells #[.int .i64 6, .string ⟨#[]⟩, .int .i64 (-3)] 56)
  have HEN : Hid (Calls Tryz.prog 13 #[.agg #[.int .i64 5, .int .i64 1, .slice (some ⟨w.heap.size, 0, none⟩) 1 1]] (w.alloc (.cells #[.int .i64 6, .string ⟨#[]⟩, .int .i64 (-3)] 56)) fun e w' => e = .returned (.tuple #[.string exB1, .int .i64 0]) ∧ Below (w.alloc (.cells #[.int .i64 6, .string ⟨#[]⟩, .int .i64 (-3)] 56)).heap.size (w.alloc (.cells #[.int .i64 6, .string ⟨#[]⟩, .int .i64 (-3)] 56)) w') := by
    have := EncodeR_any exR1 (.slice (some ⟨w.heap.size, 0, none⟩) 1 1) (w.alloc (.cells #[.int .i64 6, .string ⟨#[]⟩, .int .i64 (-3)] 56)) (Sl.one rfl rfl) (HT.out.below hB0)
    rw [exR_enc.1, exR1_txt] at this
    exact this
  have HEN2 : Hid (∀ W, Below w.heap.size w W → Calls Tryz.prog 13 #[.agg #[.int .i64 5, .int .i64 2, .slice none 0 0]] W fun e w' => e = .returned (.tuple #[.string exB2, .int .i64 0]) ∧ Below W.heap.size W w') := fun W hW => by
    have := EncodeR_any exR2 (.slice none 0 0) W (Sl.nil _ _) (HT.out.below hW)
    rw [exR_enc.2, exR2_txt] at this
    exact this
  have HTX : Hid (exB1.data.toList = encT exR1) := by rw [Hid, exR1_txt]; rfl
  have HTX2 : Hid (exB2.data.toList = encT exR2) := by rw [Hid, exR2_txt]; rfl
  obtain ⟨tx, htx⟩ : ∃ tx, exB1 = tx := ⟨_, rfl⟩
  obtain ⟨ty, hty⟩ : ∃ ty, exB2 = ty := ⟨_, rfl⟩
  have t3 : (tx.toList == [114, 101, 116, 117, 114, 110, 32, 53, 32, 118, 101, 114, 115, 105, 111, 110, 32, 49, 10, 116, 97, 120, 32, 45, 51, 10, 101, 110, 100, 10]) = true := by
    rw [ByteArray.toList_eq, ← htx]; decide
  have t4 : tx.toList = [114, 101, 116, 117, 114, 110, 32, 53, 32, 118, 101, 114, 115, 105, 111, 110, 32, 49, 10, 116, 97, 120, 32, 45, 51, 10, 101, 110, 100, 10] := by simpa using t3
  rw [htx] at HEN HTX
  rw [hty] at HEN2 HTX2
  clear htx hty
  have HT3 := Lib.hid t3
  have HT4 := Lib.hid t4
  clear t3 t4
  go_enter Tryz.func8, Tryz.ntmps8
  go_wp2_with fail
  refine HEN.out.mono ?_
  rintro e w1 ⟨rfl, hb1⟩
  have hB1 := below_after hB0 hb1 hB0.size
  clear hB0 hb1 HEN
  go_wp2_with fail
  refine (HEN2.out w1 hB1).mono ?_
  rintro e w1' ⟨rfl, hb1⟩
  have hB1' := below_after hB1 hb1 hB1.size
  clear hB1 hb1 HEN2
  go_wp2_with fail
  refine (NewA_any w1').mono ?_
  rintro e w2 ⟨B, M, rfl, hb2, hbl2, hM, hMB⟩
  have hB2 := below_after hB1' hbl2 hB1'.size
  have hMw : w.heap.size ≤ M := by have := hB1'.size; omega
  have HQ : Hid (∀ W, (binOp .neq 44 (.pointer (some ⟨B, 0, none⟩)) (.pointer none)).run Tryz.prog W = .ok (.bool true) W) := fun W => by kernel_rfl
  clear hB1' hbl2 hM
  have t3 := HT3.out
  have t4 := HT4.out
  have hq := HQ.out
  go_wp2_with fail
  clear t3 t4 hq
  refine (Submit_any B M [] ty w2 hb2 (HT.out.below hB2) (HER.out.below hB2)).mono ?_
  rw [HTX2.out]
  rintro e w3 ⟨es3, rfl, hb3, he3, hg3⟩
  rw [show (List.map (fun x : Ret × Value => x.1) []) = [] from rfl] at he3 ⊢
  rw [exR_sub.1.2] at he3
  rw [exR_sub.1.1]
  have hB3 := below_map hB2 hg3 hMw
  clear hb2 hB2 hg3
  go_wp2_with fail
  refine (Submit_any B M es3 tx w3 hb3 (HT.out.below hB3) (HER.out.below hB3)).mono ?_
  rw [HTX.out, he3]
  rintro e w4 ⟨es4, rfl, hb4, he4, hg4⟩
  rw [exR_sub.2.1.2] at he4
  rw [exR_sub.2.1.1]
  have hB4 := below_map hB3 hg4 hMw
  clear hb3 hB3 hg4 he3
  go_wp2_with fail
  refine (Submit_any B M es4 ty w4 hb4 (HT.out.below hB4) (HER.out.below hB4)).mono ?_
  rw [HTX2.out, he4]
  rintro e w5 ⟨es5, rfl, hb5, he5, hg5⟩
  rw [exR_sub.2.2.1.2] at he5
  rw [exR_sub.2.2.1.1]
  have hB5 := below_map hB4 hg5 hMw
  clear hb4 hB4 hg5 he4
  go_wp2_with fail
  refine (Submit_any B M es5 ty w5 hb5 (HT.out.below hB5) (HER.out.below hB5)).mono ?_
  rw [HTX2.out, he5]
  rintro e w6 ⟨es6, rfl, hb6, he6, hg6⟩
  rw [exR_sub.2.2.2.1]
  have hB6 := below_map hB5 hg6 hMw
  clear hb5 hB5 hg6 he5 he6 hb6
  go_wp2
  go_ret
  exact ⟨rfl, hB6⟩
end Go.Proofs.YtnkephafpebfkaaGreatDoor
/- The law FilingEncodes: it returns true. -/
namespace Go.Proofs.YtnkephafpebfkaaGreatDoor
open Go.RowKit Go.Shelf

def at4 (a b c d : Int) (k : Nat) : Int := match k with | 0 => a | 1 => b | 2 => c | _ => d
theorem row4_new (W : World) (t : TypeId) (a b c d : Int) {k : Nat} (hk : k < 4) : (W.alloc (.cells #[.int .i64 a, .int .i64 b, .int .i64 c, .int .i64 d] t)).cell? ⟨W.heap.size, k, none⟩ = some (.int .i64 (at4 a b c d k)) := by
  rw [World.cell?_alloc_new]
  match k, hk with
  | 0, _ => rfl
  | 1, _ => rfl
  | 2, _ => rfl
  | 3, _ => rfl
/-- where the switch ends: a box with some return, its lines readable -/
def EnM (w0 : World) (m : Nat) (wx : World) : Prop :=
  ∃ X : Ret, ∃ u, Row wx m 25 #[.int .i64 X.p, .int .i64 X.v, u] ∧ Sl wx 3 u (lns X.l) ∧ Below w0.heap.size w0 wx

set_option maxRecDepth 100000 in
set_option maxHeartbeats 4000000 in
theorem FilingEncodes_any (v : Value) (zs : List Int) (R : Ret) (ru : Value) (field bY : Int) (w : World) (hT : Tabs w) (hE : Errs w) (hv : Sl w 1 v (ints zs)) (hr : Sl w 3 ru (lns R.l)) :
    Calls Tryz.prog 3 #[v, .agg (R.vals ru), .int .i64 field, .int .i64 bY] w fun e w' => e = .returned (.bool true) ∧ Below w.heap.size w w' := by
  have HT := Lib.hid hT
  have HER := Lib.hid hE
  have hrv : R.vals ru = #[.int .i64 R.p, .int .i64 R.v, ru] := rfl
  rw [hrv]
  have HR := Lib.hid hr
  have HV := Lib.hid hv
  obtain ⟨A0, c0, rfl, -⟩ := hv
  obtain ⟨A1, c1, rfl, hr1, hr2, -⟩ := hr
  rw [lns_len] at hr1 HR
  unfold maxLen at hr2
  clear hT hE hrv
  have hW := Row.new w 25 #[.int .i64 R.p, .int .i64 R.v, .slice A1 (lns R.l).length c1]
  have hB := (Below.refl w.heap.size w).alloc (Nat.le_refl _) (.cells #[.int .i64 R.p, .int .i64 R.v, .slice A1 (lns R.l).length c1] 25)
  rw [lns_len] at hW hB ⊢
  obtain ⟨w0, hw0⟩ : ∃ w0, w.alloc (.cells #[.int .i64 R.p, .int .i64 R.v, .slice A1 R.l.length c1] 25) = w0 := ⟨_, rfl⟩
  rw [hw0] at hW hB
  obtain ⟨g, hg⟩ : ∃ g, w.heap.size = g := ⟨_, rfl⟩
  rw [hg] at hW
  have hgw0 : w.heap.size ≤ g := Nat.le_of_eq hg
  obtain ⟨⟨x0, x1, x2, xl⟩, -⟩ := row3 hW
  have HSH := Lib.hid (ShortLines_any _ R.l w0 (HR.out.below hB))
  go_enter Tryz.func3, Tryz.ntmps3
  go_wp2_with fail
  clear hw0 hg x0 x1 x2 xl
  refine HSH.out.mono ?_
  rintro e w0' ⟨rfl, hb0⟩
  have hB0 := below_after hB hb0 hB.size
  have hW0 := hW.below hb0 hW.lt
  clear hb0 hB hW HSH
  cases hsh : shortLB R.l
  · clear hsh
    go_wp2_with fail
    refine (awake_any w0' (HT.out.below hB0) (HER.out.below hB0)).mono ?_
    rintro e w9 ⟨rfl, hb9⟩
    have hB11 := below_after hB0 hb9 hB0.size
    clear hb9 hB0
    go_wp2
    go_ret
    exact ⟨rfl, hB11⟩
  clear hsh
  have HN := Lib.hid (new_any _ zs w0' (HV.out.below hB0))
  go_wp2_with fail
  refine HN.out.mono ?_
  rintro e w1 ⟨rfl, hd1, hb1⟩
  have hB1 := below_after hB0 hb1 hB0.size
  have hW1 := hW0.below hb1 hW0.lt
  have hgD := hW0.lt
  have hDw := hB0.size
  obtain ⟨D, hD⟩ : ∃ D, w0'.heap.size = D := ⟨_, rfl⟩
  rw [hD] at hd1 hgD hDw ⊢
  clear HN hW0 hb1 hB0 hD
  go_wp2_with fail
  refine (drawn_any D 0 w1 hd1 (by omega)).mono ?_
  rintro e w2 ⟨f, v2, dr2, rfl, hG, hfp, hfv, hfl, hown2, hd2, hdr2, hg2⟩
  have hB2 := below_map hB1 hg2 hDw
  have hW2 := hW1.keep hg2 (by intro e; injection e; omega)
  obtain ⟨A2, c2, rfl⟩ := hown2.form
  rw [lns_len] at hown2 ⊢
  have hgv : f.vals (.slice A2 f.l.length c2) = #[.int .i64 f.p, .int .i64 f.v, .slice A2 f.l.length c2] := rfl
  rw [hgv]
  have hown3 := hown2.more hB1.size
  have hal := (Below.refl w2.heap.size w2).alloc (Nat.le_refl _) (.cells #[.int .i64 f.p, .int .i64 f.v, .slice A2 f.l.length c2] 25)
  have hX := Row.new w2 25 #[.int .i64 f.p, .int .i64 f.v, .slice A2 f.l.length c2]
  have hO := hown2.alloc (.cells #[.int .i64 f.p, .int .i64 f.v, .slice A2 f.l.length c2] 25)
  have hD3 := hd2.below hal
  have hB3 := below_after hB2 hal hB2.size
  have hW3 := hW2.below hal hW2.lt
  have hap : (Value.slice A2 f.l.length c2).ownBlock ≠ some w2.heap.size := fun e => by have := (hown2.1.lt _ e).2; omega
  have hlt2 := hg2.size
  have hs1 := hB1.size
  have hs2 := hB2.size
  have hd1l := hd1.lt
  obtain ⟨W3, hW3e⟩ : ∃ W3, w2.alloc (.cells #[.int .i64 f.p, .int .i64 f.v, .slice A2 f.l.length c2] 25) = W3 := ⟨_, rfl⟩
  obtain ⟨m, hm⟩ : ∃ m, w2.heap.size = m := ⟨_, rfl⟩
  rw [hW3e] at hX hO hD3 hB3 hW3
  rw [hm] at hX hap
  have hmw : w.heap.size ≤ m := by omega
  have hmD : D < m := by omega
  have hgm : g ≠ m := by have := hW2.lt; omega
  clear hgv hal hg2 hown2 hown3 hB1 hB2 hW1 hW2 hd1 hd2 hlt2 hs1 hs2 hd1l
  go_wp2_with fail
  clear hW3e hm
  refine (Mod_any _ _ _ (by omega) (by omega)).mono ?_
  rintro e w4 ⟨rfl, rfl⟩
  obtain ⟨k, hk⟩ : ∃ k : Nat, (k : Int) = bY % 4 := ⟨(bY % 4).toNat, by omega⟩
  have hk4 : k < 4 := by omega
  rw [← hk]
  clear hk
  go_wp2_with fail
  refine (Mod_any _ _ _ (by omega) (by omega)).mono ?_
  rintro e w4 ⟨rfl, rfl⟩
  obtain ⟨q, hq⟩ : ∃ q : Int, field % 4 = q := ⟨_, rfl⟩
  have hq1 : 0 ≤ q := by omega
  have hq2 : q < 4 := by omega
  rw [hq]
  clear hq
  go_upto_block 0 with (fail)
  go_cut [10] (fun s wx => s = .pointer (some ⟨m, 0, none⟩) ∧ EnM w m wx ∧ Row wx g 25 #[.int .i64 R.p, .int .i64 R.v, .slice A1 R.l.length c1])
  case first =>
    obtain ⟨⟨x0, x1, x2, xl⟩, ⟨f0, f1, f2⟩⟩ := row3 hX
    have hki : (k : Int) < 4 := by omega
    by_cases h0 : q = 0
    · subst h0
      have c4 := row4_new W3 3 (-1) 0 84005 84006 hk4
      obtain ⟨z, hz⟩ : ∃ z, at4 (-1) 0 84005 84006 k = z := ⟨_, rfl⟩
      rw [hz] at c4
      have R1 := (hX.set 0 (.int .i64 z)).alloc (.cells #[.int .i64 (-1), .int .i64 0, .int .i64 84005, .int .i64 84006] 3)
      have R2 := ((hO.keepG (grown_set _ m 0 (.int .i64 z)) (.inr hap)).alloc (.cells #[.int .i64 (-1), .int .i64 0, .int .i64 84005, .int .i64 84006] 3)).sl (by omega)
      have R3 := (hB3.setCell (p := ⟨m, 0, none⟩) hmw (.int .i64 z)).alloc (hB3.setCell (p := ⟨m, 0, none⟩) hmw (.int .i64 z)).size (.cells #[.int .i64 (-1), .int .i64 0, .int .i64 84005, .int .i64 84006] 3)
      have R4 := (hW3.far (p := ⟨m, 0, none⟩) hgm (.int .i64 z)).alloc (.cells #[.int .i64 (-1), .int .i64 0, .int .i64 84005, .int .i64 84006] 3)
      have HZ := Lib.hid (And.intro R1 (And.intro R2 (And.intro R3 R4)))
      clear R1 R2 R3 R4 hz hO hB3 hW3 hD3 hX hap
      go_wp2_with fail
      go_meet
      exact ⟨rfl, ⟨⟨z, f.v, f.l⟩, _, HZ.out.1, HZ.out.2.1, HZ.out.2.2.1⟩, HZ.out.2.2.2⟩
    have d0 : (q == 0) = false := by simpa using h0
    by_cases h1 : q = 1
    · subst h1
      have c4 := row4_new W3 3 0 1 65536 65537 hk4
      obtain ⟨z, hz⟩ : ∃ z, at4 0 1 65536 65537 k = z := ⟨_, rfl⟩
      rw [hz] at c4
      have R1 := (hX.set 1 (.int .i64 z)).alloc (.cells #[.int .i64 0, .int .i64 1, .int .i64 65536, .int .i64 65537] 3)
      have R2 := ((hO.keepG (grown_set _ m 1 (.int .i64 z)) (.inr hap)).alloc (.cells #[.int .i64 0, .int .i64 1, .int .i64 65536, .int .i64 65537] 3)).sl (by omega)
      have R3 := (hB3.setCell (p := ⟨m, 1, none⟩) hmw (.int .i64 z)).alloc (hB3.setCell (p := ⟨m, 1, none⟩) hmw (.int .i64 z)).size (.cells #[.int .i64 0, .int .i64 1, .int .i64 65536, .int .i64 65537] 3)
      have R4 := (hW3.far (p := ⟨m, 1, none⟩) hgm (.int .i64 z)).alloc (.cells #[.int .i64 0, .int .i64 1, .int .i64 65536, .int .i64 65537] 3)
      have HZ := Lib.hid (And.intro R1 (And.intro R2 (And.intro R3 R4)))
      clear R1 R2 R3 R4 hz hO hB3 hW3 hD3 hX hap
      go_wp2_with fail
      go_meet
      exact ⟨rfl, ⟨⟨f.p, z, f.l⟩, _, HZ.out.1, HZ.out.2.1, HZ.out.2.2.1⟩, HZ.out.2.2.2⟩
    have d1 : (q == 1) = false := by simpa using h1
    by_cases h2 : q = 2
    · subst h2
      have HLN := Lib.hid (Lines_any D dr2 3 W3 hD3 (by omega) (by omega))
      go_wp2_with fail
      refine HLN.out.mono ?_
      rintro e w5 ⟨u, l, d5, rfl, -, -, hown5, -, -, hg5⟩
      have hX5 := hX.keep hg5 (by intro e; injection e; omega)
      have hW5 := hW3.keep hg5 (by intro e; injection e; omega)
      have hB5 := below_map hB3 hg5 hDw
      have hml := hX.lt
      obtain ⟨A5, c5, rfl⟩ := hown5.form
      have hap5 : (Value.slice A5 (lns l).length c5).ownBlock ≠ some m := fun e => by have := (hown5.1.lt _ e).1; omega
      have R1 := hX5.set 2 (.slice A5 (lns l).length c5)
      have R2 := (hown5.keepG (grown_set _ m 2 (.slice A5 (lns l).length c5)) (.inr hap5)).sl (by omega)
      have R3 := hB5.setCell (p := ⟨m, 2, none⟩) hmw (.slice A5 (lns l).length c5)
      have R4 := hW5.far (p := ⟨m, 2, none⟩) hgm (.slice A5 (lns l).length c5)
      have HZ := Lib.hid (And.intro R1 (And.intro R2 (And.intro R3 R4)))
      obtain ⟨⟨y0, y1, y2, yl⟩, ⟨g0, g1, g2⟩⟩ := row3 hX5
      clear R1 R2 R3 R4 hO hB3 hW3 hD3 hX hap hX5 hW5 hB5 hown5 hg5 x0 x1 x2 xl f0 f1 f2 hap5
      go_wp2_with fail
      go_meet
      exact ⟨rfl, ⟨⟨f.p, f.v, l⟩, _, HZ.out.1, HZ.out.2.1, HZ.out.2.2.1⟩, HZ.out.2.2.2⟩
    have d2 : (q == 2) = false := by simpa using h2
    have HO := Lib.hid (hO.sl (by omega))
    go_wp2_with fail
    go_meet
    exact ⟨rfl, ⟨f, _, hX, HO.out, hB3⟩, hW3⟩
  case rest =>
    clear hX hO hD3 hB3 hW3 hap hG
    obtain ⟨rfl, ⟨X, u, hX4, hS4, hB4⟩, hW4⟩ := hcut
    obtain ⟨w4, hw4⟩ : ∃ w4 : World, w4 = wc := ⟨_, rfl⟩
    subst hw4
    obtain ⟨tx, txe⟩ : ∃ tx : ByteArray, bsOf (encT X) = tx := ⟨_, rfl⟩
    obtain ⟨ex, exe⟩ : ∃ ex : Int, encE X = ex := ⟨_, rfl⟩
    obtain ⟨tr, tre⟩ : ∃ tr : ByteArray, bsOf (encT R) = tr := ⟨_, rfl⟩
    obtain ⟨er, ere⟩ : ∃ er : Int, encE R = er := ⟨_, rfl⟩
    have HQ := Lib.hid (And.intro txe (And.intro exe (And.intro tre ere)))
    clear txe exe tre ere
    obtain ⟨⟨x0, x1, x2, xl⟩, -⟩ := row3 hX4
    obtain ⟨⟨y0, y1, y2, yl⟩, -⟩ := row3 hW4
    have HC5 : Hid (Calls Tryz.prog 13 #[.agg #[.int .i64 X.p, .int .i64 X.v, u]] w4 fun e w' => e = .returned (.tuple #[.string tx, .int .i64 ex]) ∧ Below w4.heap.size w4 w') := by
      obtain ⟨txe, exe, tre, ere⟩ := HQ.out
      have := EncodeR_any X u w4 hS4 (HT.out.below hB4)
      rw [← txe, ← exe]
      exact this
    go_wp2_with fail
    clear x0 x1 x2 xl y0 y1 y2 yl
    refine HC5.out.mono ?_
    rintro e w5 ⟨rfl, hb5⟩
    have hB5 := below_after hB4 hb5 hB4.size
    have hX5 := hX4.below hb5 hX4.lt
    have hW5 := hW4.below hb5 hW4.lt
    have hS5 := hS4.below hb5
    clear hb5 hB4 hX4 hW4 hS4 HC5
    obtain ⟨⟨x0, x1, x2, xl⟩, -⟩ := row3 hX5
    obtain ⟨⟨y0, y1, y2, yl⟩, -⟩ := row3 hW5
    have HC6 : Hid (Calls Tryz.prog 14 #[.agg #[.int .i64 X.p, .int .i64 X.v, u]] w5 fun e w' => e = .returned (.tuple #[.string tx, .int .i64 ex]) ∧ Below w5.heap.size w5 w') := by
      obtain ⟨txe, exe, tre, ere⟩ := HQ.out
      have := refEncodeR_any X u w5 hS5
      rw [← txe, ← exe]
      exact this
    go_wp2_with fail
    clear x0 x1 x2 xl y0 y1 y2 yl
    refine HC6.out.mono ?_
    rintro e w6 ⟨rfl, hb6⟩
    have hB6 := below_after hB5 hb6 hB5.size
    have hX6 := hX5.below hb6 hX5.lt
    have hW6 := hW5.below hb6 hW5.lt
    have hS6 := hS5.below hb6
    clear hb6 hB5 hX5 hW5 hS5 HC6
    obtain ⟨⟨x0, x1, x2, xl⟩, -⟩ := row3 hX6
    obtain ⟨⟨y0, y1, y2, yl⟩, -⟩ := row3 hW6
    have HC7 : Hid (Calls Tryz.prog 13 #[.agg #[.int .i64 R.p, .int .i64 R.v, .slice A1 R.l.length c1]] w6 fun e w' => e = .returned (.tuple #[.string tr, .int .i64 er]) ∧ Below w6.heap.size w6 w') := by
      obtain ⟨txe, exe, tre, ere⟩ := HQ.out
      have := EncodeR_any R (.slice A1 R.l.length c1) w6 (HR.out.below hB6) (HT.out.below hB6)
      rw [← tre, ← ere]
      exact this
    go_wp2_with fail
    clear x0 x1 x2 xl y0 y1 y2 yl
    refine HC7.out.mono ?_
    rintro e w7 ⟨rfl, hb7⟩
    have hB7 := below_after hB6 hb7 hB6.size
    have hX7 := hX6.below hb7 hX6.lt
    have hW7 := hW6.below hb7 hW6.lt
    have hS7 := hS6.below hb7
    clear hb7 hB6 hX6 hW6 hS6 HC7
    obtain ⟨⟨x0, x1, x2, xl⟩, -⟩ := row3 hX7
    obtain ⟨⟨y0, y1, y2, yl⟩, -⟩ := row3 hW7
    have HC8 : Hid (Calls Tryz.prog 14 #[.agg #[.int .i64 R.p, .int .i64 R.v, .slice A1 R.l.length c1]] w7 fun e w' => e = .returned (.tuple #[.string tr, .int .i64 er]) ∧ Below w7.heap.size w7 w') := by
      obtain ⟨txe, exe, tre, ere⟩ := HQ.out
      have := refEncodeR_any R (.slice A1 R.l.length c1) w7 (HR.out.below hB7)
      rw [← tre, ← ere]
      exact this
    go_wp2_with fail
    clear x0 x1 x2 xl y0 y1 y2 yl
    refine HC8.out.mono ?_
    rintro e w8 ⟨rfl, hb8⟩
    have hB8 := below_after hB7 hb8 hB7.size
    have hX8 := hX7.below hb8 hX7.lt
    have hW8 := hW7.below hb8 hW7.lt
    have hS8 := hS7.below hb8
    clear hb8 hB7 hX7 hW7 hS7 HC8
    obtain ⟨bx, hbx⟩ : ∃ b, retB X = b := ⟨_, rfl⟩
    obtain ⟨br, hbr⟩ : ∃ b, retB R = b := ⟨_, rfl⟩
    have HV1 : Hid (∀ y : Ext w8, Calls Tryz.prog 15 #[.agg #[.int .i64 X.p, .int .i64 X.v, u]] y.val fun e w' => e = .returned (.bool bx) ∧ Below y.val.heap.size y.val w') := fun y => by
      rw [← hbx]; exact ValidR_any X u y.val (hS8.below y.property)
    have HV2 : Hid (∀ y : Ext w8, Calls Tryz.prog 16 #[.agg #[.int .i64 X.p, .int .i64 X.v, u]] y.val fun e w' => e = .returned (.bool bx) ∧ Below y.val.heap.size y.val w') := fun y => by
      rw [← hbx]; exact refValidR_any X u y.val (hS8.below y.property)
    have HV3 : Hid (∀ y : Ext w8, Calls Tryz.prog 15 #[.agg #[.int .i64 R.p, .int .i64 R.v, .slice A1 R.l.length c1]] y.val fun e w' => e = .returned (.bool br) ∧ Below y.val.heap.size y.val w') := fun y => by
      rw [← hbr]; exact ValidR_any R (.slice A1 R.l.length c1) y.val ((HR.out.below hB8).below y.property)
    have HV4 : Hid (∀ y : Ext w8, Calls Tryz.prog 16 #[.agg #[.int .i64 R.p, .int .i64 R.v, .slice A1 R.l.length c1]] y.val fun e w' => e = .returned (.bool br) ∧ Below y.val.heap.size y.val w') := fun y => by
      rw [← hbr]; exact refValidR_any R (.slice A1 R.l.length c1) y.val ((HR.out.below hB8).below y.property)
    have HV5 : Hid (∀ y : Ext w8, Calls Tryz.prog 8 #[] y.val fun e w' => e = .returned (.bool true) ∧ Below y.val.heap.size y.val w') := fun y => by
      have hy := below_after hB8 y.property hB8.size
      exact awake_any y.val (HT.out.below hy) (HER.out.below hy)
    have HFI : Hid (∀ y : Ext w8, Below w.heap.size w y.val) := fun y => below_after hB8 y.property hB8.size
    obtain ⟨⟨x0, x1, x2, xl⟩, -⟩ := row3 hX8
    obtain ⟨⟨y0, y1, y2, yl⟩, -⟩ := row3 hW8
    have p0 := ext_cell xl x0
    have p1 := ext_cell xl x1
    have p2 := ext_cell xl x2
    have q0 := ext_cell yl y0
    have q1 := ext_cell yl y1
    have q2 := ext_cell yl y2
    clear hbx hbr x0 x1 x2 y0 y1 y2 hX8 hW8 hS8 hB8
    go_wp2_with fail
    refine region_ext (by kernel_rfl) (by kernel_rfl) ?_
    repeat (go_big_quiet_step (first | (go_at_call_of 15 (u); exact ext_call (HV1.out _)) | (go_at_call_of 16 (u); exact ext_call (HV2.out _)) | (go_at_call_of 15 (A1); exact ext_call (HV3.out _)) | (go_at_call_of 16 (A1); exact ext_call (HV4.out _)) | (go_at_call 8; exact ext_call (HV5.out _))))
    refine wpQuiet_nil ?_
    rintro _ ⟨y, rfl⟩
    go_wp2
    go_ret
    exact ⟨rfl, HFI.out y⟩
end Go.Proofs.YtnkephafpebfkaaGreatDoor
/- Opening a law's arguments: returns. -/
namespace Go.Proofs.YtnkephafpebfkaaGreatDoor
open Go.ChangeShapes Go.WideShapes Go.ChangeAt Go.RowKit Go.Deep

section
variable {H : Type} {enc : TypeId × Value → H} {P : Program} {w : World} {base b0 : Nat} {spare : Nat → Bool} {held : Bool} {r : Reach}
/-- a slice whose elements open as f x, read off its one cell -/
theorem open_slc {α : Type} [Inhabited α] (f : α → List Value) {t e : TypeId} {sz fuel : Nat} {cs : List Value} {x : DataW H × List MemPlace} (ht : P.underlying t = some (.slice e)) (hc : P.cellsOf e = sz) (hsz : 0 < sz)
    (hd : DataW.trod enc P w base spare held fuel t cs = some x) (hf : ∀ n cs y, DataW.trod enc P w base spare held n e cs = some y → ∃ x, cs = f x) :
    ∃ v, ∃ l : List α, cs = [v] ∧ Sl w sz v (l.map f) := by
  rcases open_slice ht hd with ⟨rfl, _⟩ | ⟨a, len, cap, m, n, D, Pl, rfl, hb, hl, hm, hmm, _, hx⟩
  · exact ⟨_, [], rfl, Sl.nil _ _⟩
  · have hlm : len ≤ m := by rw [hmm]; split <;> omega
    obtain ⟨V, hV⟩ := choose_lt (α := α) (n := len) (p := fun i x => w.cells? base (a.add (i * sz)) sz = some (f x)) (fun i hi => by
      obtain ⟨cs', h1, h2⟩ := hx i (by omega)
      obtain ⟨x, rfl⟩ := hf _ _ _ h2
      rw [hc] at h1
      exact ⟨x, h1⟩)
    refine ⟨_, (List.range len).map V, rfl, some a, cap, by simp, by simpa using hl, hm, (fun h => by cases h), ?_⟩
    by_cases hz : len = 0
    · left; subst hz; rfl
    · right
      have g0 := hV 0 (by omega)
      obtain ⟨_, hl0, hc0⟩ := World.cells?_some g0
      have h00 := hc0 0 hsz
      obtain ⟨u0, hu0⟩ : ∃ u, (f (V 0))[0]? = some u := ⟨_, List.getElem?_eq_getElem (by omega)⟩
      rw [hu0] at h00
      obtain ⟨b, off, spot⟩ := a
      have hspot : spot = none := by simpa [Addr.add] using World.cell?_spot h00
      subst hspot
      refine ⟨b, off, rfl, ?_, fun i x hi j u hj => ?_⟩
      · rcases Nat.lt_or_ge b w.heap.size with hlt | hge
        · exact hlt
        · simp [Addr.add, World.cell?, Array.getElem?_eq_none hge] at h00
      · simp only [List.getElem?_map, Option.map_eq_some_iff] at hi
        obtain ⟨y, ⟨k, hk, rfl⟩, rfl⟩ := hi
        obtain ⟨hi1, hi2⟩ := List.getElem?_eq_some_iff.1 hk
        simp only [List.length_range, List.getElem_range] at hi1 hi2
        subst hi2
        obtain ⟨_, hl1, hc1⟩ := World.cells?_some (hV i hi1)
        have hj1 : j < sz := by have := (List.getElem?_eq_some_iff.1 hj).1; omega
        have := hc1 j hj1
        rw [hj] at this
        rw [← this]
        congr 1
        by_cases q1 : i * sz = 0 <;> by_cases q2 : j = 0 <;> simp [Addr.add, q1, q2] <;> omega
end
section
variable {H : Type} {enc : TypeId × Value → H} {w : World} {base b0 : Nat} {spare : Nat → Bool} {held : Bool} {r : Reach}
theorem cellsStr : Tryz.prog.cellsOf 9 = 1 := by kernel_rfl
instance : Inhabited Ln := ⟨⟨0, ⟨#[]⟩, 0⟩⟩
set_option maxRecDepth 100000 in
theorem open_ln {n : Nat} {cs : List Value} {y : DataW H × List MemPlace} (h : DataW.trod enc Tryz.prog w base spare held n 56 cs = some y) : ∃ p : Ln, cs = p.vals := by
  obtain ⟨xs, m, _, _, hl, hlen, hf⟩ := DataW.trod_struct Tryz.underlying56 h
  have hc2 : Tryz.prog.cellsOf 56 = 3 := by kernel_rfl
  have hl' : cs.length = 3 := hl.trans hc2
  match cs, hl' with
  | [c0, c1, c2], _ =>
    obtain ⟨y0, h0⟩ := field_ofL hlen hf 0 3 0 1 rfl cellsInt
    obtain ⟨y1, h1⟩ := field_ofL hlen hf 1 9 1 1 rfl cellsStr
    obtain ⟨y2, h2⟩ := field_ofL hlen hf 2 3 2 1 rfl cellsInt
    obtain ⟨a, e0, _⟩ := DataW.trod_int Tryz.underlying3 h0
    obtain ⟨s, e1, _⟩ := DataW.trod_string Tryz.underlying9 h1
    obtain ⟨b, e2, _⟩ := DataW.trod_int Tryz.underlying3 h2
    simp at e0 e1 e2
    subst e0 e1 e2
    exact ⟨⟨a, s, b⟩, rfl⟩
set_option maxRecDepth 100000 in
theorem open_ret {v : Value} {d : DataW H} {ps : List MemPlace} (hval : Value.okWide Tryz.prog w r b0 25 v) (hd : DataW.Trod enc Tryz.prog w base spare held 25 v d ps) :
    ∃ f : Ret, ∃ u, v = .agg (f.vals u) ∧ Sl w 3 u (lns f.l) := by
  obtain ⟨cs, rfl, hsz⟩ := okWide_struct Tryz.underlying25 hval
  obtain ⟨n, h⟩ := hd
  obtain ⟨xs, m, _, _, hl, hlen, hf⟩ := DataW.trod_struct Tryz.underlying25 h
  have hc3 : Tryz.prog.cellsOf 25 = 3 := by kernel_rfl
  have hcS : Tryz.prog.cellsOf 23 = 1 := by kernel_rfl
  have hc2 : Tryz.prog.cellsOf 56 = 3 := by kernel_rfl
  obtain ⟨l⟩ := cs
  have hl' : l.length = 3 := hl.trans hc3
  match l, hl' with
  | [c0, c1, c2], _ =>
    obtain ⟨y0, h0⟩ := field_ofL hlen hf 0 3 0 1 rfl cellsInt
    obtain ⟨y1, h1⟩ := field_ofL hlen hf 1 3 1 1 rfl cellsInt
    obtain ⟨y2, h2⟩ := field_ofL hlen hf 2 23 2 1 rfl hcS
    obtain ⟨a, e0, _⟩ := DataW.trod_int Tryz.underlying3 h0
    obtain ⟨b, e1, _⟩ := DataW.trod_int Tryz.underlying3 h1
    obtain ⟨u, q, e2, hs⟩ := open_slc Ln.vals Tryz.underlying23 hc2 (by omega) h2 fun n cs y h => open_ln h
    simp [Value.cells] at e0 e1 e2
    subst e0 e1 e2
    exact ⟨⟨a, b, q⟩, c2, rfl, hs⟩
end
end Go.Proofs.YtnkephafpebfkaaGreatDoor
namespace Go.Proofs.YtnkephafpebfkaaGreatDoor.lawEncodes
open Go.ChangeShapes Go.WideShapes Go.ChangeAt Go.RowKit Go.Proofs.YtnkephafpebfkaaGreatDoor

theorem own : ownKnob Tryz.prog.godebug = none := by kernel_rfl
theorem laidOut : laidOutB Tryz.prog = true := by kernel_rfl

set_option maxRecDepth 100000 in
theorem lifted (os : Os) (started : os.Started) (H : Type) (enc : TypeId × Value → H) :
    ReturnsInHanded {} Tryz.checked os 3 .any (fun w args => (Rows.filingEncodesSpec.pre enc Tryz.prog Tryz.f3 [] false w args ∧ laidMetH Tryz.prog laidL w) ∧ sizedMet enc Tryz.prog Tryz.f3 (OpenSpec.ofChange Rows.filingEncodesSpec) false w args)
      (Rows.filingEncodesSpec.post enc Tryz.prog Tryz.f3 false true false false) := by
  refine returnsInHanded_of_change_and (C := Tryz.checked) (X := fun w _ => laidMetH Tryz.prog laidL w) (fun _ _ _ hh h => h.of_heap hh) own started (by kernel_rfl) Tryz.func3
    (ChangeSpec.witness_shaped (enc := enc) (C := Tryz.checked) (os := os) (X := fun w _ => laidMetH Tryz.prog laidL w) false (World.laidAll Tryz.prog os laidL) #[.slice none 0 0, .agg #[.int .i64 0, .int .i64 0, .slice none 0 0], .int .i64 0, .int .i64 0] 8 (World.laidAll_os _ _ _) (door_shaped os) (by kernel_rfl) (by kernel_rfl) (by kernel_rfl) (door_met os _)) ?_
  intro W base args ds gs before hval0 hW _ hwt hL _
  have hval : ∀ (j : Nat) t v, Tryz.f3.params[j]? = some t → args[j]? = some v → Value.okWide Tryz.prog W .any base t v := hval0
  have hW' := hW
  obtain ⟨p, q, hA0, hV, rfl, hfz, hnd⟩ := hW
  have hA : DataW.TrodAll enc Tryz.prog W 0 (fun _ => true) true Tryz.f3.params.toList args.toList ds p := hA0
  rw [Tryz.params3] at hA hval
  obtain ⟨v0, vs0, d0, ds0, p0, q0, hargs, rfl, rfl, h0, r0⟩ := trodAll_cons hA
  obtain ⟨v1, vs1, d1, ds1, p1, q1, rfl, rfl, rfl, h1, r1⟩ := trodAll_cons r0
  obtain ⟨v2, vs2, d2, ds2, p2, q2, rfl, rfl, rfl, h2, r2⟩ := trodAll_cons r1
  obtain ⟨v3, vs3, d3, ds3, p3, q3, rfl, rfl, rfl, h3, r3⟩ := trodAll_cons r2
  obtain ⟨rfl, rfl, rfl⟩ := trodAll_nil r3
  obtain rfl : args = #[v0, v1, v2, v3] := by cases args; simp_all
  obtain ⟨rfl, rfl⟩ := trodVars_none hV
  obtain ⟨l0, s0⟩ := open_intsL (hval 0 22 v0 rfl rfl) h0
  obtain ⟨l1, u1, rfl, s1⟩ := open_ret (hval 1 25 v1 rfl rfl) h1
  obtain ⟨a2, rfl, rfl, rfl, w2⟩ := open_int Tryz.underlying3 (hval 2 3 v2 rfl rfl) h2
  obtain ⟨a3, rfl, rfl, rfl, w3⟩ := open_int Tryz.underlying3 (hval 3 3 v3 rfl rfl) h3
  obtain ⟨hT, hWd⟩ := of_laid hL
  refine (FilingEncodes_any v0 l0 l1 u1 a2 a3 W hT hWd s0 s1).mono fun e W' ⟨he, hg⟩ => ?_
  subst he
  exact ⟨_, rfl, law_post laidOut rfl rfl Tryz.underlying4 (by decide +kernel) ⟨rfl, rfl, rfl⟩ hW' hg⟩

theorem over : Rows.FilingEncodesSaid :=
  OpenClaim.holds_of_wide 3 Tryz.f3 rfl rfl rfl rfl rfl rfl rfl ⟨rfl, rfl, rfl, rfl, rfl⟩ rfl rfl rfl rfl rfl (by kernel_rfl) Tryz.func3 (by kernel_rfl)
    (of_decide_eq_true (by kernel_rfl)) (by unfold Func.isWrapper; first | (rw [if_pos (by decide +kernel)]; kernel_rfl) | (rw [if_neg (by decide +kernel)]; exact ⟨rfl, rfl⟩))
    (fun os started H enc _ => lifted os started H enc)

/-- THE STATEMENT -/
theorem proved : Rows.FilingEncodesCardSaid :=
  Claim7.holds_tied_plain_at .later [] [.data, .data, .data, .data, .sentinel, .sentinel, .pinned] true (true, "c694d0e3ba76aa5e8513c0435f946f51914e1633ef7e9c66421ef11c968e0b07") true
    over (fun _ h => by cases h) (by kernel_rfl) (fun _ h => by cases h) filingEncodes_row_tie rfl ⟨rfl, rfl⟩ (by kernel_rfl) rfl
    (fun f fn hf hfn => by
      obtain rfl : f = 3 := Option.some.inj ((show Tryz.prog.funcNamed "payroll/payrolllaw43.FilingEncodes" = some 3 by kernel_rfl).symm.trans hf) |>.symm
      obtain rfl : fn = Tryz.f3 := (Option.some.inj (Tryz.func3.symm.trans hfn)).symm
      exact ⟨by kernel_rfl, fun j t ht => by
        rw [Tryz.params3] at ht
        have hm : t ∈ [22, 25, 3, 3] := by simpa using Array.mem_of_getElem? ht
        have hall : ([22, 25, 3, 3].all fun u => !Tryz.prog.wantsStandIn u) = true := by kernel_rfl
        exact (show Tryz.prog.wantsStandIn t = false by simpa using List.all_eq_true.1 hall t hm)⟩)
    (by kernel_rfl)
end Go.Proofs.YtnkephafpebfkaaGreatDoor.lawEncodes
