/- Contract of transfer.write: a line of words and numbers. Written by gen_twr.py. -/
import Derived.Test.YtlchcfkngjbdjaaGreatDoorBdr
import Derived.Test.YtlchcfkngjbdjaaGreatDoorTab
import Derived.Test.YtlchcfkngjbdjaaGreatDoorLinT
import Derived.KernelRfl
import Derived.LoopTactic
namespace Go.Proofs.YtlchcfkngjbdjaaGreatDoor
open Go.RowKit Go.Shelf

/-- a word: a text or a number -/
inductive Wd where
  | s (t : ByteArray)
  | n (i : Int)
def Wd.val : Wd → Value
  | .s t => .iface 9 (.string t)
  | .n i => .iface 3 (.int .i64 i)
def Wd.txt : Wd → List UInt8
  | .s t => t.data.toList
  | .n i => Lib.itoa i
def Wd.ok (x : Wd) : Prop := match x with
  | .s t => t.size ≤ 100
  | .n i => -9223372036854775808 ≤ i ∧ i ≤ 9223372036854775807
theorem Wd.len {x : Wd} (h : x.ok) : x.txt.length ≤ 100 := by
  cases x with
  | s t => exact h
  | n i => have := itoa_len i h.1 h.2; simp only [Wd.txt]; omega
/-- what has been written behind k words -/
def preW (ws : List Wd) (k : Nat) : List UInt8 := joinBy 32 ((ws.take k).map Wd.txt)
def lineW (ws : List Wd) : List UInt8 := joinBy 32 (ws.map Wd.txt) ++ [10]
theorem join_snoc {c : UInt8} {x : List UInt8} : ∀ {l : List (List UInt8)}, l ≠ [] → joinBy c (l ++ [x]) = joinBy c l ++ c :: x
  | [], h => absurd rfl h
  | [a], _ => rfl
  | a :: b :: r, _ => by
    show joinBy c (a :: ((b :: r) ++ [x])) = _
    rw [join_cons (by simp), join_snoc (l := b :: r) (by simp), join_cons (l := b :: r) (by simp)]
    simp
theorem preW_step {ws : List Wd} {k : Nat} (h : k < ws.length) : preW ws (k + 1) = preW ws k ++ (if k = 0 then [] else [32]) ++ (ws[k]).txt := by
  unfold preW
  rw [List.take_succ_eq_append_getElem h, List.map_append]
  by_cases hk : k = 0
  · subst hk; simp [joinBy]
  · rw [if_neg hk, List.map_cons, List.map_nil, join_snoc (fun h' => by have := congrArg List.length h'; simp at this; rcases this with h1 | h1 <;> (first | omega | (subst h1; simp at h)))]
    simp
theorem preW_len {ws : List Wd} (hw : ∀ x ∈ ws, x.ok) : ∀ {k : Nat}, k ≤ ws.length → (preW ws k).length ≤ k * 101
  | 0, _ => by simp [preW, joinBy]
  | k + 1, h => by
    have ih := preW_len hw (k := k) (by omega)
    have := Wd.len (hw _ (List.getElem_mem (show k < ws.length by omega)))
    rw [preW_step (by omega), List.length_append, List.length_append]
    have h1 : (if k = 0 then ([] : List UInt8) else [32]).length ≤ 1 := by split <;> simp
    omega
theorem asrt_str (u : ByteArray) (W : World) : (Instr.typeAssert (.iface 9 (.string u)) 20 9 true).run Tryz.prog W = .ok (.tuple #[.string u, .bool true]) W := by kernel_rfl
theorem asrt_int (n : Int) (W : World) : (Instr.typeAssert (.iface 3 (.int .i64 n)) 20 3 true).run Tryz.prog W = .ok (.tuple #[.int .i64 n, .bool true]) W := by kernel_rfl
theorem asrt_no (n : Int) (W : World) : (Instr.typeAssert (.iface 3 (.int .i64 n)) 20 9 true).run Tryz.prog W = .ok (.tuple #[.string ⟨#[]⟩, .bool false]) W := by kernel_rfl
def WrS (w : World) (b g : Nat) (t : List UInt8) (ws : List Wd) (k : Nat) (wr : World) : Prop := Bd wr b (t ++ preW ws k) ∧ Row wr g 20 (ws.map Wd.val).toArray ∧ Below b w wr
set_option maxRecDepth 100000 in
set_option maxHeartbeats 2000000 in
theorem write_any (b g : Nat) (t : List UInt8) (ws : List Wd) (w : World) (hbd : Bd w b t) (hr : Row w g 20 (ws.map Wd.val).toArray) (hgb : g ≠ b)
    (hT : ∀ w', Below b w w' → Tabs w') (hw : ∀ x ∈ ws, x.ok) (hl : ws.length ≤ 100) (ht : t.length ≤ 1000000000) :
    Calls Tryz.prog 46 #[.pointer (some ⟨b, 0, none⟩), .slice (some ⟨g, 0, none⟩) ws.length ws.length] w fun e w' => e = .returned (.tuple #[]) ∧ Bd w' b (t ++ lineW ws) ∧ Below b w w' := by
  have HT := Lib.hid hT
  have HW := Lib.hid hw
  have HS := Lib.hid (fun k => preW_step (ws := ws) (k := k))
  have HN := Lib.hid (fun k => preW_len hw (k := k))
  clear hT hw
  have hr0 : WrS w b g t ws 0 w := ⟨by simpa [preW, joinBy] using hbd, hr, Below.refl _ _⟩
  clear hbd hr
  go_enter Tryz.func46, Tryz.ntmps46
  go_wp2_with fail
  go_loopw [10] (fun i wr => ∃ k : Nat, k ≤ ws.length ∧ i = .int .i64 k ∧ Hid (WrS w b g t ws k wr)) (fun i _ => ws.length - (intOf i).toNat)
  case atStart => exact ⟨0, by omega, rfl, hr0⟩
  case round =>
    clear hr0
    obtain ⟨k, hk, rfl, HR⟩ := hrel
    obtain ⟨wo, rfl⟩ : ∃ wo : World, wo = wr := ⟨_, rfl⟩
    obtain ⟨hbd, hrow, hB⟩ := HR.out
    have hpl := HN.out k hk
    have hbl := hbd.lt
    by_cases hlt : k < ws.length
    · have hc0 : wo.cell? ⟨g, k, none⟩ = some (ws[k]).val := by rw [hrow.cell]; simp [hlt]
      have HS1 := Lib.hid (HS.out k hlt)
      have hok := Lib.hid (HW.out _ (List.getElem_mem hlt))
      obtain ⟨x, hx⟩ : ∃ x, ws[k] = x := ⟨_, rfl⟩
      rw [hx] at hc0 HS1 hok
      clear hx HR
      by_cases hk0 : k = 0
      · subst hk0
        rw [if_pos rfl] at HS1
        cases x with
        | s u =>
          have hus : u.size ≤ 100 := hok.out
          simp only [Wd.val] at hc0
          have E1 := fun W => asrt_str u W
          have hbd1 := hbd
          have hrow1 := hrow
          have hB1 := hB
          clear hbd hrow hB
          go_wp2_with fail
          refine (WriteS_any b _ u _ hbd1 (by simp only [List.length_append]; omega)).mono ?_
          rintro e w2 ⟨rfl, hbd2, hb2, hk2⟩
          have hrow2 := hrow1.others hk2 hgb (by decide)
          have hB2 := hB1.trans hb2
          clear E1 hbd1 hrow1 hB1
          go_wp2
          go_roundw
          case rel => exact ⟨0 + 1, by omega, by go_num, (by simpa [HS1.out, Wd.txt] using hbd2), hrow2, hB2⟩
          case measure => simp [intOf]; omega
        | n z =>
          have hzb := hok.out
          simp only [Wd.val] at hc0
          have E1 := fun W => asrt_int z W
          have E2 := fun W => asrt_no z W
          have hbd1 := hbd
          have hrow1 := hrow
          have hB1 := hB
          clear hbd hrow hB
          go_wp2_with fail
          refine (ItoaD_any z _ hzb.1 hzb.2 (HT.out _ hB1)).mono ?_
          rintro e w2 ⟨u, rfl, hu, hus, hb2⟩
          have hbd2 := hbd1.kept hb2
          have hrow2 := hrow1.below hb2 hrow1.lt
          have hB2 := hB1.trans (hb2.mono (by omega))
          clear E1 E2 hbd1 hrow1 hB1 hb2
          go_wp2_with fail
          refine (WriteS_any b _ u _ hbd2 (by simp only [List.length_append]; omega)).mono ?_
          rintro e w3 ⟨rfl, hbd3, hb3, hk3⟩
          have hrow3 := hrow2.others hk3 hgb (by decide)
          have hB3 := hB2.trans hb3
          clear hbd2 hrow2 hB2
          go_wp2
          go_roundw
          case rel => exact ⟨0 + 1, by omega, by go_num, (by rw [hu.out] at hbd3; simpa [HS1.out, Wd.txt] using hbd3), hrow3, hB3⟩
          case measure => simp [intOf]; omega
      · rw [if_neg hk0] at HS1
        have hk1 : (0 : Int) < (k : Int) := by omega
        cases x with
        | s u =>
          have hus : u.size ≤ 100 := hok.out
          simp only [Wd.val] at hc0
          have E1 := fun W => asrt_str u W
          go_wp2_with fail
          refine (WriteB_any b _ 32 _ hbd (by simp only [List.length_append]; omega) _ rfl).mono ?_
          rintro e w1 ⟨rfl, hbd1, hb1, hk1⟩
          have hrow1 := hrow.others hk1 hgb (by decide)
          have hB1 := hB.trans hb1
          clear hbd hrow hB hb1 hk1 hbl
          have hbl := hbd1.lt
          go_wp2_with fail
          refine (WriteS_any b _ u _ hbd1 (by simp only [List.length_append, List.length_cons, List.length_nil]; omega)).mono ?_
          rintro e w2 ⟨rfl, hbd2, hb2, hk2⟩
          have hrow2 := hrow1.others hk2 hgb (by decide)
          have hB2 := hB1.trans hb2
          clear E1 hbd1 hrow1 hB1
          go_wp2
          go_roundw
          case rel => exact ⟨k + 1, by omega, by go_num, (by simpa [HS1.out, Wd.txt] using hbd2), hrow2, hB2⟩
          case measure => simp [intOf]; omega
        | n z =>
          have hzb := hok.out
          simp only [Wd.val] at hc0
          have E1 := fun W => asrt_int z W
          have E2 := fun W => asrt_no z W
          go_wp2_with fail
          refine (WriteB_any b _ 32 _ hbd (by simp only [List.length_append]; omega) _ rfl).mono ?_
          rintro e w1 ⟨rfl, hbd1, hb1, hk1⟩
          have hrow1 := hrow.others hk1 hgb (by decide)
          have hB1 := hB.trans hb1
          clear hbd hrow hB hb1 hk1 hbl
          have hbl := hbd1.lt
          go_wp2_with fail
          refine (ItoaD_any z _ hzb.1 hzb.2 (HT.out _ hB1)).mono ?_
          rintro e w2 ⟨u, rfl, hu, hus, hb2⟩
          have hbd2 := hbd1.kept hb2
          have hrow2 := hrow1.below hb2 hrow1.lt
          have hB2 := hB1.trans (hb2.mono (by omega))
          clear E1 E2 hbd1 hrow1 hB1 hb2
          go_wp2_with fail
          refine (WriteS_any b _ u _ hbd2 (by simp only [List.length_append, List.length_cons, List.length_nil]; omega)).mono ?_
          rintro e w3 ⟨rfl, hbd3, hb3, hk3⟩
          have hrow3 := hrow2.others hk3 hgb (by decide)
          have hB3 := hB2.trans hb3
          clear hbd2 hrow2 hB2
          go_wp2
          go_roundw
          case rel => exact ⟨k + 1, by omega, by go_num, (by rw [hu.out] at hbd3; simpa [HS1.out, Wd.txt] using hbd3), hrow3, hB3⟩
          case measure => simp [intOf]; omega
    · obtain rfl : k = ws.length := by omega
      go_wp2_with fail
      refine (WriteB_any b _ 10 _ hbd (by simp only [List.length_append]; omega) _ rfl).mono ?_
      rintro e w1 ⟨rfl, hbd1, hb1, -⟩
      have hq : t ++ preW ws ws.length ++ [10] = t ++ lineW ws := by rw [preW, List.take_length, lineW, List.append_assoc]
      rw [hq] at hbd1
      go_wp2
      go_end0
      exact ⟨rfl, hbd1, hB.trans hb1⟩
end Go.Proofs.YtlchcfkngjbdjaaGreatDoor
