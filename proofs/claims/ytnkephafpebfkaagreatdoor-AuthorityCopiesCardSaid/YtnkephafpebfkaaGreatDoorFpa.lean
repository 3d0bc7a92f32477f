/- Contracts of filing.parse and filing.Decode. -/
import Derived.Test.YtnkephafpebfkaaGreatDoorFl
import Derived.Test.YtnkephafpebfkaaGreatDoorFv
import Derived.Test.YtnkephafpebfkaaGreatDoorStp
namespace Go.Proofs.YtnkephafpebfkaaGreatDoor
open Go.RowKit Go.Shelf

theorem own_set {w : World} {base e sz : Nat} {v : Value} {es : List (List Value)} (h : Own w base e sz v es) {r : Nat} (hr : r < base) (i : Nat) (u : Value) : Own (w.setCell ⟨r, i, none⟩ u) base e sz v es :=
  h.keepG (grown_set w r i u) (by
    rcases hv : v.ownBlock with _ | k
    · exact .inl rfl
    · refine .inr fun e => ?_
      have := (h.1.lt k hv).1
      injection e; omega)
theorem own3 {w : World} {base e sz : Nat} {v : Value} {es : List (List Value)} (h : Own w base e sz v es) {r : Nat} (hr : r < base) (x y z : Value) :
    Own (((w.setCell ⟨r, 0, none⟩ x).setCell ⟨r, 1, none⟩ y).setCell ⟨r, 2, none⟩ z) base e sz v es := own_set (own_set (own_set h hr 0 x) hr 1 y) hr 2 z
theorem Own.form1 {w : World} {base e sz : Nat} {v : Value} {es : List (List Value)} (h : Own w base e sz v es) (h0 : 0 < es.length) : ∃ g cap, v = .slice (some ⟨g, 0, none⟩) es.length cap ∧ es.length ≤ cap := by
  rcases h.1.2 with ⟨rfl, h0'⟩ | ⟨g, cap, cur, rfl, _, _, h7, _⟩
  · omega
  · exact ⟨g, cap, rfl, h7⟩
/-- the call returns the return, or nothing -/
def RetPar (o : Option Ret) (w : World) (e : Ending) (w' : World) : Prop :=
  Below w.heap.size w w' ∧ ((∃ f v, o = some f ∧ e = .returned (.tuple #[.agg (f.vals v), .bool true]) ∧ Own w' w.heap.size 56 3 v (lns f.l)) ∨
    (o = none ∧ e = .returned (.tuple #[.agg #[.int .i64 0, .int .i64 0, .slice none 0 0], .bool false])))
theorem RetPar.no {o : Option Ret} {w w' : World} (h : o = none) (hb : Below w.heap.size w w') : RetPar o w (.returned (.tuple #[.agg #[.int .i64 0, .int .i64 0, .slice none 0 0], .bool false])) w' := ⟨hb, .inr ⟨h, rfl⟩⟩
/-- the lines in a box, beside what lay before -/
structure PaS (wL : World) (m : Nat) (n d : Int) (acc : List Ln) (v : Value) (wr : World) : Prop where
  below : Below wL.heap.size wL wr
  box : Row wr m 25 #[.int .i64 n, .int .i64 d, v]
  own : Own wr wL.heap.size 56 3 v (lns acc)
  apart : v.ownBlock ≠ some m
  high : wL.heap.size ≤ m
theorem PaS.same {wL wr w' : World} {m : Nat} {n d : Int} {acc : List Ln} {v : Value} (h : PaS wL m n d acc v wr) (hb : Below wr.heap.size wr w') : PaS wL m n d acc v w' :=
  ⟨h.below.trans (hb.mono h.below.size), h.box.below hb h.box.lt, h.own.kept hb, h.apart, h.high⟩
/-- a line appended -/
theorem PaS.app {wL w5 : World} {m : Nat} {n d : Int} {acc : List Ln} {v : Value} (h : PaS wL m n d acc v w5) (x : Ln) {v7 : Value} {w7 : World}
    (hown7 : Own w7 wL.heap.size 56 3 v7 (lns acc ++ [x.vals])) (hg7 : (w5.alloc (.cells #[.int .i64 x.kind, .string x.code, .int .i64 x.amt] 56)).grownBy w7 v.ownBlock)
    (hv7 : v7.ownBlock = v.ownBlock ∨ v7.ownBlock = some (w5.alloc (.cells #[.int .i64 x.kind, .string x.code, .int .i64 x.amt] 56)).heap.size) :
    PaS wL m n d (acc ++ [x]) v7 (w7.setCell ⟨m, 2, none⟩ v7) ∧ Row w7 m 25 #[.int .i64 n, .int .i64 d, v] := by
  have hW := ((Below.refl w5.heap.size w5).alloc (Nat.le_refl _) (.cells #[.int .i64 x.kind, .string x.code, .int .i64 x.amt] 56))
  have h5 := h.same hW
  have hml := h.box.lt
  have hr7 := h5.box.keep hg7 (fun e => h.apart e.symm)
  have hne : v7.ownBlock ≠ some m := by
    rcases hv7 with e | e
    · rw [e]; exact h.apart
    · rw [e]; intro hh; injection hh with hh; have := hW.size; simp only [World.size_alloc] at hh; omega
  refine ⟨⟨(Own.grown h5.own h5.below hg7 h5.below.size).setCell (p := ⟨m, 2, none⟩) h.high _, hr7.set 2 _, ?_, hne, h.high⟩, hr7⟩
  rw [lns_append]
  exact hown7.keepG (grown_set w7 m 2 v7) (.inr hne)

set_option maxRecDepth 100000 in
set_option maxHeartbeats 4000000 in
theorem parseR_any (s : ByteArray) (w : World) (hT : Tabs w) (hE : Errs w) (hs : s.size ≤ 65536) :
    Calls Tryz.prog 43 #[.string s] w (RetPar (parseR s.data.toList) w) := by
  have HT := Lib.hid hT
  have HER := Lib.hid hE
  clear hT hE
  have hsz : s.data.toList.length = s.size := by simp
  have HF : Hid (parseR s.data.toList = if Lib.hasSuffix s.data.toList [10] then parseL (splitBy 10 (Lib.trimSuffix s.data.toList [10])) else none) := rfl
  obtain ⟨en, hen⟩ : ∃ en, Lib.hasSuffix s.data.toList [10] = en := ⟨_, rfl⟩
  have hTr : (Lib.trimSuffix s.data.toList [10]).length ≤ s.size := by
    unfold Lib.trimSuffix; split <;> simp
  obtain ⟨bd, hbd⟩ : ∃ bd : ByteArray, (⟨(Lib.trimSuffix s.data.toList [10]).toArray⟩ : ByteArray) = bd := ⟨_, rfl⟩
  have hbz : bd.size ≤ s.size := by rw [← hbd]; show (Lib.trimSuffix s.data.toList [10]).toArray.size ≤ _; rw [List.size_toArray]; exact hTr
  have HBD : Hid (bd.data.toList = Lib.trimSuffix s.data.toList [10]) := by rw [Hid, ← hbd]
  have HCUT : Hid (∀ W, Calls Tryz.prog 68 #[.string s, .string ⟨#[10]⟩] W fun e w' => e = .returned (.tuple #[.string bd, .bool en]) ∧ w' = W) := fun W => by
    have := Tryz.strings_CutSuffix s ⟨#[10]⟩ W (by omega)
    simp only [] at this
    rw [hbd, hen] at this
    exact this
  rw [hen] at HF
  rw [← HBD.out] at HF
  clear hen hbd hTr hsz
  have hr0 := Row.new w 25 #[.int .i64 0, .int .i64 0, .slice none 0 0]
  have hB0 := (Below.refl w.heap.size w).alloc (Nat.le_refl _) (.cells #[.int .i64 0, .int .i64 0, .slice none 0 0] 25)
  go_enter Tryz.func43, Tryz.ntmps43
  go_wp2_with fail
  obtain ⟨w0, hw0⟩ : ∃ w0, w.alloc (.cells #[.int .i64 0, .int .i64 0, .slice none 0 0] 25) = w0 := ⟨_, rfl⟩
  rw [hw0] at hr0 hB0 ⊢
  clear hw0
  obtain ⟨r, hr⟩ : ∃ r, w.heap.size = r := ⟨_, rfl⟩
  rw [hr] at hr0 ⊢
  have hwr : w.heap.size ≤ r := by omega
  clear hr
  refine (HCUT.out _).mono ?_
  rintro e w' ⟨rfl, hww⟩
  rw [hww]
  clear hww HCUT
  go_wp2_with fail
  refine (Split_any bd 10 w0 (by omega)).mono ?_
  rintro e w1 ⟨P, A1, cap1, rfl, hP, hPs, hPl, hsl1, hb1⟩
  have hHP : Hid (P.map (·.data.toList) = splitBy 10 bd.data.toList) := hP
  have HPS := Lib.hid hPs
  have HS1 := Lib.hid hsl1
  have hB1 := below_after hB0 hb1 hB0.size
  have hz1 := hr0.below hb1 hr0.lt
  have hr1l := hz1.lt
  obtain ⟨hcl, hcm⟩ : P.length ≤ cap1 ∧ cap1 ≤ maxLen := by
    obtain ⟨A', cap', hv, k1, k2, _, _⟩ := hsl1
    injection hv with e1 e2 e3
    subst e1 e3
    rw [txts_len] at k1
    exact ⟨k1, k2⟩
  unfold maxLen at hcm
  clear hP hPs hsl1 hb1 hB0 hr0
  have hs1 := hB1.size
  have HNO : Hid (parseR s.data.toList = none → ∀ w', Below w.heap.size w w' → RetPar (parseR s.data.toList) w (.returned (.tuple #[.agg #[.int .i64 0, .int .i64 0, .slice none 0 0], .bool false])) w') := fun h w' hb => RetPar.no h hb
  cases en
  · have hF : parseR s.data.toList = none := by rw [HF.out]; rfl
    have hN := Lib.hid (HNO.out hF _ (Below.set3 hB1 hwr (.int .i64 0) (.int .i64 0) (.slice none 0 0)))
    have HZ := Lib.hid (row3 (Row.set3 hz1 (.int .i64 0) (.int .i64 0) (.slice none 0 0))).1
    obtain ⟨⟨a0, a1, a2, al⟩, ⟨b0, b1, b2⟩⟩ := row3 hz1
    clear hF hz1 hB1
    go_wp2
    obtain ⟨z0, z1, z2, _⟩ := HZ.out
    refine bodyPost_ret (v := .tuple #[.agg #[.int .i64 0, .int .i64 0, .slice none 0 0], .bool false]) (by simp only [results, Tryz.results43, go_sem]; simp [z0, z1, z2, go_sem]) rfl hN.out
  rw [if_pos rfl, ← hHP.out] at HF
  by_cases hL3 : 2 ≤ P.length
  rotate_left
  · have hF : parseR s.data.toList = none := by rw [HF.out]; exact pl_short (fun h => hL3 (by simpa using h.1))
    have i1 : ((P.length : Int) - 1) < 1 := by omega
    have hN := Lib.hid (HNO.out hF _ (Below.set3 hB1 hwr (.int .i64 0) (.int .i64 0) (.slice none 0 0)))
    have HZ := Lib.hid (row3 (Row.set3 hz1 (.int .i64 0) (.int .i64 0) (.slice none 0 0))).1
    obtain ⟨⟨a0, a1, a2, al⟩, ⟨b0, b1, b2⟩⟩ := row3 hz1
    clear hF hz1 hB1
    go_wp2
    obtain ⟨z0, z1, z2, _⟩ := HZ.out
    refine bodyPost_ret (v := .tuple #[.agg #[.int .i64 0, .int .i64 0, .slice none 0 0], .bool false]) (by simp only [results, Tryz.results43, go_sem]; simp [z0, z1, z2, go_sem]) rfl hN.out
  have i1 : ¬ ((P.length : Int) - 1) < 1 := by omega
  have i2 : ((P.length : Int) - 1) < (P.length : Int) := by omega
  have i3 : (0 : Int) ≤ ((P.length : Int) - 1) := by omega
  have i4 : ((P.length : Int) - 1).toNat = P.length - 1 := by omega
  obtain ⟨bp, op, rfl, hc⟩ := HS1.out.cells (by rw [txts_len]; omega)
  have q1 := hc.txt (k := P.length - 1) (by omega)
  have hbl := hc.1
  obtain ⟨pe, hpe⟩ : ∃ pe, P[P.length - 1] = pe := ⟨_, rfl⟩
  rw [hpe] at q1
  have HEE := Lib.hid (show (P.map (·.data.toList))[(P.map (·.data.toList)).length - 1]? = some pe.data.toList by
    rw [List.length_map, List.getElem?_map, List.getElem?_eq_getElem (show P.length - 1 < P.length by omega), hpe]; rfl)
  clear hpe
  have i1d : decide (((P.length : Int) - 1) < 1) = false := decide_eq_false i1
  by_cases hend : pe.data.toList = wEnd
  rotate_left
  · have hF : parseR s.data.toList = none := by
      rw [HF.out]; exact pl_short (fun h => hend (by have := h.2; rw [HEE.out] at this; exact Option.some.inj this))
    obtain ⟨t3, t4⟩ := str_no hend
    unfold wEnd at t3 t4
    clear hend
    have hN := Lib.hid (HNO.out hF _ (Below.set3 hB1 hwr (.int .i64 0) (.int .i64 0) (.slice none 0 0)))
    have HZ := Lib.hid (row3 (Row.set3 hz1 (.int .i64 0) (.int .i64 0) (.slice none 0 0))).1
    obtain ⟨⟨a0, a1, a2, al⟩, ⟨b0, b1, b2⟩⟩ := row3 hz1
    clear hF hz1 hB1
    go_wp2
    obtain ⟨z0, z1, z2, _⟩ := HZ.out
    refine bodyPost_ret (v := .tuple #[.agg #[.int .i64 0, .int .i64 0, .slice none 0 0], .bool false]) (by simp only [results, Tryz.results43, go_sem]; simp [z0, z1, z2, go_sem]) rfl hN.out
  obtain ⟨t3, t4⟩ := str_yes hend
  have HCO : Hid (2 ≤ (P.map (·.data.toList)).length ∧ (P.map (·.data.toList))[(P.map (·.data.toList)).length - 1]? = some wEnd) := ⟨by simpa using hL3, by rw [HEE.out, hend]⟩
  unfold wEnd at t3 t4
  have q0 := hc.txt (k := 0) (by omega)
  rw [Nat.add_zero] at q0
  have HC := Lib.hid hc
  have HP0 := Lib.hid (show (P.map (·.data.toList)).getD 0 [] = (P[0]).data.toList by simp [List.getD, List.getElem?_eq_getElem (show 0 < P.length by omega)])
  have z0 := HPS.out _ (List.getElem_mem (show 0 < P.length by omega))
  obtain ⟨p0, hp0⟩ : ∃ x, P[0] = x := ⟨_, rfl⟩
  rw [hp0] at q0 HP0 z0
  clear hp0 hend HEE hc
  go_wp2_with fail
  refine (readHead_any p0 w1 (HT.out.below hB1) (HER.out.below hB1) (by omega)).mono ?_
  rintro e w2 ⟨n, d, rfl, hh, hb2⟩
  have hB2 := below_after hB1 hb2 hB1.size
  have hz2 := hz1.below hb2 hz1.lt
  have HC2 := Lib.hid (HC.out.below hb2 HC.out.1)
  have hs2 := hB2.size
  have hs12 := hb2.size
  have hr2l := hz2.lt
  clear q0 q1 t3 t4 hB1 hz1 hbl HC hb2 hs1
  cases hoo : rdHead p0.data.toList with
  | none =>
    have hF : parseR s.data.toList = none := by rw [HF.out]; exact pl_head HCO.out (by rw [HP0.out]; exact hoo)
    have e1 : (none : Option (Int × Int)).isSome = false := rfl
    rw [e1]
    have hq3 := Below.set3 hB2 hwr (.int .i64 0) (.int .i64 0) (.slice none 0 0)
    have hN := Lib.hid (HNO.out hF _ (hq3.alloc hq3.size (.cells #[.int .i64 n, .int .i64 d, .slice none 0 0] 25)))
    have HZ := Lib.hid (row3 ((Row.set3 hz2 (.int .i64 0) (.int .i64 0) (.slice none 0 0)).alloc (.cells #[.int .i64 n, .int .i64 d, .slice none 0 0] 25))).1
    obtain ⟨⟨a0, a1, a2, al⟩, ⟨b0, b1, b2⟩⟩ := row3 hz2
    clear hF hz2 hB2 hq3 hoo hh
    go_wp2
    obtain ⟨z0, z1, z2, _⟩ := HZ.out
    refine bodyPost_ret (v := .tuple #[.agg #[.int .i64 0, .int .i64 0, .slice none 0 0], .bool false]) (by simp only [results, Tryz.results43, go_sem]; simp [z0, z1, z2, go_sem]) rfl hN.out
  | some o =>
  obtain rfl := hh o hoo
  have HH := Lib.hid hoo
  have e1 : (some (n, d) : Option (Int × Int)).isSome = true := rfl
  rw [e1]
  clear e1 hoo hh
  have hs0 : PaS w2 w2.heap.size n d [] (.slice none 0 0) (w2.alloc (.cells #[.int .i64 n, .int .i64 d, .slice none 0 0] 25)) := by
    have hb := ((Below.refl w2.heap.size w2).alloc (Nat.le_refl _) (.cells #[.int .i64 n, .int .i64 d, .slice none 0 0] 25))
    have hr := Row.new w2 25 #[.int .i64 n, .int .i64 d, .slice none 0 0]
    exact ⟨hb, hr, Own.nil _ _ _ _, by simp [Value.ownBlock], Nat.le_refl _⟩
  have i8 : (1 : Int) ≤ ((P.length : Int) - 1) := by omega
  have i9 : ((P.length : Int) - 1) ≤ (cap1 : Int) := by omega
  have ia : ¬ cap1 = 1 := by omega
  have ib : 1 < cap1 := by omega
  have ic : P.length - 1 ≤ cap1 := by omega
  obtain ⟨mid, hmid⟩ : ∃ mid, ((P.map (·.data.toList)).drop 1).take ((P.map (·.data.toList)).length - 2) = mid := ⟨_, rfl⟩
  have hml : mid.length = P.length - 1 - 1 := by rw [← hmid]; simp; omega
  have HMD : Hid (∀ k (h : k < mid.length) (h' : k + 1 < P.length), mid[k] = (P[k + 1]).data.toList) := fun k h h' => by
    subst hmid
    simp
  have HMI := Lib.hid hmid
  have HML := Lib.hid hml
  have hm1 : mid.length ≤ P.length - 1 - 1 := by omega
  have hm2 : P.length - 1 - 1 ≤ mid.length := by omega
  clear hmid hml
  go_wp2_with fail
  obtain ⟨w3, hw3⟩ : ∃ w3, w2.alloc (.cells #[.int .i64 n, .int .i64 d, .slice none 0 0] 25) = w3 := ⟨_, rfl⟩
  obtain ⟨m, hm⟩ : ∃ m, w2.heap.size = m := ⟨_, rfl⟩
  rw [hm] at hs0
  rw [hw3] at hs0 ⊢
  rw [hm]
  have hmw : w2.heap.size ≤ m := by omega
  have hmr : ¬ m = r := by omega
  have hrm : ¬ r = m := by omega
  clear hw3 i1 i1d i2 i3 i4 i8 i9 ia ib ic
  go_loopw [52] (fun i wr => ∃ k : Nat, ∃ acc : List Ln, ∃ v, k ≤ mid.length ∧ i = .int .i64 k ∧ acc.length ≤ k ∧ Hid (LnI mid k acc) ∧ Hid (PaS w2 m n d acc v wr)) (fun i _ => mid.length - (intOf i).toNat)
  case atStart => exact ⟨0, [], _, by omega, rfl, by simp, lnI_start mid, hs0⟩
  case round =>
    clear hs0
    obtain ⟨k, acc, v, hk, rfl, hacc, HI, HS⟩ := hrel
    obtain ⟨wo, rfl⟩ : ∃ wo : World, wo = wr := ⟨_, rfl⟩
    have hBo := hB2.trans (HS.out.below.mono hs2)
    have hzo := hz2.below HS.out.below hz2.lt
    have hlo := HS.out.below.size
    have hcl0 := (HC2.out.below HS.out.below HC2.out.1)
    by_cases hlt : k < mid.length
    · have hkP : k + 1 < P.length := by omega
      have hkN : k < P.length - 1 - 1 := by omega
      have q0 := hcl0.txt hkP
      rw [show op + (k + 1) = op + 1 + k by omega] at q0
      have hpz := HPS.out _ (List.getElem_mem hkP)
      have HMK := Lib.hid (HMD.out k hlt hkP)
      obtain ⟨px, hpx⟩ : ∃ x, P[k + 1] = x := ⟨_, rfl⟩
      rw [hpx] at q0 hpz HMK
      have hblo := hcl0.1
      clear hpx hcl0
      go_wp2_with fail
      refine (readLine_any px wo (HT.out.below hBo) (HER.out.below hBo) (by omega)).mono ?_
      rintro e w5 ⟨x, rfl, hh, hb5⟩
      have hB5 := below_after hBo hb5 hBo.size
      have hz5 := hzo.below hb5 hzo.lt
      have HS5 := Lib.hid (HS.out.same hb5)
      have hs5 := hB5.size
      clear q0 hBo hzo hb5 HS
      cases hoo : rdLine px.data.toList with
      | none =>
        have hF : parseR s.data.toList = none := by
          rw [HF.out]
          refine pl_lns HCO.out (by rw [HP0.out]; exact HH.out) ?_
          rw [HMI.out]
          exact lnI_no HI.out hlt (by rw [HMK.out]; exact hoo)
        have e1 : (none : Option Ln).isSome = false := rfl
        rw [e1]
        have hq3 := Below.set3 hB5 hwr (.int .i64 0) (.int .i64 0) (.slice none 0 0)
        have hN := Lib.hid (HNO.out hF _ (hq3.alloc hq3.size (.cells #[.int .i64 x.kind, .string x.code, .int .i64 x.amt] 56)))
        have HZ := Lib.hid (row3 ((Row.set3 hz5 (.int .i64 0) (.int .i64 0) (.slice none 0 0)).alloc (.cells #[.int .i64 x.kind, .string x.code, .int .i64 x.amt] 56))).1
        obtain ⟨⟨a0, a1, a2, al⟩, ⟨b0, b1, b2⟩⟩ := row3 hz5
        clear hF hz5 hB5 hq3 hoo hh e1
        go_wp2
        obtain ⟨z0, z1, z2, _⟩ := HZ.out
        refine bodyPost_ret (v := .tuple #[.agg #[.int .i64 0, .int .i64 0, .slice none 0 0], .bool false]) (by simp only [results, Tryz.results43, go_sem]; simp [z0, z1, z2, go_sem]) rfl hN.out
      | some o =>
      obtain rfl := hh o hoo
      have e1 : (some o : Option Ln).isSome = true := rfl
      rw [e1]
      have HI2 := Lib.hid (lnI_next HI.out hlt (x := o) (by rw [HMK.out]; exact hoo))
      have hal := (Below.refl w5.heap.size w5).alloc (Nat.le_refl _) (.cells #[.int .i64 o.kind, .string o.code, .int .i64 o.amt] 56)
      have HS6 := Lib.hid (HS5.out.same hal)
      have hrx := Row.new w5 56 #[.int .i64 o.kind, .string o.code, .int .i64 o.amt]
      clear hoo hh HMK HI hB5 hz5 e1 HS5 hal
      have gm := HS6.out.box.cell 2
      have fm := HS6.out.box.frozen 2
      have gl := HS6.out.box.lt
      simp only [List.getElem?_toArray, List.getElem?_cons_succ, List.getElem?_cons_zero] at gm
      obtain ⟨⟨y0, y1, y2, yl⟩, -⟩ := row3 hrx
      obtain ⟨w6, hw6⟩ : ∃ w6, w5.alloc (.cells #[.int .i64 o.kind, .string o.code, .int .i64 o.amt] 56) = w6 := ⟨_, rfl⟩
      rw [hw6] at HS6 gm fm gl y0 y1 y2 yl
      have hs6 := HS6.out.below.size
      go_wp2_with (at_builtin; (refine wpList_append_sl rfl (.tmp 65) (.tmp 67) rfl rowLn w2.heap.size _ _ (lns acc) [Ln.vals o] rfl (HS6.out.own.alloc _) rfl (Sl.one rfl rfl) (lns_wide [o]) (by simp only [lns_len, List.length_cons, List.length_nil]; unfold maxLen; omega) (by simp only [lns_len, List.length_cons, List.length_nil]; omega) (by simp only [World.size_alloc]; omega) ?_); intro v7 w7 hown7 hg7 hv7; obtain ⟨g7, c7, rfl, hc7⟩ := hown7.form1 (by simp); simp only [List.length_append, lns_len, List.length_cons, List.length_nil, Nat.zero_add] at hown7 hg7 hv7 hc7 ⊢; have H7 := Lib.hid (HS6.out.app o hown7 hg7 hv7); have u2 := H7.out.2.cell 2; have u3 := H7.out.2.frozen 2; have u4 := H7.out.2.lt; simp only [List.getElem?_toArray, List.getElem?_cons_succ, List.getElem?_cons_zero] at u2)
      have R := Lib.hid H7.out.1
      clear gm fm gl y0 y1 y2 yl hown7 hg7 hv7 hw6
      go_roundw
      case rel => exact ⟨k + 1, acc ++ [o], _, by omega, by go_num, by simp; omega, HI2, R⟩
      case measure => simp [intOf]; omega
    · obtain rfl : k = mid.length := by omega
      have hkN : ¬ mid.length < P.length - 1 - 1 := by omega
      have HPY := Lib.hid (lnI_end HI.out)
      have HFF : Hid (parseR s.data.toList = some ⟨n, d, acc⟩) := by
        rw [Hid, HF.out]
        exact pl_ok HCO.out (by rw [HP0.out]; exact HH.out) (by rw [HMI.out]; exact HPY.out)
      obtain ⟨⟨b0, b1, b2, bl⟩, -⟩ := row3 HS.out.box
      obtain ⟨⟨a0, a1, a2, al⟩, ⟨e0, e1, e2⟩⟩ := row3 hzo
      obtain ⟨Av, cv, rfl⟩ := HS.out.own.form
      rw [lns_len] at HS b2
      have HZ := Lib.hid (row3 (Row.set3 hzo (.int .i64 n) (.int .i64 d) (.slice Av acc.length cv))).1
      have HQ := Lib.hid (Below.set3 hBo hwr (.int .i64 n) (.int .i64 d) (.slice Av acc.length cv))
      have HON := Lib.hid ((own3 HS.out.own (r := r) hr2l (.int .i64 n) (.int .i64 d) (.slice Av acc.length cv)).more (show w.heap.size ≤ w2.heap.size by omega))
      clear hzo hBo hcl0
      go_wp2
      obtain ⟨z0, z1, z2, _⟩ := HZ.out
      refine bodyPost_ret (v := .tuple #[.agg #[.int .i64 n, .int .i64 d, .slice Av acc.length cv], .bool true]) (by simp only [results, Tryz.results43, go_sem]; simp [z0, z1, z2, go_sem]) rfl ?_
      exact ⟨HQ.out, .inl ⟨⟨n, d, acc⟩, .slice Av acc.length cv, HFF.out, rfl, HON.out⟩⟩
end Go.Proofs.YtnkephafpebfkaaGreatDoor
