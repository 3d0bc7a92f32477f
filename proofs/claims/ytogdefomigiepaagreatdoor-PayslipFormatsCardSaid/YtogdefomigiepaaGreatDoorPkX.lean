/- Contracts and plain facts that the laws of this seat share, part 24. -/
import Derived.Test.YtogdefomigiepaaGreatDoorPkW
import Derived.Test.YtogdefomigiepaaGreatDoorPkA
import Derived.Test.YtogdefomigiepaaGreatDoorPkD
import Derived.Test.YtogdefomigiepaaGreatDoorPkB
set_option linter.unusedVariables false
set_option linter.unusedSimpArgs false
/- Contracts of payslip: number, reader.next. -/
namespace Go.Proofs.YtogdefomigiepaaGreatDoor
open Go.RowKit Go.Shelf

def numP (lo hi : Int) (l : List UInt8) : Option Int := match numI l with
 | some v => if lo ≤ v ∧ v ≤ hi then some v else none
 | none => none
set_option maxHeartbeats 1000000 in
theorem numberP_any (s : ByteArray) (lo hi : Int) (w : World) (hT : Tabs w) (hE : Errs w) (hs : s.size ≤ 1000000) :
  Calls Tryz.prog 65 #[.string s, .int .i64 lo, .int .i64 hi] w (NumR (numP lo hi s.data.toList) w) := by
 have HT := Lib.hid hT
 have HN := Lib.hid (numI_of s.data.toList)
 have HA := Lib.hid (Atoi_any s w hE (by omega))
 have HP : Hid (numP lo hi s.data.toList = match numI s.data.toList with | some v => if lo ≤ v ∧ v ≤ hi then some v else none | none => none) := rfl
 clear hT hE
 go_enter Tryz.func65, Tryz.ntmps65
 go_wp2_with fail
 refine HA.out.mono ?_
 rintro e w1 ⟨hb1, hat⟩
 rcases hat with ⟨z, hz, hz1, hz2, rfl⟩ | ⟨hz, x, N, rfl⟩
 rotate_left
 ·have HNO : Hid (numP lo hi s.data.toList = none) := by rw [Hid, HP.out, HN.out, hz]
  clear hz
  go_wp2
  go_ret2
  exact ⟨by rw [HNO.out]; rfl, hb1⟩
 have HN1 : Hid (numI s.data.toList = if Lib.itoa z = s.data.toList then some z else none) := by rw [Hid, HN.out, hz]
 have HCON := Lib.hid (Itoa_any z w1 hz1 hz2 (HT.out.below hb1))
 have HU : Hid ((⟨(Lib.itoa z).toArray⟩ : ByteArray).data.toList = Lib.itoa z) := by simp [Hid]
 obtain ⟨u, hu⟩ : ∃ u, (⟨(Lib.itoa z).toArray⟩ : ByteArray) = u := ⟨_, rfl⟩
 rw [hu] at HCON HU
 clear hu hz HN HA
 by_cases hzq : Lib.itoa z = s.data.toList
 ·have t3 : (u.toList == s.toList) = true := by rw [ByteArray.toList_eq, ByteArray.toList_eq, HU.out]; simpa using hzq
  have t4 : u.toList = s.toList := by simpa using t3
  have HNO : Hid (numP lo hi s.data.toList = if lo ≤ z ∧ z ≤ hi then some z else none) := by rw [Hid, HP.out, HN1.out, if_pos hzq]
  clear HN1 hzq
  by_cases h1 : lo ≤ z
  ·have d1 : decide (z < lo) = false := decide_eq_false (by omega)
   by_cases h2 : z ≤ hi
   ·have d2 : decide (hi < z) = false := decide_eq_false (by omega)
    have HF : Hid (numP lo hi s.data.toList = some z) := by rw [Hid, HNO.out, if_pos ⟨h1, h2⟩]
    go_wp2_with fail
    refine HCON.out.mono ?_
    rintro e w2 ⟨rfl, hb2⟩
    have hB2 := below_after hb1 hb2 hb1.size
    clear hb2
    go_wp2
    go_ret2
    exact ⟨by rw [HF.out]; rfl, hB2⟩
   ·have d2 : decide (hi < z) = true := decide_eq_true (by omega)
    have HF : Hid (numP lo hi s.data.toList = none) := by rw [Hid, HNO.out, if_neg (by omega)]
    go_wp2_with fail
    refine HCON.out.mono ?_
    rintro e w2 ⟨rfl, hb2⟩
    have hB2 := below_after hb1 hb2 hb1.size
    clear hb2
    go_wp2
    go_ret2
    exact ⟨by rw [HF.out]; rfl, hB2⟩
  ·have d1 : decide (z < lo) = true := decide_eq_true (by omega)
   have HF : Hid (numP lo hi s.data.toList = none) := by rw [Hid, HNO.out, if_neg (by omega)]
   go_wp2_with fail
   refine HCON.out.mono ?_
   rintro e w2 ⟨rfl, hb2⟩
   have hB2 := below_after hb1 hb2 hb1.size
   clear hb2
   go_wp2
   go_ret2
   exact ⟨by rw [HF.out]; rfl, hB2⟩
 ·have t3 : (u.toList == s.toList) = false := by rw [ByteArray.toList_eq, ByteArray.toList_eq, HU.out]; simpa using hzq
  have t4 : ¬ u.toList = s.toList := by simpa using t3
  have HNO : Hid (numP lo hi s.data.toList = none) := by rw [Hid, HP.out, HN1.out, if_neg hzq]
  clear HN1 hzq
  go_wp2_with fail
  refine HCON.out.mono ?_
  rintro e w2 ⟨rfl, hb2⟩
  have hB2 := below_after hb1 hb2 hb1.size
  clear hb2
  go_wp2
  go_ret2
  exact ⟨by rw [HNO.out]; rfl, hB2⟩
def Rdr (w : World) (D : Nat) (q : ByteArray) (n : Int) : Prop := Row w D 93 #[.string q, .int .i64 n]
def NextR (w : World) (D : Nat) (q : ByteArray) (n : Int) (e : Ending) (w' : World) : Prop :=
  w.grownBy w' (some D) ∧
  ((∃ (P : List ByteArray) (A : Option Addr) (cap : Nat) (r : ByteArray), (Lib.cut q.data.toList [10]).2.2 = true ∧ e = .returned (.tuple #[.slice A P.length cap, .bool true]) ∧ P.map (·.data.toList) = splitBy 32 (Lib.cut q.data.toList [10]).1 ∧ (∀ x ∈ P, x.size ≤ q.size) ∧ Sl w' 1 (.slice A P.length cap) (txts P) ∧
      r.data.toList = (Lib.cut q.data.toList [10]).2.1 ∧ r.size ≤ q.size ∧ Rdr w' D r (n + 1)) ∨
   ((Lib.cut q.data.toList [10]).2.2 = false ∧ e = .returned (.tuple #[.slice none 0 0, .bool false]) ∧ Rdr w' D q (n + 1)))
set_option maxHeartbeats 1000000 in
theorem next_any (D : Nat) (q : ByteArray) (n : Int) (w : World) (hr : Rdr w D q n) (hq : q.size ≤ 1000000) (hn : 0 ≤ n ∧ n ≤ 1000000) :
  Calls Tryz.prog 64 #[.pointer (some ⟨D, 0, none⟩)] w (NextR w D q n) := by
 have c0 : w.cell? ⟨D, 0, none⟩ = some (.string q) := Row.cell hr 0
 have c1 : w.cell? ⟨D, 1, none⟩ = some (.int .i64 n) := Row.cell hr 1
 have f0 := Row.frozen hr 0
 have f1 := Row.frozen hr 1
 have lt := Row.lt hr
 have HR1 : Hid (Rdr (w.setCell ⟨D, 1, none⟩ (.int .i64 (n + 1))) D q (n + 1)) := Row.set hr 1 _
 have HG1 := Lib.hid (grown_set w D 1 (.int .i64 (n + 1)))
 have HC := Lib.hid fun z => cut_any q 10 z (by unfold maxLen; omega)
 clear hr
 go_enter Tryz.func64, Tryz.ntmps64
 go_wp2_with fail
 obtain ⟨w1, hw1⟩ : ∃ w1, w.setCell ⟨D, 1, none⟩ (.int .i64 (n + 1)) = w1 := ⟨_, rfl⟩
 rw [hw1] at HR1 HG1 ⊢
 clear hw1 c0 c1 f0 f1 lt
 refine (HC.out w1).mono ?_
 rintro e w2 ⟨a, b, rfl, ha, hb, ha2, hb2, k2⟩
 have HR2 : Hid (Rdr w2 D q (n + 1)) := Row.below HR1.out k2 (Row.lt HR1.out)
 have HG2 := Lib.hid (gb_below HG1.out k2)
 have c0 : w2.cell? ⟨D, 0, none⟩ = some (.string q) := Row.cell HR2.out 0
 have f0 := Row.frozen HR2.out 0
 have lt := Row.lt HR2.out
 rw [show q.data.toList.length = q.size by simp] at ha2 hb2
 clear k2 HC HR1 HG1
 cases hf : (Lib.cut q.data.toList [10]).2.2
 ·have HF := Lib.hid hf
  clear hf
  go_wp2_with fail
  go_ret2
  exact ⟨HG2.out, .inr ⟨HF.out, rfl, HR2.out⟩⟩
 ·have HF := Lib.hid hf
  clear hf
  have HR3 : Hid (Rdr (w2.setCell ⟨D, 0, none⟩ (.string b)) D b (n + 1)) := Row.set HR2.out 0 _
  have HG3 := Lib.hid (gb_set HG2.out (p := ⟨D, 0, none⟩) (.inl rfl) (.string b))
  have HS := Lib.hid fun z => Split_any a 32 z (by omega)
  go_wp2_with fail
  obtain ⟨w3, hw3⟩ : ∃ w3, w2.setCell ⟨D, 0, none⟩ (.string b) = w3 := ⟨_, rfl⟩
  rw [hw3] at HR3 HG3 ⊢
  clear hw3 c0 f0 lt
  refine (HS.out w3).mono ?_
  rintro e w4 ⟨P, A, cap, rfl, hP, hPs, hPl, hsl, k4⟩
  have HE := Lib.hid (And.intro (gb_below HG3.out k4) (And.intro (show P.map (·.data.toList) = splitBy 32 (Lib.cut q.data.toList [10]).1 by rw [hP, ha.out]) (And.intro hsl (Row.below HR3.out k4 (Row.lt HR3.out)))))
  have HPS := Lib.hid hPs
  clear hP hPs hsl k4 hPl HS HR3 HG3
  go_wp2_with fail
  go_ret2
  exact ⟨HE.out.1, .inl ⟨P, A, cap, b, HF.out, rfl, HE.out.2.1, fun x hx => Nat.le_trans (HPS.out x hx) ha2, HE.out.2.2.1, hb.out, hb2, HE.out.2.2.2⟩⟩
end Go.Proofs.YtogdefomigiepaaGreatDoor
/- Contract of payslip's reader.head. -/
namespace Go.Proofs.YtogdefomigiepaaGreatDoor
open Go.RowKit Go.Shelf

theorem below_rdr {a w w' : World} {D : Nat} (h : Below a.heap.size a w) (hg : w.grownBy w' (some D)) (hD : a.heap.size ≤ D) : Below a.heap.size a w' :=
 ⟨hg.os.trans h.os, hg.tape.trans h.tape, hg.output.trans h.output, Nat.le_trans h.size hg.size, fun i hi => (hg.block i (Nat.lt_of_lt_of_le hi h.size) (fun e => by injection e with e; omega)).trans (h.block i hi)⟩
def wPay : List UInt8 := [112, 97, 121, 115, 108, 105, 112]
def wPrd : List UInt8 := [112, 101, 114, 105, 111, 100]
def rdHd (l : List UInt8) : Option (Int × Int) := match splitBy 32 l with
 | [a, b, c, d] => if a = wPay ∧ c = wPrd then (match numP 1 2147483647 b, numP 0 84005 d with
  | some p, some v => some (p, v)
  | _, _ => none) else none
 | _ => none
theorem rdHd_len {l : List UInt8} (h : ¬ (splitBy 32 l).length = 4) : rdHd l = none := by
 unfold rdHd
 split
 ·rename_i he; rw [he] at h; simp at h
 ·rfl
theorem rdHd_four {l a b c d : List UInt8} (h : splitBy 32 l = [a, b, c, d]) : rdHd l = if a = wPay ∧ c = wPrd then (match numP 1 2147483647 b, numP 0 84005 d with
  | some p, some v => some (p, v)
  | _, _ => none) else none := by
 unfold rdHd; rw [h]
def HdR (w : World) (D : Nat) (q : ByteArray) (n : Int) (e : Ending) (w' : World) : Prop :=
 ∃ (r : ByteArray) (a b : Int) (ok : Bool), e = .returned (.tuple #[.int .i64 a, .int .i64 b, .bool ok]) ∧ w.grownBy w' (some D) ∧ r.size ≤ q.size ∧ Rdr w' D r (n + 1) ∧
  (ok = true → (Lib.cut q.data.toList [10]).2.2 = true ∧ r.data.toList = (Lib.cut q.data.toList [10]).2.1 ∧ rdHd (Lib.cut q.data.toList [10]).1 = some (a, b)) ∧
  (ok = false → (Lib.cut q.data.toList [10]).2.2 = false ∨ rdHd (Lib.cut q.data.toList [10]).1 = none)
theorem HdR.no {w w' : World} {D : Nat} {q r : ByteArray} {n : Int} (a b : Int) (hg : w.grownBy w' (some D)) (hr : r.size ≤ q.size) (hR : Rdr w' D r (n + 1)) (h : (Lib.cut q.data.toList [10]).2.2 = false ∨ rdHd (Lib.cut q.data.toList [10]).1 = none) :
  HdR w D q n (.returned (.tuple #[.int .i64 a, .int .i64 b, .bool false])) w' := ⟨r, a, b, false, rfl, hg, hr, hR, by simp, fun _ => h⟩
set_option maxRecDepth 100000 in
set_option maxHeartbeats 4000000 in
theorem head_any (a0 : World) (D : Nat) (q : ByteArray) (n : Int) (w : World) (hr : Rdr w D q n) (hb : Below a0.heap.size a0 w) (hD : a0.heap.size ≤ D) (hT : Tabs a0) (hE : Errs a0) (hq : q.size ≤ 1000000) (hn : 0 ≤ n ∧ n ≤ 1000000) :
  Calls Tryz.prog 31 #[.pointer (some ⟨D, 0, none⟩)] w (HdR w D q n) := by
 have HNX := Lib.hid (next_any D q n w hr hq hn)
 have HT := Lib.hid hT
 have HER := Lib.hid hE
 have HB := Lib.hid hb
 have HD := Lib.hid hD
 clear hr hb hD hT hE
 go_enter Tryz.func31, Tryz.ntmps31
 go_wp2_with fail
 refine HNX.out.mono ?_
 rintro e w1 ⟨hg1, h1⟩
 have HG1 := Lib.hid hg1
 have HB1 := Lib.hid (below_rdr HB.out hg1 HD.out)
 clear hg1
 rcases h1 with ⟨P, A1, cap1, r, hf, rfl, hP, hPs, hsl1, hrl, hrs, hr1⟩ | ⟨hf, rfl, hr1⟩
 rotate_left
 ·have HE := Lib.hid (And.intro hf hr1)
  clear hf hr1
  go_wp2
  go_ret3
  exact HdR.no 0 0 HG1.out (Nat.le_refl _) HE.out.2 (.inl HE.out.1)
 have HR1 := Lib.hid hr1
 have HF := Lib.hid hf
 have HRL := Lib.hid hrl
 have HRS := Lib.hid hrs
 have HPL : Hid (P.length = (splitBy 32 (Lib.cut q.data.toList [10]).1).length) := by rw [Hid, ← hP, List.length_map]
 have hcap : P.length ≤ cap1 := by
  obtain ⟨A', cap', hv, k1, _⟩ := hsl1
  injection hv with e1 e2 e3
  subst e3
  rwa [txts_len] at k1
 clear hr1 hf hrl hrs HNX
 by_cases h4 : P.length = 4
 rotate_left
 ·have hne : ((P.length : Int) != 4) = true := by simp; omega
  have HN := Lib.hid (rdHd_len (l := (Lib.cut q.data.toList [10]).1) (by rw [← HPL.out]; exact h4))
  clear h4 hsl1 hP
  go_wp2
  go_ret3
  exact HdR.no 0 0 HG1.out HRS.out HR1.out (.inr HN.out)
 obtain ⟨a, b, c, d, bk, off, rfl, rfl, hbk, c0, c1, c2, c3⟩ := words4 hsl1 h4
 have H4 := Lib.hid (rdHd_four hP.symm)
 have hbs := hPs b (by simp)
 have hds := hPs d (by simp)
 simp only [List.length_cons, List.length_nil, Nat.zero_add] at hcap ⊢
 clear hsl1 h4 HPL hP hPs
 by_cases ha : a.data.toList = wPay
 rotate_left
 ·obtain ⟨t1, t2⟩ := str_no ha
  have HN : Hid (rdHd (Lib.cut q.data.toList [10]).1 = none) := by rw [Hid, H4.out, if_neg (fun h => ha h.1)]
  unfold wPay at t1 t2
  clear ha H4
  go_wp2
  go_ret3
  exact HdR.no 0 0 HG1.out HRS.out HR1.out (.inr HN.out)
 obtain ⟨t1, t2⟩ := str_yes ha
 have HA := Lib.hid ha
 unfold wPay at t1 t2
 clear ha
 by_cases hc : c.data.toList = wPrd
 rotate_left
 ·obtain ⟨t3, t4⟩ := str_no hc
  have HN : Hid (rdHd (Lib.cut q.data.toList [10]).1 = none) := by rw [Hid, H4.out, if_neg (fun h => hc h.2)]
  unfold wPrd at t3 t4
  clear hc H4
  go_wp2
  go_ret3
  exact HdR.no 0 0 HG1.out HRS.out HR1.out (.inr HN.out)
 obtain ⟨t3, t4⟩ := str_yes hc
 have H4' : Hid (rdHd (Lib.cut q.data.toList [10]).1 = match numP 1 2147483647 b.data.toList, numP 0 84005 d.data.toList with
  | some p, some v => some (p, v)
  | _, _ => none) := by rw [Hid, H4.out, if_pos ⟨HA.out, hc⟩]
 have HNB := Lib.hid (numberP_any b 1 2147483647 w1 (HT.out.below HB1.out) (HER.out.below HB1.out) (by omega))
 obtain ⟨nb, hnb⟩ : ∃ nb, numP 1 2147483647 b.data.toList = nb := ⟨_, rfl⟩
 obtain ⟨nd, hnd⟩ : ∃ nd, numP 0 84005 d.data.toList = nd := ⟨_, rfl⟩
 rw [hnb] at HNB
 rw [hnb, hnd] at H4'
 have HND := Lib.hid hnd
 unfold wPrd at t3 t4
 clear hc H4 hnb hnd
 go_wp2_with fail
 clear t1 t2 t3 t4 HA
 refine HNB.out.mono ?_
 rintro e w2 ⟨rfl, hb2⟩
 have HG2 := Lib.hid (gb_below HG1.out hb2)
 have HB2 := Lib.hid (below_after HB1.out hb2 HB1.out.size)
 have HR2 : Hid (Rdr w2 D r (n + 1)) := Row.below HR1.out hb2 (Row.lt HR1.out)
 have d3 := (hb2.cell (p := ⟨bk, off + 3, none⟩) hbk).trans c3
 have HNB2 := Lib.hid (numberP_any d 0 84005 w2 (HT.out.below HB2.out) (HER.out.below HB2.out) (by omega))
 rw [HND.out] at HNB2
 clear HG1 HB1 HR1 hb2 c0 c1 c2 c3 HNB
 cases nb with
 | none =>
  have e1 : (none : Option Int).isSome = false := rfl
  rw [e1]
  clear e1
  go_wp2
  go_ret3
  exact HdR.no _ _ HG2.out HRS.out HR2.out (.inr H4'.out)
 | some nb =>
  have e1 : (some nb : Option Int).isSome = true := rfl
  have e2 : (some nb : Option Int).getD 0 = nb := rfl
  rw [e1, e2]
  clear e1 e2
  go_wp2_with fail
  refine HNB2.out.mono ?_
  rintro e w3 ⟨rfl, hb3⟩
  have HG3 := Lib.hid (gb_below HG2.out hb3)
  have HR3 : Hid (Rdr w3 D r (n + 1)) := Row.below HR2.out hb3 (Row.lt HR2.out)
  clear HG2 HB2 HR2 hb3 d3 HNB2
  cases nd with
  | none =>
   have e1 : (none : Option Int).isSome = false := rfl
   have e2 : (none : Option Int).getD 0 = 0 := rfl
   rw [e1, e2]
   clear e1 e2
   go_wp2
   go_ret3
   exact HdR.no _ _ HG3.out HRS.out HR3.out (.inr H4'.out)
  | some nd =>
   have e1 : (some nd : Option Int).isSome = true := rfl
   have e2 : (some nd : Option Int).getD 0 = nd := rfl
   rw [e1, e2]
   clear e1 e2
   go_wp2
   go_ret3
   exact ⟨r, _, _, true, rfl, HG3.out, HRS.out, HR3.out, fun _ => ⟨HF.out, HRL.out, H4'.out⟩, by simp⟩
end Go.Proofs.YtogdefomigiepaaGreatDoor
/- Contract of payslip's kindOf. -/
namespace Go.Proofs.YtogdefomigiepaaGreatDoor
open Go.RowKit Go.Shelf

def KdR (l : List UInt8) (w : World) (e : Ending) (w' : World) : Prop :=
 w' = w ∧ ((∃ K : Nat, 1 ≤ K ∧ K ≤ 10 ∧ e = .returned (.tuple #[.int .i64 (K : Int), .bool true]) ∧ wordT (K : Int) = l) ∨
  (e = .returned (.tuple #[.int .i64 0, .bool false]) ∧ ∀ K : Nat, 1 ≤ K → K ≤ 10 → wordT (K : Int) ≠ l))
set_option maxRecDepth 100000 in
set_option maxHeartbeats 4000000 in
theorem kindOf_any (s : ByteArray) (w : World) (hW : Words w) :
  Calls Tryz.prog 114 #[.string s] w (KdR s.data.toList w) := by
 have HW := Lib.hid hW
 clear hW
 go_enter Tryz.func114, Tryz.ntmps114
 go_wp2_with fail
 go_loopw [4] (fun i wr => ∃ k : Nat, 1 ≤ k ∧ k ≤ 11 ∧ i = .int .i64 k ∧ wr = w ∧ Hid (∀ K : Nat, 1 ≤ K → K < k → wordT (K : Int) ≠ s.data.toList)) (fun i _ => 11 - (intOf i).toNat)
 case atStart => exact ⟨1, by omega, by omega, rfl, rfl, fun K h1 h2 => by omega⟩
 case round =>
  obtain ⟨k, hk1, hk2, rfl, rfl, HP⟩ := hrel
  by_cases hlt : k ≤ 10
  ·obtain ⟨tw, htw⟩ : ∃ tw : ByteArray, tw = ⟨(wordT (k : Int)).toArray⟩ := ⟨_, rfl⟩
   have HWD : Hid (tw.data.toList = wordT (k : Int)) := by rw [Hid, htw]
   have hcw : wr.cell? ⟨0, k, none⟩ = some (.string tw) := by
    rw [(lt_var HW.out wordsNo).2 k, htw]
    exact words_get k (by omega)
   have h00 : 0 < wr.heap.size := (lt_var HW.out wordsNo).1
   have i0 : (0 : Int) ≤ (k : Int) := by omega
   have i1 : (k : Int) < 11 := by omega
   have i2 : decide ((k : Int) ≤ 10) = true := decide_eq_true (by omega)
   clear htw
   by_cases hq : tw.data.toList = s.data.toList
   ·obtain ⟨t1, t2⟩ := str_yes hq
    rw [← ByteArray.toList_eq] at t1 t2
    have HQ : Hid (wordT (k : Int) = s.data.toList) := by rw [Hid, ← HWD.out, hq]
    clear hq
    go_wp2
    go_ret2
    exact ⟨rfl, .inl ⟨k, hk1, hlt, rfl, HQ.out⟩⟩
   ·obtain ⟨t1, t2⟩ := str_no hq
    rw [← ByteArray.toList_eq] at t1 t2
    have HQ : Hid (wordT (k : Int) ≠ s.data.toList) := by rw [Hid, ← HWD.out]; exact hq
    clear hq
    go_wp2
    go_roundw
    case rel =>
     refine ⟨k + 1, by omega, by omega, by go_num, trivial, fun K h1 h2 => ?_⟩
     by_cases hK : K = k
     ·subst hK; exact HQ.out
     ·exact HP.out K h1 (by omega)
    case measure => simp [intOf]; omega
  ·have i2 : decide ((k : Int) ≤ 10) = false := decide_eq_false (by omega)
   go_wp2
   go_ret2
   exact ⟨rfl, .inr ⟨rfl, fun K h1 h2 => HP.out K h1 (by omega)⟩⟩
end Go.Proofs.YtogdefomigiepaaGreatDoor
/- Contract of payslip's reader.bases. -/
namespace Go.Proofs.YtogdefomigiepaaGreatDoor
open Go.RowKit Go.Shelf

theorem results_rowt {P : Program} {fn : Func} {p u v : Tmp} {ty : TypeId} (h : fn.results = #[.cell p ty, .tmp u, .tmp v]) (tmps : Array Value) {w : World} {g : Nat} {t : TypeId} {cs : Array Value} {d : TypeDesc} (hp : tmps.getD p undef = .pointer (some ⟨g, 0, none⟩)) (hr : Row w g t cs)
  (hu : P.underlying ty = some d) (hd : d.isRow = true) (hi : (P.info? ty).map (·.size) = some cs.size) {r s : Value} (hu2 : tmps.getD u undef = r) (hv2 : tmps.getD v undef = s) : (results fn tmps).run P w = .ok (.tuple #[.agg cs, r, s]) w := by
 subst hu2 hv2
 have hl := run_loadVar_mid (P := P) w g 0 ty cs.toList d (hr.range 0 (by simp only [List.drop_zero]; exact List.take_of_length_le (Nat.le_refl _))) hu hd (by simpa using hi)
 simp only [Array.toArray_toList] at hl
 have hp' : tmps[p]?.getD undef = .pointer (some ⟨g, 0, none⟩) := by simpa using hp
 simp only [results, h]
 simp [Sem.run_bind, Result.andThen, hp', asAddr, hl]
def numTo (l : List UInt8) : Option Int := numP (-1000000000000) 1000000000000 l
def wBas : List UInt8 := [98, 97, 115, 101, 115]
def wLgl : List UInt8 := [108, 101, 103, 97, 108]
def rdBs (l : List UInt8) : Option (List Int × Int) := match splitBy 32 l with
 | [h, a, b, c, d, f, k, x] => if h = wBas ∧ k = wLgl then (match numTo a, numTo b, numTo c, numTo d, numTo f, numTo x with
  | some a, some b, some c, some d, some f, some x => some ([a, b, c, d, f], x)
  | _, _, _, _, _, _ => none) else none
 | _ => none
theorem rdBs_len {l : List UInt8} (h : ¬ (splitBy 32 l).length = 8) : rdBs l = none := by
 unfold rdBs
 split
 ·rename_i he; rw [he] at h; simp at h
 ·rfl
theorem rdBs_eight {l h a b c d f k x : List UInt8} (hs : splitBy 32 l = [h, a, b, c, d, f, k, x]) : rdBs l = if h = wBas ∧ k = wLgl then (match numTo a, numTo b, numTo c, numTo d, numTo f, numTo x with
  | some a, some b, some c, some d, some f, some x => some ([a, b, c, d, f], x)
  | _, _, _, _, _, _ => none) else none := by
 unfold rdBs; rw [hs]
theorem words8 {w : World} {A : Option Addr} {cp : Nat} {W : List ByteArray} (h : Sl w 1 (.slice A W.length cp) (txts W)) (hl : W.length = 8) :
  ∃ p0 p1 p2 p3 p4 p5 p6 p7 bk off, W = [p0, p1, p2, p3, p4, p5, p6, p7] ∧ A = some ⟨bk, off, none⟩ ∧ bk < w.heap.size ∧ ∀ j, j < 8 → w.cell? ⟨bk, off + j, none⟩ = some (.string ([p0, p1, p2, p3, p4, p5, p6, p7].getD j ⟨#[]⟩)) :=
 match W, hl with
 | [a, b, c, d, f, g, k, m], _ => by
  obtain ⟨bk, off, rfl, hc⟩ := h.cells (by simp [txts])
  refine ⟨a, b, c, d, f, g, k, m, bk, off, rfl, rfl, hc.1, ?_⟩
  rintro j hj
  obtain rfl | rfl | rfl | rfl | rfl | rfl | rfl | rfl : j = 0 ∨ j = 1 ∨ j = 2 ∨ j = 3 ∨ j = 4 ∨ j = 5 ∨ j = 6 ∨ j = 7 := by omega
  all_goals exact hc.txt (by simp)
structure BsS (a W : World) (D g bk off : Nat) (r : ByteArray) (n : Int) (P : List ByteArray) (z0 z1 z2 z3 z4 : Int) (w : World) : Prop where
 grown : W.grownBy w (some D)
 below : Below a.heap.size a w
 rdr : Rdr w D r n
 box : Row w g 24 #[.int .i64 z0, .int .i64 z1, .int .i64 z2, .int .i64 z3, .int .i64 z4]
 lo : W.heap.size ≤ g ∧ D < W.heap.size ∧ a.heap.size ≤ D ∧ bk ≠ g ∧ bk < w.heap.size
 wds : ∀ j, j < 8 → w.cell? ⟨bk, off + j, none⟩ = some (.string (P.getD j ⟨#[]⟩))
theorem BsS.same {a W w w' : World} {D g bk off : Nat} {r : ByteArray} {n : Int} {P : List ByteArray} {z0 z1 z2 z3 z4 : Int} (h : BsS a W D g bk off r n P z0 z1 z2 z3 z4 w) (hb : Below w.heap.size w w') : BsS a W D g bk off r n P z0 z1 z2 z3 z4 w' :=
 ⟨gb_below h.grown hb, below_after h.below hb h.below.size, Row.below h.rdr hb (Row.lt h.rdr), h.box.below hb h.box.lt, by have := h.lo; have := hb.size; omega, fun j hj => (hb.cell (p := ⟨bk, off + j, none⟩) h.lo.2.2.2.2).trans (h.wds j hj)⟩
theorem BsS.put0 {a W w : World} {D g bk off : Nat} {r : ByteArray} {n : Int} {P : List ByteArray} {z0 z1 z2 z3 z4 : Int} (h : BsS a W D g bk off r n P z0 z1 z2 z3 z4 w) (v : Int) : BsS a W D g bk off r n P v z1 z2 z3 z4 (w.setCell ⟨g, 0, none⟩ (.int .i64 v)) := by
 have hl := h.lo
 exact ⟨gb_set h.grown (.inr hl.1) _, h.below.setCell (by show a.heap.size ≤ g; omega) _, Row.far h.rdr (by show D ≠ g; omega) _, h.box.set 0 _, by simpa [World.setCell] using hl, fun j hj => (World.cell?_of_block (w := w) (Below.heap_setCell w ⟨g, 0, none⟩ _ bk hl.2.2.2.1)).trans (h.wds j hj)⟩
theorem BsS.put1 {a W w : World} {D g bk off : Nat} {r : ByteArray} {n : Int} {P : List ByteArray} {z0 z1 z2 z3 z4 : Int} (h : BsS a W D g bk off r n P z0 z1 z2 z3 z4 w) (v : Int) : BsS a W D g bk off r n P z0 v z2 z3 z4 (w.setCell ⟨g, 1, none⟩ (.int .i64 v)) := by
 have hl := h.lo
 exact ⟨gb_set h.grown (.inr hl.1) _, h.below.setCell (by show a.heap.size ≤ g; omega) _, Row.far h.rdr (by show D ≠ g; omega) _, h.box.set 1 _, by simpa [World.setCell] using hl, fun j hj => (World.cell?_of_block (w := w) (Below.heap_setCell w ⟨g, 1, none⟩ _ bk hl.2.2.2.1)).trans (h.wds j hj)⟩
theorem BsS.put2 {a W w : World} {D g bk off : Nat} {r : ByteArray} {n : Int} {P : List ByteArray} {z0 z1 z2 z3 z4 : Int} (h : BsS a W D g bk off r n P z0 z1 z2 z3 z4 w) (v : Int) : BsS a W D g bk off r n P z0 z1 v z3 z4 (w.setCell ⟨g, 2, none⟩ (.int .i64 v)) := by
 have hl := h.lo
 exact ⟨gb_set h.grown (.inr hl.1) _, h.below.setCell (by show a.heap.size ≤ g; omega) _, Row.far h.rdr (by show D ≠ g; omega) _, h.box.set 2 _, by simpa [World.setCell] using hl, fun j hj => (World.cell?_of_block (w := w) (Below.heap_setCell w ⟨g, 2, none⟩ _ bk hl.2.2.2.1)).trans (h.wds j hj)⟩
theorem BsS.put3 {a W w : World} {D g bk off : Nat} {r : ByteArray} {n : Int} {P : List ByteArray} {z0 z1 z2 z3 z4 : Int} (h : BsS a W D g bk off r n P z0 z1 z2 z3 z4 w) (v : Int) : BsS a W D g bk off r n P z0 z1 z2 v z4 (w.setCell ⟨g, 3, none⟩ (.int .i64 v)) := by
 have hl := h.lo
 exact ⟨gb_set h.grown (.inr hl.1) _, h.below.setCell (by show a.heap.size ≤ g; omega) _, Row.far h.rdr (by show D ≠ g; omega) _, h.box.set 3 _, by simpa [World.setCell] using hl, fun j hj => (World.cell?_of_block (w := w) (Below.heap_setCell w ⟨g, 3, none⟩ _ bk hl.2.2.2.1)).trans (h.wds j hj)⟩
theorem BsS.put4 {a W w : World} {D g bk off : Nat} {r : ByteArray} {n : Int} {P : List ByteArray} {z0 z1 z2 z3 z4 : Int} (h : BsS a W D g bk off r n P z0 z1 z2 z3 z4 w) (v : Int) : BsS a W D g bk off r n P z0 z1 z2 z3 v (w.setCell ⟨g, 4, none⟩ (.int .i64 v)) := by
 have hl := h.lo
 exact ⟨gb_set h.grown (.inr hl.1) _, h.below.setCell (by show a.heap.size ≤ g; omega) _, Row.far h.rdr (by show D ≠ g; omega) _, h.box.set 4 _, by simpa [World.setCell] using hl, fun j hj => (World.cell?_of_block (w := w) (Below.heap_setCell w ⟨g, 4, none⟩ _ bk hl.2.2.2.1)).trans (h.wds j hj)⟩
end Go.Proofs.YtogdefomigiepaaGreatDoor
/- The walk of payslip's reader.bases. -/
namespace Go.Proofs.YtogdefomigiepaaGreatDoor
open Go.RowKit Go.Shelf

def BsR (w : World) (D : Nat) (q : ByteArray) (n : Int) (e : Ending) (w' : World) : Prop :=
 ∃ (r : ByteArray) (z0 z1 z2 z3 z4 x : Int) (ok : Bool), e = .returned (.tuple #[.agg #[.int .i64 z0, .int .i64 z1, .int .i64 z2, .int .i64 z3, .int .i64 z4], .int .i64 x, .bool ok]) ∧ w.grownBy w' (some D) ∧ r.size ≤ q.size ∧ Rdr w' D r (n + 1) ∧
  (ok = true → (Lib.cut q.data.toList [10]).2.2 = true ∧ r.data.toList = (Lib.cut q.data.toList [10]).2.1 ∧ rdBs (Lib.cut q.data.toList [10]).1 = some ([z0, z1, z2, z3, z4], x)) ∧
  (ok = false → (Lib.cut q.data.toList [10]).2.2 = false ∨ rdBs (Lib.cut q.data.toList [10]).1 = none)
theorem BsR.no {w w' : World} {D : Nat} {q r : ByteArray} {n : Int} (x : Int) {z0 z1 z2 z3 z4 : Int} (hg : w.grownBy w' (some D)) (hr : r.size ≤ q.size) (hR : Rdr w' D r (n + 1)) (h : (Lib.cut q.data.toList [10]).2.2 = false ∨ rdBs (Lib.cut q.data.toList [10]).1 = none) :
  BsR w D q n (.returned (.tuple #[.agg #[.int .i64 z0, .int .i64 z1, .int .i64 z2, .int .i64 z3, .int .i64 z4], .int .i64 x, .bool false])) w' := ⟨r, z0, z1, z2, z3, z4, x, false, rfl, hg, hr, hR, by simp, fun _ => h⟩
set_option maxRecDepth 100000 in
set_option maxHeartbeats 8000000 in
theorem bases_any (a0 : World) (D : Nat) (q : ByteArray) (n : Int) (w : World) (hr : Rdr w D q n) (hb : Below a0.heap.size a0 w) (hD : a0.heap.size ≤ D) (hT : Tabs a0) (hE : Errs a0) (hq : q.size ≤ 1000000) (hn : 0 ≤ n ∧ n ≤ 1000000) :
  Calls Tryz.prog 32 #[.pointer (some ⟨D, 0, none⟩)] w (BsR w D q n) := by
 have HT := Lib.hid hT
 have HER := Lib.hid hE
 have HD := Lib.hid hD
 have hDl : D < w.heap.size := Row.lt hr
 have hR0 := Row.new w 24 #[.int .i64 0, .int .i64 0, .int .i64 0, .int .i64 0, .int .i64 0]
 have hk0 : Below w.heap.size w (w.alloc (.cells #[.int .i64 0, .int .i64 0, .int .i64 0, .int .i64 0, .int .i64 0] 24)) := (Below.refl _ _).alloc (Nat.le_refl _) _
 go_enter Tryz.func32, Tryz.ntmps32
 go_wp2_with fail
 obtain ⟨w0, hw0⟩ : ∃ w0, w.alloc (.cells #[.int .i64 0, .int .i64 0, .int .i64 0, .int .i64 0, .int .i64 0] 24) = w0 := ⟨_, rfl⟩
 rw [hw0] at hR0 hk0 ⊢
 obtain ⟨g, hg⟩ : ∃ g, w.heap.size = g := ⟨_, rfl⟩
 rw [hg] at hR0 ⊢
 have hWg : w.heap.size ≤ g := by omega
 have HNX := Lib.hid (next_any D q n w0 (Row.below hr hk0 hDl) hq hn)
 have HK := Lib.hid hk0
 have HB0 := Lib.hid (below_after hb hk0 hb.size)
 have HR0 := Lib.hid hR0
 clear hr hb hT hE hw0 hg hR0 hk0
 refine HNX.out.mono ?_
 rintro e w1 ⟨hg1, h1⟩
 have HR1 := Lib.hid (Row.keep HR0.out hg1 (by intro h; injection h with h; omega))
 have HG1 := Lib.hid (gb_trans (gb_below (World.grownBy.refl _ _) HK.out) hg1)
 have HB1 := Lib.hid (below_rdr HB0.out hg1 HD.out)
 clear hg1 HNX HR0 HB0 HK
 rcases h1 with ⟨P, A1, cap1, r, hf, rfl, hP, hPs, hsl1, hrl, hrs, hr1⟩ | ⟨hf, rfl, hr1⟩
 rotate_left
 ·have HE := Lib.hid hf
  have HR2 := Lib.hid hr1
  clear hf hr1
  go_wp2_with (refine wpList_storeRow rfl 24 (.tmp 2) _ rfl #[.int .i64 0, .int .i64 0, .int .i64 0, .int .i64 0, .int .i64 0] rfl rfl HR1.out (by simp) (by kernel_rfl) (by simp [Value.oneCell']) (by kernel_rfl) ?_; intro wZ RZ gZ _)
  (try simp only [Exit.inBlock, Exit.then]); refine bodyPost_ret (v := .tuple #[.agg #[.int .i64 0, .int .i64 0, .int .i64 0, .int .i64 0, .int .i64 0], .int .i64 0, .bool false]) (results_rowt rfl _ rfl RZ Tryz.underlying24 rfl (by kernel_rfl) rfl rfl) rfl ?_
  exact BsR.no 0 (gb_new HG1.out gZ (by intro x hx; injection hx with hx; omega)) (Nat.le_refl _) (Row.keep HR2.out gZ (by intro h; injection h with h; omega)) (.inl HE.out)
 have HR2 := Lib.hid hr1
 have HF := Lib.hid hf
 have HRL := Lib.hid hrl
 have HRS := Lib.hid hrs
 have HPL : Hid (P.length = (splitBy 32 (Lib.cut q.data.toList [10]).1).length) := by rw [Hid, ← hP, List.length_map]
 have hcap : P.length ≤ cap1 := by
  obtain ⟨A', cap', hv, k1, _⟩ := hsl1
  injection hv with e1 e2 e3
  subst e3
  rwa [txts_len] at k1
 clear hr1 hf hrl hrs
 by_cases h8 : P.length = 8
 rotate_left
 ·have hne : ((P.length : Int) != 8) = true := by simp; omega
  have HN := Lib.hid (rdBs_len (l := (Lib.cut q.data.toList [10]).1) (by rw [← HPL.out]; exact h8))
  clear h8 hsl1 hP
  go_wp2_with (refine wpList_storeRow rfl 24 (.tmp 2) _ rfl #[.int .i64 0, .int .i64 0, .int .i64 0, .int .i64 0, .int .i64 0] rfl rfl HR1.out (by simp) (by kernel_rfl) (by simp [Value.oneCell']) (by kernel_rfl) ?_; intro wZ RZ gZ _)
  (try simp only [Exit.inBlock, Exit.then]); refine bodyPost_ret (v := .tuple #[.agg #[.int .i64 0, .int .i64 0, .int .i64 0, .int .i64 0, .int .i64 0], .int .i64 0, .bool false]) (results_rowt rfl _ rfl RZ Tryz.underlying24 rfl (by kernel_rfl) rfl rfl) rfl ?_
  exact BsR.no 0 (gb_new HG1.out gZ (by intro x hx; injection hx with hx; omega)) HRS.out (Row.keep HR2.out gZ (by intro h; injection h with h; omega)) (.inr HN.out)
 obtain ⟨p0, p1, p2, p3, p4, p5, p6, p7, bk, off, rfl, rfl, hbk, hw⟩ := words8 hsl1 h8
 have H8 := Lib.hid (rdBs_eight hP.symm)
 dsimp only at H8
 have hsz := Lib.hid hPs
 have hbg : bk ≠ g := by
  rintro rfl
  have h0 := (Row.cell HR1.out off).symm.trans (hw 0 (by omega))
  rcases off with _ | _ | _ | _ | _ | off <;> simp at h0
 have HS1 : Hid (BsS a0 w D g bk off r (n + 1) [p0, p1, p2, p3, p4, p5, p6, p7] 0 0 0 0 0 w1) := ⟨HG1.out, HB1.out, HR2.out, HR1.out, ⟨hWg, hDl, HD.out, hbg, hbk⟩, hw⟩
 have c0 : w1.cell? ⟨bk, off, none⟩ = some (.string p0) := hw 0 (by omega)
 have c6 : w1.cell? ⟨bk, off + 6, none⟩ = some (.string p6) := hw 6 (by omega)
 simp only [List.length_cons, List.length_nil, Nat.zero_add] at hcap ⊢
 clear hsl1 h8 HPL hP hPs hw HG1 HB1 HR1 HR2
 by_cases ha : p0.data.toList = wBas
 rotate_left
 ·obtain ⟨t1, t2⟩ := str_no ha
  have HN : Hid (rdBs (Lib.cut q.data.toList [10]).1 = none) := by rw [Hid, H8.out, if_neg (fun h => ha h.1)]
  unfold wBas at t1 t2
  clear ha H8
  go_wp2_with (refine wpList_storeRow rfl 24 (.tmp 2) _ rfl #[.int .i64 0, .int .i64 0, .int .i64 0, .int .i64 0, .int .i64 0] rfl rfl HS1.out.box (by simp) (by kernel_rfl) (by simp [Value.oneCell']) (by kernel_rfl) ?_; intro wZ RZ gZ _)
  (try simp only [Exit.inBlock, Exit.then]); refine bodyPost_ret (v := .tuple #[.agg #[.int .i64 0, .int .i64 0, .int .i64 0, .int .i64 0, .int .i64 0], .int .i64 0, .bool false]) (results_rowt rfl _ rfl RZ Tryz.underlying24 rfl (by kernel_rfl) rfl rfl) rfl ?_
  exact BsR.no 0 (gb_new HS1.out.grown gZ (by intro x hx; injection hx with hx; omega)) HRS.out (Row.keep HS1.out.rdr gZ (by intro h; injection h with h; omega)) (.inr HN.out)
 obtain ⟨t1, t2⟩ := str_yes ha
 have Hha := Lib.hid ha
 unfold wBas at t1 t2
 clear ha
 by_cases hc : p6.data.toList = wLgl
 rotate_left
 ·obtain ⟨t3, t4⟩ := str_no hc
  have HN : Hid (rdBs (Lib.cut q.data.toList [10]).1 = none) := by rw [Hid, H8.out, if_neg (fun h => hc h.2)]
  unfold wLgl at t3 t4
  clear hc H8
  go_wp2_with (refine wpList_storeRow rfl 24 (.tmp 2) _ rfl #[.int .i64 0, .int .i64 0, .int .i64 0, .int .i64 0, .int .i64 0] rfl rfl HS1.out.box (by simp) (by kernel_rfl) (by simp [Value.oneCell']) (by kernel_rfl) ?_; intro wZ RZ gZ _)
  (try simp only [Exit.inBlock, Exit.then]); refine bodyPost_ret (v := .tuple #[.agg #[.int .i64 0, .int .i64 0, .int .i64 0, .int .i64 0, .int .i64 0], .int .i64 0, .bool false]) (results_rowt rfl _ rfl RZ Tryz.underlying24 rfl (by kernel_rfl) rfl rfl) rfl ?_
  exact BsR.no 0 (gb_new HS1.out.grown gZ (by intro x hx; injection hx with hx; omega)) HRS.out (Row.keep HS1.out.rdr gZ (by intro h; injection h with h; omega)) (.inr HN.out)
 obtain ⟨t3, t4⟩ := str_yes hc
 have Hhc := Lib.hid hc
 unfold wLgl at t3 t4
 clear hc
 have H8' : Hid (rdBs (Lib.cut q.data.toList [10]).1 = match numTo p1.data.toList, numTo p2.data.toList, numTo p3.data.toList, numTo p4.data.toList, numTo p5.data.toList, numTo p7.data.toList with
  | some a, some b, some c, some d, some f, some x => some ([a, b, c, d, f], x)
  | _, _, _, _, _, _ => none) := by rw [Hid, H8.out, if_pos ⟨Hha.out, Hhc.out⟩]; try rfl
 obtain ⟨n1, hn1⟩ : ∃ n1, numTo p1.data.toList = n1 := ⟨_, rfl⟩
 have N1 : Hid (∀ z, Tabs z → Errs z → Calls Tryz.prog 65 #[.string p1, .int .i64 (-1000000000000), .int .i64 1000000000000] z (NumR n1 z)) := fun z hz hy => by rw [← hn1]; exact numberP_any p1 _ _ z hz hy (by have := hsz.out p1 (by simp); omega)
 obtain ⟨n2, hn2⟩ : ∃ n2, numTo p2.data.toList = n2 := ⟨_, rfl⟩
 have N2 : Hid (∀ z, Tabs z → Errs z → Calls Tryz.prog 65 #[.string p2, .int .i64 (-1000000000000), .int .i64 1000000000000] z (NumR n2 z)) := fun z hz hy => by rw [← hn2]; exact numberP_any p2 _ _ z hz hy (by have := hsz.out p2 (by simp); omega)
 obtain ⟨n3, hn3⟩ : ∃ n3, numTo p3.data.toList = n3 := ⟨_, rfl⟩
 have N3 : Hid (∀ z, Tabs z → Errs z → Calls Tryz.prog 65 #[.string p3, .int .i64 (-1000000000000), .int .i64 1000000000000] z (NumR n3 z)) := fun z hz hy => by rw [← hn3]; exact numberP_any p3 _ _ z hz hy (by have := hsz.out p3 (by simp); omega)
 obtain ⟨n4, hn4⟩ : ∃ n4, numTo p4.data.toList = n4 := ⟨_, rfl⟩
 have N4 : Hid (∀ z, Tabs z → Errs z → Calls Tryz.prog 65 #[.string p4, .int .i64 (-1000000000000), .int .i64 1000000000000] z (NumR n4 z)) := fun z hz hy => by rw [← hn4]; exact numberP_any p4 _ _ z hz hy (by have := hsz.out p4 (by simp); omega)
 obtain ⟨n5, hn5⟩ : ∃ n5, numTo p5.data.toList = n5 := ⟨_, rfl⟩
 have N5 : Hid (∀ z, Tabs z → Errs z → Calls Tryz.prog 65 #[.string p5, .int .i64 (-1000000000000), .int .i64 1000000000000] z (NumR n5 z)) := fun z hz hy => by rw [← hn5]; exact numberP_any p5 _ _ z hz hy (by have := hsz.out p5 (by simp); omega)
 obtain ⟨n7, hn7⟩ : ∃ n7, numTo p7.data.toList = n7 := ⟨_, rfl⟩
 have N7 : Hid (∀ z, Tabs z → Errs z → Calls Tryz.prog 65 #[.string p7, .int .i64 (-1000000000000), .int .i64 1000000000000] z (NumR n7 z)) := fun z hz hy => by rw [← hn7]; exact numberP_any p7 _ _ z hz hy (by have := hsz.out p7 (by simp); omega)
 rw [hn1, hn2, hn3, hn4, hn5, hn7] at H8'
 clear hn1 hn2 hn3 hn4 hn5 hn7 H8 Hha Hhc hsz
 go_wp2_with fail
 clear t1 t2 t3 t4 c0 c6
 refine (fields_any _ _).mono ?_
 rintro e w2 ⟨rfl, hb2⟩
 have HS2 := Lib.hid (HS1.out.same hb2)
 clear hb2 HS1
 have ix0 : ∀ w', (Instr.index 84 (.agg #[.pointer (some ⟨g, 0, none⟩), .pointer (some ⟨g, 1, none⟩), .pointer (some ⟨g, 2, none⟩), .pointer (some ⟨g, 3, none⟩), .pointer (some ⟨g, 4, none⟩)]) (.int .i64 0)).run Tryz.prog w' = .ok (.pointer (some ⟨g, 0, none⟩)) w' := fun _ => by kernel_rfl
 have ix1 : ∀ w', (Instr.index 84 (.agg #[.pointer (some ⟨g, 0, none⟩), .pointer (some ⟨g, 1, none⟩), .pointer (some ⟨g, 2, none⟩), .pointer (some ⟨g, 3, none⟩), .pointer (some ⟨g, 4, none⟩)]) (.int .i64 1)).run Tryz.prog w' = .ok (.pointer (some ⟨g, 1, none⟩)) w' := fun _ => by kernel_rfl
 have ix2 : ∀ w', (Instr.index 84 (.agg #[.pointer (some ⟨g, 0, none⟩), .pointer (some ⟨g, 1, none⟩), .pointer (some ⟨g, 2, none⟩), .pointer (some ⟨g, 3, none⟩), .pointer (some ⟨g, 4, none⟩)]) (.int .i64 2)).run Tryz.prog w' = .ok (.pointer (some ⟨g, 2, none⟩)) w' := fun _ => by kernel_rfl
 have ix3 : ∀ w', (Instr.index 84 (.agg #[.pointer (some ⟨g, 0, none⟩), .pointer (some ⟨g, 1, none⟩), .pointer (some ⟨g, 2, none⟩), .pointer (some ⟨g, 3, none⟩), .pointer (some ⟨g, 4, none⟩)]) (.int .i64 3)).run Tryz.prog w' = .ok (.pointer (some ⟨g, 3, none⟩)) w' := fun _ => by kernel_rfl
 have ix4 : ∀ w', (Instr.index 84 (.agg #[.pointer (some ⟨g, 0, none⟩), .pointer (some ⟨g, 1, none⟩), .pointer (some ⟨g, 2, none⟩), .pointer (some ⟨g, 3, none⟩), .pointer (some ⟨g, 4, none⟩)]) (.int .i64 4)).run Tryz.prog w' = .ok (.pointer (some ⟨g, 4, none⟩)) w' := fun _ => by kernel_rfl
 go_wp2_with fail
 go_loopw [34] (fun i wr => ∃ (k : Nat) (z0 z1 z2 z3 z4 : Int), k ≤ 5 ∧ i = .int .i64 k ∧ Hid (BsS a0 w D g bk off r (n + 1) [p0, p1, p2, p3, p4, p5, p6, p7] z0 z1 z2 z3 z4 wr) ∧ Hid (0 < k → n1 = some z0) ∧ Hid (1 < k → n2 = some z1) ∧ Hid (2 < k → n3 = some z2) ∧ Hid (3 < k → n4 = some z3) ∧ Hid (4 < k → n5 = some z4)) (fun i _ => 5 - (intOf i).toNat)
 case atStart => exact ⟨0, 0, 0, 0, 0, 0, by omega, rfl, HS2.out, fun h => absurd h (by omega), fun h => absurd h (by omega), fun h => absurd h (by omega), fun h => absurd h (by omega), fun h => absurd h (by omega)⟩
 case round =>
  clear HS2
  obtain ⟨k, z0, z1, z2, z3, z4, hk, rfl, HS, Q0, Q1, Q2, Q3, Q4⟩ := hrel
  by_cases hk5 : k < 5
  ·obtain rfl | rfl | rfl | rfl | rfl : k = 0 ∨ k = 1 ∨ k = 2 ∨ k = 3 ∨ k = 4 := by omega
   ·have cw : wr.cell? ⟨bk, off + 1, none⟩ = some (.string p1) := HS.out.wds 1 (by omega)
    have HC := Lib.hid (N1.out wr (HT.out.below HS.out.below) (HER.out.below HS.out.below))
    go_wp2_with fail
    refine HC.out.mono ?_
    rintro e wa ⟨rfl, hba⟩
    have HSa := Lib.hid (HS.out.same hba)
    have b0 : wa.cell? ⟨g, 0, none⟩ = some (.int .i64 z0) := HSa.out.box.cell 0
    have bf : wa.frozen? ⟨g, 0, none⟩ = false := HSa.out.box.frozen 0
    have bl : g < wa.heap.size := HSa.out.box.lt
    clear cw hba HC
    cases n1 with
    | none =>
     have e1 : (none : Option Int).isSome = false := rfl
     have e2 : (none : Option Int).getD 0 = 0 := rfl
     rw [e1, e2]
     clear e1 e2
     have HS3 := Lib.hid (HSa.out.put0 0)
     have HN : Hid (rdBs (Lib.cut q.data.toList [10]).1 = none) := by rw [Hid, H8'.out]
     go_wp2_with (refine wpList_storeRow rfl 24 (.tmp 2) _ rfl #[.int .i64 0, .int .i64 0, .int .i64 0, .int .i64 0, .int .i64 0] rfl rfl HS3.out.box (by simp) (by kernel_rfl) (by simp [Value.oneCell']) (by kernel_rfl) ?_; intro wZ RZ gZ _)
     (try simp only [Exit.inBlock, Exit.then]); refine bodyPost_ret (v := .tuple #[.agg #[.int .i64 0, .int .i64 0, .int .i64 0, .int .i64 0, .int .i64 0], .int .i64 0, .bool false]) (results_rowt rfl _ rfl RZ Tryz.underlying24 rfl (by kernel_rfl) rfl rfl) rfl ?_
     exact BsR.no 0 (gb_new HS3.out.grown gZ (by intro x hx; injection hx with hx; omega)) HRS.out (Row.keep HS3.out.rdr gZ (by intro h; injection h with h; omega)) (.inr HN.out)
    | some v =>
     have e1 : (some v : Option Int).isSome = true := rfl
     have e2 : (some v : Option Int).getD 0 = v := rfl
     rw [e1, e2]
     clear e1 e2
     have HS3 := Lib.hid (HSa.out.put0 v)
     go_wp2_with fail
     go_roundw
     case rel => exact ⟨1, v, z1, z2, z3, z4, by omega, by go_num, HS3, fun _ => rfl, fun h => absurd h (by omega), fun h => absurd h (by omega), fun h => absurd h (by omega), fun h => absurd h (by omega)⟩
     case measure => simp [intOf]
   ·have cw : wr.cell? ⟨bk, off + 2, none⟩ = some (.string p2) := HS.out.wds 2 (by omega)
    have HC := Lib.hid (N2.out wr (HT.out.below HS.out.below) (HER.out.below HS.out.below))
    go_wp2_with fail
    refine HC.out.mono ?_
    rintro e wa ⟨rfl, hba⟩
    have HSa := Lib.hid (HS.out.same hba)
    have b0 : wa.cell? ⟨g, 1, none⟩ = some (.int .i64 z1) := HSa.out.box.cell 1
    have bf : wa.frozen? ⟨g, 1, none⟩ = false := HSa.out.box.frozen 1
    have bl : g < wa.heap.size := HSa.out.box.lt
    clear cw hba HC
    cases n2 with
    | none =>
     have e1 : (none : Option Int).isSome = false := rfl
     have e2 : (none : Option Int).getD 0 = 0 := rfl
     rw [e1, e2]
     clear e1 e2
     have HS3 := Lib.hid (HSa.out.put1 0)
     have HN : Hid (rdBs (Lib.cut q.data.toList [10]).1 = none) := by rw [Hid, H8'.out]; rcases n1 with _ | _ <;> rfl
     go_wp2_with (refine wpList_storeRow rfl 24 (.tmp 2) _ rfl #[.int .i64 0, .int .i64 0, .int .i64 0, .int .i64 0, .int .i64 0] rfl rfl HS3.out.box (by simp) (by kernel_rfl) (by simp [Value.oneCell']) (by kernel_rfl) ?_; intro wZ RZ gZ _)
     (try simp only [Exit.inBlock, Exit.then]); refine bodyPost_ret (v := .tuple #[.agg #[.int .i64 0, .int .i64 0, .int .i64 0, .int .i64 0, .int .i64 0], .int .i64 0, .bool false]) (results_rowt rfl _ rfl RZ Tryz.underlying24 rfl (by kernel_rfl) rfl rfl) rfl ?_
     exact BsR.no 0 (gb_new HS3.out.grown gZ (by intro x hx; injection hx with hx; omega)) HRS.out (Row.keep HS3.out.rdr gZ (by intro h; injection h with h; omega)) (.inr HN.out)
    | some v =>
     have e1 : (some v : Option Int).isSome = true := rfl
     have e2 : (some v : Option Int).getD 0 = v := rfl
     rw [e1, e2]
     clear e1 e2
     have HS3 := Lib.hid (HSa.out.put1 v)
     go_wp2_with fail
     go_roundw
     case rel => exact ⟨2, z0, v, z2, z3, z4, by omega, by go_num, HS3, fun h => Q0.out (by omega), fun _ => rfl, fun h => absurd h (by omega), fun h => absurd h (by omega), fun h => absurd h (by omega)⟩
     case measure => simp [intOf]
   ·have cw : wr.cell? ⟨bk, off + 3, none⟩ = some (.string p3) := HS.out.wds 3 (by omega)
    have HC := Lib.hid (N3.out wr (HT.out.below HS.out.below) (HER.out.below HS.out.below))
    go_wp2_with fail
    refine HC.out.mono ?_
    rintro e wa ⟨rfl, hba⟩
    have HSa := Lib.hid (HS.out.same hba)
    have b0 : wa.cell? ⟨g, 2, none⟩ = some (.int .i64 z2) := HSa.out.box.cell 2
    have bf : wa.frozen? ⟨g, 2, none⟩ = false := HSa.out.box.frozen 2
    have bl : g < wa.heap.size := HSa.out.box.lt
    clear cw hba HC
    cases n3 with
    | none =>
     have e1 : (none : Option Int).isSome = false := rfl
     have e2 : (none : Option Int).getD 0 = 0 := rfl
     rw [e1, e2]
     clear e1 e2
     have HS3 := Lib.hid (HSa.out.put2 0)
     have HN : Hid (rdBs (Lib.cut q.data.toList [10]).1 = none) := by rw [Hid, H8'.out]; rcases n1 with _ | _ <;> rcases n2 with _ | _ <;> rfl
     go_wp2_with (refine wpList_storeRow rfl 24 (.tmp 2) _ rfl #[.int .i64 0, .int .i64 0, .int .i64 0, .int .i64 0, .int .i64 0] rfl rfl HS3.out.box (by simp) (by kernel_rfl) (by simp [Value.oneCell']) (by kernel_rfl) ?_; intro wZ RZ gZ _)
     (try simp only [Exit.inBlock, Exit.then]); refine bodyPost_ret (v := .tuple #[.agg #[.int .i64 0, .int .i64 0, .int .i64 0, .int .i64 0, .int .i64 0], .int .i64 0, .bool false]) (results_rowt rfl _ rfl RZ Tryz.underlying24 rfl (by kernel_rfl) rfl rfl) rfl ?_
     exact BsR.no 0 (gb_new HS3.out.grown gZ (by intro x hx; injection hx with hx; omega)) HRS.out (Row.keep HS3.out.rdr gZ (by intro h; injection h with h; omega)) (.inr HN.out)
    | some v =>
     have e1 : (some v : Option Int).isSome = true := rfl
     have e2 : (some v : Option Int).getD 0 = v := rfl
     rw [e1, e2]
     clear e1 e2
     have HS3 := Lib.hid (HSa.out.put2 v)
     go_wp2_with fail
     go_roundw
     case rel => exact ⟨3, z0, z1, v, z3, z4, by omega, by go_num, HS3, fun h => Q0.out (by omega), fun h => Q1.out (by omega), fun _ => rfl, fun h => absurd h (by omega), fun h => absurd h (by omega)⟩
     case measure => simp [intOf]
   ·have cw : wr.cell? ⟨bk, off + 4, none⟩ = some (.string p4) := HS.out.wds 4 (by omega)
    have HC := Lib.hid (N4.out wr (HT.out.below HS.out.below) (HER.out.below HS.out.below))
    go_wp2_with fail
    refine HC.out.mono ?_
    rintro e wa ⟨rfl, hba⟩
    have HSa := Lib.hid (HS.out.same hba)
    have b0 : wa.cell? ⟨g, 3, none⟩ = some (.int .i64 z3) := HSa.out.box.cell 3
    have bf : wa.frozen? ⟨g, 3, none⟩ = false := HSa.out.box.frozen 3
    have bl : g < wa.heap.size := HSa.out.box.lt
    clear cw hba HC
    cases n4 with
    | none =>
     have e1 : (none : Option Int).isSome = false := rfl
     have e2 : (none : Option Int).getD 0 = 0 := rfl
     rw [e1, e2]
     clear e1 e2
     have HS3 := Lib.hid (HSa.out.put3 0)
     have HN : Hid (rdBs (Lib.cut q.data.toList [10]).1 = none) := by rw [Hid, H8'.out]; rcases n1 with _ | _ <;> rcases n2 with _ | _ <;> rcases n3 with _ | _ <;> rfl
     go_wp2_with (refine wpList_storeRow rfl 24 (.tmp 2) _ rfl #[.int .i64 0, .int .i64 0, .int .i64 0, .int .i64 0, .int .i64 0] rfl rfl HS3.out.box (by simp) (by kernel_rfl) (by simp [Value.oneCell']) (by kernel_rfl) ?_; intro wZ RZ gZ _)
     (try simp only [Exit.inBlock, Exit.then]); refine bodyPost_ret (v := .tuple #[.agg #[.int .i64 0, .int .i64 0, .int .i64 0, .int .i64 0, .int .i64 0], .int .i64 0, .bool false]) (results_rowt rfl _ rfl RZ Tryz.underlying24 rfl (by kernel_rfl) rfl rfl) rfl ?_
     exact BsR.no 0 (gb_new HS3.out.grown gZ (by intro x hx; injection hx with hx; omega)) HRS.out (Row.keep HS3.out.rdr gZ (by intro h; injection h with h; omega)) (.inr HN.out)
    | some v =>
     have e1 : (some v : Option Int).isSome = true := rfl
     have e2 : (some v : Option Int).getD 0 = v := rfl
     rw [e1, e2]
     clear e1 e2
     have HS3 := Lib.hid (HSa.out.put3 v)
     go_wp2_with fail
     go_roundw
     case rel => exact ⟨4, z0, z1, z2, v, z4, by omega, by go_num, HS3, fun h => Q0.out (by omega), fun h => Q1.out (by omega), fun h => Q2.out (by omega), fun _ => rfl, fun h => absurd h (by omega)⟩
     case measure => simp [intOf]
   ·have cw : wr.cell? ⟨bk, off + 5, none⟩ = some (.string p5) := HS.out.wds 5 (by omega)
    have HC := Lib.hid (N5.out wr (HT.out.below HS.out.below) (HER.out.below HS.out.below))
    go_wp2_with fail
    refine HC.out.mono ?_
    rintro e wa ⟨rfl, hba⟩
    have HSa := Lib.hid (HS.out.same hba)
    have b0 : wa.cell? ⟨g, 4, none⟩ = some (.int .i64 z4) := HSa.out.box.cell 4
    have bf : wa.frozen? ⟨g, 4, none⟩ = false := HSa.out.box.frozen 4
    have bl : g < wa.heap.size := HSa.out.box.lt
    clear cw hba HC
    cases n5 with
    | none =>
     have e1 : (none : Option Int).isSome = false := rfl
     have e2 : (none : Option Int).getD 0 = 0 := rfl
     rw [e1, e2]
     clear e1 e2
     have HS3 := Lib.hid (HSa.out.put4 0)
     have HN : Hid (rdBs (Lib.cut q.data.toList [10]).1 = none) := by rw [Hid, H8'.out]; rcases n1 with _ | _ <;> rcases n2 with _ | _ <;> rcases n3 with _ | _ <;> rcases n4 with _ | _ <;> rfl
     go_wp2_with (refine wpList_storeRow rfl 24 (.tmp 2) _ rfl #[.int .i64 0, .int .i64 0, .int .i64 0, .int .i64 0, .int .i64 0] rfl rfl HS3.out.box (by simp) (by kernel_rfl) (by simp [Value.oneCell']) (by kernel_rfl) ?_; intro wZ RZ gZ _)
     (try simp only [Exit.inBlock, Exit.then]); refine bodyPost_ret (v := .tuple #[.agg #[.int .i64 0, .int .i64 0, .int .i64 0, .int .i64 0, .int .i64 0], .int .i64 0, .bool false]) (results_rowt rfl _ rfl RZ Tryz.underlying24 rfl (by kernel_rfl) rfl rfl) rfl ?_
     exact BsR.no 0 (gb_new HS3.out.grown gZ (by intro x hx; injection hx with hx; omega)) HRS.out (Row.keep HS3.out.rdr gZ (by intro h; injection h with h; omega)) (.inr HN.out)
    | some v =>
     have e1 : (some v : Option Int).isSome = true := rfl
     have e2 : (some v : Option Int).getD 0 = v := rfl
     rw [e1, e2]
     clear e1 e2
     have HS3 := Lib.hid (HSa.out.put4 v)
     go_wp2_with fail
     go_roundw
     case rel => exact ⟨5, z0, z1, z2, z3, v, by omega, by go_num, HS3, fun h => Q0.out (by omega), fun h => Q1.out (by omega), fun h => Q2.out (by omega), fun h => Q3.out (by omega), fun _ => rfl⟩
     case measure => simp [intOf]
  ·obtain rfl : k = 5 := by omega
   have cw : wr.cell? ⟨bk, off + 7, none⟩ = some (.string p7) := HS.out.wds 7 (by omega)
   have HC := Lib.hid (N7.out wr (HT.out.below HS.out.below) (HER.out.below HS.out.below))
   have HZ := Lib.hid (And.intro (Q0.out (by omega)) (And.intro (Q1.out (by omega)) (And.intro (Q2.out (by omega)) (And.intro (Q3.out (by omega)) (Q4.out (by omega))))))
   go_wp2_with fail
   refine HC.out.mono ?_
   rintro e wa ⟨rfl, hba⟩
   have HSa := Lib.hid (HS.out.same hba)
   obtain ⟨q0, q1, q2, q3, q4⟩ := HZ.out
   rw [q0, q1, q2, q3, q4] at H8'
   clear cw hba HC q0 q1 q2 q3 q4
   have RZ := HSa.out.box
   cases n7 with
   | none =>
    have e1 : (none : Option Int).isSome = false := rfl
    have e2 : (none : Option Int).getD 0 = 0 := rfl
    rw [e1, e2]
    clear e1 e2
    go_wp2_with (first | (refine wpList_loadRow rfl 24 (.tmp 2) rfl [.int .i64 z0, .int .i64 z1, .int .i64 z2, .int .i64 z3, .int .i64 z4] _ rfl RZ (by simp) Tryz.underlying24 rfl (by kernel_rfl) ?_) | (refine wpList_storeRow rfl 24 (.tmp 2) _ rfl #[.int .i64 z0, .int .i64 z1, .int .i64 z2, .int .i64 z3, .int .i64 z4] rfl rfl RZ (by simp) (by kernel_rfl) (by simp [Value.oneCell']) (by kernel_rfl) ?_; intro wZ RY gZ _))
    (try simp only [Exit.inBlock, Exit.then])
    refine bodyPost_ret (results_rowt rfl _ rfl RY Tryz.underlying24 rfl (by kernel_rfl) rfl rfl) rfl ?_
    exact BsR.no 0 (gb_new HSa.out.grown gZ (by intro x hx; injection hx with hx; omega)) HRS.out (Row.keep HSa.out.rdr gZ (by intro h; injection h with h; omega)) (.inr H8'.out)
   | some v =>
    have e1 : (some v : Option Int).isSome = true := rfl
    have e2 : (some v : Option Int).getD 0 = v := rfl
    rw [e1, e2]
    clear e1 e2
    go_wp2_with (first | (refine wpList_loadRow rfl 24 (.tmp 2) rfl [.int .i64 z0, .int .i64 z1, .int .i64 z2, .int .i64 z3, .int .i64 z4] _ rfl RZ (by simp) Tryz.underlying24 rfl (by kernel_rfl) ?_) | (refine wpList_storeRow rfl 24 (.tmp 2) _ rfl #[.int .i64 z0, .int .i64 z1, .int .i64 z2, .int .i64 z3, .int .i64 z4] rfl rfl RZ (by simp) (by kernel_rfl) (by simp [Value.oneCell']) (by kernel_rfl) ?_; intro wZ RY gZ _))
    (try simp only [Exit.inBlock, Exit.then])
    refine bodyPost_ret (results_rowt rfl _ rfl RY Tryz.underlying24 rfl (by kernel_rfl) rfl rfl) rfl ?_
    exact ⟨r, _, _, _, _, _, _, true, rfl, gb_new HSa.out.grown gZ (by intro x hx; injection hx with hx; omega), HRS.out, Row.keep HSa.out.rdr gZ (by intro h; injection h with h; omega), fun _ => ⟨HF.out, HRL.out, H8'.out⟩, by simp⟩
end Go.Proofs.YtogdefomigiepaaGreatDoor
/- Plain laws of a payslip's lines as words. -/
namespace Go.Proofs.YtogdefomigiepaaGreatDoor
open Go.RowKit Go.Shelf

theorem numP_eq {lo hi : Int} {l : List UInt8} {v : Int} (h : numP lo hi l = some v) : l = Lib.itoa v ∧ lo ≤ v ∧ v ≤ hi := by
 unfold numP at h
 cases hn : numI l with
 | none => rw [hn] at h; cases h
 | some z =>
  rw [hn] at h
  simp only [] at h
  split at h
  ·rename_i hz
   injection h with h
   subst h
   exact ⟨numI_eq hn, hz⟩
  ·cases h
theorem numP_itoa {lo hi v : Int} (h1 : lo ≤ v) (h2 : v ≤ hi) (h3 : -9223372036854775808 ≤ lo) (h4 : hi ≤ 9223372036854775807) : numP lo hi (Lib.itoa v) = some v := by
 unfold numP
 rw [numI_itoa (by omega) (by omega)]
 simp only []
 rw [if_pos ⟨h1, h2⟩]
theorem wordT_inj : ∀ j : Nat, j < 11 → ∀ k : Nat, k < 11 → wordT (j : Int) = wordT (k : Int) → j = k := by decide +kernel
def lnW (x : Ln) : List (List UInt8) := wordT x.kind :: ((if bareB x.kind then [] else [x.code.data.toList]) ++ [Lib.itoa x.amt])
def LnR (ws : List (List UInt8)) (w : World) (e : Ending) (w' : World) : Prop :=
 ∃ (x : Ln) (ok : Bool), e = .returned (.tuple #[.agg #[.int .i64 x.kind, .string x.code, .int .i64 x.amt], .bool ok]) ∧ Below w.heap.size w w' ∧
  (ok = true → formB x = true ∧ ws = lnW x) ∧ (ok = false → ∀ y, formB y = true → ws ≠ lnW y)
theorem formB_kind {x : Ln} (h : formB x = true) : 1 ≤ x.kind ∧ x.kind ≤ 10 ∧ (-1000000000000 ≤ x.amt ∧ x.amt ≤ 1000000000000) ∧ (bareB x.kind = true → x.code.size = 0) := by
 simp only [formB, formedB, totB, Bool.and_eq_true, decide_eq_true_eq] at h
 refine ⟨by omega, by omega, by omega, fun hb => ?_⟩
 have := h.1.2.2.2
 rw [hb] at this
 simpa using this
theorem lnW_kind {ws : List (List UInt8)} {a : List UInt8} (h : ∀ K : Nat, 1 ≤ K → K ≤ 10 → wordT (K : Int) ≠ a) : ∀ y, formB y = true → (a :: ws) ≠ lnW y := by
 rintro y hy he
 obtain ⟨h1, h2, -⟩ := formB_kind hy
 obtain ⟨K, hK⟩ := Int.eq_ofNat_of_zero_le (show 0 ≤ y.kind by omega)
 unfold lnW at he
 injection he with he _
 rw [hK] at he
 exact h K (by omega) (by omega) he.symm
theorem lnW_first {ws : List (List UInt8)} {K : Nat} (hK : 1 ≤ K ∧ K ≤ 10) {y : Ln} (hy : formB y = true) (h : (wordT (K : Int) :: ws) = lnW y) : y.kind = (K : Int) ∧ ws = (if bareB (K : Int) then [] else [y.code.data.toList]) ++ [Lib.itoa y.amt] := by
 obtain ⟨h1, h2, -⟩ := formB_kind hy
 obtain ⟨J, hJ⟩ := Int.eq_ofNat_of_zero_le (show 0 ≤ y.kind by omega)
 unfold lnW at h
 injection h with e1 e2
 rw [hJ] at e1 e2
 obtain rfl := wordT_inj K (by omega) J (by omega) e1
 exact ⟨hJ, e2⟩
end Go.Proofs.YtogdefomigiepaaGreatDoor
