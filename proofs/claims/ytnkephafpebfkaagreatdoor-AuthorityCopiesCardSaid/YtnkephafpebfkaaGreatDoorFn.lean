/- Contracts of filing: number, readHead, readLine. -/
import Derived.Test.YtnkephafpebfkaaGreatDoorRtS
import Derived.Test.YtnkephafpebfkaaGreatDoorRow3
import Derived.Test.YtnkephafpebfkaaGreatDoorSpl
import Derived.Test.YtnkephafpebfkaaGreatDoorTab
import Derived.Test.YtnkephafpebfkaaGreatDoorAtoi
import Derived.Test.YtnkephafpebfkaaGreatDoorExt
import Derived.Test.YtnkephafpebfkaaGreatDoorSet1
import Derived.RegionTactic
namespace Go.Proofs.YtnkephafpebfkaaGreatDoor
open Go.RowKit Go.Shelf

theorem str_yes {q : ByteArray} {l : List UInt8} (h : q.data.toList = l) : (q.toList == l) = true ∧ q.toList = l := by
  rw [ByteArray.toList_eq, h]; simp
theorem str_no {q : ByteArray} {l : List UInt8} (h : ¬ q.data.toList = l) : (q.toList == l) = false ∧ ¬ q.toList = l := by
  rw [ByteArray.toList_eq]; exact ⟨by simpa using h, h⟩
theorem numI_of (l : List UInt8) : numI l = match atoiV l with | some v => if Lib.itoa v = l then some v else none | none => none := by
  unfold numI atoiV
  cases Lib.atoiAll l <;> rfl
def NumR (o : Option Int) (w : World) (e : Ending) (w' : World) : Prop := e = .returned (.tuple #[.int .i64 (o.getD 0), .bool o.isSome]) ∧ Below w.heap.size w w'
set_option maxHeartbeats 1000000 in
theorem number_any (s : ByteArray) (w : World) (hT : Tabs w) (hE : Errs w) (hs : s.size ≤ 1000000) :
    Calls Tryz.prog 88 #[.string s] w (NumR (numI s.data.toList) w) := by
  have HT := Lib.hid hT
  have HN := Lib.hid (numI_of s.data.toList)
  have HA := Lib.hid (Atoi_any s w hE (by omega))
  clear hT hE
  go_enter Tryz.func88, Tryz.ntmps88
  go_wp2_with fail
  refine HA.out.mono ?_
  rintro e w1 ⟨hb1, hat⟩
  rcases hat with ⟨z, hz, hz1, hz2, rfl⟩ | ⟨hz, x, N, rfl⟩
  rotate_left
  · have HNO : Hid (numI s.data.toList = none) := by rw [Hid, HN.out, hz]
    clear hz
    go_wp2
    go_ret2
    exact ⟨by rw [HNO.out]; rfl, hb1⟩
  have HN1 : Hid (numI s.data.toList = if Lib.itoa z = s.data.toList then some z else none) := by rw [Hid, HN.out, hz]
  have HCON := Lib.hid (Itoa_any z w1 hz1 hz2 (HT.out.below hb1))
  have HU : Hid ((⟨(Lib.itoa z).toArray⟩ : ByteArray).data.toList = Lib.itoa z) := by simp [Hid]
  obtain ⟨u, hu⟩ : ∃ u, (⟨(Lib.itoa z).toArray⟩ : ByteArray) = u := ⟨_, rfl⟩
  rw [hu] at HCON HU
  clear hu hz HN HA
  by_cases hzq : Lib.itoa z = s.data.toList
  · have t3 : (u.toList == s.toList) = true := by rw [ByteArray.toList_eq, ByteArray.toList_eq, HU.out]; simpa using hzq
    have t4 : u.toList = s.toList := by simpa using t3
    have HNO : Hid (numI s.data.toList = some z) := by rw [Hid, HN1.out, if_pos hzq]
    clear HN1 hzq
    go_wp2_with fail
    refine HCON.out.mono ?_
    rintro e w2 ⟨rfl, hb2⟩
    have hB2 := below_after hb1 hb2 hb1.size
    clear hb2
    go_wp2
    go_ret2
    exact ⟨by rw [HNO.out]; rfl, hB2⟩
  · have t3 : (u.toList == s.toList) = false := by rw [ByteArray.toList_eq, ByteArray.toList_eq, HU.out]; simpa using hzq
    have t4 : ¬ u.toList = s.toList := by simpa using t3
    have HNO : Hid (numI s.data.toList = none) := by rw [Hid, HN1.out, if_neg hzq]
    clear HN1 hzq
    go_wp2_with fail
    refine HCON.out.mono ?_
    rintro e w2 ⟨rfl, hb2⟩
    have hB2 := below_after hb1 hb2 hb1.size
    clear hb2
    go_wp2
    go_ret2
    exact ⟨by rw [HNO.out]; rfl, hB2⟩
theorem words2 {w : World} {A : Option Addr} {cp : Nat} {W : List ByteArray} (h : Sl w 1 (.slice A W.length cp) (txts W)) (hl : W.length = 2) :
    ∃ a b bk off, W = [a, b] ∧ A = some ⟨bk, off, none⟩ ∧ bk < w.heap.size ∧ w.cell? ⟨bk, off, none⟩ = some (.string a) ∧ w.cell? ⟨bk, off + 1, none⟩ = some (.string b) :=
  match W, hl with
  | [a, b], _ => by
    obtain ⟨bk, off, rfl, hc⟩ := h.cells (by simp [txts])
    exact ⟨a, b, bk, off, rfl, rfl, hc.1, hc.txt (k := 0) (by simp), hc.txt (k := 1) (by simp)⟩
theorem words3 {w : World} {A : Option Addr} {cp : Nat} {W : List ByteArray} (h : Sl w 1 (.slice A W.length cp) (txts W)) (hl : W.length = 3) :
    ∃ a b c bk off, W = [a, b, c] ∧ A = some ⟨bk, off, none⟩ ∧ bk < w.heap.size ∧ w.cell? ⟨bk, off, none⟩ = some (.string a) ∧ w.cell? ⟨bk, off + 1, none⟩ = some (.string b) ∧ w.cell? ⟨bk, off + 2, none⟩ = some (.string c) :=
  match W, hl with
  | [a, b, c], _ => by
    obtain ⟨bk, off, rfl, hc⟩ := h.cells (by simp [txts])
    exact ⟨a, b, c, bk, off, rfl, rfl, hc.1, hc.txt (k := 0) (by simp), hc.txt (k := 1) (by simp), hc.txt (k := 2) (by simp)⟩
theorem words4 {w : World} {A : Option Addr} {cp : Nat} {W : List ByteArray} (h : Sl w 1 (.slice A W.length cp) (txts W)) (hl : W.length = 4) :
    ∃ a b c d bk off, W = [a, b, c, d] ∧ A = some ⟨bk, off, none⟩ ∧ bk < w.heap.size ∧ w.cell? ⟨bk, off, none⟩ = some (.string a) ∧ w.cell? ⟨bk, off + 1, none⟩ = some (.string b) ∧ w.cell? ⟨bk, off + 2, none⟩ = some (.string c) ∧ w.cell? ⟨bk, off + 3, none⟩ = some (.string d) :=
  match W, hl with
  | [a, b, c, d], _ => by
    obtain ⟨bk, off, rfl, hc⟩ := h.cells (by simp [txts])
    exact ⟨a, b, c, d, bk, off, rfl, rfl, hc.1, hc.txt (k := 0) (by simp), hc.txt (k := 1) (by simp), hc.txt (k := 2) (by simp), hc.txt (k := 3) (by simp)⟩
/-- plain: what the words tell -/
theorem rdHead_len {l : List UInt8} (h : ¬ (splitBy 32 l).length = 4) : rdHead l = none := by
  unfold rdHead
  split
  · rename_i he; rw [he] at h; simp at h
  · rfl
theorem rdHead_four {l a b c d : List UInt8} (h : splitBy 32 l = [a, b, c, d]) : rdHead l = if a = wRet ∧ c = wVer then (match numI b, numI d with
    | some p, some v => some (p, v)
    | _, _ => none) else none := by
  unfold rdHead; rw [h]; rfl
theorem rdLine_len {l : List UInt8} (h : ¬ (splitBy 32 l).length = 2) (h3 : ¬ (splitBy 32 l).length = 3) : rdLine l = none := by
  unfold rdLine
  split
  · rename_i he; rw [he] at h; simp at h
  · rename_i he; rw [he] at h3; simp at h3
  · rfl
theorem rdLine_two {l k n : List UInt8} (h : splitBy 32 l = [k, n]) : rdLine l = if k = wTax then (match numI n with
    | some v => some ⟨6, ⟨#[]⟩, v⟩
    | none => none) else none := by
  unfold rdLine; rw [h]; rfl
theorem rdLine_three {l k c n : List UInt8} (h : splitBy 32 l = [k, c, n]) : rdLine l = if k = wLevy then (match numI n with
    | some v => some ⟨4, ⟨c.toArray⟩, v⟩
    | none => none) else if k = wEmp then (match numI n with
    | some v => some ⟨5, ⟨c.toArray⟩, v⟩
    | none => none) else none := by
  unfold rdLine; rw [h]; rfl
def HeadRet (o : Option (Int × Int)) (w : World) (e : Ending) (w' : World) : Prop :=
  ∃ p v, e = .returned (.tuple #[.agg #[.int .i64 p, .int .i64 v, .slice none 0 0], .bool o.isSome]) ∧ (∀ x, o = some x → x = (p, v)) ∧ Below w.heap.size w w'
theorem HeadRet.no {w w' : World} {o : Option (Int × Int)} (p v : Int) (h : o = none) (hb : Below w.heap.size w w') : HeadRet o w (.returned (.tuple #[.agg #[.int .i64 p, .int .i64 v, .slice none 0 0], .bool false])) w' := by
  subst h; exact ⟨p, v, rfl, (fun x hx => by cases hx), hb⟩
set_option maxRecDepth 100000 in
set_option maxHeartbeats 4000000 in
theorem readHead_any (s : ByteArray) (w : World) (hT : Tabs w) (hE : Errs w) (hs : s.size ≤ 1000000) :
    Calls Tryz.prog 70 #[.string s] w (HeadRet (rdHead s.data.toList) w) := by
  have HT := Lib.hid hT
  have HER := Lib.hid hE
  clear hT hE
  have hr0 := Row.new w 25 #[.int .i64 0, .int .i64 0, .slice none 0 0]
  have hB0 := (Below.refl w.heap.size w).alloc (Nat.le_refl _) (.cells #[.int .i64 0, .int .i64 0, .slice none 0 0] 25)
  go_enter Tryz.func70, Tryz.ntmps70
  go_wp2_with fail
  obtain ⟨w0, hw0⟩ : ∃ w0, w.alloc (.cells #[.int .i64 0, .int .i64 0, .slice none 0 0] 25) = w0 := ⟨_, rfl⟩
  rw [hw0] at hr0 hB0 ⊢
  obtain ⟨r, hr⟩ : ∃ r, w.heap.size = r := ⟨_, rfl⟩
  rw [hr] at hr0 ⊢
  have hwr : w.heap.size ≤ r := by omega
  clear hw0 hr
  refine (Split_any s 32 w0 (by omega)).mono ?_
  rintro e w1 ⟨P, A1, cap1, rfl, hP, hPs, hPl, hsl1, hb1⟩
  have hB1 := below_after hB0 hb1 hB0.size
  have hr1 := hr0.below hb1 hr0.lt
  have HPL : Hid (P.length = (splitBy 32 s.data.toList).length) := by rw [Hid, ← hP, List.length_map]
  have hcap : P.length ≤ cap1 := by
    obtain ⟨A', cap', hv, k1, _⟩ := hsl1
    injection hv with e1 e2 e3
    subst e3
    rwa [txts_len] at k1
  clear hB0 hr0 hb1
  obtain ⟨⟨a0, a1, a2, al⟩, ⟨b0, b1, b2⟩⟩ := row3 hr1
  have HR3 := Lib.hid (fun x y => Row.set3 hr1 x y (.slice none 0 0))
  have HQ3 := Lib.hid (fun x y => Below.set3 hB1 hwr x y (.slice none 0 0))
  have hnone : ∀ p v, rdHead s.data.toList = none → HeadRet (rdHead s.data.toList) w (.returned (.tuple #[.agg #[.int .i64 p, .int .i64 v, .slice none 0 0], .bool false])) (((w1.setCell ⟨r, 0, none⟩ (.int .i64 p)).setCell ⟨r, 1, none⟩ (.int .i64 v)).setCell ⟨r, 2, none⟩ (.slice none 0 0)) := fun p v h => HeadRet.no p v h (HQ3.out _ _)
  have HNO := Lib.hid hnone
  clear hnone
  by_cases h4 : P.length = 4
  rotate_left
  · have hne : ((P.length : Int) != 4) = true := by simp; omega
    have HN := Lib.hid (rdHead_len (l := s.data.toList) (by rw [← HPL.out]; exact h4))
    clear h4 hr1 hB1 hsl1 hP
    go_wp2
    obtain ⟨⟨z0, z1, z2, -⟩, -⟩ := row3 (HR3.out (.int .i64 0) (.int .i64 0))
    refine bodyPost_ret (v := .tuple #[.agg #[.int .i64 0, .int .i64 0, .slice none 0 0], .bool false]) (by simp only [results, Tryz.results70, go_sem]; simp [z0, z1, z2, go_sem]) rfl ?_
    exact HNO.out 0 0 HN.out
  obtain ⟨a, b, c, d, bk, off, rfl, rfl, hbk, c0, c1, c2, c3⟩ := words4 hsl1 h4
  have H4 := Lib.hid (rdHead_four hP.symm)
  have hbs := hPs b (by simp)
  have hds := hPs d (by simp)
  simp only [List.length_cons, List.length_nil, Nat.zero_add] at hcap ⊢
  clear hsl1 h4 HPL hP hPs hPl
  by_cases ha : a.data.toList = wRet
  rotate_left
  · obtain ⟨t1, t2⟩ := str_no ha
    have HN : Hid (rdHead s.data.toList = none) := by rw [Hid, H4.out, if_neg (fun h => ha h.1)]
    unfold wRet at t1 t2
    clear ha H4 hr1 hB1
    go_wp2
    obtain ⟨⟨z0, z1, z2, -⟩, -⟩ := row3 (HR3.out (.int .i64 0) (.int .i64 0))
    refine bodyPost_ret (v := .tuple #[.agg #[.int .i64 0, .int .i64 0, .slice none 0 0], .bool false]) (by simp only [results, Tryz.results70, go_sem]; simp [z0, z1, z2, go_sem]) rfl ?_
    exact HNO.out 0 0 HN.out
  obtain ⟨t1, t2⟩ := str_yes ha
  have HA := Lib.hid ha
  unfold wRet at t1 t2
  clear ha
  by_cases hc : c.data.toList = wVer
  rotate_left
  · obtain ⟨t3, t4⟩ := str_no hc
    have HN : Hid (rdHead s.data.toList = none) := by rw [Hid, H4.out, if_neg (fun h => hc h.2)]
    unfold wVer at t3 t4
    clear hc H4 hr1 hB1
    go_wp2
    obtain ⟨⟨z0, z1, z2, -⟩, -⟩ := row3 (HR3.out (.int .i64 0) (.int .i64 0))
    refine bodyPost_ret (v := .tuple #[.agg #[.int .i64 0, .int .i64 0, .slice none 0 0], .bool false]) (by simp only [results, Tryz.results70, go_sem]; simp [z0, z1, z2, go_sem]) rfl ?_
    exact HNO.out 0 0 HN.out
  obtain ⟨t3, t4⟩ := str_yes hc
  have H4' : Hid (rdHead s.data.toList = match numI b.data.toList, numI d.data.toList with
    | some p, some v => some (p, v)
    | _, _ => none) := by rw [Hid, H4.out, if_pos ⟨HA.out, hc⟩]
  have HNB := Lib.hid (number_any b w1 (HT.out.below hB1) (HER.out.below hB1) (by omega))
  obtain ⟨nb, hnb⟩ : ∃ nb, numI b.data.toList = nb := ⟨_, rfl⟩
  obtain ⟨nd, hnd⟩ : ∃ nd, numI d.data.toList = nd := ⟨_, rfl⟩
  rw [hnb] at HNB
  rw [hnb, hnd] at H4'
  have HND := Lib.hid hnd
  unfold wVer at t3 t4
  clear hc H4 HR3 HQ3 HNO hnb hnd
  go_wp2_with fail
  clear t1 t2 t3 t4 HA
  refine HNB.out.mono ?_
  rintro e w2 ⟨rfl, hb2⟩
  have hB2 := below_after hB1 hb2 hB1.size
  have hr2 := hr1.below hb2 hr1.lt
  have d3 := (hb2.cell (p := ⟨bk, off + 3, none⟩) hbk).trans c3
  have HNB2 := Lib.hid (number_any d w2 (HT.out.below hB2) (HER.out.below hB2) (by omega))
  rw [HND.out] at HNB2
  clear hr1 hB1 hb2 c0 c1 c2 c3 HNB a0 a1 a2 al b0 b1 b2
  go_wp2_with fail
  refine HNB2.out.mono ?_
  rintro e w3 ⟨rfl, hb3⟩
  have hB3 := below_after hB2 hb3 hB2.size
  have hr3 := hr2.below hb3 hr2.lt
  clear hr2 hB2 hb3 d3 HNB2
  obtain ⟨⟨a0, a1, a2, al⟩, ⟨b0, b1, b2⟩⟩ := row3 hr3
  have HR3 := Lib.hid (fun x y => (row3 (Row.set3 hr3 x y (.slice none 0 0))).1)
  have HQ3 := Lib.hid (fun x y => Below.set3 hB3 hwr x y (.slice none 0 0))
  obtain ⟨pv, hpv⟩ : ∃ pv, nb.getD 0 = pv := ⟨_, rfl⟩
  obtain ⟨vv, hvv⟩ : ∃ vv, nd.getD 0 = vv := ⟨_, rfl⟩
  rw [hpv, hvv]
  have HPV := Lib.hid hpv
  have HVV := Lib.hid hvv
  clear hr3 hB3 hpv hvv
  cases nb with
  | none =>
    have e1 : (none : Option Int).isSome = false := rfl
    rw [e1]
    clear e1
    go_wp2
    obtain ⟨z0, z1, z2, -⟩ := HR3.out (.int .i64 pv) (.int .i64 vv)
    refine bodyPost_ret (v := .tuple #[.agg #[.int .i64 pv, .int .i64 vv, .slice none 0 0], .bool false]) (by simp only [results, Tryz.results70, go_sem]; simp [z0, z1, z2, go_sem]) rfl ?_
    exact HeadRet.no _ _ H4'.out (HQ3.out _ _)
  | some nb =>
    have e1 : (some nb : Option Int).isSome = true := rfl
    rw [e1]
    clear e1
    cases nd with
    | none =>
      have e1 : (none : Option Int).isSome = false := rfl
      rw [e1]
      clear e1
      go_wp2
      obtain ⟨z0, z1, z2, -⟩ := HR3.out (.int .i64 pv) (.int .i64 vv)
      refine bodyPost_ret (v := .tuple #[.agg #[.int .i64 pv, .int .i64 vv, .slice none 0 0], .bool false]) (by simp only [results, Tryz.results70, go_sem]; simp [z0, z1, z2, go_sem]) rfl ?_
      exact HeadRet.no _ _ H4'.out (HQ3.out _ _)
    | some nd =>
      have e1 : (some nd : Option Int).isSome = true := rfl
      rw [e1]
      clear e1
      go_wp2
      obtain ⟨z0, z1, z2, -⟩ := HR3.out (.int .i64 pv) (.int .i64 vv)
      refine bodyPost_ret (v := .tuple #[.agg #[.int .i64 pv, .int .i64 vv, .slice none 0 0], .bool true]) (by simp only [results, Tryz.results70, go_sem]; simp [z0, z1, z2, go_sem]) rfl ?_
      rw [H4'.out, ← HPV.out, ← HVV.out]
      exact ⟨_, _, rfl, fun x hx => by injection hx with hx; exact hx.symm, HQ3.out _ _⟩
def LineRet (o : Option Ln) (w : World) (e : Ending) (w' : World) : Prop :=
  ∃ x : Ln, e = .returned (.tuple #[.agg #[.int .i64 x.kind, .string x.code, .int .i64 x.amt], .bool o.isSome]) ∧ (∀ y, o = some y → y = x) ∧ Below w.heap.size w w'
theorem LineRet.no {w w' : World} {o : Option Ln} (k : Int) (c : ByteArray) (a : Int) (h : o = none) (hb : Below w.heap.size w w') : LineRet o w (.returned (.tuple #[.agg #[.int .i64 k, .string c, .int .i64 a], .bool false])) w' := by
  subst h; exact ⟨⟨k, c, a⟩, rfl, (fun x hx => by cases hx), hb⟩
theorem LineRet.num {w w' : World} {o : Option Ln} {n : Option Int} (k : Int) (c : ByteArray) (h : o = match n with | some v => some ⟨k, c, v⟩ | none => none) (hb : Below w.heap.size w w') : LineRet o w (.returned (.tuple #[.agg #[.int .i64 k, .string c, .int .i64 (n.getD 0)], .bool n.isSome])) w' := by
  subst h
  cases n with
  | none => exact ⟨⟨k, c, 0⟩, rfl, (fun x hx => by cases hx), hb⟩
  | some v => exact ⟨⟨k, c, v⟩, rfl, (fun x hx => by injection hx with hx; exact hx.symm), hb⟩
theorem bytes_data (c : ByteArray) : (⟨c.data.toList.toArray⟩ : ByteArray) = c := by
  obtain ⟨a⟩ := c
  simp
/-- where readLine stands: the result's box and the line's -/
structure RlS (w : World) (r q : Nat) (k : Int) (c : ByteArray) (wr : World) : Prop where
  res : Row wr r 56 #[.int .i64 0, .string ⟨#[]⟩, .int .i64 0]
  box : Row wr q 56 #[.int .i64 k, .string c, .int .i64 0]
  below : Below w.heap.size w wr
  lo : w.heap.size ≤ r ∧ r < q
theorem RlS.same {w wr w' : World} {r q : Nat} {k : Int} {c : ByteArray} (h : RlS w r q k c wr) (hb : Below wr.heap.size wr w') : RlS w r q k c w' :=
  ⟨h.res.below hb h.res.lt, h.box.below hb h.box.lt, below_after h.below hb h.below.size, h.lo⟩
theorem RlS.kind {w wr : World} {r q : Nat} {k : Int} {c : ByteArray} (h : RlS w r q k c wr) (k' : Int) : RlS w r q k' c (wr.setCell ⟨q, 0, none⟩ (.int .i64 k')) := by
  have h1 := h.lo
  exact ⟨h.res.far (by show r ≠ q; omega) _, h.box.set 0 _, h.below.setCell (p := ⟨q, 0, none⟩) (by show w.heap.size ≤ q; omega) _, h.lo⟩
theorem RlS.code {w wr : World} {r q : Nat} {k : Int} {c : ByteArray} (h : RlS w r q k c wr) (c' : ByteArray) : RlS w r q k c' (wr.setCell ⟨q, 1, none⟩ (.string c')) := by
  have h1 := h.lo
  exact ⟨h.res.far (by show r ≠ q; omega) _, h.box.set 1 _, h.below.setCell (p := ⟨q, 1, none⟩) (by show w.heap.size ≤ q; omega) _, h.lo⟩
theorem RlS.fin {w wr : World} {r q : Nat} {k : Int} {c : ByteArray} (h : RlS w r q k c wr) (a : Int) :
    (((wr.setCell ⟨q, 2, none⟩ (.int .i64 a)).setCell ⟨r, 0, none⟩ (.int .i64 k)).setCell ⟨r, 1, none⟩ (.string c)).setCell ⟨r, 2, none⟩ (.int .i64 a) = (((wr.setCell ⟨q, 2, none⟩ (.int .i64 a)).setCell ⟨r, 0, none⟩ (.int .i64 k)).setCell ⟨r, 1, none⟩ (.string c)).setCell ⟨r, 2, none⟩ (.int .i64 a) ∧
    Row ((((wr.setCell ⟨q, 2, none⟩ (.int .i64 a)).setCell ⟨r, 0, none⟩ (.int .i64 k)).setCell ⟨r, 1, none⟩ (.string c)).setCell ⟨r, 2, none⟩ (.int .i64 a)) r 56 #[.int .i64 k, .string c, .int .i64 a] ∧
    Below w.heap.size w ((((wr.setCell ⟨q, 2, none⟩ (.int .i64 a)).setCell ⟨r, 0, none⟩ (.int .i64 k)).setCell ⟨r, 1, none⟩ (.string c)).setCell ⟨r, 2, none⟩ (.int .i64 a)) := by
  have h1 := h.lo
  exact ⟨rfl, (h.res.far (p := ⟨q, 2, none⟩) (by show r ≠ q; omega) _).set3 _ _ _, Below.set3 (h.below.setCell (p := ⟨q, 2, none⟩) (by show w.heap.size ≤ q; omega) _) h1.1 _ _ _⟩
theorem RlS.zero {w wr : World} {r q : Nat} {k : Int} {c : ByteArray} (h : RlS w r q k c wr) :
    Row (((wr.setCell ⟨r, 0, none⟩ (.int .i64 k)).setCell ⟨r, 1, none⟩ (.string c)).setCell ⟨r, 2, none⟩ (.int .i64 0)) r 56 #[.int .i64 k, .string c, .int .i64 0] ∧
    Below w.heap.size w (((wr.setCell ⟨r, 0, none⟩ (.int .i64 k)).setCell ⟨r, 1, none⟩ (.string c)).setCell ⟨r, 2, none⟩ (.int .i64 0)) :=
  ⟨h.res.set3 _ _ _, Below.set3 h.below h.lo.1 _ _ _⟩
end Go.Proofs.YtnkephafpebfkaaGreatDoor
