/- Contract of payrollref1.Parse. -/
import Derived.Test.YtkdmbkhgcahpiaaDoorRatD
namespace Go.Proofs.YtkdmbkhgcahpiaaDoor
open Go.RowKit

/-- the call returns a fraction and whether there is one -/
def RetP (x : Prs) (w : World) (e : Ending) (w' : World) : Prop := e = .returned (.tuple #[.agg #[.int .i64 x.n, .int .i64 x.d], .bool x.ok]) ∧ Below w.heap.size w w'
theorem RetP.of {x : Prs} {n d : Int} {b : Bool} {w w' : World} (h : x = ⟨n, d, b⟩) (hb : Below w.heap.size w w') : RetP x w (.returned (.tuple #[.agg #[.int .i64 n, .int .i64 d], .bool b])) w' := by subst h; exact ⟨rfl, hb⟩
theorem prs_false' {l : List UInt8} (h : rpOk l = false) : prsF l = ⟨0, 0, false⟩ := by rw [rp_prs, h]; rfl
theorem prs_true' {l : List UInt8} (h : rpOk l = true) : prsF l = ⟨rpN l, (rpB l).1, true⟩ := by rw [rp_prs, h]; rfl
theorem rpOk_rest {l : List UInt8} (h : (rpB l).2 ≠ []) : rpOk l = false := by simp [rpOk, h]
theorem rpOk_text {l : List UInt8} (h : fmtF (rpN l) (rpB l).1 ≠ l) : rpOk l = false := by simp [rpOk, h]
theorem rpOk_yes {l : List UInt8} (h1 : (rpB l).2 = []) (h : fmtF (rpN l) (rpB l).1 = l) (h3 : l ≠ []) : rpOk l = true := by simp [rpOk, h1, h, h3]
theorem dg_lt (l : List UInt8) : (dgR 13 0 l).1 < 10000000000000 := by have := dgR_bound 13 0 l; simpa using this
theorem list_pos {s : ByteArray} (h : 0 < s.size) : s.data.toList ≠ [] := by
  intro e; have : s.size = s.data.toList.length := by simp
  rw [e, List.length_nil] at this; omega
theorem head_of {s : ByteArray} (h : 0 < s.size) : s.data.toList.head? = some s[0] ∧ s.data.toList.tail = (s.extract 1 s.size).data.toList := by
  have := head_cons s h
  rw [this]; exact ⟨rfl, rfl⟩

set_option maxRecDepth 100000 in
set_option maxHeartbeats 3200000 in
theorem refParse_any (s : ByteArray) (w : World) (hsm : s.size ≤ maxLen) :
    Calls Tryd.prog 18 #[.string s] w (RetP (prsF s.data.toList) w) := by
  unfold maxLen at hsm
  by_cases hneg : s.data.toList.head? = some 45
  · have hpos : 0 < s.size := by
      rcases Nat.eq_zero_or_pos s.size with h | h
      · rw [size_zero h] at hneg; cases hneg
      · exact h
    have HD := Lib.hid (head_of hpos)
    have q0 : ((s[0].toNat : Int) == 45) = true := by
      have := HD.out.1; rw [this] at hneg; injection hneg with h; rw [h]; rfl
    have H0 : Hid (rp0 s.data.toList = (s.extract 1 s.size).data.toList) := by rw [Hid, rp0, if_pos hneg, HD.out.2]
    have HNEG := Lib.hid hneg
    have hsx : (s.extract 1 s.size).size ≤ s.size := by rw [ByteArray.size_extract]; omega
    clear hneg
    go_enter Tryd.func18, Tryd.ntmps18
    go_wp2_with fail
    obtain ⟨rR, rC, hb0⟩ := rows2 w 23 #[.int .i64 0, .int .i64 0] #[.int .i64 0, .int .i64 1]
    generalize ((w.alloc (Obj.cells #[Value.int .i64 0, Value.int .i64 0] 23)).alloc (Obj.cells #[Value.int .i64 0, Value.int .i64 1] 23)) = w0 at rR rC hb0 ⊢
    have hs0' := hb0.size
    refine (digits_any (s.extract 1 s.size) _ (by unfold maxLen; omega)).mono ?_
    rintro e w1 ⟨s1, rfl, H1, hl1, hb1⟩
    obtain ⟨n1, hn1⟩ : ∃ n, n = (dgR 13 0 (s.extract 1 s.size).data.toList).1 := ⟨_, rfl⟩
    rw [← hn1]
    have hnb : n1 < 10000000000000 := by rw [hn1]; exact dg_lt _
    have HA : Hid (rpA s.data.toList = (n1, s1.data.toList)) := by
      rw [Hid, rpA, H0.out, H1.out, hn1]
    clear hn1 H1
    have hB1 := below_after hb0 hb1 hs0'
    have rR1 := rR.below hb1 rR.lt
    have rC1 := rC.below hb1 rC.lt
    clear rR rC hb0 hb1 hs0'
    have HN : Hid (rpN s.data.toList = -(n1 : Int)) := by rw [Hid, rpN, if_pos HNEG.out, HA.out]
    by_cases hr : s1.size = 0
    · obtain rfl := size_zero hr
      have HB : Hid (rpB s.data.toList = (1, [])) := by rw [Hid, rpB, HA.out]; rfl
      clear hr
      obtain ⟨d0, d1, g0, g1⟩ := pair_cells rC1
      go_wp2_with fail
      refine (refFormat_any (-(n1 : Int)) (1) _).mono ?_
      rintro e w9 ⟨t, rfl, Ht, hb9⟩
      have hBk := ((hB1.setCell (p := ⟨w.heap.size + 1, 0, none⟩) (show w.heap.size ≤ w.heap.size + 1 by omega) (.int .i64 (n1 : Int))).setCell (p := ⟨w.heap.size + 1, 0, none⟩) (show w.heap.size ≤ w.heap.size + 1 by omega) (.int .i64 (-(n1 : Int))))
      have hB9 := below_after hBk hb9 hBk.size
      have rRk := ((rR1.far (p := ⟨w.heap.size + 1, 0, none⟩) (Nat.ne_of_lt (Nat.lt_succ_self _)) (.int .i64 (n1 : Int))).far (p := ⟨w.heap.size + 1, 0, none⟩) (Nat.ne_of_lt (Nat.lt_succ_self _)) (.int .i64 (-(n1 : Int))))
      have rR9 := rRk.below hb9 rRk.lt
      have rCk := ((rC1.set 0 (.int .i64 (n1 : Int))).set 0 (.int .i64 (-(n1 : Int))))
      have rC9 : Row w9 (w.heap.size + 1) 23 #[.int .i64 (-(n1 : Int)), .int .i64 (1)] := rCk.below hb9 rCk.lt
      clear d0 d1 g0 g1 rR1 rC1 hb9 hBk rRk rCk
      by_cases hs : fmtF (-(n1 : Int)) (1) = s.data.toList
      · obtain rfl : t = s := bytes_ext (Ht.out.trans hs)
        have HE : Hid (prsF t.data.toList = ⟨-(n1 : Int), 1, true⟩) := by
          have h1 := prs_true' (rpOk_yes (l := t.data.toList) (by rw [HB.out]) (by rw [HN.out, HB.out]; exact hs) (list_pos hpos))
          rw [Hid, h1, HN.out, HB.out]; rfl
        clear hs Ht
        have t1 := notEmpty hpos
        have t2 := notNil hpos
        obtain ⟨c0, c1, f0, f1⟩ := pair_cells rR9
        obtain ⟨d0, d1, _, _⟩ := pair_cells rC9
        go_wp2_with fail
        refine bodyPost_ret (v := .tuple #[.agg #[.int .i64 (-(n1 : Int)), .int .i64 (1)], .bool true]) (by simp [results, Tryd.results18, go_sem, c0, c1]) rfl (RetP.of HE.out ?_)
        exact Below.set2 hB9 (by omega) _ _
      · have HE : Hid (prsF s.data.toList = ⟨0, 0, false⟩) := prs_false' (rpOk_text (by rw [HN.out, HB.out]; exact hs))
        have hts2 : ¬ t.toList = s.toList := by rw [ByteArray.toList_eq, ByteArray.toList_eq, Ht.out]; exact hs
        have hts : (t.toList == s.toList) = false := by simpa using hts2
        clear hs Ht
        obtain ⟨c0, c1, f0, f1⟩ := pair_cells rR9
        obtain ⟨d0, d1, g0, g1⟩ := pair_cells rC9
        go_wp2_with fail
        refine bodyPost_ret (v := .tuple #[.agg #[.int .i64 0, .int .i64 0], .bool false]) (by simp [results, Tryd.results18, go_sem, c0, c1]) rfl (RetP.of HE.out ?_)
        exact Below.set2 hB9 (by omega) _ _
    have hr0 : 0 < s1.size := by omega
    have HH := Lib.hid (head_of hr0)
    clear hr
    by_cases hsl : s1[0] = 47
    · have q1 : ((s1[0].toNat : Int) == 47) = true := by rw [hsl]; rfl
      have hsz1 : (s1.extract 1 s1.size).size ≤ s1.size := by rw [ByteArray.size_extract]; omega
      have HHL : Hid (s1.data.toList.head? = some 47) := by rw [Hid, HH.out.1, hsl]
      clear hsl
      obtain ⟨d0, d1, g0, g1⟩ := pair_cells rC1
      go_wp2_with fail
      refine (digits_any (s1.extract 1 s1.size) _ (by unfold maxLen; omega)).mono ?_
      rintro e w2 ⟨s2, rfl, H2, hl2, hb2⟩
      obtain ⟨n2, hn2⟩ : ∃ n, n = (dgR 13 0 (s1.extract 1 s1.size).data.toList).1 := ⟨_, rfl⟩
      rw [← hn2]
      have hnb2 : n2 < 10000000000000 := by rw [hn2]; exact dg_lt _
      have HB0 : Hid (rpB s.data.toList = (n2, s2.data.toList)) := by
        rw [Hid, rpB, HA.out, if_pos HHL.out, HH.out.2, H2.out, hn2]
      clear hn2 H2
      have hBj := hB1.setCell (p := ⟨w.heap.size + 1, 0, none⟩) (show w.heap.size ≤ w.heap.size + 1 by omega) (.int .i64 (n1 : Int))
      have hB2 := below_after hBj hb2 hBj.size
      have rRj := rR1.far (p := ⟨w.heap.size + 1, 0, none⟩) (Nat.ne_of_lt (Nat.lt_succ_self _)) (.int .i64 (n1 : Int))
      have rR2 := rRj.below hb2 rRj.lt
      have rCj := rC1.set 0 (.int .i64 (n1 : Int))
      have rC2 : Row w2 (w.heap.size + 1) 23 #[.int .i64 (n1 : Int), .int .i64 1] := rCj.below hb2 rCj.lt
      clear d0 d1 g0 g1 rR1 rC1 hb2 hBj rRj rCj
      by_cases hr : s2.size = 0
      · obtain rfl := size_zero hr
        have HB : Hid (rpB s.data.toList = (n2, [])) := HB0.out
        clear hr
        obtain ⟨d0, d1, g0, g1⟩ := pair_cells rC2
        go_wp2_with fail
        refine (refFormat_any (-(n1 : Int)) ((n2 : Int)) _).mono ?_
        rintro e w9 ⟨t, rfl, Ht, hb9⟩
        have hBk := ((hB2.setCell (p := ⟨w.heap.size + 1, 1, none⟩) (show w.heap.size ≤ w.heap.size + 1 by omega) (.int .i64 (n2 : Int))).setCell (p := ⟨w.heap.size + 1, 0, none⟩) (show w.heap.size ≤ w.heap.size + 1 by omega) (.int .i64 (-(n1 : Int))))
        have hB9 := below_after hBk hb9 hBk.size
        have rRk := ((rR2.far (p := ⟨w.heap.size + 1, 1, none⟩) (Nat.ne_of_lt (Nat.lt_succ_self _)) (.int .i64 (n2 : Int))).far (p := ⟨w.heap.size + 1, 0, none⟩) (Nat.ne_of_lt (Nat.lt_succ_self _)) (.int .i64 (-(n1 : Int))))
        have rR9 := rRk.below hb9 rRk.lt
        have rCk := ((rC2.set 1 (.int .i64 (n2 : Int))).set 0 (.int .i64 (-(n1 : Int))))
        have rC9 : Row w9 (w.heap.size + 1) 23 #[.int .i64 (-(n1 : Int)), .int .i64 ((n2 : Int))] := rCk.below hb9 rCk.lt
        clear d0 d1 g0 g1 rR2 rC2 hb9 hBk rRk rCk
        by_cases hs : fmtF (-(n1 : Int)) ((n2 : Int)) = s.data.toList
        · obtain rfl : t = s := bytes_ext (Ht.out.trans hs)
          have HE : Hid (prsF t.data.toList = ⟨-(n1 : Int), (n2 : Int), true⟩) := by
            have h1 := prs_true' (rpOk_yes (l := t.data.toList) (by rw [HB.out]) (by rw [HN.out, HB.out]; exact hs) (list_pos hpos))
            rw [Hid, h1, HN.out, HB.out]
          clear hs Ht
          have t1 := notEmpty hpos
          have t2 := notNil hpos
          obtain ⟨c0, c1, f0, f1⟩ := pair_cells rR9
          obtain ⟨d0, d1, _, _⟩ := pair_cells rC9
          go_wp2_with fail
          refine bodyPost_ret (v := .tuple #[.agg #[.int .i64 (-(n1 : Int)), .int .i64 ((n2 : Int))], .bool true]) (by simp [results, Tryd.results18, go_sem, c0, c1]) rfl (RetP.of HE.out ?_)
          exact Below.set2 hB9 (by omega) _ _
        · have HE : Hid (prsF s.data.toList = ⟨0, 0, false⟩) := prs_false' (rpOk_text (by rw [HN.out, HB.out]; exact hs))
          have hts2 : ¬ t.toList = s.toList := by rw [ByteArray.toList_eq, ByteArray.toList_eq, Ht.out]; exact hs
          have hts : (t.toList == s.toList) = false := by simpa using hts2
          clear hs Ht
          obtain ⟨c0, c1, f0, f1⟩ := pair_cells rR9
          obtain ⟨d0, d1, g0, g1⟩ := pair_cells rC9
          go_wp2_with fail
          refine bodyPost_ret (v := .tuple #[.agg #[.int .i64 0, .int .i64 0], .bool false]) (by simp [results, Tryd.results18, go_sem, c0, c1]) rfl (RetP.of HE.out ?_)
          exact Below.set2 hB9 (by omega) _ _
      · have hr2 : 0 < s2.size := by omega
        have HB := HB0
        clear hr
        have HE : Hid (prsF s.data.toList = ⟨0, 0, false⟩) := prs_false' (rpOk_rest (by rw [HB.out]; exact list_pos hr2))
        obtain ⟨c0, c1, f0, f1⟩ := pair_cells rR2
        obtain ⟨d0, d1, g0, g1⟩ := pair_cells rC2
        go_wp2_with fail
        refine bodyPost_ret (v := .tuple #[.agg #[.int .i64 0, .int .i64 0], .bool false]) (by simp [results, Tryd.results18, go_sem, c0, c1]) rfl (RetP.of HE.out ?_)
        exact Below.set2 ((hB2.setCell (p := ⟨w.heap.size + 1, 1, none⟩) (show w.heap.size ≤ w.heap.size + 1 by omega) (.int .i64 (n2 : Int))).setCell (p := ⟨w.heap.size + 1, 0, none⟩) (show w.heap.size ≤ w.heap.size + 1 by omega) (.int .i64 (-(n1 : Int)))) (by omega) _ _
    have HB : Hid (rpB s.data.toList = (1, s1.data.toList)) := by
      rw [Hid, rpB, HA.out, if_neg]
      rw [HH.out.1]; intro e; injection e with e; exact hsl e
    have q1 : ((s1[0].toNat : Int) == 47) = false := by
      rw [eq_dec, decide_eq_false_iff_not]; intro e; exact hsl (UInt8.toNat_inj.1 (show (s1[0]).toNat = 47 by omega))
    clear hsl
    have HE : Hid (prsF s.data.toList = ⟨0, 0, false⟩) := prs_false' (rpOk_rest (by rw [HB.out]; exact list_pos hr0))
    obtain ⟨c0, c1, f0, f1⟩ := pair_cells rR1
    obtain ⟨d0, d1, g0, g1⟩ := pair_cells rC1
    go_wp2_with fail
    refine bodyPost_ret (v := .tuple #[.agg #[.int .i64 0, .int .i64 0], .bool false]) (by simp [results, Tryd.results18, go_sem, c0, c1]) rfl (RetP.of HE.out ?_)
    exact Below.set2 ((hB1.setCell (p := ⟨w.heap.size + 1, 0, none⟩) (show w.heap.size ≤ w.heap.size + 1 by omega) (.int .i64 (n1 : Int))).setCell (p := ⟨w.heap.size + 1, 0, none⟩) (show w.heap.size ≤ w.heap.size + 1 by omega) (.int .i64 (-(n1 : Int)))) (by omega) _ _
  · have HNEG := Lib.hid hneg
    have H0 : Hid (rp0 s.data.toList = s.data.toList) := by rw [Hid, rp0, if_neg hneg]
    by_cases hz : s.size = 0
    · obtain rfl := size_zero hz
      clear hneg hz
      go_enter Tryd.func18, Tryd.ntmps18
      go_wp2_with fail
      obtain ⟨rR, rC, hb0⟩ := rows2 w 23 #[.int .i64 0, .int .i64 0] #[.int .i64 0, .int .i64 1]
      generalize ((w.alloc (Obj.cells #[Value.int .i64 0, Value.int .i64 0] 23)).alloc (Obj.cells #[Value.int .i64 0, Value.int .i64 1] 23)) = w0 at rR rC hb0 ⊢
      have hs0' := hb0.size
      refine (digits_any (ByteArray.empty) _ (by unfold maxLen; omega)).mono ?_
      rintro e w1 ⟨s1, rfl, H1, hl1, hb1⟩
      obtain ⟨n1, hn1⟩ : ∃ n, n = (dgR 13 0 (ByteArray.empty).data.toList).1 := ⟨_, rfl⟩
      rw [← hn1]
      have hnb : n1 < 10000000000000 := by rw [hn1]; exact dg_lt _
      have HA : Hid (rpA ByteArray.empty.data.toList = (n1, s1.data.toList)) := by
        rw [Hid, rpA, H0.out, H1.out, hn1]
      clear hn1 H1
      have hB1 := below_after hb0 hb1 hs0'
      have rR1 := rR.below hb1 rR.lt
      have rC1 := rC.below hb1 rC.lt
      clear rR rC hb0 hb1 hs0'
      obtain rfl : n1 = 0 := by have := congrArg Prod.fst HA.out; exact this.symm
      obtain rfl : s1 = ByteArray.empty := bytes_ext (by have := congrArg Prod.snd HA.out; exact this.symm)
      have HN : Hid (rpN ByteArray.empty.data.toList = ((0 : Nat) : Int)) := rfl
      have HB : Hid (rpB ByteArray.empty.data.toList = (1, [])) := rfl
      obtain ⟨d0, d1, g0, g1⟩ := pair_cells rC1
      go_wp2_with fail
      refine (refFormat_any (0) (1) _).mono ?_
      rintro e w9 ⟨t, rfl, Ht, hb9⟩
      have hBk := (hB1.setCell (p := ⟨w.heap.size + 1, 0, none⟩) (show w.heap.size ≤ w.heap.size + 1 by omega) (.int .i64 0))
      have hB9 := below_after hBk hb9 hBk.size
      have rRk := (rR1.far (p := ⟨w.heap.size + 1, 0, none⟩) (Nat.ne_of_lt (Nat.lt_succ_self _)) (.int .i64 0))
      have rR9 := rRk.below hb9 rRk.lt
      have rCk := (rC1.set 0 (.int .i64 0))
      have rC9 : Row w9 (w.heap.size + 1) 23 #[.int .i64 (0), .int .i64 (1)] := rCk.below hb9 rCk.lt
      clear d0 d1 g0 g1 rR1 rC1 hb9 hBk rRk rCk
      by_cases hs : fmtF (0) (1) = ByteArray.empty.data.toList
      · exact absurd hs (fmt_ne (by decide))
      · have HE : Hid (prsF ByteArray.empty.data.toList = ⟨0, 0, false⟩) := prs_false' (rpOk_text (by rw [HN.out, HB.out]; exact hs))
        have hts2 : ¬ t.toList = ByteArray.empty.toList := by rw [ByteArray.toList_eq, ByteArray.toList_eq, Ht.out]; exact hs
        have hts : (t.toList == ByteArray.empty.toList) = false := by simpa using hts2
        have htp : 0 < t.size := by
          have e1 : t.size = t.data.toList.length := by simp
          have e2 := List.length_pos_iff.2 (fmt_ne (n := 0) (d := 1) (by decide))
          rw [e1, Ht.out]; exact e2
        have t1 := notEmpty htp
        have t2 := notNil htp
        clear hs Ht
        obtain ⟨c0, c1, f0, f1⟩ := pair_cells rR9
        obtain ⟨d0, d1, g0, g1⟩ := pair_cells rC9
        go_wp2_with fail
        refine bodyPost_ret (v := .tuple #[.agg #[.int .i64 0, .int .i64 0], .bool false]) (by simp [results, Tryd.results18, go_sem, c0, c1]) rfl (RetP.of HE.out ?_)
        exact Below.set2 hB9 (by omega) _ _
    · have hpos : 0 < s.size := by omega
      have HD := Lib.hid (head_of hpos)
      have q0 : ((s[0].toNat : Int) == 45) = false := by
        rw [eq_dec, decide_eq_false_iff_not]; intro e; exact hneg (by rw [HD.out.1, UInt8.toNat_inj.1 (show (s[0]).toNat = (45 : UInt8).toNat from (show (s[0]).toNat = 45 by omega))])
      clear hneg hz
      go_enter Tryd.func18, Tryd.ntmps18
      go_wp2_with fail
      obtain ⟨rR, rC, hb0⟩ := rows2 w 23 #[.int .i64 0, .int .i64 0] #[.int .i64 0, .int .i64 1]
      generalize ((w.alloc (Obj.cells #[Value.int .i64 0, Value.int .i64 0] 23)).alloc (Obj.cells #[Value.int .i64 0, Value.int .i64 1] 23)) = w0 at rR rC hb0 ⊢
      have hs0' := hb0.size
      refine (digits_any (s) _ (by unfold maxLen; omega)).mono ?_
      rintro e w1 ⟨s1, rfl, H1, hl1, hb1⟩
      obtain ⟨n1, hn1⟩ : ∃ n, n = (dgR 13 0 (s).data.toList).1 := ⟨_, rfl⟩
      rw [← hn1]
      have hnb : n1 < 10000000000000 := by rw [hn1]; exact dg_lt _
      have HA : Hid (rpA s.data.toList = (n1, s1.data.toList)) := by
        rw [Hid, rpA, H0.out, H1.out, hn1]
      clear hn1 H1
      have hB1 := below_after hb0 hb1 hs0'
      have rR1 := rR.below hb1 rR.lt
      have rC1 := rC.below hb1 rC.lt
      clear rR rC hb0 hb1 hs0'
      have HN : Hid (rpN s.data.toList = (n1 : Int)) := by rw [Hid, rpN, if_neg HNEG.out, HA.out]
      by_cases hr : s1.size = 0
      · obtain rfl := size_zero hr
        have HB : Hid (rpB s.data.toList = (1, [])) := by rw [Hid, rpB, HA.out]; rfl
        clear hr
        obtain ⟨d0, d1, g0, g1⟩ := pair_cells rC1
        go_wp2_with fail
        refine (refFormat_any ((n1 : Int)) (1) _).mono ?_
        rintro e w9 ⟨t, rfl, Ht, hb9⟩
        have hBk := (hB1.setCell (p := ⟨w.heap.size + 1, 0, none⟩) (show w.heap.size ≤ w.heap.size + 1 by omega) (.int .i64 (n1 : Int)))
        have hB9 := below_after hBk hb9 hBk.size
        have rRk := (rR1.far (p := ⟨w.heap.size + 1, 0, none⟩) (Nat.ne_of_lt (Nat.lt_succ_self _)) (.int .i64 (n1 : Int)))
        have rR9 := rRk.below hb9 rRk.lt
        have rCk := (rC1.set 0 (.int .i64 (n1 : Int)))
        have rC9 : Row w9 (w.heap.size + 1) 23 #[.int .i64 ((n1 : Int)), .int .i64 (1)] := rCk.below hb9 rCk.lt
        clear d0 d1 g0 g1 rR1 rC1 hb9 hBk rRk rCk
        by_cases hs : fmtF ((n1 : Int)) (1) = s.data.toList
        · obtain rfl : t = s := bytes_ext (Ht.out.trans hs)
          have HE : Hid (prsF t.data.toList = ⟨(n1 : Int), 1, true⟩) := by
            have h1 := prs_true' (rpOk_yes (l := t.data.toList) (by rw [HB.out]) (by rw [HN.out, HB.out]; exact hs) (list_pos hpos))
            rw [Hid, h1, HN.out, HB.out]; rfl
          clear hs Ht
          have t1 := notEmpty hpos
          have t2 := notNil hpos
          obtain ⟨c0, c1, f0, f1⟩ := pair_cells rR9
          obtain ⟨d0, d1, _, _⟩ := pair_cells rC9
          go_wp2_with fail
          refine bodyPost_ret (v := .tuple #[.agg #[.int .i64 ((n1 : Int)), .int .i64 (1)], .bool true]) (by simp [results, Tryd.results18, go_sem, c0, c1]) rfl (RetP.of HE.out ?_)
          exact Below.set2 hB9 (by omega) _ _
        · have HE : Hid (prsF s.data.toList = ⟨0, 0, false⟩) := prs_false' (rpOk_text (by rw [HN.out, HB.out]; exact hs))
          have hts2 : ¬ t.toList = s.toList := by rw [ByteArray.toList_eq, ByteArray.toList_eq, Ht.out]; exact hs
          have hts : (t.toList == s.toList) = false := by simpa using hts2
          clear hs Ht
          obtain ⟨c0, c1, f0, f1⟩ := pair_cells rR9
          obtain ⟨d0, d1, g0, g1⟩ := pair_cells rC9
          go_wp2_with fail
          refine bodyPost_ret (v := .tuple #[.agg #[.int .i64 0, .int .i64 0], .bool false]) (by simp [results, Tryd.results18, go_sem, c0, c1]) rfl (RetP.of HE.out ?_)
          exact Below.set2 hB9 (by omega) _ _
      have hr0 : 0 < s1.size := by omega
      have HH := Lib.hid (head_of hr0)
      clear hr
      by_cases hsl : s1[0] = 47
      · have q1 : ((s1[0].toNat : Int) == 47) = true := by rw [hsl]; rfl
        have hsz1 : (s1.extract 1 s1.size).size ≤ s1.size := by rw [ByteArray.size_extract]; omega
        have HHL : Hid (s1.data.toList.head? = some 47) := by rw [Hid, HH.out.1, hsl]
        clear hsl
        obtain ⟨d0, d1, g0, g1⟩ := pair_cells rC1
        go_wp2_with fail
        refine (digits_any (s1.extract 1 s1.size) _ (by unfold maxLen; omega)).mono ?_
        rintro e w2 ⟨s2, rfl, H2, hl2, hb2⟩
        obtain ⟨n2, hn2⟩ : ∃ n, n = (dgR 13 0 (s1.extract 1 s1.size).data.toList).1 := ⟨_, rfl⟩
        rw [← hn2]
        have hnb2 : n2 < 10000000000000 := by rw [hn2]; exact dg_lt _
        have HB0 : Hid (rpB s.data.toList = (n2, s2.data.toList)) := by
          rw [Hid, rpB, HA.out, if_pos HHL.out, HH.out.2, H2.out, hn2]
        clear hn2 H2
        have hBj := hB1.setCell (p := ⟨w.heap.size + 1, 0, none⟩) (show w.heap.size ≤ w.heap.size + 1 by omega) (.int .i64 (n1 : Int))
        have hB2 := below_after hBj hb2 hBj.size
        have rRj := rR1.far (p := ⟨w.heap.size + 1, 0, none⟩) (Nat.ne_of_lt (Nat.lt_succ_self _)) (.int .i64 (n1 : Int))
        have rR2 := rRj.below hb2 rRj.lt
        have rCj := rC1.set 0 (.int .i64 (n1 : Int))
        have rC2 : Row w2 (w.heap.size + 1) 23 #[.int .i64 (n1 : Int), .int .i64 1] := rCj.below hb2 rCj.lt
        clear d0 d1 g0 g1 rR1 rC1 hb2 hBj rRj rCj
        by_cases hr : s2.size = 0
        · obtain rfl := size_zero hr
          have HB : Hid (rpB s.data.toList = (n2, [])) := HB0.out
          clear hr
          obtain ⟨d0, d1, g0, g1⟩ := pair_cells rC2
          go_wp2_with fail
          refine (refFormat_any ((n1 : Int)) ((n2 : Int)) _).mono ?_
          rintro e w9 ⟨t, rfl, Ht, hb9⟩
          have hBk := (hB2.setCell (p := ⟨w.heap.size + 1, 1, none⟩) (show w.heap.size ≤ w.heap.size + 1 by omega) (.int .i64 (n2 : Int)))
          have hB9 := below_after hBk hb9 hBk.size
          have rRk := (rR2.far (p := ⟨w.heap.size + 1, 1, none⟩) (Nat.ne_of_lt (Nat.lt_succ_self _)) (.int .i64 (n2 : Int)))
          have rR9 := rRk.below hb9 rRk.lt
          have rCk := (rC2.set 1 (.int .i64 (n2 : Int)))
          have rC9 : Row w9 (w.heap.size + 1) 23 #[.int .i64 ((n1 : Int)), .int .i64 ((n2 : Int))] := rCk.below hb9 rCk.lt
          clear d0 d1 g0 g1 rR2 rC2 hb9 hBk rRk rCk
          by_cases hs : fmtF ((n1 : Int)) ((n2 : Int)) = s.data.toList
          · obtain rfl : t = s := bytes_ext (Ht.out.trans hs)
            have HE : Hid (prsF t.data.toList = ⟨(n1 : Int), (n2 : Int), true⟩) := by
              have h1 := prs_true' (rpOk_yes (l := t.data.toList) (by rw [HB.out]) (by rw [HN.out, HB.out]; exact hs) (list_pos hpos))
              rw [Hid, h1, HN.out, HB.out]
            clear hs Ht
            have t1 := notEmpty hpos
            have t2 := notNil hpos
            obtain ⟨c0, c1, f0, f1⟩ := pair_cells rR9
            obtain ⟨d0, d1, _, _⟩ := pair_cells rC9
            go_wp2_with fail
            refine bodyPost_ret (v := .tuple #[.agg #[.int .i64 ((n1 : Int)), .int .i64 ((n2 : Int))], .bool true]) (by simp [results, Tryd.results18, go_sem, c0, c1]) rfl (RetP.of HE.out ?_)
            exact Below.set2 hB9 (by omega) _ _
          · have HE : Hid (prsF s.data.toList = ⟨0, 0, false⟩) := prs_false' (rpOk_text (by rw [HN.out, HB.out]; exact hs))
            have hts2 : ¬ t.toList = s.toList := by rw [ByteArray.toList_eq, ByteArray.toList_eq, Ht.out]; exact hs
            have hts : (t.toList == s.toList) = false := by simpa using hts2
            clear hs Ht
            obtain ⟨c0, c1, f0, f1⟩ := pair_cells rR9
            obtain ⟨d0, d1, g0, g1⟩ := pair_cells rC9
            go_wp2_with fail
            refine bodyPost_ret (v := .tuple #[.agg #[.int .i64 0, .int .i64 0], .bool false]) (by simp [results, Tryd.results18, go_sem, c0, c1]) rfl (RetP.of HE.out ?_)
            exact Below.set2 hB9 (by omega) _ _
        · have hr2 : 0 < s2.size := by omega
          have HB := HB0
          clear hr
          have HE : Hid (prsF s.data.toList = ⟨0, 0, false⟩) := prs_false' (rpOk_rest (by rw [HB.out]; exact list_pos hr2))
          obtain ⟨c0, c1, f0, f1⟩ := pair_cells rR2
          obtain ⟨d0, d1, g0, g1⟩ := pair_cells rC2
          go_wp2_with fail
          refine bodyPost_ret (v := .tuple #[.agg #[.int .i64 0, .int .i64 0], .bool false]) (by simp [results, Tryd.results18, go_sem, c0, c1]) rfl (RetP.of HE.out ?_)
          exact Below.set2 (hB2.setCell (p := ⟨w.heap.size + 1, 1, none⟩) (show w.heap.size ≤ w.heap.size + 1 by omega) (.int .i64 (n2 : Int))) (by omega) _ _
      have HB : Hid (rpB s.data.toList = (1, s1.data.toList)) := by
        rw [Hid, rpB, HA.out, if_neg]
        rw [HH.out.1]; intro e; injection e with e; exact hsl e
      have q1 : ((s1[0].toNat : Int) == 47) = false := by
        rw [eq_dec, decide_eq_false_iff_not]; intro e; exact hsl (UInt8.toNat_inj.1 (show (s1[0]).toNat = 47 by omega))
      clear hsl
      have HE : Hid (prsF s.data.toList = ⟨0, 0, false⟩) := prs_false' (rpOk_rest (by rw [HB.out]; exact list_pos hr0))
      obtain ⟨c0, c1, f0, f1⟩ := pair_cells rR1
      obtain ⟨d0, d1, g0, g1⟩ := pair_cells rC1
      go_wp2_with fail
      refine bodyPost_ret (v := .tuple #[.agg #[.int .i64 0, .int .i64 0], .bool false]) (by simp [results, Tryd.results18, go_sem, c0, c1]) rfl (RetP.of HE.out ?_)
      exact Below.set2 (hB1.setCell (p := ⟨w.heap.size + 1, 0, none⟩) (show w.heap.size ≤ w.heap.size + 1 by omega) (.int .i64 (n1 : Int))) (by omega) _ _

end Go.Proofs.YtkdmbkhgcahpiaaDoor
