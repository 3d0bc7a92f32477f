/- payrollref38.Latest. -/
import Derived.Test.YtnkephafpebfkaaGreatDoorRtL
import Derived.Test.YtnkephafpebfkaaGreatDoorRow3
import Derived.Test.YtnkephafpebfkaaGreatDoorExt
import Derived.Test.YtnkephafpebfkaaGreatDoorSet1
namespace Go.Proofs.YtnkephafpebfkaaGreatDoor
open Go.RowKit

theorem own_lit0 (w : World) (e : TypeId) (sz base : Nat) (hb : base ≤ w.heap.size) : Own (w.alloc (.cells #[] e)) base e sz (.slice (some ⟨w.heap.size, 0, none⟩) 0 0) [] :=
  ⟨⟨by simp, .inr ⟨_, 0, #[], rfl, hb, heap_alloc_new w _, Nat.le_refl _, Nat.zero_le _, by simp, by simp⟩⟩, Wide.nil sz⟩
theorem Own.slc {w : World} {base e sz : Nat} {v : Value} {es : List (List Value)} (h : Own w base e sz v es) : ∃ A n c, v = .slice A n c := by
  obtain ⟨A, c, h⟩ := h.form
  exact ⟨A, _, c, h⟩
theorem own_setL {w : World} {base e sz : Nat} {v : Value} {es : List (List Value)} (h : Own w base e sz v es) {r : Nat} (hr : v.ownBlock ≠ some r) (i : Nat) (u : Value) : Own (w.setCell ⟨r, i, none⟩ u) base e sz v es :=
  h.keepG (grown_set w r i u) (.inr hr)
theorem own_set3 {w : World} {base e sz : Nat} {v : Value} {es : List (List Value)} (h : Own w base e sz v es) {r : Nat} (hr : v.ownBlock ≠ some r) (x y z : Value) :
    Own (((w.setCell ⟨r, 0, none⟩ x).setCell ⟨r, 1, none⟩ y).setCell ⟨r, 2, none⟩ z) base e sz v es := own_setL (own_setL (own_setL h hr 0 x) hr 1 y) hr 2 z
/-- the returns behind index k are of other periods -/
theorem lat_at {l : List Ret} {p : Int} {k : Nat} (hk : k < l.length) (hp : (l[k]).p = p) (h : ∀ j (h : j < l.length), k < j → (l[j]).p ≠ p) : latP l p = l[k] ∧ hasP l p = true := by
  have e : l = l.take k ++ l[k] :: l.drop (k + 1) := by rw [← List.drop_eq_getElem_cons hk, List.take_append_drop]
  have h2 : ofP (l.drop (k + 1)) p = [] := by
    unfold ofP
    rw [List.filter_eq_nil_iff]
    intro r hr
    obtain ⟨i, hi, rfl⟩ := List.getElem_of_mem hr
    rw [List.length_drop] at hi
    rw [List.getElem_drop]
    simpa using h (k + 1 + i) (by omega) (by omega)
  have h3 : ofP l p = ofP (l.take k) p ++ [l[k]] := by
    conv => lhs; rw [e]
    have : ∀ a b : List Ret, ofP (a ++ b) p = ofP a p ++ ofP b p := fun a b => by simp [ofP]
    have hc : ofP (l[k] :: l.drop (k + 1)) p = [l[k]] := by
      have : ofP (l[k] :: l.drop (k + 1)) p = l[k] :: ofP (l.drop (k + 1)) p := by
        unfold ofP
        rw [List.filter_cons_of_pos (by simpa using hp)]
      rw [this, h2]
    rw [this, hc]
  unfold latP hasP
  rw [h3]
  simp
theorem lat_none {l : List Ret} {p : Int} (h : ∀ j (h : j < l.length), (l[j]).p ≠ p) : latP l p = ⟨0, 0, []⟩ ∧ hasP l p = false := by
  have : hasP l p = false := by
    rw [Bool.eq_false_iff]
    intro hh
    obtain ⟨r, hr, hp⟩ := hasP_mem.1 hh
    obtain ⟨i, hi, rfl⟩ := List.getElem_of_mem hr
    exact h i hi hp
  exact ⟨latP_no this, this⟩
/-- the call returns a return with lines of its own -/
def RetLat (f : Ret) (b : Bool) (w : World) (e : Ending) (w' : World) : Prop :=
  ∃ v, e = .returned (.tuple #[.agg (f.vals v), .bool b]) ∧ Own w' w.heap.size 56 3 v (lns f.l) ∧ Below w.heap.size w w'
set_option maxRecDepth 100000 in
set_option maxHeartbeats 4000000 in
theorem Latest_any (ps : List (Ret × Value)) (v : Value) (p : Int) (w : World) (hv : RetsAt w v ps) (hl : ∀ q ∈ ps, q.1.l.length ≤ 256) :
    Calls Tryz.prog 29 #[v, .int .i64 p] w (RetLat (latP (ps.map (·.1)) p) (hasP (ps.map (·.1)) p) w) := by
  have HV := Lib.hid hv
  have HL := Lib.hid hl
  obtain ⟨hsl, -⟩ := hv
  obtain ⟨A, cap, rfl, h1, h2, _, _⟩ := hsl
  rw [rets_len] at h1 HV ⊢
  unfold maxLen at h2
  obtain ⟨L, hLL⟩ : ∃ L : List Ret, ps.map (·.1) = L := ⟨_, rfl⟩
  rw [hLL]
  have HLE : Hid (L.length = ps.length) := by rw [Hid, ← hLL, List.length_map]
  have HLX : Hid (∀ j (h : j < L.length) (h' : j < ps.length), L[j] = (ps[j]).1) := fun j h h' => by subst hLL; simp
  have HAT := Lib.hid (fun k hk hp h => lat_at (l := L) (p := p) (k := k) hk hp h)
  have HNO := Lib.hid (fun h => lat_none (l := L) (p := p) h)
  obtain ⟨lt, hlt⟩ : ∃ lt, latP L p = lt := ⟨_, rfl⟩
  obtain ⟨hs, hhs⟩ : ∃ hs, hasP L p = hs := ⟨_, rfl⟩
  rw [hlt, hhs] at HAT HNO ⊢
  have hr0 := Row.new w 25 #[.int .i64 0, .int .i64 0, .slice none 0 0]
  have hB0 := (Below.refl w.heap.size w).alloc (Nat.le_refl _) (.cells #[.int .i64 0, .int .i64 0, .slice none 0 0] 25)
  go_enter Tryz.func29, Tryz.ntmps29
  go_wp2
  obtain ⟨w0, hw0⟩ : ∃ w0, w.alloc (.cells #[.int .i64 0, .int .i64 0, .slice none 0 0] 25) = w0 := ⟨_, rfl⟩
  rw [hw0] at hr0 hB0 ⊢
  obtain ⟨r, hr⟩ : ∃ r, w.heap.size = r := ⟨_, rfl⟩
  rw [hr] at hr0 ⊢
  have hwr : w.heap.size ≤ r := by omega
  clear hw0 hr hl hlt hhs hLL
  go_loopw [6] (fun i wr => ∃ k : Nat, k ≤ ps.length ∧ i = .int .i64 ((k : Int) - 1) ∧ Hid (Row wr r 25 #[.int .i64 0, .int .i64 0, .slice none 0 0] ∧ Below w.heap.size w wr) ∧ Hid (∀ j (h : j < L.length), k ≤ j → (L[j]).p ≠ p)) (fun i _ => (intOf i + 1).toNat)
  case atStart => exact ⟨ps.length, by omega, rfl, ⟨hr0, hB0⟩, fun j h hj => by rw [HLE.out] at h; omega⟩
  case round =>
    clear hr0 hB0
    obtain ⟨k, hk, rfl, HR, HK⟩ := hrel
    obtain ⟨wo, rfl⟩ : ∃ wo : World, wo = wr := ⟨_, rfl⟩
    obtain ⟨⟨a0, a1, a2, al⟩, ⟨f0, f1, f2⟩⟩ := row3 HR.out.1
    by_cases hk0 : k = 0
    · subst hk0
      obtain ⟨e1, e2⟩ := HNO.out (fun j h => HK.out j h (Nat.zero_le _))
      subst e1 e2
      have HZ := Lib.hid (row3 (Row.set3 HR.out.1 (.int .i64 0) (.int .i64 0) (.slice none 0 0))).1
      have HQ := Lib.hid (Below.set3 HR.out.2 hwr (.int .i64 0) (.int .i64 0) (.slice none 0 0))
      have d0 : ¬ (0 : Int) ≤ ((0 : Nat) : Int) - 1 := by omega
      have d1 : decide ((0 : Int) ≤ ((0 : Nat) : Int) - 1) = false := decide_eq_false d0
      go_wp2
      obtain ⟨z0, z1, z2, _⟩ := HZ.out
      refine bodyPost_ret (v := .tuple #[.agg #[.int .i64 0, .int .i64 0, .slice none 0 0], .bool false]) (by simp only [results, Tryz.results29, go_sem]; simp [z0, z1, z2, go_sem]) rfl ?_
      exact ⟨_, rfl, Own.nil _ _ _ _, HQ.out⟩
    · obtain ⟨j, rfl⟩ : ∃ j, k = j + 1 := ⟨k - 1, by omega⟩
      have hj : j < ps.length := by omega
      have s1 : (((j + 1 : Nat) : Int)) - 1 = (j : Int) := by omega
      rw [s1]
      obtain ⟨bk, off, rfl, hc⟩ := (HV.out.below HR.out.2).sl.cells (by rw [rets_len]; omega)
      obtain ⟨c0, c1, c2⟩ := hc.ret hj
      have hbl := hc.1
      have i1 : (j : Int) < (ps.length : Int) := by omega
      have hlx := HL.out _ (List.getElem_mem hj)
      have HLN := Lib.hid ((HV.out.below HR.out.2).ln _ (List.getElem_mem hj))
      have HAJ := Lib.hid (fun hp h => HAT.out j (by rw [HLE.out]; exact hj) hp h)
      obtain ⟨x, hx⟩ : ∃ x, ps[j] = x := ⟨_, rfl⟩
      have HX : Hid (∀ h : j < L.length, L[j] = x.1) := fun h => by rw [HLX.out j h hj, hx]
      rw [hx] at c0 c1 c2 hlx HLN
      clear hx hc s1
      obtain ⟨⟨q, u, ll⟩, xv⟩ := x
      simp only at c0 c1 c2 hlx HLN
      by_cases hp : q = p
      · subst hp
        have hjl : j < L.length := by rw [HLE.out]; exact hj
        obtain ⟨e1, e2⟩ := HAJ.out (by rw [HX.out hjl]) (fun i hi hji => HK.out i hi hji)
        rw [HX.out hjl] at e1
        subst e1 e2
        clear HAJ HAT HNO HK HX hjl
        obtain ⟨Ax, cx, rfl⟩ : ∃ Ax cx, xv = .slice Ax ll.length cx := by
          obtain ⟨Ax, cx, h, _⟩ := HLN.out
          rw [lns_len] at h
          exact ⟨Ax, cx, h⟩
        have hal := (Below.refl wo.heap.size wo).alloc (Nat.le_refl _) (.cells #[.int .i64 q, .int .i64 u, .slice Ax ll.length cx] 25)
        have hbx := Row.new wo 25 #[.int .i64 q, .int .i64 u, .slice Ax ll.length cx]
        have hwo := HR.out.2.size
        have hB1 := below_after HR.out.2 hal HR.out.2.size
        have hr1 := HR.out.1.below hal al
        have HL1 := Lib.hid (HLN.out.below hal)
        clear a0 a1 a2 f0 f1 f2
        obtain ⟨w1, hw1⟩ : ∃ w1, wo.alloc (.cells #[.int .i64 q, .int .i64 u, .slice Ax ll.length cx] 25) = w1 := ⟨_, rfl⟩
        obtain ⟨m, hm⟩ : ∃ m, wo.heap.size = m := ⟨_, rfl⟩
        rw [hw1] at hbx hB1 hr1 HL1
        rw [hm] at hbx
        obtain ⟨⟨b0, b1, b2, bl⟩, ⟨g0, g1, g2⟩⟩ := row3 hbx
        obtain ⟨⟨a0, a1, a2, al1⟩, ⟨f0, f1, f2⟩⟩ := row3 hr1
        have hmr : ¬ m = r := by omega
        have hrm : ¬ r = m := by omega
        have hwm : w.heap.size ≤ m := by omega
        have hb0 : Below w1.heap.size w1 (w1.alloc (.cells #[] 56)) := (Below.refl _ _).alloc (Nat.le_refl _) _
        clear hal
        go_wp2_with (at_builtin; (refine wpList_append_sl rfl (.tmp 26) (.tmp 28) rfl rowLn w1.heap.size _ _ [] (lns ll) rfl (own_lit0 w1 _ 3 _ (Nat.le_refl _)) rfl (HL1.out.below hb0) (lns_wide ll) (by rw [lns_len]; unfold maxLen; simp; omega) (by rw [lns_len]; simp; omega) hb0.size ?_); intro v4 w4 hown4 hg4 hv4; obtain ⟨A4, n4, c4, rfl⟩ := hown4.slc; have hb4 := Own.grown (own_lit0 w1 _ 3 _ (Nat.le_refl _)) hb0 hg4 hb0.size; have hbx4 := hbx.below hb4 bl; have hr4 := hr1.below hb4 al1; obtain ⟨⟨b0, b1, b2, bl⟩, ⟨g0, g1, g2⟩⟩ := row3 hbx4; obtain ⟨⟨a0, a1, a2, al1⟩, ⟨f0, f1, f2⟩⟩ := row3 hr4)
        have hB4 := below_after hB1 hb4 hB1.size
        have hn4 : ∀ z, z < w1.heap.size → Value.ownBlock (.slice A4 n4 c4) ≠ some z := fun z hz e => by have := (hown4.1.lt z e).1; omega
        have hBm := hB4.setCell (p := ⟨m, 2, none⟩) hwm (.slice A4 n4 c4)
        have hrs := hr4.far (p := ⟨m, 2, none⟩) (show r ≠ m from hrm) (.slice A4 n4 c4)
        have hos := own_setL hown4 (hn4 m hbx.lt) 2 (.slice A4 n4 c4)
        have HZ := Lib.hid (row3 (Row.set3 hrs (.int .i64 q) (.int .i64 u) (.slice A4 n4 c4))).1
        have HQ := Lib.hid (Below.set3 hBm hwr (.int .i64 q) (.int .i64 u) (.slice A4 n4 c4))
        have HO := Lib.hid ((own_set3 hos (hn4 r hr1.lt) (.int .i64 q) (.int .i64 u) (.slice A4 n4 c4)).more (show w.heap.size ≤ w1.heap.size from hB1.size))
        clear hw1 hm hBm hrs hos hB4 hbx4 hr4 hb4 hown4 hg4 hv4 hn4 hr1 hbx hB1
        go_wp2
        obtain ⟨z0, z1, z2, _⟩ := HZ.out
        refine bodyPost_ret (v := .tuple #[.agg #[.int .i64 q, .int .i64 u, .slice A4 n4 c4], .bool true]) (by simp only [results, Tryz.results29, go_sem]; simp [z0, z1, z2, go_sem]) rfl ?_
        exact ⟨_, rfl, HO.out, HQ.out⟩
      · have hq : (q == p) = false := by simpa using hp
        have HK2 : Hid (∀ i (h : i < L.length), j ≤ i → (L[i]).p ≠ p) := fun i hi hji => by
          by_cases e : i = j
          · subst e; rw [HX.out hi]; exact hp
          · exact HK.out i hi (by omega)
        have HRR := Lib.hid HR.out
        clear hp HK HAJ HAT HNO HX
        go_wp2
        go_roundw
        case rel => exact ⟨j, by omega, by go_num, HRR.out, HK2.out⟩
        case measure => first | (simp [intOf]; done) | (simp [intOf]; omega)
end Go.Proofs.YtnkephafpebfkaaGreatDoor
