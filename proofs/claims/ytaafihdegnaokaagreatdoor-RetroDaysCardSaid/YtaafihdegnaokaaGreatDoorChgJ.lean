/- timeline.marks. -/
import Derived.Test.YtaafihdegnaokaaGreatDoorChgI
import Derived.Test.YtaafihdegnaokaaGreatDoorChgM
import Derived.Test.YtaafihdegnaokaaGreatDoorSet1
namespace Go.Proofs.YtaafihdegnaokaaGreatDoor
open Go.RowKit

theorem days_none (L : List Chg) (f t : Int) : daysL (L.take 0) f t = [f] := by simp [daysL]
theorem days_yes {L : List Chg} {f t : Int} {k : Nat} (hk : k < L.length) (h : f < (L[k]).f) (h' : (L[k]).f ≤ t) : daysL (L.take (k + 1)) f t = daysL (L.take k) f t ++ [(L[k]).f] := by
  rw [List.take_succ_eq_append_getElem hk, daysL, daysL, List.filter_append, List.map_append]
  simp [h, h']
theorem days_no {L : List Chg} {f t : Int} {k : Nat} (hk : k < L.length) (h : ¬ (f < (L[k]).f ∧ (L[k]).f ≤ t)) : daysL (L.take (k + 1)) f t = daysL (L.take k) f t := by
  rw [List.take_succ_eq_append_getElem hk, daysL, daysL, List.filter_append, List.map_append]
  simp only [List.filter_cons, decide_eq_false h, List.filter_nil]
  simp
theorem Own.apart {w w' : World} {base e sz : Nat} {v : Value} {o : Option Nat} {es : List (List Value)} (h : Own w base e sz v es) (hg : w.grownBy w' o) (hD : v.ownBlock = none ∨ v.ownBlock ≠ o) : Own w' base e sz v es :=
  ⟨h.1.kept hg hD, h.2⟩
theorem Own.lt {w : World} {base e sz : Nat} {v : Value} {es : List (List Value)} (h : Own w base e sz v es) {k : Nat} (hk : v.ownBlock = some k) : base ≤ k ∧ k < w.heap.size := h.1.lt k hk
theorem Own.alloc_ne {w : World} {base e sz : Nat} {v : Value} {es : List (List Value)} (h : Own w base e sz v es) (o : Obj) {r r' : Value} (hD : v.ownBlock = none ∨ v.ownBlock ≠ r.ownBlock) (hr : r'.ownBlock = r.ownBlock ∨ r'.ownBlock = some (w.alloc o).heap.size) : v.ownBlock = none ∨ v.ownBlock ≠ r'.ownBlock := by
  rcases hD with hD | hD
  · exact .inl hD
  · refine .inr fun hh => ?_
    rcases hr with hr | hr
    · exact hD (hh.trans hr)
    · have := (h.lt (hh.trans hr)).2
      simp at this; omega
theorem Own.some_form {w : World} {base e sz : Nat} {v : Value} {es : List (List Value)} (h : Own w base e sz v es) (h0 : 0 < es.length) : ∃ g cap, v = .slice (some ⟨g, 0, none⟩) es.length cap ∧ es.length ≤ cap := by
  rcases h.1.2 with ⟨_, h1⟩ | ⟨g, cap, cur, rfl, _, _, hnc, _⟩
  · omega
  · exact ⟨g, cap, rfl, hnc⟩
def MkR (w : World) (L : List Chg) (v : Value) (f t : Int) (r i : Value) (wr : World) : Prop :=
  ∃ k : Nat, k ≤ L.length ∧ i = .int .i64 k ∧ Own wr w.heap.size 3 1 r (ints (daysL (L.take k) f t)) ∧ Below w.heap.size w wr ∧ Own wr w.heap.size 97 2 v (stps L) ∧ (v.ownBlock = none ∨ v.ownBlock ≠ r.ownBlock)

set_option maxRecDepth 10000 in
theorem marks_any (va vb : Value) (A B : List Chg) (f t : Int) (w : World) (ha : Sl w 2 va (stps A)) (hb : Sl w 2 vb (stps B)) (hla : A.length ≤ 1024) (hlb : B.length ≤ 1024) :
    Calls Tryz.prog 61 #[va, vb, .int .i64 f, .int .i64 t] w (RetOwn w 3 1 (ints (marksD (A ++ B) f t))) := by
  have fa : ∃ P c, va = .slice P A.length c := by obtain ⟨P, c, h, _⟩ := ha; rw [stps_len] at h; exact ⟨P, c, h⟩
  have fb : ∃ P c, vb = .slice P B.length c := by obtain ⟨P, c, h, _⟩ := hb; rw [stps_len] at h; exact ⟨P, c, h⟩
  obtain ⟨A1, c1, rfl⟩ := fa
  obtain ⟨A2, c2, rfl⟩ := fb
  have HA := Lib.hid ha
  have HB := Lib.hid hb
  clear ha hb
  obtain ⟨L, hL⟩ : ∃ L, A ++ B = L := ⟨_, rfl⟩
  have HL := Lib.hid hL
  have hll : L.length ≤ 2048 := by rw [← hL, List.length_append]; omega
  clear hL
  obtain ⟨w1, hw1⟩ : ∃ w1, w1 = w.alloc (.cells #[.int .i64 f] 3) := ⟨_, rfl⟩
  have hb1 : Below w.heap.size w w1 := by rw [hw1]; exact (Below.refl _ _).alloc (Nat.le_refl _) _
  have hr1 : Own w1 w.heap.size 3 1 (.slice (some ⟨w.heap.size, 0, none⟩) 1 1) (ints [f]) := by
    rw [hw1]
    exact ⟨⟨rfl, .inr ⟨_, 1, #[.int .i64 f], rfl, Nat.le_refl _, heap_alloc_new w _, Nat.le_refl _, by unfold maxLen; omega, rfl, rfl⟩⟩, ints_wide _⟩
  obtain ⟨w2, hw2⟩ : ∃ w2, w2 = w1.alloc (.cells #[.slice A1 A.length c1, .slice A2 B.length c2] 83) := ⟨_, rfl⟩
  have hb2 : Below w.heap.size w w2 := by rw [hw2]; exact hb1.alloc hb1.size _
  have hr2 : Own w2 w.heap.size 3 1 (.slice (some ⟨w.heap.size, 0, none⟩) 1 1) (ints [f]) := by rw [hw2]; exact hr1.alloc _
  have hsz2 : w2.heap.size = w.heap.size + 2 := by rw [hw2, hw1]; simp
  have hsz1 : w1.heap.size = w.heap.size + 1 := by rw [hw1]; simp
  have q0 : w2.cell? ⟨w.heap.size + 1, 0, none⟩ = some (.slice A1 A.length c1) := by rw [hw2, ← hsz1, World.cell?_alloc_new]; rfl
  have q1 : w2.cell? ⟨w.heap.size + 1, 1, none⟩ = some (.slice A2 B.length c2) := by rw [hw2, ← hsz1, World.cell?_alloc_new]; rfl
  have HC := Lib.hid (concatSt_any A B _ _ (w.heap.size + 1) 2 w2 q0 q1 (HA.out.below hb2) (HB.out.below hb2) hla hlb)
  have HR2 := Lib.hid hr2
  have HZ := Lib.hid hsz2
  have HW2 := Lib.hid hw2
  have HW1 := Lib.hid hw1
  rw [hw2, hw1] at HC
  clear q0 q1 hr1 hr2 hsz1 hsz2 HA HB hw2 hw1 hb1
  go_enter Tryz.func61, Tryz.ntmps61
  go_wp2_with (go_at_call 83; (with_reducible refine HC.out.mono ?_); rintro e w3 ⟨v3, rfl, hown3, hb3⟩; rw [← HW1.out, ← HW2.out] at hown3 hb3; rw [HL.out] at hown3; have hq := hown3.form; rw [stps_len] at hq; obtain ⟨A3, cap3, rfl⟩ := hq)
  have hB3 := hb2.trans (hb3.mono hb2.size)
  have h3w : w.heap.size ≤ w2.heap.size := hb2.size
  have hR3 := HR2.out.kept hb3
  have hown3' := hown3.more (base' := w.heap.size) h3w
  have hD3 : (Value.slice A3 L.length cap3).ownBlock = none ∨ (Value.slice A3 L.length cap3).ownBlock ≠ (Value.slice (some ⟨w.heap.size, 0, none⟩) 1 1).ownBlock := by
    rcases hown3.1.2 with ⟨h', _⟩ | ⟨g', cap', cur, h', hg', _⟩
    · rw [h']; exact .inl rfl
    · rw [h']
      refine .inr fun h => ?_
      have hz := HZ.out
      simp only [Value.ownBlock, Option.some.injEq] at h
      omega
  clear hown3 hb3 HR2 HC hb2 HW1 HW2
  go_loopw [9, 19] (fun r i wr => MkR w L (.slice A3 L.length cap3) f t r i wr) (fun _ i _ => L.length - (intOf i).toNat)
  case atStart => exact ⟨0, by omega, rfl, by rw [days_none]; exact hR3, hB3, hown3', hD3⟩
  case round =>
    clear hR3 hB3 hown3' hD3
    obtain ⟨k, hk, rfl, hown, hbl, hst, hD⟩ := hrel
    obtain ⟨wo, rfl⟩ : ∃ wo : World, wo = wr := ⟨_, rfl⟩
    have hbs := hbl.size
    by_cases hlt : k < L.length
    · have hsl := hst.sl (by omega)
      obtain ⟨b, off, rfl, hc0⟩ := hsl.cells (by rw [stps_len]; omega)
      obtain ⟨c0, c1⟩ := hc0.stp hlt
      have hbw := hc0.1
      clear hc0
      obtain ⟨x, hx⟩ : ∃ x, (L[k]).f = x := ⟨_, rfl⟩
      obtain ⟨y, hy⟩ : ∃ y, (L[k]).v = y := ⟨_, rfl⟩
      rw [hx] at c0
      rw [hy] at c1
      have HX := Lib.hid hx
      clear hx hy
      have HO := Lib.hid hown
      have HS := Lib.hid hst
      clear hown hst
      by_cases h12 : f < x ∧ x ≤ t
      · obtain ⟨h1, h2⟩ := h12
        have HD := Lib.hid (days_yes hlt (by rw [HX.out]; exact h1) (by rw [HX.out]; exact h2))
        have hdl := days_len (L.take k) f t
        have hdk : (L.take k).length ≤ k := List.length_take_le _ _
        go_wp2_with (at_builtin; (refine wpList_append_sl rfl (.tmp 33) (.tmp 36) rfl rowInt w.heap.size _ _ _ [[.int .i64 x]] rfl ((HO.out.alloc _).alloc _) rfl (Sl.one (by simp) rfl) (ints_wide [x]) (by rw [ints_len]; unfold maxLen; simp; omega) (by rw [ints_len]; simp; omega) (by simp; omega) ?_); intro v3 w3 hown3 hg3 hv3; have hb3 := Own.grown ((HO.out.alloc _).alloc _) ((hbl.alloc hbs _).alloc (by simp; omega) _) hg3 (by simp; omega); have hs3 := ((HS.out.alloc _).alloc _).apart hg3 hD; have hn3 := Lib.hid ((HS.out.alloc _).alloc_ne _ hD hv3); clear hv3)
        go_roundw
        case rel => exact ⟨k + 1, by omega, by go_num, by rw [HD.out, ints_append, HX.out]; exact hown3, hb3, hs3, hn3.out⟩
        case measure => simp [intOf]; omega
      · have HD := Lib.hid (days_no hlt (by rw [HX.out]; exact h12))
        by_cases h1 : f < x
        · have h2 : ¬ x ≤ t := fun h => h12 ⟨h1, h⟩
          clear h12
          go_wp2
          go_roundw
          case rel => exact ⟨k + 1, by omega, by go_num, by rw [HD.out]; exact HO.out.alloc _, hbl.alloc hbs _, HS.out.alloc _, hD⟩
          case measure => simp [intOf]; omega
        · clear h12
          go_wp2
          go_roundw
          case rel => exact ⟨k + 1, by omega, by go_num, by rw [HD.out]; exact HO.out.alloc _, hbl.alloc hbs _, HS.out.alloc _, hD⟩
          case measure => simp [intOf]; omega
    · have hkL : L.take k = L := List.take_of_length_le (by omega)
      rw [hkL] at hown
      clear hkL hst hD
      have hdl := days_len L f t
      have hd0 : 0 < (daysL L f t).length := by rw [daysL, List.length_cons]; omega
      obtain ⟨g, cap, rfl, hcap⟩ := hown.some_form (by rw [ints_len]; exact hd0)
      rw [ints_len] at hown hcap ⊢
      obtain ⟨D, hD⟩ : ∃ D, daysL L f t = D := ⟨_, rfl⟩
      obtain ⟨Z, hZ⟩ : ∃ Z, D.mergeSort (fun x y => decide (x ≤ y)) = Z := ⟨_, rfl⟩
      have hzl : Z.length = D.length := by rw [← hZ, List.length_mergeSort]
      have HM : Hid (Lib.compact Z = marksD L f t) := by rw [Hid, marksD, hD, hZ]
      rw [hD] at hown hcap hdl hd0 ⊢
      have HSo := Lib.hid (sortI_any D g cap w.heap.size _ hown (by omega))
      rw [hZ] at HSo
      have HO := Lib.hid hown
      have HZ := Lib.hid hzl
      have hzl1 : Z.length ≤ 4096 := by omega
      have hzl2 : Z.length ≤ cap := by omega
      have hcl := compact_len Z
      clear hown hD hZ hzl
      go_wp2_with (go_at_call 84; (with_reducible refine HSo.out.mono ?_); rintro e w4 ⟨rfl, hown4, hg4⟩; rw [← HZ.out] at hown4; have hb4 := HO.out.grown hbl hg4 hbl.size)
      rw [← HZ.out]
      go_wp2_with (go_at_call 85; (with_reducible refine (compactI_any Z g cap w.heap.size _ hown4 hzl1 hzl2 hcl).mono ?_); rintro e w5 ⟨rfl, hown5, hg5⟩; have hb5 := hown4.grown hb4 hg5 hb4.size)
      go_ret
      exact ⟨_, rfl, by rw [HL.out, ← HM.out]; exact hown5, hb5⟩
end Go.Proofs.YtaafihdegnaokaaGreatDoor
