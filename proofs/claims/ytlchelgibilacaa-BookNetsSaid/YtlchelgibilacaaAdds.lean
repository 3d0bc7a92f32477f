/- The law BookAdds: it returns true. -/
import Derived.Test.YtlchelgibilacaaUnd
import Derived.Test.YtlchelgibilacaaLim
namespace Go.Proofs.Ytlchelgibilacaa
open Go.RowKit

/-- storing one cell of an element -/
theorem Own.store1 {w : World} {base e sz g n cap : Nat} {es : List (List Value)} (hsz : 0 < sz) (h : Own w base e sz (.slice (some ⟨g, 0, none⟩) n cap) es) (i : Nat) (x : List Value) (hi : es[i]? = some x) (j : Nat) (hj : j < sz) (u : Value) (hu : u.oneCell' = true) :
    Own (w.setCell ⟨g, i * sz + j, none⟩ u) base e sz (.slice (some ⟨g, 0, none⟩) n cap) (es.set i (x.set j u)) ∧ w.grownBy (w.setCell ⟨g, i * sz + j, none⟩ u) (some g) := by
  have hn : n = es.length := by
    rcases h.1.2 with ⟨h', _⟩ | ⟨g', cap', cur, h', _⟩
    · simp at h'
    · injection h'
  subst hn
  have hil : i < es.length := (List.getElem?_eq_some_iff.1 hi).1
  have hx : x ∈ es := List.mem_of_getElem? hi
  have hxl := (h.2 x hx).1
  obtain ⟨h1, h2⟩ := h.1.stored (i * sz + j) u
  refine ⟨⟨?_, fun y hy => ?_⟩, h2⟩
  · rw [List.length_set]
    have : es.flatten.set (i * sz + j) u = (es.set i (x.set j u)).flatten := by
      apply List.ext_getElem?
      intro t
      have hl : i * sz + sz ≤ es.flatten.length := by
        rw [h.2.flat]
        have : (i + 1) * sz ≤ es.length * sz := Nat.mul_le_mul_right _ hil
        rw [Nat.add_mul, Nat.one_mul] at this; exact this
      have e1 := flatten_set hsz h.2 i hil x hxl t
      rw [show es.set i x = es by have := (List.getElem?_eq_some_iff.1 hi).2; rw [← this]; exact List.set_getElem_self hil] at e1
      rw [flatten_set hsz h.2 i hil _ (by rw [List.length_set, hxl]) t, List.getElem?_set, List.getElem?_set]
      by_cases hc : i * sz ≤ t ∧ t < i * sz + sz
      · rw [if_pos hc] at e1 ⊢
        by_cases he : i * sz + j = t
        · rw [if_pos he, if_pos (by omega), if_pos (by omega), if_pos (by omega)]
        · rw [if_neg he, if_neg (by omega), e1]
      · rw [if_neg hc, if_neg (by omega)]
    rw [← this]; exact h1
  · rcases List.mem_or_eq_of_mem_set hy with hy | rfl
    · exact h.2 y hy
    · refine ⟨by rw [List.length_set, hxl], fun v hv => ?_⟩
      rcases List.mem_or_eq_of_mem_set hv with hv | rfl
      · exact (h.2 x hx).2 v hv
      · exact hu
theorem Own.some {w : World} {base e sz n cap : Nat} {A : Option Addr} {es : List (List Value)} (h : Own w base e sz (.slice A n cap) es) (hp : 0 < es.length) : ∃ g, A = some ⟨g, 0, none⟩ := by
  rcases h.1.2 with ⟨h', h2⟩ | ⟨g', cap', cur, h', _⟩
  · injection h' with _ h3 _; subst h3; exact absurd h2 (by omega)
  · injection h' with h3; exact ⟨g', h3⟩
theorem Own.keepG {w w' : World} {base e sz : Nat} {v : Value} {o : Option Nat} {es : List (List Value)} (h : Own w base e sz v es) (hg : w.grownBy w' o) (hD : v.ownBlock = none ∨ v.ownBlock ≠ o) : Own w' base e sz v es := ⟨h.1.kept hg hD, h.2⟩

/-- a posting some runs later -/
def bump (up : Int) (p : Pst) : Pst := ⟨p.run + up, p.emp, p.per, p.ln⟩
def bumpL (up : Int) (k : Nat) (l : List Pst) : List Pst := (l.take k).map (bump up) ++ l.drop k
theorem bumpL_len (up : Int) (k : Nat) (l : List Pst) : (bumpL up k l).length = l.length := by simp [bumpL]; omega
theorem bumpL_get (up : Int) {k : Nat} {l : List Pst} (h : k < l.length) (h' : k < (bumpL up k l).length) : (bumpL up k l)[k] = l[k] := by
  simp only [bumpL]
  rw [List.getElem_append_right (by simp; omega)]
  simp [Nat.min_eq_left (Nat.le_of_lt h)]
theorem bumpL_step (up : Int) {k : Nat} {l : List Pst} (h : k < l.length) : (bumpL up k l).set k (bump up l[k]) = bumpL up (k + 1) l := by
  simp only [bumpL]
  rw [List.set_append_right _ _ (by simp; omega), List.take_succ_eq_append_getElem h, List.map_append, List.append_assoc]
  simp only [List.length_map, List.length_take, Nat.min_eq_left (Nat.le_of_lt h), Nat.sub_self]
  rw [List.drop_eq_getElem_cons h]; rfl

set_option maxRecDepth 100000 in
set_option maxHeartbeats 1600000 in
theorem BookAdds_any (v : Value) (zs : List Int) (u : Value) (l : List Pst) (t : Value) (f : List Pst) (w : World) (hv : Sl w 1 v (ints zs)) (hu : Sl w 6 u (psts l)) (ht : Sl w 6 t (psts f)) :
    Calls Try.prog 5 #[v, u, t] w fun e w' => e = .returned (.bool true) ∧ Below w.heap.size w w' := by
  go_enter Try.func5, Try.ntmps5
  go_wp2_with fail
  refine (short_any u l w hu).mono ?_
  rintro e w0 ⟨rfl, hb0⟩
  have hs0 := hb0.size
  cases hsh : shortB l
  · go_wp2_with fail
    refine (awake_any _).mono ?_
    rintro e w6 ⟨rfl, hb6⟩
    go_wp2
    go_ret
    exact ⟨rfl, below_after hb0 hb6 hs0⟩
  go_wp2_with fail
  refine (short_any t f w0 (ht.below hb0)).mono ?_
  rintro e w1 ⟨rfl, hb1'⟩
  have hb1 := below_after hb0 hb1' hs0
  have hs1 := hb1.size
  clear hb0 hb1' hs0
  cases hsf : shortB f
  · go_wp2_with fail
    refine (awake_any _).mono ?_
    rintro e w6 ⟨rfl, hb6⟩
    go_wp2
    go_ret
    exact ⟨rfl, below_after hb1 hb6 hs1⟩
  have hfl : f.length ≤ 40 := by simp [shortB] at hsf; omega
  have HV := Lib.hid (hv.below hb1)
  have HU := Lib.hid hu
  have HT := Lib.hid ht
  clear hv hu ht hsh hsf
  go_wp2_with fail
  refine (new_any v zs w1 HV.out).mono ?_
  rintro e w2 ⟨rfl, hd2, hb2⟩
  obtain ⟨D, hDe⟩ : ∃ D, D = w1.heap.size := ⟨_, rfl⟩
  rw [← hDe] at hd2 ⊢
  have hDlo : w.heap.size ≤ D := by omega
  have hB2 := below_after hb1 hb2 hs1
  clear HV hb1 hb2 hDe
  have hs2 := hB2.size
  have hDlt := hd2.lt
  go_wp2_with fail
  refine (DBook_any D 0 3 w2 hd2 (by omega) (by omega)).mono ?_
  rintro e w3 ⟨x, b, R, d3, rfl, hgood, hR, hlen, hown3, hd3, hdd3, hg3⟩
  have hB3 := hB2.grown hg3 hs2 (fun g hg => by cases hg; exact hDlo)
  have hs3 := hB3.size
  have hs23 := hg3.size
  clear hB2 hg3 hd2 hgood hR
  go_wp2_with fail
  refine (DBook_any D d3 3 w3 hd3 (by omega) (by omega)).mono ?_
  rintro e w4 ⟨y, c, R4, d4, rfl, hgood, hR, hlen4, hown4y, hd4, hdd4, hg4⟩
  have hB4 := hB3.grown hg4 hs3 (fun g hg => by cases hg; exact hDlo)
  have hs4 := hB4.size
  have hs34 := hg4.size
  have hown4 := hown3.keepD hg4 hDlt
  have hxlt : ∀ g, x.ownBlock = some g → g < w3.heap.size := fun g hg => (hown3.1.lt g hg).2
  clear hB3 hg4 hd3 hown3
  go_wp2_with fail
  refine (Next_any D d4 _ w4 hd4 (by omega) (by omega) (by omega)).mono ?_
  rintro e w5 ⟨up, ⟨hup1, hup2⟩, rfl, hd5, hg5⟩
  have hB5 := hB4.grown hg5 hs4 (fun g hg => by cases hg; exact hDlo)
  have hs5 := hB5.size
  have hs45 := hg5.size
  have hown5 := Lib.hid (hown4.keepD hg5 hDlt)
  have hown5y := hown4y.keepD hg5 (by omega)
  clear hB4 hg5 hd4 hown4 hown4y hd5
  have HG := Lib.hid hgood
  have HX := Lib.hid hxlt
  clear hgood hxlt
  obtain ⟨Y, cy, rfl⟩ := hown5y.form
  rw [psts_len] at hown5y ⊢
  go_wp2_with fail
  go_loopw [11] (fun i wr => ∃ k : Nat, k ≤ c.length ∧ i = .int .i64 k ∧ Own wr w3.heap.size 27 6 (.slice Y c.length cy) (psts (bumpL up k c)) ∧ w5.grownBy wr (Value.slice Y c.length cy).ownBlock) (fun i _ => c.length - (intOf i).toNat)
  case atStart => exact ⟨0, by omega, rfl, by simpa [bumpL] using hown5y, World.grownBy.refl _ _⟩
  case round =>
    obtain ⟨k, hk, rfl, hown, hg⟩ := hrel
    by_cases hlt : k < c.length
    · obtain ⟨g, rfl⟩ := hown.some (by rw [psts_len, bumpL_len]; omega)
      have hk' : k < (bumpL up k c).length := by rw [bumpL_len]; exact hlt
      obtain ⟨c0, c1, c2, c3, c4, c5⟩ := hown.pstE hk'
      rw [bumpL_get up hlt hk'] at c0
      have hf0 := hown.frozenE (k * 6)
      clear c1 c2 c3 c4 c5
      have hrun := HG.out.2 _ (List.getElem_mem hlt)
      have r1 : 1 ≤ (c[k]).run := by have := hrun.1; simp only [validB, Bool.and_eq_true, decide_eq_true_eq] at this; omega
      have r2 : (c[k]).run ≤ 6 := by have := hrun.2.1; omega
      clear hrun
      have hst := Lib.hid (hown.store1 (by omega) k _ (psts_at hk') 0 (by omega) (.int .i64 ((c[k]).run + up)) rfl)
      have hse : Hid ((psts (bumpL up k c)).set k (((bumpL up k c)[k]).vals.set 0 (.int .i64 ((c[k]).run + up))) = psts (bumpL up (k + 1) c)) := by
        show _ = _
        rw [← bumpL_step up hlt, ← psts_set, bumpL_get up hlt hk']; rfl
      go_wp2
      go_roundw
      case rel =>
        have h1 := hst.out
        rw [hse.out] at h1
        exact ⟨k + 1, by omega, by go_num, h1.1, hg.trans h1.2⟩
      case measure => simp [intOf]; omega
    · obtain rfl : k = c.length := by omega
      have hB := hB5.grown hg hs5 (fun g hg => Nat.le_trans hs3 (hown.1.lt g hg).1)
      have hs := hB.size
      have hownx := hown5.out.keepG hg (by
        cases hx : x.ownBlock with
        | none => exact .inl rfl
        | some g => exact .inr fun h => by have h1 := HX.out g hx; have h2 := (hown.1.lt g h.symm).1; omega)
      have HSX := Lib.hid (hownx.sl (by omega))
      have HSY := Lib.hid (hown.sl (by omega))
      clear hownx hown hg hown5 HX HG hB5
      obtain ⟨c', hc'⟩ : ∃ c', c' = bumpL up c.length c := ⟨_, rfl⟩
      have hl' : c'.length ≤ 12 := by rw [hc', bumpL_len]; omega
      rw [← hc'] at HSY
      clear hc'
      go_wp2_with fail
      refine (Add_any x _ b c' wr HSX.out HSY.out (by omega)).mono ?_
      rintro e w6 ⟨p, rfl, hown6, hb6⟩
      go_wp2_with fail
      refine (refAdd_any x _ b c' w6 (HSX.out.below hb6) (HSY.out.below hb6) (by omega)).mono ?_
      rintro e w7 ⟨q, rfl, hown7, hb7⟩
      have hB7 := below_after (below_after hB hb6 hs) hb7 (Nat.le_trans hs hb6.size)
      have hs7 := hB7.size
      have HP := Lib.hid ((hown6.sl (by omega)).below hb7)
      have HQ := Lib.hid (hown7.sl (by omega))
      clear HSX HSY hB hown6 hown7 hb6 hb7
      go_wp2_with fail
      refine (Add_any u t l f w7 (HU.out.below hB7) (HT.out.below hB7) (by omega)).mono ?_
      rintro e w8 ⟨p2, rfl, hown8, hb8⟩
      have hB8 := below_after hB7 hb8 hs7
      have hs8 := hB8.size
      go_wp2_with fail
      refine (refAdd_any u t l f w8 (HU.out.below hB8) (HT.out.below hB8) (by omega)).mono ?_
      rintro e w9 ⟨q2, rfl, hown9, hb9⟩
      have hB9 := below_after hB8 hb9 hs8
      have hs9 := hB9.size
      have HP2 := Lib.hid ((hown8.sl (by omega)).below hb9)
      have HQ2 := Lib.hid (hown9.sl (by omega))
      have HP' := Lib.hid ((HP.out.below hb8).below hb9)
      have HQ' := Lib.hid ((HQ.out.below hb8).below hb9)
      clear HP HQ hB7 hB8 hown8 hown9 hb8 hb9
      obtain ⟨E1, hE1⟩ : ∃ E, E = addE b c' := ⟨_, rfl⟩
      obtain ⟨E2, hE2⟩ : ∃ E, E = addE l f := ⟨_, rfl⟩
      rw [← hE1, ← hE2]
      clear hE1 hE2
      go_wp2_with fail
      refine (Same_any p q _ w9 HP'.out HQ'.out).mono ?_
      rintro e w10 ⟨rfl, hb10⟩
      have hB10 := below_after hB9 hb10 hs9
      have hs10 := hB10.size
      go_wp2_with fail
      refine (Same_any p2 q2 _ w10 (HP2.out.below hb10) (HQ2.out.below hb10)).mono ?_
      rintro e w11 ⟨rfl, hb11⟩
      have hB11 := below_after hB10 hb11 hs10
      have hs11 := hB11.size
      go_wp2_with fail
      refine (awake_any _).mono ?_
      rintro e w12 ⟨rfl, hb12⟩
      go_wp2
      go_ret
      exact ⟨rfl, below_after hB11 hb12 hs11⟩

end Go.Proofs.Ytlchelgibilacaa
