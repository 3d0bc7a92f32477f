/- payrolllaw43.drawn. -/
import Derived.Test.YtnkephafpebfkaaDoorPrt
namespace Go.Proofs.YtnkephafpebfkaaDoor
open Go.RowKit

/-- a valid return has been drawn -/
def DrawnPost (w : World) (D dr : Nat) (e : Ending) (w' : World) : Prop :=
  ∃ (f : Ret) (v : Value) (d : Nat), e = .returned (.agg (f.vals v)) ∧ retB f = true ∧ (0 ≤ f.p ∧ f.p ≤ 2) ∧ (1 ≤ f.v ∧ f.v ≤ 4) ∧ f.l.length ≤ 3 ∧ Own w' w.heap.size 28 3 v (lns f.l) ∧ Deck w' D d ∧ d ≤ dr + 13 ∧ w.grownBy w' (some D)
set_option maxRecDepth 100000 in
set_option maxHeartbeats 4000000 in
theorem drawn_any (D dr : Nat) (w : World) (hd : Deck w D dr) (hdr : dr ≤ 900000) :
    Calls Tryd.prog 12 #[.pointer (some ⟨D, 0, none⟩)] w (DrawnPost w D dr) := by
  have hD := hd.lt
  have hr0 := Row.new w 25 #[.int .i64 0, .int .i64 0, .slice none 0 0]
  have hB0 := (Below.refl w.heap.size w).alloc (Nat.le_refl _) (.cells #[.int .i64 0, .int .i64 0, .slice none 0 0] 25)
  go_enter Tryd.func12, Tryd.ntmps12
  go_wp2_with fail
  obtain ⟨w0, hw0⟩ : ∃ w0, w.alloc (.cells #[.int .i64 0, .int .i64 0, .slice none 0 0] 25) = w0 := ⟨_, rfl⟩
  rw [hw0] at hr0 hB0 ⊢
  obtain ⟨r, hr⟩ : ∃ r, w.heap.size = r := ⟨_, rfl⟩
  rw [hr] at hr0 ⊢
  have hwr : w.heap.size ≤ r := by omega
  have hrD : r ≠ D := by omega
  have hd0 : Deck w0 D dr := by rw [← hw0]; exact hd.below ((Below.refl _ _).alloc (Nat.le_refl _) _)
  have hg0 : w.grownBy w0 (some D) := gb_below (World.grownBy.refl _ _) (by rw [← hw0]; exact (Below.refl _ _).alloc (Nat.le_refl _) _)
  clear hw0 hr hd hB0
  refine (Next_any D dr 3 w0 hd0 (by omega) (by omega) (by omega)).mono ?_
  rintro e w1 ⟨p, ⟨p0, p1⟩, rfl, hd1, hg1⟩
  go_wp2_with fail
  refine (Next_any D (dr + 1) 4 w1 hd1 (by omega) (by omega) (by omega)).mono ?_
  rintro e w2 ⟨u, ⟨u0, u1⟩, rfl, hd2, hg2⟩
  have hr2 := (hr0.keep hg1 (fun e => hrD (Option.some.inj e))).keep hg2 (fun e => hrD (Option.some.inj e))
  have hG2 := gb_trans (gb_trans hg0 hg1) hg2
  clear hr0 hd0 hg0 hd1 hg1 hg2
  have hal := (Below.refl w2.heap.size w2).alloc (Nat.le_refl _) (.cells #[.int .i64 p, .int .i64 (1 + u), .slice none 0 0] 25)
  have hx3 := Row.new w2 25 #[.int .i64 p, .int .i64 (1 + u), .slice none 0 0]
  have hr3 := hr2.below hal hr2.lt
  have hG3 := gb_below hG2 hal
  have hd3 := hd2.below hal
  have hr2l := hr2.lt
  have hw2 := hG2.size
  have hD2 := hd2.lt
  clear hr2 hG2 hd2
  go_wp2_with fail
  obtain ⟨w3, hw3⟩ : ∃ w3, w2.alloc (.cells #[.int .i64 p, .int .i64 (1 + u), .slice none 0 0] 25) = w3 := ⟨_, rfl⟩
  rw [hw3] at hx3 hr3 hG3 hd3 hal ⊢
  obtain ⟨m, hm⟩ : ∃ m, w2.heap.size = m := ⟨_, rfl⟩
  rw [hm] at hx3 ⊢
  have hmr : ¬ m = r := by omega
  have hrm : ¬ r = m := by omega
  have hmD : m ≠ D := by omega
  have hwm : w.heap.size ≤ m := by omega
  clear hw3 hm hal
  refine (Returns_any D (dr + 1 + 1) 1 w3 hd3 (by omega) (by omega)).mono ?_
  rintro e w4 ⟨xv, ps, d4, rfl, hgood, hpl, hown, hd4, hdd, hg4⟩
  have hG4 := gb_trans hG3 hg4
  have hr4 := hr3.keep hg4 (fun e => hrD (Option.some.inj e))
  have hx4 := hx3.keep hg4 (fun e => hmD (Option.some.inj e))
  have hw3 := hG3.size
  have hr3l := hr3.lt
  have hm3l := hx3.lt
  clear hr3 hx3 hg4 hd3
  obtain ⟨A4, c4, rfl⟩ := hown.own.form
  rw [rets_len] at hown ⊢
  obtain ⟨⟨a0, a1, a2, al⟩, ⟨b0, b1, b2⟩⟩ := row3 hr4
  obtain ⟨⟨d0, d1, d2, dl⟩, ⟨f0, f1, f2⟩⟩ := row3 hx4
  have hmk : ∀ l : List Ln, ordB l = true → (∀ y ∈ l, filedB y.kind = true) → l.length ≤ 3 → retB ⟨p, 1 + u, l⟩ = true := fun l h1 h2 h3 =>
    (retB_iff _).2 ⟨p0, by show p ≤ 84005; omega, by show 1 ≤ 1 + u; omega, by show 1 + u ≤ 65536; omega, by show l.length ≤ 256; omega, h2, h1⟩
  have HMK := Lib.hid hmk
  have HGD := Lib.hid hgood
  clear hmk hgood
  by_cases h0 : ps.length = 0
  · obtain rfl : ps = [] := List.eq_nil_of_length_eq_zero h0
    have hS := Row.set3 hr4 (.int .i64 p) (.int .i64 (1 + u)) (.slice none 0 0)
    have HG := Lib.hid (gb_set (p := ⟨r, 2, none⟩) (gb_set (p := ⟨r, 1, none⟩) (gb_set (p := ⟨r, 0, none⟩) hG4 (.inr hwr) (.int .i64 p)) (.inr hwr) (.int .i64 (1 + u))) (.inr hwr) (.slice none 0 0))
    have HK := Lib.hid (hd4.keep (gb_set (p := ⟨r, 2, none⟩) (gb_set (p := ⟨r, 1, none⟩) (gb_set (p := ⟨r, 0, none⟩) (World.grownBy.refl _ (some r)) (.inl rfl) (.int .i64 p)) (.inl rfl) (.int .i64 (1 + u))) (.inl rfl) (.slice none 0 0)) (fun g hg => by injection hg; omega))
    have HR := Lib.hid (row3 hS).1
    simp only [List.length_nil] at hown ⊢
    clear hS hr4 hx4 hown hd4 hG4
    go_wp2
    obtain ⟨z0, z1, z2, -⟩ := HR.out
    refine bodyPost_ret (v := .agg #[.int .i64 p, .int .i64 (1 + u), .slice none 0 0]) (by simp only [results, Tryd.results12, go_sem]; simp [z0, z1, z2, go_sem]) rfl ?_
    exact ⟨⟨p, 1 + u, []⟩, .slice none 0 0, d4, rfl, HMK.out [] rfl (fun y hy => by cases hy) (by simp), ⟨p0, by show p ≤ 2; omega⟩, ⟨by show 1 ≤ 1 + u; omega, by show 1 + u ≤ 4; omega⟩, by simp, Own.nil _ _ _ _, HK.out, by omega, HG.out⟩
  · obtain ⟨q, rfl⟩ : ∃ q, ps = [q] := by
      match ps, h0, hpl with
      | [q], _, _ => exact ⟨q, rfl⟩
      | a :: b :: t, _, h => simp at h
    obtain ⟨x, xv⟩ := q
    simp only [List.length_cons, List.length_nil, Nat.zero_add] at hown ⊢
    have hxg := HGD.out 0 (by simp)
    simp only [List.map_cons, List.map_nil, List.getElem_cons_zero] at hxg
    obtain ⟨hx1, -, -, hx3⟩ := hxg
    have hxo := (retB_iff _).1 hx1
    have hln := hown.ln (x, xv) (by simp)
    simp only at hln
    obtain ⟨Ax, cx, rfl⟩ := hln.form
    rw [lns_len] at hln
    obtain ⟨bk, off, rfl, hc⟩ := hown.at.sl.cells (by simp [rets])
    have hc2 := (hc.ret (k := 0) (by simp)).2.2
    simp only [List.getElem_cons_zero, Nat.zero_mul, Nat.add_zero] at hc2
    rw [lns_len] at hc2
    have hbl := hc.1
    have hcap : 1 ≤ c4 := by
      obtain ⟨A', cap', hv, k1, _⟩ := hown.at.sl
      injection hv with e1 e2 e3
      subst e3
      simpa [rets] using k1
    have HOR := Lib.hid hxo.o
    have HKK := Lib.hid hxo.k
    have hne : ∀ z, z < w3.heap.size → Value.ownBlock (.slice Ax x.l.length cx) ≠ some z := fun z hz e => by have := (hln.1.lt z e).1; omega
    have hx5 := hx4.set 2 (.slice Ax x.l.length cx)
    have hr5 := hr4.far (p := ⟨m, 2, none⟩) (show r ≠ m from hrm) (.slice Ax x.l.length cx)
    have hG5 := gb_set (p := ⟨m, 2, none⟩) hG4 (.inr hwm) (.slice Ax x.l.length cx)
    have hK5 := hd4.keep (gb_set (p := ⟨m, 2, none⟩) (World.grownBy.refl _ (some m)) (.inl rfl) (.slice Ax x.l.length cx)) (fun g hg => by injection hg; omega)
    have hO5 := own_setL hln (hne m hm3l) 2 (.slice Ax x.l.length cx)
    have HR := Lib.hid (row3 (Row.set3 hr5 (.int .i64 p) (.int .i64 (1 + u)) (.slice Ax x.l.length cx))).1
    have HG := Lib.hid (gb_set (p := ⟨r, 2, none⟩) (gb_set (p := ⟨r, 1, none⟩) (gb_set (p := ⟨r, 0, none⟩) hG5 (.inr hwr) (.int .i64 p)) (.inr hwr) (.int .i64 (1 + u))) (.inr hwr) (.slice Ax x.l.length cx))
    have HK := Lib.hid (hK5.keep (gb_set (p := ⟨r, 2, none⟩) (gb_set (p := ⟨r, 1, none⟩) (gb_set (p := ⟨r, 0, none⟩) (World.grownBy.refl _ (some r)) (.inl rfl) (.int .i64 p)) (.inl rfl) (.int .i64 (1 + u))) (.inl rfl) (.slice Ax x.l.length cx)) (fun g hg => by injection hg; omega))
    have HO := Lib.hid ((own_set3 hO5 (hne r hr3l) (.int .i64 p) (.int .i64 (1 + u)) (.slice Ax x.l.length cx)).more hw3)
    clear hx5 hr5 hG5 hK5 hO5 hr4 hx4 hown hd4 hG4 hln hne hc hx1 hxo HGD h0
    go_wp2
    obtain ⟨z0, z1, z2, -⟩ := HR.out
    refine bodyPost_ret (v := .agg #[.int .i64 p, .int .i64 (1 + u), .slice Ax x.l.length cx]) (by simp only [results, Tryd.results12, go_sem]; simp [z0, z1, z2, go_sem]) rfl ?_
    exact ⟨⟨p, 1 + u, x.l⟩, .slice Ax x.l.length cx, d4, rfl, HMK.out x.l HOR.out HKK.out hx3, ⟨p0, by show p ≤ 2; omega⟩, ⟨by show 1 ≤ 1 + u; omega, by show 1 + u ≤ 4; omega⟩, hx3, HO.out, HK.out, by omega, HG.out⟩
end Go.Proofs.YtnkephafpebfkaaDoor
