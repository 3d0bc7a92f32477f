/- Contract of paygen.Deck.Line. -/
import Derived.Test.YtjbhabfflcbebaaGreatDeck2
import Derived.Test.YtjbhabfflcbebaaGreatRow
namespace Go.Proofs.YtjbhabfflcbebaaGreat
open Go.RowKit


/-- a line that has the form of a line -/
def LinePost (w : World) (D dr : Nat) (e : Ending) (w' : World) : Prop :=
  ∃ x : Ln, formB x = true ∧ (-600001 ≤ x.amt ∧ x.amt ≤ 600001) ∧ e = .returned (.agg #[.int .i64 x.kind, .string x.code, .int .i64 x.amt]) ∧ ∃ dr', dr' ≤ dr + 6 ∧ Deck w' D dr' ∧ w.grownBy w' (some D)

theorem form_made {r : Int} {c : ByteArray} {a : Int} (h1 : 0 ≤ r) (h2 : r ≤ 10 - 1) (h3 : a ≠ 0 ∧ -600001 ≤ a ∧ a ≤ 600001) (h4 : (bareB (1 + r) = true ∧ c = ⟨#[]⟩) ∨ (bareB (1 + r) = false ∧ nameB c.data.toList = true)) : formB ⟨1 + r, c, a⟩ = true := by
  have q1 : decide (1 ≤ 1 + r) = true := by simp; omega
  have q2 : decide (1 + r ≤ 10) = true := by simp; omega
  have q3 : totB a = true := by simp [totB]; omega
  have q4 : decide (a ≠ 0) = true := by simp [h3.1]
  rcases h4 with ⟨h4, rfl⟩ | ⟨h4, h5⟩
  · simp only [formB, formedB, q1, q2, q3, q4, h4, if_true, Bool.true_and, Bool.and_true]; rfl
  · simp only [formB, formedB, q1, q2, q3, q4, h4, h5, Bool.true_and, Bool.and_true]; rfl

set_option maxRecDepth 100000 in
set_option maxHeartbeats 1600000 in
theorem Line_any (D dr : Nat) (w : World) (hd : Deck w D dr) (hdr : dr ≤ 1099511627000) :
    Calls Tryz.prog 27 #[.pointer (some ⟨D, 0, none⟩)] w (LinePost w D dr) := by
  have hD := hd.lt
  go_enter Tryz.func27, Tryz.ntmps27
  go_wp2_with fail
  refine (Next_draw D dr _ _ (hd.below ((Below.refl _ _).alloc (Nat.le_refl _) _)) (by omega) (by omega) (by omega)).mono ?_
  rintro e w1 ⟨r, ⟨hr1, hr2⟩, rfl, d1, hd1, hK1, hg1⟩
  have hR1 : Row w1 w.heap.size 51 #[.int .i64 0, .string ⟨#[]⟩, .int .i64 0] := (Row.new w _ _).keep hg1 (by intro e; injection e; omega)
  have hG1 : w.grownBy w1 (some D) := gb_trans (gb_alloc (World.grownBy.refl _ _) _) hg1
  clear hg1
  go_wp2_with fail
  refine (Small_any D d1 _ hK1 (by omega)).mono ?_
  rintro e w2 ⟨s, ⟨hs1, hs2⟩, rfl, d2, hd2, hK2, hg2⟩
  have hR2 := hR1.keep hg2 (by intro e; injection e; omega)
  have hG2 := gb_trans hG1 hg2
  have hz2 := hR2.lt
  have hL2 : ∀ cs, Row (w2.alloc (.cells cs 51)) w2.heap.size 51 cs := fun cs => Row.new w2 _ cs
  clear hg2 hR1 hG1 hK1
  have hDw2 := hK2.lt
  cases hbare : bareB (1 + r)
  · go_wp2_with (go_at_call 42; refine (refBare_any _ _).mono ?_; rintro e w' ⟨rfl, rfl⟩; rw [hbare])
    refine (Code_any D d2 _ (hK2.below ((Below.refl _ _).alloc (Nat.le_refl _) _)) (by omega)).mono ?_
    rintro e w4 ⟨c, hc, rfl, d3, hd3, hK3, hg3⟩
    have hL4 := (hL2 #[.int .i64 (1 + r), .string ⟨#[]⟩, .int .i64 (1 + s)]).keep hg3 (by intro e; injection e; omega)
    have hR4 := (hR2.alloc (.cells #[.int .i64 (1 + r), .string ⟨#[]⟩, .int .i64 (1 + s)] 51)).keep hg3 (by intro e; injection e; omega)
    have hG4 := gb_trans (gb_alloc hG2 _) hg3
    have l1 : w4.cell? ⟨w2.heap.size, 1, none⟩ = some (.string ⟨#[]⟩) := hL4.cell 1
    have m1 := hL4.frozen 1
    have hL4s := hL4.set 1 (.string c)
    have hR4s := hR4.far (p := ⟨w2.heap.size, 1, none⟩) (by show w.heap.size ≠ w2.heap.size; omega) (.string c)
    have hG4s := gb_set (p := ⟨w2.heap.size, 1, none⟩) hG4 (.inr (by show w.heap.size ≤ w2.heap.size; omega)) (.string c)
    have hK3s := hK3.keep (gb_set (p := ⟨w2.heap.size, 1, none⟩) (World.grownBy.refl _ (some w2.heap.size)) (.inl rfl) (.string c)) (fun k hk => by injection hk; omega)
    clear hg3 hL4 hR4 hG4 hK3
    go_wp2_with fail
    refine (Next_draw D d3 _ _ hK3s (by omega) (by omega) (by omega)).mono ?_
    rintro e w5 ⟨t, ⟨ht1, ht2⟩, rfl, d4, hd4, hK5, hg5⟩
    have hL5 : Row w5 w2.heap.size 51 #[.int .i64 (1 + r), .string c, .int .i64 (1 + s)] := hL4s.keep hg5 (by intro e; injection e; omega)
    have hR5 := hR4s.keep hg5 (by intro e; injection e; omega)
    have hG5 := gb_trans hG4s hg5
    clear hg5 l1 m1 hL4s hR4s hG4s hK3s
    obtain ⟨l0, l1, l2, m2⟩ : w5.cell? ⟨w2.heap.size, 0, none⟩ = some (.int .i64 (1 + r)) ∧ w5.cell? ⟨w2.heap.size, 1, none⟩ = some (.string c) ∧ w5.cell? ⟨w2.heap.size, 2, none⟩ = some (.int .i64 (1 + s)) ∧ w5.frozen? ⟨w2.heap.size, 2, none⟩ = false := ⟨hL5.cell 0, hL5.cell 1, hL5.cell 2, hL5.frozen 2⟩
    obtain ⟨r0, r1, r2, q0, q1, q2⟩ : w5.cell? ⟨w.heap.size, 0, none⟩ = some (.int .i64 0) ∧ w5.cell? ⟨w.heap.size, 1, none⟩ = some (.string ⟨#[]⟩) ∧ w5.cell? ⟨w.heap.size, 2, none⟩ = some (.int .i64 0) ∧ w5.frozen? ⟨w.heap.size, 0, none⟩ = false ∧ w5.frozen? ⟨w.heap.size, 1, none⟩ = false ∧ w5.frozen? ⟨w.heap.size, 2, none⟩ = false := ⟨hR5.cell 0, hR5.cell 1, hR5.cell 2, hR5.frozen 0, hR5.frozen 1, hR5.frozen 2⟩
    have hne : ¬ w.heap.size = w2.heap.size := by omega
    have hne' : ¬ w2.heap.size = w.heap.size := by omega
    cases ht : (t == 0)
    · go_wp2
      refine bodyPost_ret (v := .agg #[.int .i64 (1 + r), .string c, .int .i64 (1 + s)]) (by simp [results, Tryz.results27, go_sem, *]) rfl ⟨⟨1 + r, c, 1 + s⟩, form_made hr1 hr2 (by omega) (.inr ⟨hbare, hc⟩), ⟨by show (-600001 : Int) ≤ 1 + s; omega, by show 1 + s ≤ 600001; omega⟩, rfl, d4, by omega, ?_, ?_⟩
      · exact hK5.keep (gb_set (gb_set (gb_set (World.grownBy.refl _ (some w.heap.size)) (.inl rfl) _) (.inl rfl) _) (.inl rfl) _) (fun k hk => by injection hk; omega)
      · exact gb_set (gb_set (gb_set hG5 (.inr (Nat.le_refl _)) _) (.inr (Nat.le_refl _)) _) (.inr (Nat.le_refl _)) _
    · go_wp2
      refine bodyPost_ret (v := .agg #[.int .i64 (1 + r), .string c, .int .i64 (-(1 + s))]) (by simp [results, Tryz.results27, go_sem, *]) rfl ⟨⟨1 + r, c, -(1 + s)⟩, form_made hr1 hr2 (by omega) (.inr ⟨hbare, hc⟩), ⟨by show (-600001 : Int) ≤ -(1 + s); omega, by show -(1 + s) ≤ 600001; omega⟩, rfl, d4, by omega, ?_, ?_⟩
      · exact (hK5.keep (gb_set (World.grownBy.refl _ (some w2.heap.size)) (.inl rfl) _) (fun k hk => by injection hk; omega)).keep (gb_set (gb_set (gb_set (World.grownBy.refl _ (some w.heap.size)) (.inl rfl) _) (.inl rfl) _) (.inl rfl) _) (fun k hk => by injection hk; omega)
      · exact gb_set (gb_set (gb_set (gb_set hG5 (.inr (by show w.heap.size ≤ w2.heap.size; omega)) _) (.inr (Nat.le_refl _)) _) (.inr (Nat.le_refl _)) _) (.inr (Nat.le_refl _)) _
  · go_wp2_with (go_at_call 42; refine (refBare_any _ _).mono ?_; rintro e w' ⟨rfl, rfl⟩; rw [hbare])
    refine (Next_draw D d2 _ _ (hK2.below ((Below.refl _ _).alloc (Nat.le_refl _) _)) (by omega) (by omega) (by omega)).mono ?_
    rintro e w5 ⟨t, ⟨ht1, ht2⟩, rfl, d4, hd4, hK5, hg5⟩
    have hL5 : Row w5 w2.heap.size 51 #[.int .i64 (1 + r), .string ⟨#[]⟩, .int .i64 (1 + s)] := (hL2 _).keep hg5 (by intro e; injection e; omega)
    have hR5 := (hR2.alloc (.cells #[.int .i64 (1 + r), .string ⟨#[]⟩, .int .i64 (1 + s)] 51)).keep hg5 (by intro e; injection e; omega)
    have hG5 := gb_trans (gb_alloc hG2 _) hg5
    clear hg5
    obtain ⟨l0, l1, l2, m2⟩ : w5.cell? ⟨w2.heap.size, 0, none⟩ = some (.int .i64 (1 + r)) ∧ w5.cell? ⟨w2.heap.size, 1, none⟩ = some (.string ⟨#[]⟩) ∧ w5.cell? ⟨w2.heap.size, 2, none⟩ = some (.int .i64 (1 + s)) ∧ w5.frozen? ⟨w2.heap.size, 2, none⟩ = false := ⟨hL5.cell 0, hL5.cell 1, hL5.cell 2, hL5.frozen 2⟩
    obtain ⟨r0, r1, r2, q0, q1, q2⟩ : w5.cell? ⟨w.heap.size, 0, none⟩ = some (.int .i64 0) ∧ w5.cell? ⟨w.heap.size, 1, none⟩ = some (.string ⟨#[]⟩) ∧ w5.cell? ⟨w.heap.size, 2, none⟩ = some (.int .i64 0) ∧ w5.frozen? ⟨w.heap.size, 0, none⟩ = false ∧ w5.frozen? ⟨w.heap.size, 1, none⟩ = false ∧ w5.frozen? ⟨w.heap.size, 2, none⟩ = false := ⟨hR5.cell 0, hR5.cell 1, hR5.cell 2, hR5.frozen 0, hR5.frozen 1, hR5.frozen 2⟩
    have hne : ¬ w.heap.size = w2.heap.size := by omega
    have hne' : ¬ w2.heap.size = w.heap.size := by omega
    cases ht : (t == 0)
    · go_wp2
      refine bodyPost_ret (v := .agg #[.int .i64 (1 + r), .string ⟨#[]⟩, .int .i64 (1 + s)]) (by simp [results, Tryz.results27, go_sem, *]) rfl ⟨⟨1 + r, ⟨#[]⟩, 1 + s⟩, form_made hr1 hr2 (by omega) (.inl ⟨hbare, rfl⟩), ⟨by show (-600001 : Int) ≤ 1 + s; omega, by show 1 + s ≤ 600001; omega⟩, rfl, d4, by omega, ?_, ?_⟩
      · exact hK5.keep (gb_set (gb_set (gb_set (World.grownBy.refl _ (some w.heap.size)) (.inl rfl) _) (.inl rfl) _) (.inl rfl) _) (fun k hk => by injection hk; omega)
      · exact gb_set (gb_set (gb_set hG5 (.inr (Nat.le_refl _)) _) (.inr (Nat.le_refl _)) _) (.inr (Nat.le_refl _)) _
    · go_wp2
      refine bodyPost_ret (v := .agg #[.int .i64 (1 + r), .string ⟨#[]⟩, .int .i64 (-(1 + s))]) (by simp [results, Tryz.results27, go_sem, *]) rfl ⟨⟨1 + r, ⟨#[]⟩, -(1 + s)⟩, form_made hr1 hr2 (by omega) (.inl ⟨hbare, rfl⟩), ⟨by show (-600001 : Int) ≤ -(1 + s); omega, by show -(1 + s) ≤ 600001; omega⟩, rfl, d4, by omega, ?_, ?_⟩
      · exact (hK5.keep (gb_set (World.grownBy.refl _ (some w2.heap.size)) (.inl rfl) _) (fun k hk => by injection hk; omega)).keep (gb_set (gb_set (gb_set (World.grownBy.refl _ (some w.heap.size)) (.inl rfl) _) (.inl rfl) _) (.inl rfl) _) (fun k hk => by injection hk; omega)
      · exact gb_set (gb_set (gb_set (gb_set hG5 (.inr (by show w.heap.size ≤ w2.heap.size; omega)) _) (.inr (Nat.le_refl _)) _) (.inr (Nat.le_refl _)) _) (.inr (Nat.le_refl _)) _

end Go.Proofs.YtjbhabfflcbebaaGreat
