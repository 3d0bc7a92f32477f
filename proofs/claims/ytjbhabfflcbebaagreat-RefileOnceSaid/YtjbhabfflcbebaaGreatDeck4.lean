/- Contract of paygen.Deck.Book: a book of few runs. -/
import Derived.Test.YtjbhabfflcbebaaGreatDeck3
import Derived.Test.YtjbhabfflcbebaaGreatBk3
namespace Go.Proofs.YtjbhabfflcbebaaGreat
open Go.RowKit

/-- a posting as the deck makes them, of a run up to R -/
def GoodP (R : Int) (p : Pst) : Prop := validB p = true ∧ p.run ≤ R ∧ (1 ≤ p.emp ∧ p.emp ≤ 3) ∧ (0 ≤ p.per ∧ p.per ≤ 2) ∧ (-600001 ≤ p.ln.amt ∧ p.ln.amt ≤ 600001)
/-- a book as the deck makes them -/
def Good (l : List Pst) (R : Int) : Prop := ascB l = true ∧ ∀ p ∈ l, GoodP R p
theorem Good.nil (R : Int) : Good [] R := ⟨rfl, fun _ h => by cases h⟩
theorem Good.mono {l : List Pst} {R R' : Int} (h : Good l R) (hR : R ≤ R') : Good l R' := ⟨h.1, fun p hp => ⟨(h.2 p hp).1, Int.le_trans (h.2 p hp).2.1 hR, (h.2 p hp).2.2⟩⟩
theorem asc_snoc {l : List Pst} {p : Pst} (h : ascB l = true) (hl : ∀ q ∈ l, q.run ≤ p.run) : ascB (l ++ [p]) = true := by
  rw [ascB_iff] at *
  intro j hj
  simp only [List.length_append, List.length_singleton] at hj
  by_cases h1 : j + 1 < l.length
  · rw [List.getElem_append_left (by omega), List.getElem_append_left h1]; exact h j h1
  · have e : j + 1 = l.length := by omega
    rw [List.getElem_append_left (by omega), List.getElem_append_right (by omega)]
    simp only [e, Nat.sub_self, List.getElem_cons_zero]
    exact hl _ (List.getElem_mem _)
theorem Good.snoc {l : List Pst} {R : Int} (h : Good l R) {p : Pst} (hp : GoodP R p) (hr : p.run = R) : Good (l ++ [p]) R :=
  ⟨asc_snoc h.1 fun q hq => by rw [hr]; exact (h.2 q hq).2.1, fun q hq => by
    rcases List.mem_append.1 hq with hq | hq
    · exact h.2 q hq
    · rw [List.mem_singleton.1 hq]; exact hp⟩
theorem Good.book {l : List Pst} {R : Int} (h : Good l R) (hl : l.length ≤ 65536) : bookB l = true := by
  have h2 : validsB l = true := List.all_eq_true.2 fun p hp => (h.2 p hp).1
  rw [bookB, h.1, h2]; simpa using hl
theorem Own.keepD {w w' : World} {base e sz D : Nat} {v : Value} {es : List (List Value)} (h : Own w base e sz v es) (hg : w.grownBy w' (some D)) (hD : D < base) : Own w' base e sz v es :=
  ⟨h.1.kept hg (.inr fun hv => by have := (h.1.lt D hv).1; omega), h.2⟩
theorem valid_made {r m p : Int} {x : Ln} (h1 : 1 ≤ r) (h2 : r ≤ 256) (h3 : 1 ≤ m) (h4 : m ≤ 3) (h5 : 0 ≤ p) (h6 : p ≤ 2) (hx : formB x = true) : validB ⟨r, m, p, x⟩ = true := by
  have q1 : decide (1 ≤ r) = true := by simpa using h1
  have q2 : decide (r ≤ 256) = true := by simpa using h2
  have q3 : decide (1 ≤ m) = true := by simpa using h3
  have q4 : decide (m ≤ 2147483647) = true := by simp; omega
  have q5 : decide (0 ≤ p) = true := by simpa using h5
  have q6 : decide (p ≤ 84005) = true := by simp; omega
  simp only [validB, q1, q2, q3, q4, q5, q6, hx, Bool.true_and]

def BookPost (w : World) (D dr n : Nat) (e : Ending) (w' : World) : Prop :=
  ∃ (x : Value) (l : List Pst) (R : Int) (d : Nat), e = .returned x ∧ Good l R ∧ R ≤ 2 * n ∧ l.length ≤ 4 * n ∧ Own w' w.heap.size 53 6 x (psts l) ∧ Deck w' D d ∧ d ≤ dr + 1 + 34 * n ∧ w.grownBy w' (some D)

set_option maxRecDepth 100000 in
set_option maxHeartbeats 1600000 in
theorem DBook_any (D dr n : Nat) (w : World) (hd : Deck w D dr) (hdr : dr ≤ 1000000) (hn : n ≤ 100) :
    Calls Tryz.prog 17 #[.pointer (some ⟨D, 0, none⟩), .int .i64 n] w (BookPost w D dr n) := by
  have hD := hd.lt
  go_enter Tryz.func17, Tryz.ntmps17
  go_wp2_with fail
  refine (Next_draw D dr _ _ hd (by omega) (by omega) (by omega)).mono ?_
  rintro e w1 ⟨r, ⟨hr1, hr2⟩, rfl, d1, hd1, hK1, hg1⟩
  obtain ⟨K, rfl⟩ := Int.eq_ofNat_of_zero_le hr1
  have hKn : K ≤ n := by omega
  go_wp2_with fail
  go_loopw [5, 6, 7] (fun t5 t6 t7 wr => ∃ (k d : Nat) (R : Int) (l : List Pst), k ≤ K ∧ t7 = .int .i64 k ∧ t6 = .int .i64 R ∧ (0 ≤ R ∧ R ≤ 2 * ((K : Int) - k)) ∧ Hid (Good l R) ∧ l.length ≤ 4 * (K - k) ∧ Own wr w.heap.size 53 6 t5 (psts l) ∧ Deck wr D d ∧ d ≤ dr + 1 + 34 * (K - k) ∧ w.grownBy wr (some D)) (fun _ _ t7 _ => (intOf t7).toNat)
  case atStart => exact ⟨K, d1, 0, [], Nat.le_refl _, rfl, rfl, ⟨by omega, by omega⟩, Good.nil 0, by simp, Own.nil _ _ _ _, hK1, by omega, hg1⟩
  case round =>
    obtain ⟨k, d, R, l, hk, rfl, rfl, ⟨hR0, hR1⟩, HG, hll, hown, hK, hdd, hg⟩ := hrel
    clear hK1 hg1
    by_cases hpos : 0 < k
    · go_wp2_with fail
      refine (Next_draw D d _ _ hK (by omega) (by omega) (by omega)).mono ?_
      rintro e w2 ⟨s, ⟨hs1, hs2⟩, rfl, d2, hd2, hK2, hg2⟩
      have hown2 := hown.keepD hg2 hD
      have hG2 := gb_trans hg hg2
      clear hown hg hg2 hK
      go_wp2_with fail
      refine (Next_draw D d2 _ _ hK2 (by omega) (by omega) (by omega)).mono ?_
      rintro e w3 ⟨m, ⟨hm1, hm2⟩, rfl, d3, hd3, hK3, hg3⟩
      obtain ⟨M, rfl⟩ := Int.eq_ofNat_of_zero_le hm1
      have hown3 := hown2.keepD hg3 hD
      have hG3 := gb_trans hG2 hg3
      have HG' := Lib.hid (HG.out.mono (show R ≤ R + (1 + s) by omega))
      clear hown2 hG2 hg3 hK2 HG
      obtain ⟨R', hR'⟩ : ∃ R' : Int, R' = R + (1 + s) := ⟨_, rfl⟩
      have hRlo : 1 ≤ R' := by omega
      have hRhi : R' ≤ 2 * ((K : Int) - k) + 2 := by omega
      rw [← hR'] at HG'
      go_wp2_with fail
      rw [← hR']
      clear hR'
      obtain ⟨wo, rfl⟩ : ∃ wo : World, wo = w3 := ⟨_, rfl⟩
      go_loopw [5, 8] (fun t5 t8 wr => ∃ (m e : Nat) (f : List Pst), m ≤ M ∧ t8 = .int .i64 m ∧ Hid (Good f R') ∧ f.length ≤ 4 * (K - k) + (M - m) ∧ Own wr w.heap.size 53 6 t5 (psts f) ∧ Deck wr D e ∧ e ≤ d3 + 8 * (M - m) ∧ w.grownBy wr (some D)) (fun _ t8 _ => (intOf t8).toNat)
      case atStart => exact ⟨M, d3, l, Nat.le_refl _, rfl, HG', by omega, hown3, hK3, by omega, hG3⟩
      case round =>
        obtain ⟨m, e, f, hmM, rfl, HF, hfl, hownf, hKf, hef, hgf⟩ := hrel
        clear hown3 hK3 hG3
        by_cases hmp : 0 < m
        · go_wp2_with fail
          refine (Next_draw D e _ _ hKf (by omega) (by omega) (by omega)).mono ?_
          rintro _ w4 ⟨a, ⟨ha1, ha2⟩, rfl, e1, he1, hK4, hg4⟩
          have hown4 := hownf.keepD hg4 hD
          have hG4 := gb_trans hgf hg4
          clear hownf hgf hg4 hKf
          go_wp2_with fail
          refine (Next_draw D e1 _ _ hK4 (by omega) (by omega) (by omega)).mono ?_
          rintro _ w5 ⟨b, ⟨hb1, hb2⟩, rfl, e2, he2, hK5, hg5⟩
          have hown5 := hown4.keepD hg5 hD
          have hG5 := gb_trans hG4 hg5
          clear hown4 hG4 hg5 hK4
          go_wp2_with fail
          refine (Line_any D e2 _ hK5 (by omega)).mono ?_
          rintro _ w6 ⟨x, hx1, ⟨hx2, hx3⟩, rfl, e3, he3, hK6, hg6⟩
          have hown6 := hown5.keepD hg6 hD
          have hG6 := gb_trans hG5 hg6
          have hs6 := hG6.size
          clear hown5 hG5 hg6 hK5
          have HN : Hid (Good (f ++ [⟨R', 1 + a, b, x⟩]) R') := HF.out.snoc ⟨valid_made hRlo (by omega) (by omega) (by omega) hb1 (by omega) hx1, Int.le_refl _, ⟨by show (1 : Int) ≤ 1 + a; omega, by show 1 + a ≤ 3; omega⟩, ⟨hb1, by show b ≤ 2; omega⟩, hx2, hx3⟩ rfl
          go_wp2_with (at_builtin; refine wpList_append_sl rfl (.tmp 28) (.tmp 38) rfl rowPst w.heap.size _ _ _ (psts [⟨R', 1 + a, b, x⟩]) rfl (hown6.alloc _) rfl (Sl.one rfl rfl) (psts_wide _) (by rw [psts_len, psts_len]; unfold maxLen; simp; omega) (by rw [psts_len, psts_len]; simp; omega) (by simp; omega) ?_; intro v7 w7 hown7 hg7 _; have hG7 := gb_new (gb_alloc hG6 _) hg7 (fun g hg => (hown6.1.lt g hg).1); have hK7 := (hK6.below ((Below.refl _ _).alloc (Nat.le_refl _) _)).keep hg7 (fun g hg => Nat.lt_of_lt_of_le hD (hown6.1.lt g hg).1); rw [← psts_append] at hown7)
          go_roundw
          case rel => exact ⟨m - 1, e3, _, by omega, by go_num, HN, by simp; omega, hown7, hK7, by omega, hG7⟩
          case measure => simp [intOf]; omega
        · obtain rfl : m = 0 := by omega
          go_wp2
          go_roundw
          case rel => exact ⟨k - 1, e, R', f, by omega, by go_num, rfl, ⟨by omega, by omega⟩, HF, by omega, hownf, hKf, by omega, hgf⟩
          case measure => simp [intOf]; omega
    · go_wp2
      go_ret
      exact ⟨_, l, R, d, rfl, HG.out, by omega, by omega, hown, hK, by omega, hg⟩

end Go.Proofs.YtjbhabfflcbebaaGreat
