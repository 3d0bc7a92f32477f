/- Contract of paygen.Deck.File: a valid file of at most four payments. -/
import Derived.Test.YtlchcfkngjbdjaaGreatDoorTDeck
import Derived.Test.YtlchcfkngjbdjaaGreatDoorTPar
namespace Go.Proofs.YtlchcfkngjbdjaaGreatDoor
open Go.RowKit

theorem payOk_snoc : ∀ {b : Int} {l : List Pay} {h : Int} {p : Pay}, payOk b l = true → (∀ q ∈ l, q.e ≤ h) → b ≤ h → h < p.e → p.e ≤ 2147483647 → 1 ≤ p.a → p.a ≤ 1000000000000 → payOk b (l ++ [p]) = true
  | b, [], h, p, _, _, h1, h2, h3, h4, h5 => by
    simp only [List.nil_append, payOk, Bool.and_true, decide_eq_true_eq]; omega
  | b, q :: r, h, p, h0, hq, h1, h2, h3, h4, h5 => by
    simp only [payOk, Bool.and_eq_true, decide_eq_true_eq, List.cons_append] at h0 ⊢
    exact ⟨h0.1, payOk_snoc h0.2 (fun x hx => hq x (by simp [hx])) (hq q (by simp)) h2 h3 h4 h5⟩
/-- what the payments of a drawn file hold -/
def FlI (who : Int) (acc : List Pay) : Prop := payOk 0 acc = true ∧ (∀ p ∈ acc, 1 ≤ p.e ∧ p.e ≤ who ∧ 1 ≤ p.a ∧ p.a ≤ 600001) ∧ 0 ≤ who ∧ who ≤ 3 * acc.length
theorem FlI.app {who : Int} {acc : List Pay} (h : FlI who acc) {q a : Int} (hq : 0 ≤ q) (hq2 : q < 3) (ha : 0 ≤ a) (ha2 : a ≤ 600000) (hl : acc.length ≤ 4) : FlI (who + (1 + q)) (acc ++ [⟨who + (1 + q), 1 + a⟩]) := by
  obtain ⟨h1, h2, h3, h4⟩ := h
  refine ⟨payOk_snoc h1 (fun p hp => (h2 p hp).2.1) h3 (by simp only; omega) (by simp only; omega) (by simp only; omega) (by simp only; omega), fun p hp => ?_, by omega, by simp; omega⟩
  rcases List.mem_append.1 hp with hp | hp
  · have := h2 p hp; omega
  · obtain rfl := List.mem_singleton.1 hp
    simp only; omega
/-- a drawn file -/
def FlG (f : Fil) : Prop := filB f = true ∧ f.n ≤ 5 ∧ f.l.length ≤ 4 ∧ ∀ p ∈ f.l, 1 ≤ p.e ∧ p.e ≤ 12 ∧ 1 ≤ p.a ∧ p.a ≤ 600001
theorem FlI.good {who n d : Int} {acc : List Pay} (h : FlI who acc) (hl : acc.length ≤ 4) (h1 : 1 ≤ n) (h2 : n ≤ 5) (h3 : 0 ≤ d) (h4 : d ≤ 84005) : FlG ⟨n, d, acc⟩ := by
  obtain ⟨k1, k2, k3, k4⟩ := h
  refine ⟨?_, h2, hl, fun p hp => by have := k2 p hp; omega⟩
  rw [filB]
  simp only [k1, Bool.and_true, decide_eq_true_eq]
  omega
/-- what File leaves -/
def FilPost (w : World) (D dr : Nat) (e : Ending) (w' : World) : Prop :=
  ∃ f : Fil, ∃ v, e = .returned (.agg (f.vals v)) ∧ FlG f ∧ Own w' w.heap.size 46 2 v (pays f.l) ∧ ∃ dr', dr' ≤ dr + 15 ∧ Deck w' D dr' ∧ w.grownBy w' (some D)
/-- where the loop stands -/
structure FlS (w0 : World) (B D dr r m : Nat) (n d : Int) (v : Value) (acc : List Pay) (wr : World) : Prop where
  own : Own wr B 46 2 v (pays acc)
  deck : Deck wr D dr
  grown : w0.grownBy wr (some D)
  res : Row wr r 37 #[.int .i64 0, .int .i64 0, .slice none 0 0]
  box : Row wr m 37 #[.int .i64 n, .int .i64 d, v]
  lowD : D < w0.heap.size
  lr : w0.heap.size ≤ r ∧ r < m
  lm : m < B ∧ B ≤ wr.heap.size
theorem FlS.ne {w0 wr : World} {B D dr r m : Nat} {n d : Int} {v : Value} {acc : List Pay} (h : FlS w0 B D dr r m n d v acc wr) {k : Nat} (hk : k < B) : v.ownBlock = none ∨ v.ownBlock ≠ some k := by
  rcases hv : v.ownBlock with _ | j
  · exact .inl rfl
  · refine .inr fun e => ?_
    have := (h.own.1.lt j hv).1
    injection e; omega
theorem FlS.draw {w0 wr w' : World} {B D dr dr' r m : Nat} {n d : Int} {v : Value} {acc : List Pay} (h : FlS w0 B D dr r m n d v acc wr) (ht : Deck w' D dr') (hg : wr.grownBy w' (some D)) : FlS w0 B D dr' r m n d v acc w' := by
  have h1 := h.lowD
  have h2 := h.lr
  have h3 := h.lm
  exact ⟨h.own.keepG hg (h.ne (by omega)), ht, gb_trans h.grown hg, h.res.keep hg (by intro e; injection e; omega), h.box.keep hg (by intro e; injection e; omega), h1, h2, h3.1, by have := hg.size; omega⟩
theorem FlS.drew {w0 wr : World} {B D dr r m : Nat} {n d : Int} {v : Value} {acc : List Pay} (h : FlS w0 B D dr r m n d v acc wr) : FlS w0 B D dr r m n d v acc wr.drew :=
  h.draw (h.deck.below (below_a0 wr)) (gb_below (World.grownBy.refl _ _) (below_a0 wr))
theorem FlS.boxed {w0 wr : World} {B D dr r m : Nat} {n d : Int} {v : Value} {acc : List Pay} (h : FlS w0 B D dr r m n d v acc wr) : wr.cell? ⟨m, 2, none⟩ = some v ∧ wr.frozen? ⟨m, 2, none⟩ = false ∧ m < wr.heap.size := ⟨(row3 h.box).1.2.2.1, (row3 h.box).2.2.2, h.box.lt⟩
theorem FlS.app {w0 w5 : World} {B D dr r m : Nat} {n d : Int} {v : Value} {acc : List Pay} (h : FlS w0 B D dr r m n d v acc w5) (p : Pay) {o : Obj} {v7 : Value} {w7 : World}
    (hown7 : Own w7 B 46 2 v7 (pays acc ++ [p.vals])) (hg7 : (w5.alloc o).grownBy w7 v.ownBlock) : FlS w0 B D dr r m n d v7 (acc ++ [p]) (w7.setCell ⟨m, 2, none⟩ v7) ∧ w7.cell? ⟨m, 2, none⟩ = some v ∧ w7.frozen? ⟨m, 2, none⟩ = false ∧ m < w7.heap.size := by
  have h1 := h.lowD
  have h2 := h.lr
  have h3 := h.lm
  have hz := hg7.size
  rw [World.size_alloc] at hz
  have hlow : ∀ g, v.ownBlock = some g → B ≤ g := fun g hg => (h.own.1.lt g hg).1
  have hne : ∀ k, k < B → some k ≠ v.ownBlock := fun k hk e => by have := hlow k e.symm; omega
  have hal := (Below.refl w5.heap.size w5).alloc (Nat.le_refl _) o
  have hb7 := (h.box.below hal h.box.lt).keep hg7 (hne m (by omega))
  have hr7 := (h.res.below hal h.res.lt).keep hg7 (hne r (by omega))
  have hd7 := (h.deck.below hal).keep hg7 (fun k hk => by have := hlow k hk; omega)
  have hG7 := gb_new (gb_below h.grown hal) hg7 (fun g hg => by have := hlow g hg; omega)
  refine ⟨⟨?_, hd7.keep (grown_set w7 m 2 v7) (fun k hk => by injection hk; omega), gb_set hG7 (.inr (by simp only; omega)) _, hr7.far (p := ⟨m, 2, none⟩) (by simp only; omega) _, hb7.set 2 _, h1, h2, h3.1, by simp only [World.size_setCell]; omega⟩, (row3 hb7).1.2.2.1, (row3 hb7).2.2.2, hb7.lt⟩
  rw [pays_append]
  refine hown7.keepG (grown_set w7 m 2 v7) ?_
  rcases hv : v7.ownBlock with _ | j
  · exact .inl rfl
  · refine .inr fun e => ?_
    have := (hown7.1.lt j hv).1
    injection e; omega
theorem FlS.fin {w0 wr : World} {B D dr r m : Nat} {n d : Int} {v : Value} {acc : List Pay} (h : FlS w0 B D dr r m n d v acc wr) (x y z : Value) :
    Own (((wr.setCell ⟨r, 0, none⟩ x).setCell ⟨r, 1, none⟩ y).setCell ⟨r, 2, none⟩ z) w0.heap.size 46 2 v (pays acc) ∧ Deck (((wr.setCell ⟨r, 0, none⟩ x).setCell ⟨r, 1, none⟩ y).setCell ⟨r, 2, none⟩ z) D dr ∧ w0.grownBy (((wr.setCell ⟨r, 0, none⟩ x).setCell ⟨r, 1, none⟩ y).setCell ⟨r, 2, none⟩ z) (some D) := by
  have h1 := h.lowD
  have h2 := h.lr
  have h3 := h.lm
  have hs : ∀ (W : World) (i : Nat) (u : Value), W.grownBy (W.setCell ⟨r, i, none⟩ u) (some r) := fun W i u => grown_set W r i u
  have hn := h.ne (k := r) (by omega)
  exact ⟨(((h.own.keepG (hs _ 0 x) hn).keepG (hs _ 1 y) hn).keepG (hs _ 2 z) hn).more (by omega), ((h.deck.keep (hs _ 0 x) (fun k hk => by injection hk; omega)).keep (hs _ 1 y) (fun k hk => by injection hk; omega)).keep (hs _ 2 z) (fun k hk => by injection hk; omega),
    gb_set (gb_set (gb_set h.grown (.inr (by simp only; omega)) x) (.inr (by simp only; omega)) y) (.inr (by simp only; omega)) z⟩

set_option maxRecDepth 100000 in
set_option maxHeartbeats 2000000 in
theorem File_any (D dr : Nat) (w : World) (hd : Deck w D dr) (hdr : dr ≤ 1099511627700) :
    Calls Tryz.prog 11 #[.pointer (some ⟨D, 0, none⟩)] w (FilPost w D dr) := by
  have hlt := hd.lt
  go_enter Tryz.func11, Tryz.ntmps11
  go_wp2_with fail
  refine (Next_any D dr _ _ (hd.below ((Below.refl _ _).alloc (Nat.le_refl _) _)) (by omega) (by omega) (by omega)).mono ?_
  rintro e w1 ⟨n0, ⟨i1, i2⟩, rfl, hd1, hg1⟩
  have hr1 := (Row.new w 37 #[.int .i64 0, .int .i64 0, .slice none 0 0]).keep hg1 (by intro e; injection e; omega)
  have hG1 := gb_trans (gb_alloc (World.grownBy.refl w (some D)) (.cells #[.int .i64 0, .int .i64 0, .slice none 0 0] 37)) hg1
  have hs1 := hr1.lt
  clear hg1
  go_wp2_with fail
  refine (Pick_any D (dr + 1) w1.heap.size 3 [0, 30, 84005] _ (hd1.below ((Below.refl _ _).alloc (Nat.le_refl _) _)) (by omega) (by simp) (by simp) (by omega) (cellsAt_ints _ _ _ _ rfl)).mono ?_
  rintro e w2 ⟨d0, hd0, rfl, hd2, hg2⟩
  have j12 : 0 ≤ d0 ∧ d0 ≤ 84005 := by simp at hd0; omega
  obtain ⟨j1, j2⟩ := j12
  have hr2 := (hr1.alloc (.cells #[.int .i64 0, .int .i64 30, .int .i64 84005] 3)).keep hg2 (by intro e; injection e; omega)
  have hG2 := gb_trans (gb_alloc hG1 (.cells #[.int .i64 0, .int .i64 30, .int .i64 84005] 3)) hg2
  have hs2 := hr2.lt
  clear hg2 hd0 hd1 hr1 hG1
  go_wp2_with fail
  refine (Next_any D (dr + 1 + 1) _ _ (hd2.below ((Below.refl _ _).alloc (Nat.le_refl _) _)) (by omega) (by omega) (by omega)).mono ?_
  rintro e w3 ⟨k0, ⟨l1, l2⟩, rfl, hd3, hg3⟩
  have hr3 := (hr2.alloc (.cells #[.int .i64 (1 + n0), .int .i64 d0, .slice none 0 0] 37)).keep hg3 (by intro e; injection e; omega)
  have hx3 := (Row.new w2 37 #[.int .i64 (1 + n0), .int .i64 d0, .slice none 0 0]).keep hg3 (by intro e; injection e; omega)
  have hG3 := gb_trans (gb_alloc hG2 (.cells #[.int .i64 (1 + n0), .int .i64 d0, .slice none 0 0] 37)) hg3
  obtain ⟨k0, rfl⟩ := Int.eq_ofNat_of_zero_le l1
  have S0 : FlS w w3.heap.size D (dr + 3) w.heap.size w2.heap.size (1 + n0) d0 (.slice none 0 0) [] w3 :=
    ⟨Own.nil _ _ _ _, hd3, hG3, hr3, hx3, hlt, ⟨Nat.le_refl _, hs2⟩, hx3.lt, Nat.le_refl _⟩
  have HI0 : FlI 0 [] := ⟨rfl, fun p hp => (by cases hp), by omega, by simp⟩
  obtain ⟨B, hB⟩ : ∃ B, w3.heap.size = B := ⟨_, rfl⟩
  obtain ⟨m, hm⟩ : ∃ m, w2.heap.size = m := ⟨_, rfl⟩
  obtain ⟨r, hr⟩ : ∃ r, w.heap.size = r := ⟨_, rfl⟩
  rw [hB, hm, hr] at S0
  rw [hm, hr]
  have hrw := Nat.le_of_eq hr
  have HRW := Lib.hid hr
  clear hB hm hr hg3 hd2 hd3 hr2 hr3 hx3 hG2 hG3 hs1 hs2 l1
  go_wp2_with fail
  go_loopw [4, 5] (fun x y wr => ∃ acc : List Pay, ∃ v, ∃ who : Int, ∃ k dr' : Nat, x = .int .i64 who ∧ y = .int .i64 k ∧ acc.length + k ≤ 4 ∧ dr' ≤ dr + 3 + 3 * acc.length ∧ Hid (FlI who acc) ∧ Hid (FlS w B D dr' r m (1 + n0) d0 v acc wr)) (fun _ y _ => (intOf y).toNat)
  case atStart => exact ⟨[], _, 0, k0, dr + 3, rfl, rfl, by simp; omega, by simp, HI0, S0⟩
  case round =>
    clear S0 HI0 l2
    obtain ⟨acc, v, who, k, dr', rfl, rfl, hk, hdr', HI, HS⟩ := hrel
    obtain ⟨wo, rfl⟩ : ∃ wo : World, wo = wr := ⟨_, rfl⟩
    by_cases hk0 : 0 < k
    · obtain ⟨k, rfl⟩ : ∃ j, k = j + 1 := ⟨k - 1, by omega⟩
      go_wp2_with fail
      refine (Next_any D dr' _ wo HS.out.deck (by omega) (by omega) (by omega)).mono ?_
      rintro e w5 ⟨q, ⟨q1, q2⟩, rfl, hd5, hg5⟩
      have HS5 := Lib.hid (HS.out.draw hd5 hg5)
      have HD5 := Lib.hid HS5.out.drew
      obtain ⟨c5, f5, m5⟩ := HS5.out.boxed
      have hw1 := HI.out.2.2.1
      have hw2 := HI.out.2.2.2
      have hle : acc.length ≤ 4 := by omega
      clear hd5 hg5 HS
      go_wp2_with fail
      go_region_law (first | (refine step_append_sl rfl (.tmp 25) (.tmp 31) rfl rowPay B _ _ (pays acc) [Pay.vals ⟨who + (1 + q), 1 + a⟩] rfl (H8.out.own.alloc _) rfl (Sl.one rfl rfl) (pay_wide _) (by simp only [pays_len, List.length_cons, List.length_nil]; unfold maxLen; omega) (by simp only [pays_len, List.length_cons, List.length_nil]; omega) (by have := H8.out.lm; simp only [World.size_alloc]; omega) ?_; intro v7 w7 hown7 hg7 hv7; obtain ⟨g7, c7, rfl, hc7⟩ := hown7.form1 (by simp); simp only [List.length_append, pays_len, List.length_cons, List.length_nil, Nat.zero_add] at hown7 hg7 hv7 hc7 ⊢; have H7 := Lib.hid (H8.out.app ⟨who + (1 + q), 1 + a⟩ hown7 hg7); have y2 := H7.out.2.1; have y3 := H7.out.2.2.1; have y4 := H7.out.2.2.2; clear hown7 hg7 hv7) | (go_simp; refine (Small_any D (dr' + 1) _ HD5.out.deck (by omega)).mono ?_; rintro e w8 ⟨a, ⟨a1, a2⟩, rfl, dr2, hdr2, hd8, hg8⟩; have H8 := Lib.hid (HD5.out.draw hd8 hg8); obtain ⟨c8, f8, m8⟩ := H8.out.boxed; have ew : IntKind.i64.wrap (1 + a) = 1 + a := IntWalk.i64_in _ (by omega); clear hd8 hg8))
      all_goals
        clear c5 f5 m5 c8 f8 m8 y2 y3 y4 ew
        go_wp2
        have R := Lib.hid H7.out.1
        have HI2 := Lib.hid (HI.out.app q1 q2 a1 a2 hle)
        refine ⟨⟨acc ++ [Pay.mk (who + (1 + q)) (1 + a)], .slice (some ⟨g7, 0, none⟩) (acc.length + 1) c7, who + (1 + q), k, dr2, rfl, ?_, ?_, ?_, HI2, R⟩, ?_⟩
        · go_num
        · simp only [List.length_append, List.length_cons, List.length_nil]; omega
        · simp only [List.length_append, List.length_cons, List.length_nil]; omega
        · simp only [intOf]; omega
    · obtain rfl : k = 0 := by omega
      obtain ⟨Av, cv, rfl⟩ := HS.out.own.form
      rw [pays_len] at HS
      obtain ⟨⟨b0, b1, b2, bl⟩, -⟩ := row3 HS.out.box
      obtain ⟨⟨a0, a1, a2, al⟩, ⟨e0, e1, e2⟩⟩ := row3 HS.out.res
      have hF := HS.out.fin (.int .i64 (1 + n0)) (.int .i64 d0) (.slice Av acc.length cv)
      have HF := Lib.hid hF
      have hG : FlG ⟨1 + n0, d0, acc⟩ := HI.out.good (by omega) (by omega) (by omega) j1 j2
      have HG := Lib.hid hG
      have hmr := HS.out.lr.2
      have HR := Lib.hid (HS.out.res.set3 (.int .i64 (1 + n0)) (.int .i64 d0) (.slice Av acc.length cv))
      have HRWR := Lib.hid hrw
      clear hF hG HRW
      go_wp2
      obtain ⟨⟨x0, x1, x2, _⟩, _⟩ := row3 HR.out
      refine bodyPost_ret (v := .agg #[.int .i64 (1 + n0), .int .i64 d0, .slice Av acc.length cv]) (by simp only [results, Tryz.results11, go_sem]; simp [x0, x1, x2, go_sem]) rfl ?_
      exact ⟨⟨1 + n0, d0, acc⟩, .slice Av acc.length cv, rfl, HG.out, HF.out.1, dr', by omega, HF.out.2.1, HF.out.2.2⟩
end Go.Proofs.YtlchcfkngjbdjaaGreatDoor
