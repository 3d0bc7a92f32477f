/- Contract of paygen.Deck.Returns. -/
import Derived.Test.YtnkephafpebfkaaDoorRgS
import Derived.Test.YtnkephafpebfkaaDoorRNx
import Derived.Test.YtnkephafpebfkaaDoorDkC
namespace Go.Proofs.YtnkephafpebfkaaDoor
open Go.RowKit

theorem form_line {k : Int} {c : ByteArray} {a : Int} (hk : 4 ≤ k ∧ k ≤ 6) (h : (k = 6 ∧ c = ⟨#[]⟩) ∨ (k ≠ 6 ∧ nameB c.data.toList = true)) (ha : 1 ≤ a ∧ a ≤ 1000) : formB ⟨k, c, a⟩ = true ∧ filedB k = true := by
  have q3 : totB a = true := by simp [totB]; omega
  have q4 : decide (a ≠ 0) = true := by rw [decide_eq_true_eq]; omega
  have hf : filedB k = true := by simp [filedB]; omega
  have q1 : decide (1 ≤ k) = true := by rw [decide_eq_true_eq]; omega
  have q2 : decide (k ≤ 10) = true := by rw [decide_eq_true_eq]; omega
  refine ⟨?_, hf⟩
  rcases h with ⟨rfl, rfl⟩ | ⟨h6, hn⟩
  · simp only [formB, formedB, q3, q4]; rfl
  · have hb : bareB k = false := by simp [bareB]; omega
    simp only [formB, formedB, q1, q2, q3, q4, hb, hn, Bool.true_and, Bool.and_true]; rfl
theorem own_off {v : Value} {b : Nat} (h : ∀ g, v.ownBlock = some g → g < b) : v.ownBlock = none ∨ v.ownBlock ≠ some b := by
  cases hv : v.ownBlock with
  | none => exact .inl rfl
  | some g => exact .inr fun e => by have := h g hv; injection e with e; omega
/-- returns have been drawn -/
def RetsPost (w : World) (D dr n : Nat) (e : Ending) (w' : World) : Prop :=
  ∃ (x : Value) (ps : List (Ret × Value)) (d : Nat), e = .returned x ∧ GoodRs (ps.map (·.1)) ∧ ps.length ≤ n ∧ RetsOwn w' w.heap.size x ps ∧ Deck w' D d ∧ d ≤ dr + 1 + 10 * n ∧ w.grownBy w' (some D)
/-- where the outer loop stands -/
structure RgL (w : World) (D dr n K : Nat) (x : Value) (k : Nat) (ps : List (Ret × Value)) (d : Nat) (wr : World) : Prop where
  kl : k ≤ K
  good : GoodRs (ps.map (·.1))
  len : ps.length + k ≤ K
  own : RetsOwn wr w.heap.size x ps
  deck : Deck wr D d
  d : d ≤ dr + 1 + 10 * (K - k)
  grown : w.grownBy wr (some D)
set_option maxRecDepth 100000 in
set_option maxHeartbeats 8000000 in
theorem Returns_any (D dr n : Nat) (w : World) (hd : Deck w D dr) (hdr : dr ≤ 1000000) (hn : n ≤ 100) :
    Calls Tryd.prog 15 #[.pointer (some ⟨D, 0, none⟩), .int .i64 n] w (RetsPost w D dr n) := by
  have hD := hd.lt
  go_enter Tryd.func15, Tryd.ntmps15
  go_wp2_with fail
  refine (Next_any D dr _ _ hd (by omega) (by omega) (by omega)).mono ?_
  rintro e w1 ⟨r, ⟨hr1, hr2⟩, rfl, hd1, hg1⟩
  obtain ⟨K, rfl⟩ := Int.eq_ofNat_of_zero_le hr1
  have hKn : K ≤ n := by omega
  have H0 : Hid (RgL w D dr n K (.slice none 0 0) K [] (dr + 1) w1) := ⟨Nat.le_refl _, GoodRs.nil, by simp, ⟨Own.nil _ _ _ _, (fun p hp => by cases hp)⟩, hd1, by omega, hg1⟩
  clear hd hd1 hg1
  go_wp2_with fail
  go_loopw [5, 6] (fun x t wr => ∃ (k : Nat) (ps : List (Ret × Value)) (d : Nat), t = .int .i64 k ∧ Hid (RgL w D dr n K x k ps d wr)) (fun _ t _ => (intOf t).toNat)
  case atStart => exact ⟨K, [], dr + 1, rfl, H0.out⟩
  case round =>
    clear H0
    obtain ⟨k, ps, d, rfl, HL⟩ := hrel
    obtain ⟨wo, rfl⟩ : ∃ wo : World, wo = wr := ⟨_, rfl⟩
    have hk := HL.out.kl
    by_cases hpos : 0 < k
    rotate_left
    · have dp : decide ((0 : Int) < (k : Int)) = false := decide_eq_false (by omega)
      have hk0 : k = 0 := by omega
      go_wp2
      go_ret
      have hl := HL.out.len
      have hdd := HL.out.d
      exact ⟨_, ps, d, rfl, HL.out.good, by omega, HL.out.own, HL.out.deck, by omega, HL.out.grown⟩
    have dp : decide ((0 : Int) < (k : Int)) = true := decide_eq_true (by omega)
    have hdd := HL.out.d
    have hlen := HL.out.len
    have hDo := HL.out.deck.lt
    have h00 : Hid (GoodA [] 4 ∧ Own wo wo.heap.size 28 3 (.slice none 0 0) (lns []) ∧ Deck wo D d ∧ wo.grownBy wo (some D)) := ⟨GoodA.nil, Own.nil _ _ _ _, HL.out.deck, World.grownBy.refl _ _⟩
    go_wp2_with fail
    go_loopw [7, 8] (fun v t wi => ∃ (q : Int) (acc : List Ln) (di : Nat), (4 ≤ q ∧ q ≤ 7) ∧ t = .int .i64 q ∧ (di : Int) ≤ d + 3 * (q - 4) ∧ Hid (GoodA acc q ∧ Own wi wo.heap.size 28 3 v (lns acc) ∧ Deck wi D di ∧ wo.grownBy wi (some D))) (fun _ t _ => (7 - intOf t).toNat)
    case atStart => exact ⟨4, [], d, ⟨by omega, by omega⟩, rfl, by omega, h00.out⟩
    case round =>
      clear h00
      obtain ⟨q, acc, di, ⟨q0, q1⟩, rfl, hdi, HI⟩ := hrel
      obtain ⟨wi, rfl⟩ : ∃ wi : World, wi = wr := ⟨_, rfl⟩
      have hgi := HI.out.2.2.2.size
      by_cases hq : q ≤ 6
      rotate_left
      · have dq : decide (q ≤ 6) = false := decide_eq_false hq
        obtain rfl : q = 7 := by omega
        have hAL := HI.out.1.len
        go_wp2_with fail
        refine (Next_any D di 3 wi HI.out.2.2.1 (by omega) (by omega) (by omega)).mono ?_
        rintro e w2 ⟨pp, ⟨p0, p1⟩, rfl, hd2, hg2⟩
        have hgo2 := gb_trans HI.out.2.2.2 hg2
        have ho2 := (HL.out.own.keepD hgo2 (Nat.lt_of_lt_of_le hD (Nat.le_refl _)))
        have hl2 := HI.out.2.1.keepD2 hg2 hDo
        have hgood := HL.out.good
        have hver := hgood.ver _ rfl pp
        have hln := hgood.lin pp
        have hmm : ∀ z ∈ ps, z.1.l.length ≤ 256 := fun z hz => by
          have := (hgood.mem (List.mem_map.2 ⟨z, hz, rfl⟩)).2.2
          omega
        rw [List.length_map] at hver
        have HO2 := Lib.hid ho2
        have HL2 := Lib.hid hl2
        have HA := Lib.hid HI.out.1
        have hw2 := hgo2.size
        have hD2 := hd2.lt
        have hsl2 := hl2.sl (by omega)
        have hnx := Next38_any ps _ _ pp acc w2 ho2.at hmm hsl2 (by omega) ⟨hver.1, by omega⟩ (by omega)
        have HNX := Lib.hid hnx
        clear hnx ho2 hl2 hmm hsl2 HI hg2
        go_wp2_with fail
        refine HNX.out.mono ?_
        rintro e w3 ⟨hb3, hcase⟩
        have hG3 := gb_trans HL.out.grown (gb_below hgo2 hb3)
        have hd3 := hd2.below hb3
        have HO3 := Lib.hid (HO2.out.kept hb3)
        have hw3 := hb3.size
        clear HNX HO2 HL2 hgo2 hd2 hb3
        rcases hcase with ⟨hne, v3, rfl, hown3⟩ | ⟨heq, rfl⟩
        rotate_left
        · have hal := (Below.refl w3.heap.size w3).alloc (Nat.le_refl _) (.cells #[.int .i64 0, .int .i64 0, .slice none 0 0] 25)
          have HEND : Hid (RgL w D dr n K _ (k - 1) ps (di + 1) (w3.alloc (.cells #[.int .i64 0, .int .i64 0, .slice none 0 0] 25))) := ⟨by omega, hgood, by omega, HO3.out.kept hal, hd3.below hal, by omega, gb_alloc hG3 _⟩
          clear hal heq hG3 hd3 HO3 HL
          go_wp2
          go_roundw
          case rel => exact ⟨k - 1, ps, di + 1, by go_num, HEND.out⟩
          case measure => simp [intOf]; omega
        · have hnr : nextR (ps.map (·.1)) pp acc = ⟨pp, verP (ps.map (·.1)) pp + 1, acc⟩ := rfl
          obtain ⟨A3, c3, rfl⟩ := hown3.form
          rw [lns_len] at hown3 ⊢
          have hrb : retB (nextR (ps.map (·.1)) pp acc) = true := HA.out.ret ⟨p0, by omega⟩ ⟨by omega, by omega⟩
          have hgs := hgood.snoc hrb ⟨p0, by show pp ≤ 2; omega⟩ rfl (by show acc.length ≤ 3; omega)
          have hgs2 : GoodRs ((ps ++ [(nextR (ps.map (·.1)) pp acc, Value.slice A3 acc.length c3)]).map (·.1)) := by simpa using hgs
          obtain ⟨vv, hvv⟩ : ∃ vv, verP (ps.map (·.1)) pp + 1 = vv := ⟨_, rfl⟩
          obtain ⟨nr, hnn⟩ : ∃ nr, nextR (ps.map (·.1)) pp acc = nr := ⟨_, rfl⟩
          rw [hnn] at hnr hgs2
          rw [hnn]
          rw [hvv] at hnr
          have hnl : nr.l = acc := by rw [hnr]
          have hgv : nr.vals (.slice A3 acc.length c3) = #[.int .i64 pp, .int .i64 vv, .slice A3 acc.length c3] := by rw [hnr]; rfl
          rw [hgv]
          have HGV := Lib.hid hgv
          have HGS := Lib.hid hgs2
          have hlo : Own w3 w.heap.size 28 3 (.slice A3 acc.length c3) (lns nr.l) := by rw [hnl]; exact hown3.more (by have := HL.out.grown.size; omega)
          have HLO := Lib.hid hlo
          have hal := (Below.refl w3.heap.size w3).alloc (Nat.le_refl _) (.cells #[.int .i64 pp, .int .i64 vv, .slice A3 acc.length c3] 25)
          have HX1 := Lib.hid (Row.new w3 25 #[.int .i64 pp, .int .i64 vv, .slice A3 acc.length c3])
          have hwl := HL.out.grown.size
          have hpl : ps.length ≤ 100 := by omega
          clear hgs hgs2 hrb hnr hnl hgv hne hown3 hgood hvv hnn hln hver hlo HA
          obtain ⟨w4, hw4⟩ : ∃ w4, w3.alloc (.cells #[.int .i64 pp, .int .i64 vv, .slice A3 acc.length c3] 25) = w4 := ⟨_, rfl⟩
          rw [hw4] at hal HX1
          obtain ⟨⟨y0, y1, y2, yl⟩, -⟩ := row3 HX1.out
          have hw34 := hal.size
          have HO4 := Lib.hid (HO3.out.kept hal)
          have HLO4 := Lib.hid (HLO.out.kept hal)
          have hG4 := gb_below hG3 hal
          have hd4 := hd3.below hal
          have hb5 : Below w4.heap.size w4 (w4.alloc (.cells #[.int .i64 pp, .int .i64 vv, .slice A3 acc.length c3] 25)) := (Below.refl _ _).alloc (Nat.le_refl _) _
          clear HX1 HO3 HLO hG3 hd3 hal
          have hone : Sl (w4.alloc (.cells #[.int .i64 pp, .int .i64 vv, .slice A3 acc.length c3] 25)) 3 (.slice (some ⟨w4.heap.size, 0, none⟩) 1 1) (rets [(nr, .slice A3 acc.length c3)]) := by
            have : rets [(nr, .slice A3 acc.length c3)] = [[.int .i64 pp, .int .i64 vv, .slice A3 acc.length c3]] := by simp [rets, HGV.out]
            rw [this]; exact Sl.one rfl rfl
          have HONE := Lib.hid hone
          clear hone
          go_wp2_with (at_builtin; refine wpList_append_sl rfl (.tmp 50) (.tmp 52) rfl rowRet w.heap.size _ _ (rets ps) (rets [(nr, .slice A3 acc.length c3)]) rfl (HO4.out.own.alloc _) rfl HONE.out (rets_one _ _ ⟨_, _, _, rfl⟩) (by rw [rets_len, rets_len]; unfold maxLen; simp; omega) (by rw [rets_len, rets_len]; simp; omega) (by have := hb5.size; omega) ?_; intro v6 w6 hown6 hg6 _)
          have hR6 := HO4.out.app hb5 HLO4.out hown6 hg6
          have hlt6 := fun g hg => (HO4.out.own.1.lt g hg).1
          have hG6 := gb_new (gb_below hG4 hb5) hg6 hlt6
          have hd6 := (hd4.below hb5).keep hg6 (fun g hg => Nat.lt_of_lt_of_le hD (hlt6 g hg))
          have HEND : Hid (RgL w D dr n K v6 (k - 1) (ps ++ [(nr, .slice A3 acc.length c3)]) (di + 1) w6) := ⟨by omega, HGS.out, by simp; omega, hR6, hd6, by omega, hG6⟩
          clear hw4 y0 y1 y2 yl hR6 hG6 hd6 hown6 hg6 HL hG4 hd4 HO4 HLO4 HONE hlt6
          go_roundw
          case rel => exact ⟨k - 1, _, di + 1, by go_num, HEND.out⟩
          case measure => simp [intOf]; omega
      have dq : decide (q ≤ 6) = true := decide_eq_true hq
      go_wp2_with fail
      refine (Next_any D di 2 wi HI.out.2.2.1 (by omega) (by omega) (by omega)).mono ?_
      rintro e w2 ⟨s, ⟨s0, s1⟩, rfl, hd2, hg2⟩
      cases hs0 : (s == 0)
      rotate_left
      · have HEND : Hid (GoodA acc (q + 1) ∧ Own w2 wo.heap.size 28 3 _ (lns acc) ∧ Deck w2 D (di + 1) ∧ wo.grownBy w2 (some D)) := ⟨HI.out.1.skip, HI.out.2.1.keepD2 hg2 hDo, hd2, gb_trans HI.out.2.2.2 hg2⟩
        clear HI hd2 hg2
        go_wp2
        go_roundw
        case rel => exact ⟨q + 1, acc, di + 1, ⟨by omega, by omega⟩, by go_num, by omega, HEND.out⟩
        case measure => simp [intOf]; omega
      go_wp2_with fail
      refine (Next_any D (di + 1) 1000 w2 hd2 (by omega) (by omega) (by omega)).mono ?_
      rintro e w3 ⟨a, ⟨a0, a1⟩, rfl, hd3, hg3⟩
      have hG3 := gb_trans (gb_trans HI.out.2.2.2 hg2) hg3
      have HO3 := Lib.hid ((HI.out.2.1.keepD2 hg2 hDo).keepD2 hg3 hDo)
      have HA := Lib.hid HI.out.1
      have hAL := HI.out.1.len
      have HLT := Lib.hid (fun g hg => (HO3.out.1.lt g hg).2)
      clear HI hg2 hg3 hd2
      have hal := (Below.refl w3.heap.size w3).alloc (Nat.le_refl _) (.cells #[.int .i64 q, .string ⟨#[]⟩, .int .i64 (1 + a)] 28)
      have hx4 := Row.new w3 28 #[.int .i64 q, .string ⟨#[]⟩, .int .i64 (1 + a)]
      have hG4 := gb_below hG3 hal
      have hd4 := hd3.below hal
      have HO4 := Lib.hid (HO3.out.kept hal)
      have hw3 := hG3.size
      have hD3 := hd3.lt
      obtain ⟨w4, hw4⟩ : ∃ w4, w3.alloc (.cells #[.int .i64 q, .string ⟨#[]⟩, .int .i64 (1 + a)] 28) = w4 := ⟨_, rfl⟩
      rw [hw4] at hx4 hG4 hd4 HO4
      clear hG3 hd3 HO3 hal
      obtain ⟨⟨y0, y1, y2, yl⟩, ⟨f0, f1, f2⟩⟩ := row3 hx4
      obtain ⟨bx, hbx⟩ : ∃ bx, w3.heap.size = bx := ⟨_, rfl⟩
      rw [hbx] at hx4 y0 y1 y2 yl f0 f1 f2 HLT
      have hbw : wo.heap.size ≤ bx := by omega
      have hbD : bx ≠ D := by omega
      by_cases h6 : q = 6
      · have e6 : (q != 6) = false := by simpa using h6
        obtain ⟨hfo, hfi⟩ := form_line (k := q) (c := ⟨#[]⟩) (a := 1 + a) ⟨q0, hq⟩ (.inl ⟨h6, rfl⟩) ⟨by omega, by omega⟩
        have HGA := Lib.hid (HA.out.snoc (x := ⟨q, ⟨#[]⟩, 1 + a⟩) rfl hfi hfo ⟨by show 1 ≤ 1 + a; omega, by show 1 + a ≤ 1000; omega⟩)
        clear h6 hfo hfi HA
        go_wp2_with (at_builtin; refine wpList_append_sl rfl (.tmp 37) (.tmp 39) rfl rowLn wo.heap.size _ _ (lns acc) [Ln.vals ⟨q, ⟨#[]⟩, 1 + a⟩] rfl (HO4.out.alloc _) rfl (Sl.one rfl rfl) (lns_wide [⟨q, ⟨#[]⟩, 1 + a⟩]) (by rw [lns_len]; unfold maxLen; simp; omega) (by rw [lns_len]; simp; omega) (by have := hG4.size; simp only [World.size_alloc]; omega) ?_; intro v6 w6 hown6 hg6 _)
        have hlt6 := fun g hg => (HO4.out.1.lt g hg).1
        have hG6 := gb_new (gb_alloc hG4 _) hg6 hlt6
        have hd6 := (hd4.below ((Below.refl w4.heap.size w4).alloc (Nat.le_refl _) _)).keep hg6 (fun g hg => Nat.lt_of_lt_of_le hDo (hlt6 g hg))
        have HEND : Hid (GoodA (acc ++ [⟨q, ⟨#[]⟩, 1 + a⟩]) (q + 1) ∧ Own w6 wo.heap.size 28 3 v6 (lns (acc ++ [⟨q, ⟨#[]⟩, 1 + a⟩])) ∧ Deck w6 D (di + 1 + 1) ∧ wo.grownBy w6 (some D)) := ⟨HGA.out, by rw [lns_append]; exact hown6, hd6, hG6⟩
        clear hw4 hbx y0 y1 y2 yl f0 f1 f2 hG6 hd6 hown6 hg6 HL hG4 hd4 HO4 hlt6 hx4
        go_roundw
        case rel => exact ⟨q + 1, _, di + 1 + 1, ⟨by omega, by omega⟩, by go_num, by omega, HEND.out⟩
        case measure => simp [intOf]; omega
      · have e6 : (q != 6) = true := by simpa using h6
        have h6' := Lib.hid h6
        clear h6
        go_wp2_with fail
        refine (Code_any D (di + 1 + 1) w4 hd4 (by omega)).mono ?_
        rintro e w5 ⟨c, hc, rfl, d5, hd5, hK5, hg5⟩
        have hx5 := hx4.keep hg5 (fun e => hbD (Option.some.inj e))
        have hG5 := gb_trans hG4 hg5
        have HO5 := Lib.hid (HO4.out.keepD2 hg5 hDo)
        clear hw4 hx4 hG4 hd4 hg5 HO4 y0 y1 y2 yl f0 f1 f2
        obtain ⟨⟨y0, y1, y2, yl⟩, ⟨f0, f1, f2⟩⟩ := row3 hx5
        have hx6 := hx5.set 1 (.string c)
        have hG6 := gb_set (p := ⟨bx, 1, none⟩) hG5 (.inr hbw) (.string c)
        have hK6 := hK5.keep (gb_set (p := ⟨bx, 1, none⟩) (World.grownBy.refl _ (some bx)) (.inl rfl) (.string c)) (fun g hg => by injection hg; omega)
        have HO6 := Lib.hid (HO5.out.keepG (grown_set w5 bx 1 (.string c)) (own_off HLT.out))
        obtain ⟨hfo, hfi⟩ := form_line (k := q) (c := c) (a := 1 + a) ⟨q0, hq⟩ (.inr ⟨h6'.out, hc⟩) ⟨by omega, by omega⟩
        have HGA := Lib.hid (HA.out.snoc (x := ⟨q, c, 1 + a⟩) rfl hfi hfo ⟨by show 1 ≤ 1 + a; omega, by show 1 + a ≤ 1000; omega⟩)
        clear hx5 hG5 HO5 hK5 hfo hfi HA
        obtain ⟨w6, hw6⟩ : ∃ w6, w5.setCell ⟨bx, 1, none⟩ (.string c) = w6 := ⟨_, rfl⟩
        rw [hw6] at hx6 hG6 hK6 HO6
        obtain ⟨⟨u0, u1, u2, ul⟩, -⟩ := row3 hx6
        go_wp2_with (at_builtin; refine wpList_append_sl rfl (.tmp 37) (.tmp 39) rfl rowLn wo.heap.size _ _ (lns acc) [Ln.vals ⟨q, c, 1 + a⟩] rfl (HO6.out.alloc _) rfl (Sl.one rfl rfl) (lns_wide [⟨q, c, 1 + a⟩]) (by rw [lns_len]; unfold maxLen; simp; omega) (by rw [lns_len]; simp; omega) (by have := hG6.size; simp only [World.size_alloc]; omega) ?_; intro v6 w7 hown6 hg6 _)
        have hlt6 := fun g hg => (HO6.out.1.lt g hg).1
        have hG7 := gb_new (gb_alloc hG6 _) hg6 hlt6
        have hd7 := (hK6.below ((Below.refl w6.heap.size w6).alloc (Nat.le_refl _) _)).keep hg6 (fun g hg => Nat.lt_of_lt_of_le hDo (hlt6 g hg))
        have HEND : Hid (GoodA (acc ++ [⟨q, c, 1 + a⟩]) (q + 1) ∧ Own w7 wo.heap.size 28 3 v6 (lns (acc ++ [⟨q, c, 1 + a⟩])) ∧ Deck w7 D d5 ∧ wo.grownBy w7 (some D)) := ⟨HGA.out, by rw [lns_append]; exact hown6, hd7, hG7⟩
        clear hbx hw6 y0 y1 y2 yl f0 f1 f2 u0 u1 u2 ul hG7 hd7 hown6 hg6 HL hG6 hK6 HO6 hlt6 hx6
        go_roundw
        case rel => exact ⟨q + 1, _, d5, ⟨by omega, by omega⟩, by go_num, by omega, HEND.out⟩
        case measure => simp [intOf]; omega
end Go.Proofs.YtnkephafpebfkaaDoor
