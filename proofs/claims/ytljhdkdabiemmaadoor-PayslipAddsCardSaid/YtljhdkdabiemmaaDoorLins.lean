/- Contracts of package paygen: ShortLines, Lines. -/
import Derived.Test.YtljhdkdabiemmaaDoorDeck3
import Derived.Test.YtljhdkdabiemmaaDoorLns
namespace Go.Proofs.YtljhdkdabiemmaaDoor
open Go.RowKit

/-- few lines with short codes -/
def shortLB (l : List Ln) : Bool := decide (l.length ≤ 60) && l.all fun p => decide (p.code.size ≤ 60)
set_option maxHeartbeats 800000 in
theorem ShortLines_any (v : Value) (l : List Ln) (w : World) (hv : Sl w 3 v (lns l)) :
    Calls Tryd.prog 17 #[v] w fun e w' => e = .returned (.bool (shortLB l)) ∧ Below w.heap.size w w' := by
  obtain ⟨A, cap, rfl, h1, h2, x1, h3⟩ := hv
  rw [lns_len] at h1 ⊢
  unfold maxLen at h2
  have H3 := Lib.hid h3
  clear h3 x1
  by_cases hn : l.length ≤ 60
  rotate_left
  · have H : Hid (shortLB l = false) := by simp only [Hid, shortLB, decide_eq_false hn, Bool.false_and]
    go_enter Tryd.func17, Tryd.ntmps17
    go_wp2
    go_ret
    exact ⟨ret_bool H.out.symm, Below.refl _ _⟩
  have dl : decide ((60 : Int) < (l.length : Int)) = false := decide_eq_false (by omega)
  go_enter Tryd.func17, Tryd.ntmps17
  go_wp2
  go_loopw [3] (fun i wr => ∃ k : Nat, k ≤ l.length ∧ i = .int .i64 k ∧ Below w.heap.size w wr ∧ Hid ((l.take k).all (fun p => decide (p.code.size ≤ 60)) = true)) (fun i _ => l.length - (intOf i).toNat)
  case atStart => exact ⟨0, by omega, rfl, Below.refl _ _, rfl⟩
  case round =>
    obtain ⟨k, hk, rfl, hb, HV⟩ := hrel
    by_cases hlt : k < l.length
    · rcases H3.out with h | ⟨b, off, rfl, hc0⟩
      · exact (lns_pos hlt h).elim
      · obtain ⟨_, c4, _⟩ := (hc0.below hb hc0.1).ln hlt
        clear H3 hc0
        by_cases hs : l[k].code.size ≤ 60
        · have HSN : Hid ((l.take (k + 1)).all (fun p => decide (p.code.size ≤ 60)) = true) := by
            rw [Hid, List.take_succ_eq_append_getElem hlt, List.all_append, HV.out]; simp [hs]
          go_wp2
          go_roundw
          case rel => exact ⟨k + 1, by omega, by go_num, hb, HSN⟩
          case measure => simp [intOf]; omega
        · have H : Hid (shortLB l = false) := by
            rw [Hid, Bool.eq_false_iff]
            intro hh
            simp only [shortLB, Bool.and_eq_true, List.all_eq_true, decide_eq_true_eq] at hh
            exact hs (hh.2 _ (List.getElem_mem hlt))
          go_wp2
          go_ret
          exact ⟨ret_bool H.out.symm, hb⟩
    · go_wp2
      go_ret
      refine ⟨ret_bool ?_, hb⟩
      have := HV.out
      rw [List.take_of_length_le (by omega)] at this
      rw [shortLB, this, decide_eq_true hn]; rfl

/-- drawn lines -/
def GoodL (l : List Ln) : Prop := ∀ x ∈ l, formB x = true ∧ (-600001 ≤ x.amt ∧ x.amt ≤ 600001)
def LinesPost (w : World) (D dr n : Nat) (e : Ending) (w' : World) : Prop :=
  ∃ (x : Value) (l : List Ln) (d : Nat), e = .returned x ∧ GoodL l ∧ l.length ≤ n ∧ Own w' w.heap.size 25 3 x (lns l) ∧ Deck w' D d ∧ d ≤ dr + 1 + 6 * n ∧ w.grownBy w' (some D)
theorem Own.keepD' {w w' : World} {base e sz D : Nat} {v : Value} {es : List (List Value)} (h : Own w base e sz v es) (hg : w.grownBy w' (Option.some D)) (hD : D < base) : Own w' base e sz v es := by
  refine ⟨h.1.kept hg ?_, h.2⟩
  cases hv : v.ownBlock with
  | none => exact .inl rfl
  | some g => exact .inr fun e => by have := (h.1.lt g hv).1; injection e with e; omega

set_option maxRecDepth 100000 in
set_option maxHeartbeats 1600000 in
theorem Lines_any (D dr n : Nat) (w : World) (hd : Deck w D dr) (hdr : dr ≤ 1000000) (hn : n ≤ 100) :
    Calls Tryd.prog 18 #[.pointer (some ⟨D, 0, none⟩), .int .i64 n] w (LinesPost w D dr n) := by
  have hD := hd.lt
  go_enter Tryd.func18, Tryd.ntmps18
  go_wp2_with fail
  refine (Next_any D dr _ _ hd (by omega) (by omega) (by omega)).mono ?_
  rintro e w1 ⟨r, ⟨hr1, hr2⟩, rfl, hd1, hg1⟩
  obtain ⟨K, rfl⟩ := Int.eq_ofNat_of_zero_le hr1
  have hKn : K ≤ n := by omega
  go_wp2_with fail
  go_loopw [5, 6] (fun t5 t6 wr => ∃ (k d : Nat) (l : List Ln), k ≤ K ∧ t6 = .int .i64 k ∧ Hid (GoodL l) ∧ l.length ≤ K - k ∧ Own wr w.heap.size 25 3 t5 (lns l) ∧ Deck wr D d ∧ d ≤ dr + 1 + 6 * (K - k) ∧ w.grownBy wr (some D)) (fun _ t6 _ => (intOf t6).toNat)
  case atStart => exact ⟨K, dr + 1, [], Nat.le_refl _, rfl, (fun _ h => by cases h), by simp, Own.nil _ _ _ _, hd1, by omega, hg1⟩
  case round =>
    obtain ⟨k, d, l, hk, rfl, HG, hll, hown, hK, hdd, hg⟩ := hrel
    have hws := hg.size
    by_cases hpos : 0 < k
    · have dp : decide ((0 : Int) < (k : Int)) = true := decide_eq_true (by omega)
      go_wp2_with fail
      refine (Line_any D d wr hK (by omega)).mono ?_
      rintro e w2 ⟨x, hx1, hx2, rfl, d2, hd2, hK2, hg2⟩
      have hown2 := hown.keepD' hg2 hD
      have hgg := hg.trans hg2
      have hws2 := hgg.size
      have HG2 : Hid (GoodL (l ++ [x])) := fun y hy => by
        rcases List.mem_append.1 hy with hy | hy
        · exact HG.out y hy
        · rw [List.mem_singleton.1 hy]; exact ⟨hx1, hx2⟩
      clear hown hK hg hg2 hx1 hx2
      have hDb : D < w2.heap.size := hK2.lt
      go_wp2_with (at_builtin; refine wpList_append_sl rfl (.tmp 15) (.tmp 18) rfl rowLn w.heap.size _ _ _ (lns [x]) rfl (hown2.alloc _) rfl (Sl.one rfl rfl) (lns_wide _) (by rw [lns_len, lns_len]; unfold maxLen; simp; omega) (by rw [lns_len, lns_len]; simp; omega) (by simp; omega) ?_; intro v4 w4 hown4 hg4 _; have hG4 := gb_new (gb_alloc hgg _) hg4 (fun g hg => (hown2.1.lt g hg).1); have hK4 := (hK2.below ((Below.refl _ _).alloc (Nat.le_refl _) _)).keep hg4 (fun g hg => Nat.lt_of_lt_of_le hD (hown2.1.lt g hg).1); rw [← lns_append] at hown4)
      go_roundw
      case rel => exact ⟨k - 1, d2, _, by omega, by go_num, HG2, by simp; omega, hown4, hK4, by omega, hG4⟩
      case measure => simp [intOf]; omega
    · have dp : decide ((0 : Int) < (k : Int)) = false := decide_eq_false (by omega)
      go_wp2
      go_ret
      exact ⟨_, l, d, rfl, HG.out, by omega, hown, hK, by omega, hg⟩
end Go.Proofs.YtljhdkdabiemmaaDoor
