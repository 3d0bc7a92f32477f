/- The law RefileOnce: it returns true. Written by gen_lon.py. -/
import Derived.Test.YtjbhabfflcbebaaGreatBaB
import Derived.Test.YtjbhabfflcbebaaGreatRefR
import Derived.Test.YtjbhabfflcbebaaGreatDeck4
import Derived.Test.YtjbhabfflcbebaaGreatBaA
import Derived.Deep.CutBlock
import Derived.Deep.DeepCutAuto
namespace Go.Proofs.YtjbhabfflcbebaaGreat
open Go.RowKit Go.Shelf

/-- the book and the returns at the head of the loop -/
structure OnS (w : World) (B0 : Nat) (L : List Pst) (vb vx : Value) (k : Nat) (ps : List (Ret × Value)) (W : World) : Prop where
  below : Below w.heap.size w W
  book : Own W B0 53 6 vb (psts L)
  own : RetsOwn W w.heap.size vx ps
  once : Once L (k : Int) (ps.map (·.1))
  len : ps.length ≤ 24 * k
theorem OnS.few {w W : World} {B0 : Nat} {L : List Pst} {vb vx : Value} {k : Nat} {ps : List (Ret × Value)} (h : OnS w B0 L vb vx k ps W) (hL : L.length ≤ 24) : ∀ q ∈ ps, q.1.l.length ≤ 24 := fun q hq =>
  Nat.le_trans (h.once.few q.1 (List.mem_map.2 ⟨q, hq, rfl⟩)) hL
/-- behind a run's filing -/
structure OnT (w : World) (B0 : Nat) (L : List Pst) (vb vx vn : Value) (k : Nat) (ps : List (Ret × Value)) (W : World) : Prop where
  below : Below w.heap.size w W
  book : Own W B0 53 6 vb (psts L)
  own : RetsOwn W w.heap.size vx ps
  now : Sl W 6 vn (psts (asOfL L (k : Int)))
  once : Once L ((k : Int) + 1) (ps.map (·.1))
  lin : ∀ p, linP (ps.map (·.1)) p = linesOf (asOfL L (k : Int)) p
  none : fileR (ps.map (·.1)) (asOfL L (k : Int)) = []
  err : fileE (ps.map (·.1)) (asOfL L (k : Int)) = 0
  len : ps.length ≤ 24 * (k + 1)
theorem OnT.to {w W W' : World} {B0 : Nat} {L : List Pst} {vb vx vn : Value} {k : Nat} {ps : List (Ret × Value)} (h : OnT w B0 L vb vx vn k ps W) (hb : Below W.heap.size W W') : OnT w B0 L vb vx vn k ps W' :=
  ⟨below_after h.below hb h.below.size, h.book.kept hb, h.own.kept hb, h.now.below hb, h.once, h.lin, h.none, h.err, h.len⟩
theorem OnT.few {w W : World} {B0 : Nat} {L : List Pst} {vb vx vn : Value} {k : Nat} {ps : List (Ret × Value)} (h : OnT w B0 L vb vx vn k ps W) (hL : L.length ≤ 24) : ∀ q ∈ ps, q.1.l.length ≤ 24 := fun q hq =>
  Nat.le_trans (h.once.few q.1 (List.mem_map.2 ⟨q, hq, rfl⟩)) hL
theorem OnT.next {w W : World} {B0 : Nat} {L : List Pst} {vb vx vn : Value} {k : Nat} {ps : List (Ret × Value)} (h : OnT w B0 L vb vx vn k ps W) : OnS w B0 L vb vx (k + 1) ps W :=
  ⟨h.below, h.book, h.own, by have := h.once; push_cast; exact this, h.len⟩
/-- the returns of a run are filed -/
theorem OnS.filed {w W W2 W4 : World} {B0 base2 : Nat} {L : List Pst} {vb vx vn x v4 : Value} {k : Nat} {ps qs : List (Ret × Value)} (h : OnS w B0 L vb vx k ps W) (hb : bookB L = true) (hL : L.length ≤ 24) (h0 : w.heap.size ≤ base2)
    (hW : Below W.heap.size W W2) (hn : Own W2 base2 53 6 vn (psts (asOfL L (k : Int)))) (hq : RetsOwn W2 base2 x qs) (he : qs.map (·.1) = fileR (ps.map (·.1)) (asOfL L (k : Int)))
    (ho : Own W4 w.heap.size 32 3 v4 (rets ps ++ rets qs)) (hg : W2.grownBy W4 vx.ownBlock) : OnT w B0 L vb v4 vn k (ps ++ qs) W4 := by
  have hF := h.once.filing hb
  have hm : (ps ++ qs).map (·.1) = ps.map (·.1) ++ fileR (ps.map (·.1)) (asOfL L (k : Int)) := by rw [List.map_append, he]
  have h2 := h.own.own.kept hW
  have hB2 := below_after h.below hW h.below.size
  have hbk := h.book.kept hW
  refine ⟨h2.grown hB2 hg hB2.size, hbk.keepG hg (own_types hbk h2 (by decide)), h.own.join hW hq h0 ho hg, (hn.keepG hg (own_types hn h2 (by decide))).sl (by omega), by rw [hm]; exact h.once.next hb, by rw [hm]; exact hF.lin, by rw [hm]; exact hF.none, by rw [hm]; exact hF.e2, ?_⟩
  have h1 : qs.length ≤ 24 := by
    have := congrArg List.length he
    rw [List.length_map] at this
    rw [this]
    exact Nat.le_trans hF.len (Nat.le_trans (asOf_len L k) hL)
  have := h.len
  rw [List.length_append]
  omega

set_option maxRecDepth 100000 in
set_option maxHeartbeats 16000000 in
theorem RefileOnce_any (v : Value) (zs : List Int) (w : World) (hv : Sl w 1 v (ints zs)) :
    Calls Tryz.prog 4 #[v] w fun e w' => e = .returned (.bool true) ∧ Below w.heap.size w w' := by
  have HN := Lib.hid (new_any v zs w hv)
  obtain ⟨A0, c0, rfl, -⟩ := hv
  go_enter Tryz.func4, Tryz.ntmps4
  go_wp2_with fail
  refine HN.out.mono ?_
  rintro e w1 ⟨rfl, hd1, hb1⟩
  clear HN
  go_wp2_with fail
  refine (DBook_any w.heap.size 0 6 w1 hd1 (by omega) (by omega)).mono ?_
  rintro e w2 ⟨vb, L, R, d2, rfl, hG, hR, hL, hown2, hd2, hdd, hg2⟩
  have hB2 := hb1.grown hg2 hb1.size (fun g hg => by cases hg; exact Nat.le_refl _)
  have HBK := Lib.hid (hG.book (by omega))
  have HL : Hid (L.length ≤ 24) := by rw [Hid]; omega
  have H0 : Hid (OnS w w1.heap.size L vb (.slice none 0 0) 0 [] w2) := ⟨hB2, hown2, RetsOwn.nil _ _, Once.nil L, Nat.le_refl _⟩
  obtain ⟨Ab, cb, rfl⟩ := hown2.form
  have hB0 : Hid (w.heap.size ≤ w1.heap.size) := hb1.size
  clear hd1 hb1 hG hR hL hown2 hd2 hdd hg2 hB2
  go_wp2_with fail
  go_loopw [4, 5] (fun x i wr => ∃ (k : Nat) (ps : List (Ret × Value)), k ≤ 13 ∧ i = .int .i64 k ∧ Hid (OnS w w1.heap.size L (.slice Ab (psts L).length cb) x k ps wr)) (fun _ i _ => 13 - (intOf i).toNat)
  case atStart => exact ⟨0, [], by omega, rfl, H0.out⟩
  case round =>
    clear H0
    obtain ⟨k, ps, hk, rfl, HS⟩ := hrel
    obtain ⟨wi, rfl⟩ : ∃ wo : World, wo = wr := ⟨_, rfl⟩
    by_cases hlt : k ≤ 12
    rotate_left
    · have dk : decide ((k : Int) ≤ 12) = false := decide_eq_false (by omega)
      have HB := Lib.hid HS.out.below
      go_wp2_with fail
      refine (awake_any _).mono ?_
      rintro e w9 ⟨rfl, hb9⟩
      have HE := Lib.hid (below_after HB.out hb9 HB.out.size)
      clear hb9
      go_wp2
      go_ret
      exact ⟨rfl, HE.out⟩
    have dk : decide ((k : Int) ≤ 12) = true := decide_eq_true (by omega)
    have hpl := HS.out.len
    obtain ⟨Ax, cx, rfl⟩ := HS.out.own.own.form
    have HAS := Lib.hid (refAsOf_any _ L (k : Int) wi (HS.out.book.sl (by omega)))
    go_wp2_with fail
    refine HAS.out.mono ?_
    rintro e w3 ⟨vn, rfl, hown3, hb3⟩
    clear HAS dk
    have HFC := Lib.hid (RFile_any ps (asOfL L (k : Int)) _ vn w3 (HS.out.own.at.below hb3) (fun q hq => by have := HS.out.few HL.out q hq; omega) (by omega) (hown3.sl (by omega)))
    obtain ⟨An, cn, rfl⟩ := hown3.form
    have H3 := Lib.hid (And.intro hown3 hb3)
    clear hown3 hb3
    go_wp2_with fail
    refine HFC.out.mono ?_
    rintro e w4 ⟨xm, qs, rfl, hqs, hro4, hb4⟩
    rw [(HS.out.once.filing HBK.out).e1]
    have hql : qs.length ≤ 24 := by
      have := congrArg List.length hqs
      rw [List.length_map] at this
      rw [this]
      exact Nat.le_trans (HS.out.once.filing HBK.out).len (Nat.le_trans (asOf_len L k) HL.out)
    obtain ⟨Am, cm, rfl⟩ := hro4.own.form
    have H4 := Lib.hid (And.intro hqs (And.intro hro4 hb4))
    have HW4 : Hid (Below wi.heap.size wi w4) := below_after H3.out.2 hb4 H3.out.2.size
    have hs4 := (below_after HS.out.below HW4.out HS.out.below.size).size
    have HN4 := Lib.hid (H3.out.1.kept hb4)
    clear hqs hro4 hb4 HFC
    go_wp2_with (at_builtin; (refine wpList_append_sl rfl (.tmp 30) (.tmp 31) rfl rowRet w.heap.size _ _ (rets ps) (rets qs) rfl (HS.out.own.own.kept HW4.out) rfl H4.out.2.1.at.sl H4.out.2.1.at.wide (by rw [rets_len, rets_len]; unfold maxLen; omega) (by rw [rets_len, rets_len]; omega) hs4 ?_); intro v5 w5 hown5 hg5 _; have HT5 : Hid (OnT w w1.heap.size L _ v5 _ k (ps ++ qs) w5) := HS.out.filed HBK.out HL.out HS.out.below.size HW4.out HN4.out (H4.out.2.1.more H3.out.2.size) H4.out.1 hown5 hg5; clear hown5 hg5)
    have hrl : (ps ++ qs).length ≤ 400 := by rw [List.length_append]; omega
    obtain ⟨rs, hrs⟩ : ∃ rs, ps ++ qs = rs := ⟨_, rfl⟩
    rw [hrs] at HT5 hrl
    obtain ⟨A5, c5, rfl⟩ := HT5.out.own.own.form
    have HF2 := Lib.hid (RFile_any rs (asOfL L (k : Int)) _ _ w5 HT5.out.own.at (fun q hq => by have := HT5.out.few HL.out q hq; omega) (by omega) HT5.out.now)
    clear hrs HS H3 H4 HW4 HN4 hs4 hql hpl
    refine HF2.out.mono ?_
    rintro e w6 ⟨xa, qa, he6, hqa, hro6, hb6⟩
    rw [HT5.out.err] at he6
    subst he6
    rw [HT5.out.none] at hqa
    obtain rfl : qa = [] := List.map_eq_nil_iff.1 hqa
    obtain ⟨Aa, ca, hxa⟩ := hro6.own.form
    rw [show (rets []).length = 0 from rfl] at hxa
    subst hxa
    have HT6 := Lib.hid (HT5.out.to hb6)
    have HVA := Lib.hid (RValid_any rs _ w6 HT6.out.own.at (fun q hq => by have := HT6.out.few HL.out q hq; omega))
    rw [HT6.out.once.val] at HVA
    clear hqa hro6 hb6 HT5 HF2
    go_wp2_with (go_at_call 14; refine HVA.out.mono ?_; rintro e w7 ⟨rfl, hb7⟩; have HT7 := Lib.hid (HT6.out.to hb7); clear hb7)
    clear HT6 HVA
    go_loopw [11] (fun i wr => ∃ p : Nat, p ≤ 3 ∧ i = .int .i64 p ∧ Hid (OnT w w1.heap.size L (.slice Ab (psts L).length cb) (.slice A5 (rets rs).length c5) (.slice An (psts (asOfL L (k : Int))).length cn) k rs wr)) (fun i _ => 3 - (intOf i).toNat)
    case atStart => exact ⟨0, by omega, rfl, HT7.out⟩
    case round =>
      clear HT7
      obtain ⟨p, hp, rfl, HT⟩ := hrel
      obtain ⟨wj, rfl⟩ : ∃ wo : World, wo = wr := ⟨_, rfl⟩
      by_cases hp3 : p < 3
      · have dp : decide ((p : Int) < 3) = true := decide_eq_true (by omega)
        have HLA := Lib.hid (RLatest_any rs _ (p : Int) wj HT.out.own.at (fun q hq => by have := HT.out.few HL.out q hq; omega) (by omega))
        go_wp2_with fail
        refine HLA.out.mono ?_
        rintro e w8 ⟨v8, rfl, hown8, hb8⟩
        have HLE := Lib.hid ((linP_lat (rs.map (·.1)) (p : Int)).symm.trans (HT.out.lin (p : Int)))
        obtain ⟨lt, hlt'⟩ : ∃ lt, latP (rs.map (·.1)) (p : Int) = lt := ⟨_, rfl⟩
        rw [hlt'] at hown8 HLE ⊢
        obtain ⟨A8, c8, rfl⟩ := hown8.form
        rw [lns_len] at hown8 ⊢
        have hgv : lt.vals (.slice A8 lt.l.length c8) = #[.int .i64 lt.p, .int .i64 lt.v, .slice A8 lt.l.length c8] := rfl
        rw [hgv]
        have HT8 := HT.out.to hb8
        have hal := (Below.refl w8.heap.size w8).alloc (Nat.le_refl _) (.cells #[.int .i64 lt.p, .int .i64 lt.v, .slice A8 lt.l.length c8] 32)
        have hX := Row.new w8 32 #[.int .i64 lt.p, .int .i64 lt.v, .slice A8 lt.l.length c8]
        have HT9 := Lib.hid (HT8.to hal)
        have HS9 := Lib.hid ((hown8.sl (by omega)).below hal)
        have hll : lt.l.length ≤ 24 := by rw [HLE.out]; exact Nat.le_trans (lines_len _ _) (Nat.le_trans (asOf_len L k) HL.out)
        clear hgv hlt' HLA HT hown8 hb8 HT8 hal dp
        go_upto_region 16 with (fail)
        obtain ⟨w9, hw9⟩ : ∃ w9, w8.alloc (.cells #[.int .i64 lt.p, .int .i64 lt.v, .slice A8 lt.l.length c8] 32) = w9 := ⟨_, rfl⟩
        rw [hw9] at HT9 HS9 hX ⊢
        obtain ⟨m, hm⟩ : ∃ m, w8.heap.size = m := ⟨_, rfl⟩
        rw [hm] at hX ⊢
        clear hw9 hm
        have HLN := Lib.hid (RLines_any _ (asOfL L (k : Int)) (p : Int) w9.drew (HT9.out.now.below (Below.refl _ _).drew))
        obtain ⟨⟨x0, x1, x2, xl⟩, -⟩ := row3 hX
        have HX := Lib.hid hX
        clear hX
        go_region_law (first
          | (go_simp; (with_reducible refine HLN.out.mono ?_); rintro e w10 ⟨v10, rfl, hown10, hb10⟩; have hb10' := (Below.refl w9.heap.size w9).drew.trans hb10; obtain ⟨A10, c10, rfl⟩ := hown10.form; rw [lns_len] at hown10 ⊢; have HT10 := Lib.hid (HT9.out.to hb10'); have HSA := Lib.hid (HS9.out.below hb10'); have HSB := Lib.hid (hown10.sl (by omega)); have y2 := (row3 (HX.out.below hb10' HX.out.lt)).1.2.2.1; have yl := (row3 (HX.out.below hb10' HX.out.lt)).1.2.2.2; clear hown10 hb10 hb10')
          | (go_simp; (with_reducible refine (sameLn_any _ _ _ _ _ HSA.out HSB.out (by omega) (by have := Nat.le_trans (lines_len (asOfL L (k : Int)) (p : Int)) (Nat.le_trans (asOf_len L k) HL.out); omega)).mono ?_); rw [decide_eq_true HLE.out]; rintro e w11 ⟨rfl, hb11⟩; have HT11 := Lib.hid (HT10.out.to hb11); clear hb11))
        all_goals
          clear x0 x1 x2 xl y2 yl
          go_wp2_with fail
          go_roundw
          case rel => exact ⟨p + 1, by omega, by go_num, HT11.out⟩
          case measure => simp [intOf]; omega
      · have dp : decide ((p : Int) < 3) = false := decide_eq_false (by omega)
        go_wp2_with fail
        go_roundw
        case rel => exact ⟨k + 1, rs, by omega, by go_num, HT.out.next⟩
        case measure => simp [intOf]; omega
end Go.Proofs.YtjbhabfflcbebaaGreat
