/- payrollgen.Tape.Changes; the day of the laws of timeline. -/
import Derived.Test.YtnmbaeahnfbfiaaTape
import Derived.Test.YtnmbaeahnfbfiaaRow
import Derived.Test.YtnmbaeahnfbfiaaChgV
namespace Go.Proofs.Ytnmbaeahnfbfiaa
open Go.RowKit

theorem Own.ne_low {w : World} {base e sz D : Nat} {v : Value} {es : List (List Value)} (h : Own w base e sz v es) (hD : D < base) : v.ownBlock = none ∨ v.ownBlock ≠ some D := by
  rcases hv : v.ownBlock with _ | k
  · exact .inl rfl
  · refine .inr fun e => ?_
    have := (h.1.lt k hv).1
    injection e; omega
/-- a slice of the call's own beside a tape -/
structure St (w0 w : World) (D E sz : Nat) (v : Value) (es : List (List Value)) : Prop where
  own : Own w w0.heap.size E sz v es
  tape : Tape w D
  grown : w0.grownBy w (some D)
  low : D < w0.heap.size
theorem St.draw {w0 w w' : World} {D E sz : Nat} {v : Value} {es : List (List Value)} (h : St w0 w D E sz v es) (ht : Tape w' D) (hg : w.grownBy w' (some D)) : St w0 w' D E sz v es :=
  ⟨h.own.keepG hg (h.own.ne_low h.low), ht, gb_trans h.grown hg, h.low⟩
theorem St.size {w0 w : World} {D E sz : Nat} {v : Value} {es : List (List Value)} (h : St w0 w D E sz v es) : w0.heap.size ≤ w.heap.size := h.grown.size
theorem St.alloc {w0 w : World} {D E sz : Nat} {v : Value} {es : List (List Value)} (h : St w0 w D E sz v es) (o : Obj) : St w0 (w.alloc o) D E sz v es :=
  ⟨h.own.alloc o, h.tape.below ((Below.refl _ _).alloc (Nat.le_refl _) _), gb_alloc h.grown o, h.low⟩
theorem St.below {w0 w w' : World} {D E sz : Nat} {v : Value} {es : List (List Value)} (h : St w0 w D E sz v es) (hb : Below w.heap.size w w') : St w0 w' D E sz v es :=
  ⟨h.own.kept hb, h.tape.below hb, gb_below h.grown hb, h.low⟩
theorem St.app {w0 w w' : World} {D E sz : Nat} {v v' : Value} {es fs : List (List Value)} (h : St w0 w D E sz v es) (ho : Own w' w0.heap.size E sz v' fs) (hg : w.grownBy w' v.ownBlock) : St w0 w' D E sz v' fs :=
  ⟨ho, h.tape.keep hg (fun k hk => by have := (h.own.1.lt k hk).1; have := h.low; omega), gb_new h.grown hg (fun g hg => (h.own.1.lt g hg).1), h.low⟩
/-- with a box of its own in block g -/
structure StB (w0 w : World) (D E sz : Nat) (v : Value) (es : List (List Value)) (g : Nat) (T : TypeId) (cs : Array Value) : Prop where
  st : St w0 w D E sz v es
  row : Row w g T cs
  high : w0.heap.size ≤ g
  apart : v.ownBlock ≠ some g
theorem St.box {w0 w : World} {D E sz : Nat} {v : Value} {es : List (List Value)} (h : St w0 w D E sz v es) (T : TypeId) (cs : Array Value) : StB w0 (w.alloc (.cells cs T)) D E sz v es w.heap.size T cs :=
  ⟨h.alloc _, Row.new w T cs, h.size, fun e => by have := (h.own.1.lt _ e).2; omega⟩
theorem StB.draw {w0 w w' : World} {D E sz g : Nat} {T : TypeId} {cs : Array Value} {v : Value} {es : List (List Value)} (h : StB w0 w D E sz v es g T cs) (ht : Tape w' D) (hg : w.grownBy w' (some D)) : StB w0 w' D E sz v es g T cs :=
  ⟨h.st.draw ht hg, h.row.keep hg (by intro e; injection e; have := h.high; have := h.st.low; omega), h.high, h.apart⟩
theorem StB.alloc {w0 w : World} {D E sz g : Nat} {T : TypeId} {cs : Array Value} {v : Value} {es : List (List Value)} (h : StB w0 w D E sz v es g T cs) (o : Obj) : StB w0 (w.alloc o) D E sz v es g T cs :=
  ⟨h.st.alloc o, h.row.alloc o, h.high, h.apart⟩
theorem StB.set {w0 w : World} {D E sz g : Nat} {T : TypeId} {cs : Array Value} {v : Value} {es : List (List Value)} (h : StB w0 w D E sz v es g T cs) (i : Nat) (u : Value) : StB w0 (w.setCell ⟨g, i, none⟩ u) D E sz v es g T (cs.setIfInBounds i u) :=
  ⟨⟨h.st.own.keepG (grown_set w g i u) (.inr h.apart), h.st.tape.keep (grown_set w g i u) (fun k hk => by injection hk; have := h.high; have := h.st.low; omega),
    gb_set h.st.grown (.inr h.high) u, h.st.low⟩, h.row.set i u, h.high, h.apart⟩
theorem StB.cells4 {w0 w : World} {D E sz g : Nat} {T : TypeId} {a b c d : Value} {v : Value} {es : List (List Value)} (h : StB w0 w D E sz v es g T #[a, b, c, d]) :
    (w.cell? ⟨g, 0, none⟩ = some a ∧ w.cell? ⟨g, 1, none⟩ = some b ∧ w.cell? ⟨g, 2, none⟩ = some c ∧ w.cell? ⟨g, 3, none⟩ = some d) ∧ (w.frozen? ⟨g, 0, none⟩ = false ∧ w.frozen? ⟨g, 1, none⟩ = false ∧ w.frozen? ⟨g, 2, none⟩ = false ∧ w.frozen? ⟨g, 3, none⟩ = false) ∧ g < w.heap.size :=
  ⟨⟨h.row.cell 0, h.row.cell 1, h.row.cell 2, h.row.cell 3⟩, ⟨h.row.frozen 0, h.row.frozen 1, h.row.frozen 2, h.row.frozen 3⟩, h.row.lt⟩

/-- a change that a mild tape makes -/
def mildC (c : Chg) : Prop := 0 ≤ c.f ∧ c.f ≤ 84005 ∧ 1 ≤ c.k ∧ c.k ≤ 6 ∧ 0 ≤ c.v ∧ c.v ≤ 3 ∧ (c.d = true → c.v = 0)
def MildL (wild : Bool) (cs : List Chg) : Prop := wild = false → ∀ c ∈ cs, mildC c
theorem MildL.snoc {wild : Bool} {cs : List Chg} (h : MildL wild cs) {c : Chg} (hc : wild = false → mildC c) : MildL wild (cs ++ [c]) := fun hw x hx => by
  rcases List.mem_append.1 hx with hx | hx
  · exact h hw x hx
  · rw [List.mem_singleton.1 hx]; exact hc hw
def ChgP (w : World) (D : Nat) (n : Int) (wild : Bool) (e : Ending) (w' : World) : Prop :=
  ∃ cs : List Chg, ∃ v, e = .returned v ∧ (cs.length : Int) ≤ n ∧ MildL wild cs ∧ St w w' D 40 4 v (chgs cs)
def TcR (w : World) (D : Nat) (n : Int) (wild : Bool) (r i : Value) (wr : World) : Prop :=
  ∃ cs : List Chg, ∃ k : Nat, i = .int .i64 k ∧ (k : Int) + (cs.length : Int) ≤ n ∧ Hid (MildL wild cs) ∧ Hid (St w wr D 40 4 r (chgs cs))
theorem chg_wide (c : Chg) : Wide 4 [c.vals] := fun x hx => by
  obtain rfl := List.mem_singleton.1 hx
  exact ⟨rfl, by simp [Chg.vals, Value.oneCell']⟩

set_option maxRecDepth 100000 in
set_option maxHeartbeats 4000000 in
theorem TChg_any (D : Nat) (n : Int) (wild : Bool) (w : World) (hd : Tape w D) (hn : 0 ≤ n) (hn2 : n ≤ 100) :
    Calls Try.prog 9 #[.pointer (some ⟨D, 0, none⟩), .int .i64 n, .bool wild] w (ChgP w D n wild) := by
  have HD := Lib.hid hd
  have hlt := hd.lt
  clear hd
  go_enter Try.func9, Try.ntmps9
  go_wp2_with fail
  refine (Draw_any D _ _ HD.out (by omega) (by omega)).mono ?_
  rintro e w1 ⟨r0, ⟨i1, i2⟩, rfl, ht1, hg1⟩
  obtain ⟨k0, rfl⟩ := Int.eq_ofNat_of_zero_le i1
  go_wp2_with fail
  go_loopw [7, 8] (fun r i wr => TcR w D n wild r i wr) (fun _ i _ => (intOf i).toNat)
  case atStart => exact ⟨[], k0, rfl, by simp; omega, (fun _ c hc => by cases hc), ⟨Own.nil _ _ _ _, ht1, hg1, hlt⟩⟩
  case round =>
    clear ht1 hg1 HD i2
    obtain ⟨cs, k, rfl, hkn, HC, HS⟩ := hrel
    obtain ⟨wo, rfl⟩ : ∃ wo : World, wo = wr := ⟨_, rfl⟩
    by_cases hk : 0 < k
    · obtain ⟨k, rfl⟩ : ∃ j, k = j + 1 := ⟨k - 1, by omega⟩
      have s0 := HS.out
      go_wp2_with fail
      refine (Draw_any D 6 _ s0.tape (by omega) (by omega)).mono ?_
      rintro e w1 ⟨r1, ⟨a1, b1⟩, rfl, t1, g1⟩
      have s1 := s0.draw t1 g1
      clear t1 g1 s0 HS
      go_wp2_with fail
      refine (Draw_any D 6 _ s1.tape (by omega) (by omega)).mono ?_
      rintro e w2 ⟨r2, ⟨a2, b2⟩, rfl, t2, g2⟩
      have s2 := s1.draw t2 g2
      clear t2 g2 s1
      go_wp2_with fail
      refine (Draw_any D 4 _ s2.tape (by omega) (by omega)).mono ?_
      rintro e w3 ⟨r3, ⟨a3, b3⟩, rfl, t3, g3⟩
      have s3 := s2.draw t3 g3
      clear t3 g3 s2
      have x3 := s3.box 40 #[.int .i64 (20454 + r1 * 5), .int .i64 (1 + r2), .int .i64 r3, .bool false]
      obtain ⟨g, hgg⟩ : ∃ g, w3.heap.size = g := ⟨_, rfl⟩
      rw [hgg] at x3
      go_wp2_with fail
      refine (Draw_any D 4 _ x3.st.tape (by omega) (by omega)).mono ?_
      rintro e w4 ⟨r4, ⟨a4, b4⟩, rfl, t4, g4⟩
      have x4 := x3.draw t4 g4
      clear t4 g4 x3 s3 hgg

      by_cases h4 : r4 = 3
      · have e4 : (r4 == 3) = true := by simpa using h4
        obtain ⟨⟨c0, c1, c2, c3⟩, ⟨f0, f1, f2, f3⟩, hgl⟩ := x4.cells4
        clear h4
        go_wp2_with fail
        have x5 := (x4.set 2 (.int .i64 0)).set 3 (.bool true)
        simp only [List.setIfInBounds_toArray, List.set_cons_succ, List.set_cons_zero] at x5
        obtain ⟨W5, hW5⟩ : ∃ W, (w4.setCell ⟨g, 2, none⟩ (.int .i64 0)).setCell ⟨g, 3, none⟩ (.bool true) = W := ⟨_, rfl⟩
        rw [hW5] at x5 ⊢
        clear hW5 c0 c1 c2 c3 f0 f1 f2 f3 hgl x4 e4
        refine (Draw_any D 12 _ x5.st.tape (by omega) (by omega)).mono ?_
        rintro e w6 ⟨r6, ⟨a6, b6⟩, rfl, t6, g6⟩
        have x6 := x5.draw t6 g6
        clear t6 g6 x5
        by_cases h10 : r6 = 10
        · have e6 : (r6 == 10) = true := by simpa using h10
          clear h10
          go_wp2_with fail
          have x7 := x6.alloc (.cells #[.int .i64 0, .int .i64 84005] 3)
          have hgl6 := x6.st.size
          have hlow := x6.st.low
          refine (Choice_any D _ _ [0, 84005] _ x7.st.tape (by simp) (by simp) (by omega) (cellsAt_ints _ _ _ _ rfl)).mono ?_
          rintro e w7 ⟨q, hq, rfl, t7, g7⟩
          have x8 := x7.draw t7 g7
          have hq1 : 0 ≤ q ∧ q ≤ 84005 := by simp at hq; omega
          obtain ⟨q1, q2⟩ := hq1
          clear hq t7 g7 x7 x6
          obtain ⟨⟨c0, c1, c2, c3⟩, ⟨f0, f1, f2, f3⟩, hgl⟩ := x8.cells4
          have x9 := x8.set 0 (.int .i64 q)
          simp only [List.setIfInBounds_toArray, List.set_cons_zero] at x9
          have H9 := Lib.hid x9
          clear x9
          have HM := Lib.hid (HC.out.snoc (c := ⟨q, 1 + r2, 0, true⟩) (fun _ => by unfold mildC; simp only; refine ⟨by omega, by omega, by omega, by omega, by omega, by omega, by simp⟩))
          go_wp2_with (at_builtin; (refine wpList_append_sl rfl (.tmp 52) (.tmp 54) rfl rowChg w.heap.size _ _ _ [Chg.vals ⟨q, 1 + r2, 0, true⟩] rfl (H9.out.st.alloc _).own rfl (Sl.one (by simp) rfl) (chg_wide _) (by rw [chgs_len]; unfold maxLen; simp <;> omega) (by rw [chgs_len]; simp <;> omega) (H9.out.st.alloc _).size ?_); intro v3 w3 hown3 hg3 _; have s9 := Lib.hid ((H9.out.st.alloc _).app hown3 hg3))
          go_roundw
          case rel => exact ⟨cs ++ [⟨q, 1 + r2, 0, true⟩], k, by go_num, by simp; omega, HM, by rw [chgs_append]; exact s9⟩
          case measure => simp [intOf] <;> omega

        · have e6 : (r6 == 10) = false := by simpa using h10
          clear h10
          by_cases h11 : r6 = 11
          · have e7 : (r6 == 11) = true := by simpa using h11
            clear h11
            cases wild
            · obtain ⟨⟨c0, c1, c2, c3⟩, ⟨f0, f1, f2, f3⟩, hgl⟩ := x6.cells4
              have H9 := Lib.hid x6
              clear x6
              have HM := Lib.hid (HC.out.snoc (c := ⟨20454 + r1 * 5, 1 + r2, 0, true⟩) (fun _ => by unfold mildC; simp only; refine ⟨by omega, by omega, by omega, by omega, by omega, by omega, by simp⟩))
              go_wp2_with (at_builtin; (refine wpList_append_sl rfl (.tmp 52) (.tmp 54) rfl rowChg w.heap.size _ _ _ [Chg.vals ⟨20454 + r1 * 5, 1 + r2, 0, true⟩] rfl (H9.out.st.alloc _).own rfl (Sl.one (by simp) rfl) (chg_wide _) (by rw [chgs_len]; unfold maxLen; simp <;> omega) (by rw [chgs_len]; simp <;> omega) (H9.out.st.alloc _).size ?_); intro v3 w3 hown3 hg3 _; have s9 := Lib.hid ((H9.out.st.alloc _).app hown3 hg3))
              go_roundw
              case rel => exact ⟨cs ++ [⟨20454 + r1 * 5, 1 + r2, 0, true⟩], k, by go_num, by simp; omega, HM, by rw [chgs_append]; exact s9⟩
              case measure => simp [intOf] <;> omega

            · go_wp2_with fail
              have x7 := x6.alloc (.cells #[.int .i64 (-1), .int .i64 5, .int .i64 84006] 3)
              have hgl6 := x6.st.size
              have hlow := x6.st.low
              refine (Choice_any D _ _ [-1, 5, 84006] _ x7.st.tape (by simp) (by simp) (by omega) (cellsAt_ints _ _ _ _ rfl)).mono ?_
              rintro e w7 ⟨q, hq, rfl, t7, g7⟩
              have x8 := x7.draw t7 g7
              clear hq t7 g7 x7 x6
              go_wp2_with fail
              have x9 := x8.alloc (.cells #[.int .i64 (-1), .int .i64 3] 3)
              have hgl8 := x8.st.size
              refine (Choice_any D _ _ [-1, 3] _ x9.st.tape (by simp) (by simp) (by omega) (cellsAt_ints _ _ _ _ rfl)).mono ?_
              rintro e w8 ⟨q2, hq2, rfl, t8, g8⟩
              have x10 := x9.draw t8 g8
              clear hq2 t8 g8 x9 x8
              obtain ⟨⟨c0, c1, c2, c3⟩, ⟨f0, f1, f2, f3⟩, hgl⟩ := x10.cells4
              have x11 := (x10.set 0 (.int .i64 q)).set 1 (.int .i64 q2)
              simp only [List.setIfInBounds_toArray, List.set_cons_succ, List.set_cons_zero] at x11
              have H9 := Lib.hid x11
              clear x11
              have HM := Lib.hid (HC.out.snoc (c := ⟨q, q2, 0, true⟩) (fun h => by cases h))
              go_wp2_with (at_builtin; (refine wpList_append_sl rfl (.tmp 52) (.tmp 54) rfl rowChg w.heap.size _ _ _ [Chg.vals ⟨q, q2, 0, true⟩] rfl (H9.out.st.alloc _).own rfl (Sl.one (by simp) rfl) (chg_wide _) (by rw [chgs_len]; unfold maxLen; simp <;> omega) (by rw [chgs_len]; simp <;> omega) (H9.out.st.alloc _).size ?_); intro v3 w3 hown3 hg3 _; have s9 := Lib.hid ((H9.out.st.alloc _).app hown3 hg3))
              go_roundw
              case rel => exact ⟨cs ++ [⟨q, q2, 0, true⟩], k, by go_num, by simp; omega, HM, by rw [chgs_append]; exact s9⟩
              case measure => simp [intOf] <;> omega

          · have e7 : (r6 == 11) = false := by simpa using h11
            clear h11
            obtain ⟨⟨c0, c1, c2, c3⟩, ⟨f0, f1, f2, f3⟩, hgl⟩ := x6.cells4
            have H9 := Lib.hid x6
            clear x6
            have HM := Lib.hid (HC.out.snoc (c := ⟨20454 + r1 * 5, 1 + r2, 0, true⟩) (fun _ => by unfold mildC; simp only; refine ⟨by omega, by omega, by omega, by omega, by omega, by omega, by simp⟩))
            go_wp2_with (at_builtin; (refine wpList_append_sl rfl (.tmp 52) (.tmp 54) rfl rowChg w.heap.size _ _ _ [Chg.vals ⟨20454 + r1 * 5, 1 + r2, 0, true⟩] rfl (H9.out.st.alloc _).own rfl (Sl.one (by simp) rfl) (chg_wide _) (by rw [chgs_len]; unfold maxLen; simp <;> omega) (by rw [chgs_len]; simp <;> omega) (H9.out.st.alloc _).size ?_); intro v3 w3 hown3 hg3 _; have s9 := Lib.hid ((H9.out.st.alloc _).app hown3 hg3))
            go_roundw
            case rel => exact ⟨cs ++ [⟨20454 + r1 * 5, 1 + r2, 0, true⟩], k, by go_num, by simp; omega, HM, by rw [chgs_append]; exact s9⟩
            case measure => simp [intOf] <;> omega
      · have e4 : (r4 == 3) = false := by simpa using h4
        clear h4
        go_wp2_with fail
        have x5 := x4
        obtain ⟨W5, hW5⟩ : ∃ W, w4 = W := ⟨_, rfl⟩
        rw [hW5] at x5 ⊢
        clear hW5 x4 e4
        refine (Draw_any D 12 _ x5.st.tape (by omega) (by omega)).mono ?_
        rintro e w6 ⟨r6, ⟨a6, b6⟩, rfl, t6, g6⟩
        have x6 := x5.draw t6 g6
        clear t6 g6 x5
        by_cases h10 : r6 = 10
        · have e6 : (r6 == 10) = true := by simpa using h10
          clear h10
          go_wp2_with fail
          have x7 := x6.alloc (.cells #[.int .i64 0, .int .i64 84005] 3)
          have hgl6 := x6.st.size
          have hlow := x6.st.low
          refine (Choice_any D _ _ [0, 84005] _ x7.st.tape (by simp) (by simp) (by omega) (cellsAt_ints _ _ _ _ rfl)).mono ?_
          rintro e w7 ⟨q, hq, rfl, t7, g7⟩
          have x8 := x7.draw t7 g7
          have hq1 : 0 ≤ q ∧ q ≤ 84005 := by simp at hq; omega
          obtain ⟨q1, q2⟩ := hq1
          clear hq t7 g7 x7 x6
          obtain ⟨⟨c0, c1, c2, c3⟩, ⟨f0, f1, f2, f3⟩, hgl⟩ := x8.cells4
          have x9 := x8.set 0 (.int .i64 q)
          simp only [List.setIfInBounds_toArray, List.set_cons_zero] at x9
          have H9 := Lib.hid x9
          clear x9
          have HM := Lib.hid (HC.out.snoc (c := ⟨q, 1 + r2, r3, false⟩) (fun _ => by unfold mildC; simp only; refine ⟨by omega, by omega, by omega, by omega, by omega, by omega, by simp⟩))
          go_wp2_with (at_builtin; (refine wpList_append_sl rfl (.tmp 52) (.tmp 54) rfl rowChg w.heap.size _ _ _ [Chg.vals ⟨q, 1 + r2, r3, false⟩] rfl (H9.out.st.alloc _).own rfl (Sl.one (by simp) rfl) (chg_wide _) (by rw [chgs_len]; unfold maxLen; simp <;> omega) (by rw [chgs_len]; simp <;> omega) (H9.out.st.alloc _).size ?_); intro v3 w3 hown3 hg3 _; have s9 := Lib.hid ((H9.out.st.alloc _).app hown3 hg3))
          go_roundw
          case rel => exact ⟨cs ++ [⟨q, 1 + r2, r3, false⟩], k, by go_num, by simp; omega, HM, by rw [chgs_append]; exact s9⟩
          case measure => simp [intOf] <;> omega

        · have e6 : (r6 == 10) = false := by simpa using h10
          clear h10
          by_cases h11 : r6 = 11
          · have e7 : (r6 == 11) = true := by simpa using h11
            clear h11
            cases wild
            · obtain ⟨⟨c0, c1, c2, c3⟩, ⟨f0, f1, f2, f3⟩, hgl⟩ := x6.cells4
              have H9 := Lib.hid x6
              clear x6
              have HM := Lib.hid (HC.out.snoc (c := ⟨20454 + r1 * 5, 1 + r2, r3, false⟩) (fun _ => by unfold mildC; simp only; refine ⟨by omega, by omega, by omega, by omega, by omega, by omega, by simp⟩))
              go_wp2_with (at_builtin; (refine wpList_append_sl rfl (.tmp 52) (.tmp 54) rfl rowChg w.heap.size _ _ _ [Chg.vals ⟨20454 + r1 * 5, 1 + r2, r3, false⟩] rfl (H9.out.st.alloc _).own rfl (Sl.one (by simp) rfl) (chg_wide _) (by rw [chgs_len]; unfold maxLen; simp <;> omega) (by rw [chgs_len]; simp <;> omega) (H9.out.st.alloc _).size ?_); intro v3 w3 hown3 hg3 _; have s9 := Lib.hid ((H9.out.st.alloc _).app hown3 hg3))
              go_roundw
              case rel => exact ⟨cs ++ [⟨20454 + r1 * 5, 1 + r2, r3, false⟩], k, by go_num, by simp; omega, HM, by rw [chgs_append]; exact s9⟩
              case measure => simp [intOf] <;> omega

            · go_wp2_with fail
              have x7 := x6.alloc (.cells #[.int .i64 (-1), .int .i64 5, .int .i64 84006] 3)
              have hgl6 := x6.st.size
              have hlow := x6.st.low
              refine (Choice_any D _ _ [-1, 5, 84006] _ x7.st.tape (by simp) (by simp) (by omega) (cellsAt_ints _ _ _ _ rfl)).mono ?_
              rintro e w7 ⟨q, hq, rfl, t7, g7⟩
              have x8 := x7.draw t7 g7
              clear hq t7 g7 x7 x6
              go_wp2_with fail
              have x9 := x8.alloc (.cells #[.int .i64 (-1), .int .i64 3] 3)
              have hgl8 := x8.st.size
              refine (Choice_any D _ _ [-1, 3] _ x9.st.tape (by simp) (by simp) (by omega) (cellsAt_ints _ _ _ _ rfl)).mono ?_
              rintro e w8 ⟨q2, hq2, rfl, t8, g8⟩
              have x10 := x9.draw t8 g8
              clear hq2 t8 g8 x9 x8
              obtain ⟨⟨c0, c1, c2, c3⟩, ⟨f0, f1, f2, f3⟩, hgl⟩ := x10.cells4
              have x11 := (x10.set 0 (.int .i64 q)).set 1 (.int .i64 q2)
              simp only [List.setIfInBounds_toArray, List.set_cons_succ, List.set_cons_zero] at x11
              have H9 := Lib.hid x11
              clear x11
              have HM := Lib.hid (HC.out.snoc (c := ⟨q, q2, r3, false⟩) (fun h => by cases h))
              go_wp2_with (at_builtin; (refine wpList_append_sl rfl (.tmp 52) (.tmp 54) rfl rowChg w.heap.size _ _ _ [Chg.vals ⟨q, q2, r3, false⟩] rfl (H9.out.st.alloc _).own rfl (Sl.one (by simp) rfl) (chg_wide _) (by rw [chgs_len]; unfold maxLen; simp <;> omega) (by rw [chgs_len]; simp <;> omega) (H9.out.st.alloc _).size ?_); intro v3 w3 hown3 hg3 _; have s9 := Lib.hid ((H9.out.st.alloc _).app hown3 hg3))
              go_roundw
              case rel => exact ⟨cs ++ [⟨q, q2, r3, false⟩], k, by go_num, by simp; omega, HM, by rw [chgs_append]; exact s9⟩
              case measure => simp [intOf] <;> omega

          · have e7 : (r6 == 11) = false := by simpa using h11
            clear h11
            obtain ⟨⟨c0, c1, c2, c3⟩, ⟨f0, f1, f2, f3⟩, hgl⟩ := x6.cells4
            have H9 := Lib.hid x6
            clear x6
            have HM := Lib.hid (HC.out.snoc (c := ⟨20454 + r1 * 5, 1 + r2, r3, false⟩) (fun _ => by unfold mildC; simp only; refine ⟨by omega, by omega, by omega, by omega, by omega, by omega, by simp⟩))
            go_wp2_with (at_builtin; (refine wpList_append_sl rfl (.tmp 52) (.tmp 54) rfl rowChg w.heap.size _ _ _ [Chg.vals ⟨20454 + r1 * 5, 1 + r2, r3, false⟩] rfl (H9.out.st.alloc _).own rfl (Sl.one (by simp) rfl) (chg_wide _) (by rw [chgs_len]; unfold maxLen; simp <;> omega) (by rw [chgs_len]; simp <;> omega) (H9.out.st.alloc _).size ?_); intro v3 w3 hown3 hg3 _; have s9 := Lib.hid ((H9.out.st.alloc _).app hown3 hg3))
            go_roundw
            case rel => exact ⟨cs ++ [⟨20454 + r1 * 5, 1 + r2, r3, false⟩], k, by go_num, by simp; omega, HM, by rw [chgs_append]; exact s9⟩
            case measure => simp [intOf] <;> omega
    · obtain rfl : k = 0 := by omega
      go_wp2
      go_ret
      exact ⟨cs, _, rfl, by simp at hkn; omega, HC.out, HS.out⟩
def DayP (w : World) (D : Nat) (e : Ending) (w' : World) : Prop :=
  ∃ r : Int, (0 ≤ r ∧ r ≤ 84005) ∧ e = .returned (.int .i64 r) ∧ Tape w' D ∧ w.grownBy w' (some D)
set_option maxRecDepth 100000 in
theorem day_any (D : Nat) (w : World) (hd : Tape w D) : Calls Try.prog 14 #[.pointer (some ⟨D, 0, none⟩)] w (DayP w D) := by
  have HD := Lib.hid hd
  have hlt := hd.lt
  clear hd
  go_enter Try.func14, Try.ntmps14
  go_wp2_with fail
  refine (Draw_any D _ _ HD.out (by omega) (by omega)).mono ?_
  rintro e w1 ⟨r, ⟨a1, b1⟩, rfl, ht1, hg1⟩
  have hz1 := hg1.size
  go_wp2_with fail
  refine (Choice_any D _ _ [r - 2, -20454, 63551] _ (ht1.below ((Below.refl _ _).alloc (Nat.le_refl _) _)) (by simp) (by simp) (by omega) (cellsAt_ints _ _ _ _ rfl)).mono ?_
  rintro e w2 ⟨q, hq, rfl, ht2, hg2⟩
  have hq1 : -20454 ≤ q ∧ q ≤ 63551 := by simp at hq; omega
  obtain ⟨q1, q2⟩ := hq1
  clear hq
  go_wp2
  go_ret
  exact ⟨_, ⟨by omega, by omega⟩, rfl, ht2, gb_trans (gb_alloc hg1 _) hg2⟩
end Go.Proofs.Ytnmbaeahnfbfiaa
