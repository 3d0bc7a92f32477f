/- Contracts of the reference of payslip: Less, put. -/
import Derived.Test.YtljhdkdabiemmaaDoorColS
import Derived.Test.YtljhdkdabiemmaaDoorExt
import Derived.Test.YtljhdkdabiemmaaDoorRow
import Derived.Deep.CutBlock
import Derived.Deep.DeepCutAuto
import Derived.RegionTactic
import Derived.IntWalk
namespace Go.Proofs.YtljhdkdabiemmaaDoor
open Go.RowKit

set_option maxHeartbeats 800000 in
theorem Less_any (a b : Ln) (w : World) :
    Calls Tryd.prog 43 #[.agg #[.int .i64 a.kind, .string a.code, .int .i64 a.amt], .agg #[.int .i64 b.kind, .string b.code, .int .i64 b.amt]] w fun e w' => e = .returned (.bool (lnLt a b)) ∧ Below w.heap.size w w' := by
  by_cases h1 : a.kind < b.kind
  · have H : Hid (lnLt a b = true) := by simp [Hid, lnLt, h1]
    have d1 : decide (a.kind < b.kind) = true := decide_eq_true h1
    go_enter Tryd.func43, Tryd.ntmps43
    go_wp2
    go_ret
    exact ⟨ret_bool H.out.symm, ((Below.refl _ _).alloc (Nat.le_refl _) _).alloc (by simp) _⟩
  have d1 : decide (a.kind < b.kind) = false := decide_eq_false h1
  cases e2 : (a.kind == b.kind)
  · have H : Hid (lnLt a b = false) := by simp [Hid, lnLt, h1, show ¬ a.kind = b.kind by simpa using e2]
    go_enter Tryd.func43, Tryd.ntmps43
    go_wp2
    go_ret
    exact ⟨ret_bool H.out.symm, ((Below.refl _ _).alloc (Nat.le_refl _) _).alloc (by simp) _⟩
  · have H : Hid (lnLt a b = Op.bytesLess a.code.toList b.code.toList) := by
      rw [Hid, bytesLess_eq]
      simp [lnLt, show a.kind = b.kind by simpa using e2]
    go_enter Tryd.func43, Tryd.ntmps43
    go_wp2
    go_ret
    exact ⟨ret_bool H.out.symm, ((Below.refl _ _).alloc (Nat.le_refl _) _).alloc (by simp) _⟩

/-- a line is put into ordered lines -/
def putR (x : Ln) : List Ln → List Ln
  | [] => [x]
  | a :: r => if lnLt a x then a :: putR x r else if a.kind = x.kind ∧ a.code = x.code then ⟨x.kind, x.code, x.amt + a.amt⟩ :: r else x :: a :: r
theorem putR_same {x : Ln} : ∀ {l : List Ln} {j : Nat} (hj : j < l.length), (∀ i (h : i < j), lnLt (l[i]'(by omega)) x = true) → lnLt l[j] x = false → (l[j].kind = x.kind ∧ l[j].code = x.code) → putR x l = l.take j ++ ⟨x.kind, x.code, x.amt + l[j].amt⟩ :: l.drop (j + 1)
  | a :: r, 0, _, _, h2, h3 => by
    simp only [List.getElem_cons_zero] at h2 h3
    simp [putR, h2, h3]
  | a :: r, j + 1, hj, h1, h2, h3 => by
    have h0 := h1 0 (by omega)
    simp only [List.getElem_cons_zero] at h0
    have := putR_same (x := x) (l := r) (j := j) (by simpa using hj) (fun i hi => by have := h1 (i + 1) (by omega); simpa using this) (by simpa using h2) (by simpa using h3)
    simp [putR, h0, this]
theorem putR_new {x : Ln} : ∀ {l : List Ln} {j : Nat} (hj : j ≤ l.length), (∀ i (h : i < j), lnLt (l[i]'(by omega)) x = true) → (∀ h : j < l.length, lnLt l[j] x = false ∧ ¬ (l[j].kind = x.kind ∧ l[j].code = x.code)) → putR x l = l.take j ++ x :: l.drop j
  | [], 0, _, _, _ => rfl
  | a :: r, 0, _, _, h2 => by
    have h2 := h2 (by simp)
    simp only [List.getElem_cons_zero] at h2
    simp [putR, h2.1, h2.2]
  | a :: r, j + 1, hj, h1, h2 => by
    have h0 := h1 0 (by omega)
    simp only [List.getElem_cons_zero] at h0
    have := putR_new (x := x) (l := r) (j := j) (by simpa using hj) (fun i hi => by have := h1 (i + 1) (by omega); simpa using this) (fun h => by have := h2 (by simpa using h); simpa using this)
    simp [putR, h0, this]
  | [], j + 1, hj, _, _ => by simp at hj
/-- a line in a box -/
def Box (w : World) (B : Nat) (x : Ln) : Prop := Row w B 25 #[.int .i64 x.kind, .string x.code, .int .i64 x.amt]
theorem Box.cells {w : World} {B : Nat} {x : Ln} (h : Box w B x) : w.cell? ⟨B, 0, none⟩ = some (.int .i64 x.kind) ∧ w.cell? ⟨B, 1, none⟩ = some (.string x.code) ∧ w.cell? ⟨B, 2, none⟩ = some (.int .i64 x.amt) ∧ w.frozen? ⟨B, 2, none⟩ = false ∧ B < w.heap.size :=
  ⟨Row.cell h 0, Row.cell h 1, Row.cell h 2, Row.frozen h 2, Row.lt h⟩
theorem Box.below {w w' : World} {B C : Nat} {x : Ln} (h : Box w B x) (hb : Below C w w') (hB : B < C) : Box w' B x := Row.below h hb hB
theorem Box.add {w : World} {B : Nat} {x : Ln} (h : Box w B x) (a : Int) : Box (w.setCell ⟨B, 2, none⟩ (.int .i64 a)) B ⟨x.kind, x.code, a⟩ := Row.set h 2 _
/-- the tail of a slice, as the code makes it -/
theorem Sl.from {w : World} {sz n cap : Nat} {A : Option Addr} {es : List (List Value)} (h : Sl w sz (.slice A n cap) es) (j : Nat) (hj : j ≤ n) :
    Sl w sz (.slice (if cap = j then A else A.map (·.add (j * sz))) (n - j) (cap - j)) (es.drop j) := by
  obtain ⟨A', cap', he, h1, h2, h3, h4⟩ := h
  injection he with e1 e2 e3
  subst e1 e2 e3
  refine ⟨_, cap - j, by rw [List.length_drop], by rw [List.length_drop]; omega, by omega, fun hA => ?_, ?_⟩
  · cases A with
    | none => have := h3 rfl; omega
    | some a =>
      exfalso
      by_cases hc : cap = j
      · rw [if_pos hc] at hA; cases hA
      · rw [if_neg hc] at hA; cases hA
  · rcases h4 with rfl | ⟨b, off, rfl, h5, h6⟩
    · exact .inl (by simp)
    · by_cases hc : cap = j
      · left; rw [List.drop_of_length_le (by omega)]
      · right
        refine ⟨b, off + j * sz, ?_, h5, fun i e hi k u hk => ?_⟩
        · rw [if_neg hc]
          simp only [Option.map_some, Addr.add]
          by_cases h0 : j * sz = 0
          · rw [if_pos h0, h0]; rfl
          · rw [if_neg h0]
        · rw [List.getElem?_drop] at hi
          have := h6 (j + i) e hi k u hk
          rw [Nat.add_mul] at this
          rw [← this]
          congr 2
          omega

/-- the line at place j has the title of x -/
def sameAt (l : List Ln) (x : Ln) (j : Nat) : Bool := match l[j]? with
  | some a => (a.kind == x.kind) && (a.code.toList == x.code.toList)
  | none => false
theorem sameAt_no {l : List Ln} {x : Ln} {j : Nat} (h : ¬ j < l.length) : sameAt l x j = false := by simp [sameAt, h]
theorem sameAt_at {l : List Ln} {x : Ln} {j : Nat} (h : j < l.length) : sameAt l x j = ((l[j].kind == x.kind) && (l[j].code.toList == x.code.toList)) := by simp [sameAt, h]
/-- in the middle of put -/
def PutMid (w : World) (base B T : Nat) (t : Value) (l : List Ln) (x : Ln) (j : Nat) (i : Value) (wx : World) : Prop :=
  ∃ (y : Ln) (k : Nat), i = .int .i64 k ∧ k ≤ l.length ∧ l.take j ++ y :: l.drop k = putR x l ∧ Box wx B y ∧ Own wx base T 3 t (lns (l.take j)) ∧ Below w.heap.size w wx ∧ base ≤ wx.heap.size
set_option maxRecDepth 100000 in
set_option maxHeartbeats 3200000 in
theorem put_any (v : Value) (l : List Ln) (x : Ln) (w : World) (hv : Sl w 3 v (lns l)) (hlen : l.length ≤ 1000000) (hx : -1000000000000000 ≤ x.amt ∧ x.amt ≤ 1000000000000000) (hl : ∀ a ∈ l, -1000000000000000000 ≤ a.amt ∧ a.amt ≤ 1000000000000000000) :
    Calls Tryd.prog 30 #[v, .agg #[.int .i64 x.kind, .string x.code, .int .i64 x.amt]] w (RetOwn w 25 3 (lns (putR x l))) := by
  have H1 := Lib.hid hv
  obtain ⟨A, cap, rfl, h1, h2, x1, h3⟩ := hv
  rw [lns_len] at h1 H1 ⊢
  unfold maxLen at h2
  have H3 := Lib.hid h3
  have HL := Lib.hid hl
  clear h3 x1 hl
  go_enter Tryd.func30, Tryd.ntmps30
  go_upto_block 0 with (fail)
  obtain ⟨w0, hw0⟩ : ∃ w0, w0 = w.alloc (Obj.cells #[Value.int IntKind.i64 x.kind, Value.string x.code, Value.int IntKind.i64 x.amt] 25) := ⟨_, rfl⟩
  rw [← hw0]
  have hb0 : Below w.heap.size w w0 := by rw [hw0]; exact (Below.refl _ _).alloc (Nat.le_refl _) _
  have hs0 : w0.heap.size = w.heap.size + 1 := by rw [hw0]; simp
  have HB0 : Hid (Box w0 w.heap.size x) := by
    rw [Hid, hw0]
    exact Row.new w _ _
  clear hw0
  have hs0' : w.heap.size + 1 ≤ w0.heap.size := by omega
  have HS0 := Lib.hid hs0
  clear hs0
  go_cut [5, 6] (fun t i wx => ∃ j : Nat, j ≤ l.length ∧ i = .int .i64 j ∧ Own wx w0.heap.size 25 3 t (lns (l.take j)) ∧ Below w0.heap.size w0 wx ∧ Hid (∀ i (h : i < j) (h' : i < l.length), lnLt l[i] x = true) ∧ Hid (∀ h : j < l.length, lnLt l[j] x = false))
  case first =>
    go_wp2_with fail
    go_loopw [5, 6] (fun t i wr => ∃ j : Nat, j ≤ l.length ∧ i = .int .i64 j ∧ Own wr w0.heap.size 25 3 t (lns (l.take j)) ∧ Below w0.heap.size w0 wr ∧ Hid (∀ i (h : i < j) (h' : i < l.length), lnLt l[i] x = true)) (fun _ i _ => l.length - (intOf i).toNat)
    case atStart => exact ⟨0, by omega, rfl, Own.nil _ _ _ _, Below.refl _ _, fun i h => absurd h (by omega)⟩
    case round =>
      obtain ⟨j, hj, rfl, hown, hb, HJ⟩ := hrel
      have hbs := hb.size
      obtain ⟨b0, b1, b2, _, bl⟩ := (HB0.out.below hb (by omega)).cells
      have e0 := ext_cell bl b0
      have e1 := ext_cell bl b1
      have e2 := ext_cell bl b2
      by_cases hlt : j < l.length
      · have dl : decide (j < l.length) = true := decide_eq_true hlt
        rcases H3.out with h | ⟨b, off, rfl, hc0⟩
        · exact (lns_pos hlt h).elim
        · have hbl : b < wr.heap.size := Nat.lt_of_lt_of_le hc0.1 (Nat.le_trans (Nat.le_of_lt (by omega)) hbs)
          obtain ⟨c0, c1, c2⟩ := ((hc0.below hb0 hc0.1).below hb (Nat.lt_of_lt_of_le hc0.1 (by omega))).ln hlt
          have f0 := ext_cell hbl c0
          have f1 := ext_cell hbl c1
          have f2 := ext_cell hbl c2
          clear b0 b1 b2 H3 hc0
          cases hr : lnLt l[j] x
          · have HCON := Lib.hid (fun y : Ext wr => (show Calls Tryd.prog 43 #[.agg #[.int .i64 l[j].kind, .string l[j].code, .int .i64 l[j].amt], .agg #[.int .i64 x.kind, .string x.code, .int .i64 x.amt]] y.val fun e w' => e = .returned (.bool false) ∧ Below y.val.heap.size y.val w' by rw [← hr]; exact Less_any _ _ _))
            have HF : Hid (∀ h : j < l.length, lnLt l[j] x = false) := fun _ => hr
            go_wp2_with fail
            refine region_ext (by kernel_rfl) (by kernel_rfl) ?_
            repeat (go_big_quiet_step ((go_at_call 43; exact ext_call (HCON.out _))))
            refine wpQuiet_nil ?_
            rintro _ ⟨y, rfl⟩
            go_wp2_with fail
            go_meet
            exact ⟨j, hj, rfl, hown.kept y.property, hb.trans (y.property.mono hbs), HJ, HF⟩
          · have HCON := Lib.hid (fun y : Ext wr => (show Calls Tryd.prog 43 #[.agg #[.int .i64 l[j].kind, .string l[j].code, .int .i64 l[j].amt], .agg #[.int .i64 x.kind, .string x.code, .int .i64 x.amt]] y.val fun e w' => e = .returned (.bool true) ∧ Below y.val.heap.size y.val w' by rw [← hr]; exact Less_any _ _ _))
            have HT : Hid (∀ i (h : i < j + 1) (h' : i < l.length), lnLt l[i] x = true) := fun i hi hl' => by
              by_cases e : i = j
              · subst e; exact hr
              · exact HJ.out i (by omega) hl'
            have HTK : Hid (l.take (j + 1) = l.take j ++ [l[j]]) := by rw [Hid, List.take_succ_eq_append_getElem hlt]
            have hlj : (l.take j).length = j := by rw [List.length_take]; omega
            have HLJ := Lib.hid hlj
            clear hlj
            go_wp2_with fail
            refine region_ext (by kernel_rfl) (by kernel_rfl) ?_
            repeat (go_big_quiet_step ((go_at_call 43; exact ext_call (HCON.out _))))
            refine wpQuiet_nil ?_
            rintro _ ⟨y, rfl⟩
            have hyb := y.property
            have hown' := hown.kept y.property
            have hb' := hb.trans (y.property.mono hbs)
            have hbs' := hb'.size
            have k0 := f0 y
            have k1 := f1 y
            have k2 := f2 y
            clear f0 f1 f2 e0 e1 e2
            generalize y.val = wy at *
            go_wp2_with (at_builtin; refine wpList_append_sl rfl (.tmp 21) (.tmp 26) rfl rowLn w0.heap.size _ _ _ (lns [l[j]]) rfl (hown'.alloc _) rfl (Sl.one rfl rfl) (lns_wide _) (by rw [lns_len, lns_len, HLJ.out]; unfold maxLen; simp; omega) (by rw [lns_len, lns_len, HLJ.out]; simp; omega) (by simp; omega) ?_; intro v4 w4 hown4 hg4 _; have hb4 := Own.grown (hown'.alloc _) (hb'.alloc hbs' _) hg4 (by simp; omega); rw [← lns_append, ← HTK.out] at hown4)
            go_roundw
            case rel => exact ⟨j + 1, by omega, by go_num, hown4, hb4, HT⟩
            case measure => simp [intOf]; omega
      · have dl : decide (j < l.length) = false := decide_eq_false hlt
        have HF : Hid (∀ h : j < l.length, lnLt l[j] x = false) := fun h => absurd h hlt
        have HCON := Lib.hid (fun y : Ext wr => Less_any x x y.val)
        go_wp2_with fail
        refine region_ext (by kernel_rfl) (by kernel_rfl) ?_
        repeat (go_big_quiet_step ((go_at_call 43; exact ext_call (HCON.out _))))
        refine wpQuiet_nil ?_
        rintro _ ⟨y, rfl⟩
        go_wp2_with fail
        go_meet
        exact ⟨j, hj, rfl, hown.kept y.property, hb.trans (y.property.mono hbs), HJ, HF⟩
  case rest =>
    obtain ⟨j, hj, rfl, hown, hb, HJ, HF⟩ := hcut
    obtain ⟨tv, htv⟩ : ∃ tv : Value, tv = u5 := ⟨_, rfl⟩
    subst htv
    obtain ⟨w2, hw2⟩ : ∃ w2 : World, w2 = wc := ⟨_, rfl⟩
    subst hw2
    have hbs := hb.size
    have hB2 : Below w.heap.size w w2 := hb0.trans (hb.mono (by omega))
    have HBX := HB0.out.below hb (by omega)
    have HBXH := Lib.hid HBX
    obtain ⟨b0, b1, b2, bf, bl⟩ := HBX.cells
    clear HBX
    clear HB0
    go_upto_region 6 with (fail)
    go_cut [51] (fun s wx => s = .bool (sameAt l x j) ∧ Below w2.heap.size w2 wx)
    case first =>
      by_cases hlt : j < l.length
      · have dl : decide (j < l.length) = true := decide_eq_true hlt
        rcases H3.out with h | ⟨b, off, rfl, hc0⟩
        · exact (lns_pos hlt h).elim
        · obtain ⟨c0, c1, c2⟩ := ((hc0.below hB2 hc0.1)).ln hlt
          have HSA := Lib.hid (sameAt_at (x := x) hlt)
          clear H3 hc0
          cases e1 : (l[j].kind == x.kind)
          · have HZ : Hid (sameAt l x j = false) := by rw [Hid, HSA.out, e1]; rfl
            go_quiet (fail)
            go_wp2_with fail
            go_meet
            exact ⟨by rw [HZ.out], Below.draws (Below.refl _ _) _⟩
          · cases e2 : (l[j].code.toList == x.code.toList)
            · have HZ : Hid (sameAt l x j = false) := by rw [Hid, HSA.out, e1, e2]; rfl
              go_quiet (fail)
              go_wp2_with fail
              go_meet
              exact ⟨by rw [HZ.out], Below.draws (Below.refl _ _) _⟩
            · have HZ : Hid (sameAt l x j = true) := by rw [Hid, HSA.out, e1, e2]; rfl
              go_quiet (fail)
              go_wp2_with fail
              go_meet
              exact ⟨by rw [HZ.out], Below.draws (Below.refl _ _) _⟩
      · have dl : decide (j < l.length) = false := decide_eq_false hlt
        have HZ := Lib.hid (sameAt_no (x := x) hlt)
        go_quiet (fail)
        go_wp2_with fail
        go_meet
        exact ⟨by rw [HZ.out], Below.draws (Below.refl _ _) _⟩
    case rest =>
      obtain ⟨rfl, hb3⟩ := hcut
      obtain ⟨w3, hw3⟩ : ∃ w3 : World, w3 = wc := ⟨_, rfl⟩
      subst hw3
      have hB3 := hB2.trans (hb3.mono hB2.size)
      have hown3 := hown.kept hb3
      have HBX3 := Lib.hid (HBXH.out.below hb3 bl)
      have hs3 := hB3.size
      clear hown b0 b1 b2 bf HBXH
      go_upto_if 51 with (fail)
      go_cut [6] (fun i wx => PutMid w w0.heap.size w.heap.size 25 tv l x j i wx)
      case first =>
        cases hc : sameAt l x j
        · have HP : Hid (l.take j ++ x :: l.drop j = putR x l) := by
            rw [Hid, putR_new hj (fun i hi => HJ.out i hi (by omega)) fun h => ⟨HF.out h, fun hh => ?_⟩]
            rw [sameAt_at h, hh.1, hh.2] at hc
            simp at hc
          go_wp2_with fail
          go_meet
          exact ⟨x, j, rfl, hj, HP.out, HBX3.out, hown3, hB3, Nat.le_trans hbs hb3.size⟩
        · have hlt : j < l.length := by
            refine Nat.lt_of_not_le fun h => ?_
            rw [sameAt_no (by omega)] at hc; cases hc
          have hsm : l[j].kind = x.kind ∧ l[j].code = x.code := by
            rw [sameAt_at hlt, Bool.and_eq_true, beq_iff_eq, beq_iff_eq] at hc
            exact ⟨hc.1, bytes_of_toList hc.2⟩
          have HP := Lib.hid (putR_same hlt (fun i hi => HJ.out i hi (by omega)) (HF.out hlt) hsm).symm
          have ha := HL.out l[j] (List.getElem_mem hlt)
          rcases H3.out with h | ⟨b, off, rfl, hc0⟩
          · exact (lns_pos hlt h).elim
          · obtain ⟨_, _, c2⟩ := ((hc0.below hB3 hc0.1)).ln hlt
            obtain ⟨_, _, b2, bf, bl3⟩ := HBX3.out.cells
            have hne : b ≠ w.heap.size := Nat.ne_of_lt hc0.1
            have hwr : IntKind.i64.wrap (x.amt + l[j].amt) = x.amt + l[j].amt := IntWalk.i64_in _ (by omega)
            have HBXA := Lib.hid (HBX3.out.add (x.amt + l[j].amt))
            clear hsm H3 hc0 hc
            go_wp2_with fail
            go_region
            go_wp2_with fail
            go_meet
            refine ⟨_, j + 1, by go_num, by omega, HP.out, HBXA.out, ?_, (hB3.setCell (Nat.le_refl _) _).drew, Nat.le_trans hbs (by simpa using hb3.size)⟩
            exact (hown3.keepG (grown_set _ _ _ _) (by
              cases hob : tv.ownBlock with
              | none => exact .inl rfl
              | some g => exact .inr fun e => by have := (hown3.1.lt g hob).1; injection e with e; omega)).kept (Below.refl _ _).drew
      case rest =>
        obtain ⟨y, k, rfl, hk, HP0, HBY, hown4, hB4, hs40⟩ := hcut
        obtain ⟨w4, hw4⟩ : ∃ w4 : World, w4 = wc := ⟨_, rfl⟩
        subst hw4
        have HP := Lib.hid HP0
        clear HP0
        obtain ⟨c0, c1, c2, _, bl4⟩ := HBY.cells
        have hs4 := hB4.size
        have HTL := Lib.hid (H1.out.from k (by omega))
        have HLJ : Hid ((l.take j).length = j) := by rw [Hid, List.length_take]; omega
        have HAP : Hid (lns (l.take j) ++ lns [y] = lns (l.take j ++ [y])) := (lns_append _ _).symm
        have HAQ : Hid (lns (l.take j ++ [y]) ++ (lns l).drop k = lns (putR x l)) := by
          rw [Hid, ← HP.out]
          show lns _ ++ (l.map Ln.vals).drop k = _
          rw [← List.map_drop]
          show lns _ ++ lns _ = _
          rw [← lns_append]; simp
        have HDL : Hid (((lns l).drop k).length = l.length - k) := by rw [Hid, List.length_drop, lns_len]
        have HWD : Hid (Wide 3 ((lns l).drop k)) := fun z hz => lns_wide l z (List.mem_of_mem_drop hz)
        have HL2 : Hid ((lns (l.take j ++ [y])).length = j + 1) := by rw [Hid, lns_len, List.length_append, HLJ.out]; rfl
        clear H3 HF HJ HBY
        by_cases hc : cap = k
        · have hkl : k = l.length := by omega
          subst hc
          subst hkl
          rw [if_pos rfl, Nat.sub_self l.length] at HTL
          go_wp2_with (first
            | (at_builtin; refine wpList_append_sl rfl (.tmp 63) (.tmp 65) rfl rowLn w0.heap.size _ _ _ (lns [y]) rfl (hown4.alloc _) rfl (Sl.one rfl rfl) (lns_wide _) (by rw [lns_len, lns_len, HLJ.out]; unfold maxLen; simp; omega) (by rw [lns_len, lns_len, HLJ.out]; simp; omega) (by simp; omega) ?_; intro v5 w5 hown5 hg5 _; have hb5 : Below w.heap.size w w5 := ((hB4.alloc hs4 _).grown hg5 (by simp; omega) (fun g hg => Nat.le_trans (by omega) (hown4.1.lt g hg).1)); have hs5 : w0.heap.size ≤ w5.heap.size := (Nat.le_trans (by simp; omega) hg5.size); rw [HAP.out] at hown5; clear hg5)
            | (at_builtin; refine wpList_append_sl rfl (.tmp 67) (.tmp 70) rfl rowLn w0.heap.size _ _ _ _ rfl hown5 rfl (by have hq := HTL.out.below hb5; first | exact hq | simpa using hq) HWD.out (by rw [HDL.out, HL2.out]; unfold maxLen; omega) (by rw [HDL.out, HL2.out]; omega) hs5 ?_; intro v6 w6 hown6 hg6 _; have hb6 : Below w.heap.size w w6 := (hb5.grown hg6 hb5.size (fun g hg => Nat.le_trans (by omega) (hown5.1.lt g hg).1)); rw [HAQ.out] at hown6; clear hg6))
          go_ret
          exact ⟨_, rfl, hown6.more (by omega), hb6⟩
        · rw [if_neg hc] at HTL
          go_wp2_with (first
            | (at_builtin; refine wpList_append_sl rfl (.tmp 63) (.tmp 65) rfl rowLn w0.heap.size _ _ _ (lns [y]) rfl (hown4.alloc _) rfl (Sl.one rfl rfl) (lns_wide _) (by rw [lns_len, lns_len, HLJ.out]; unfold maxLen; simp; omega) (by rw [lns_len, lns_len, HLJ.out]; simp; omega) (by simp; omega) ?_; intro v5 w5 hown5 hg5 _; have hb5 : Below w.heap.size w w5 := ((hB4.alloc hs4 _).grown hg5 (by simp; omega) (fun g hg => Nat.le_trans (by omega) (hown4.1.lt g hg).1)); have hs5 : w0.heap.size ≤ w5.heap.size := (Nat.le_trans (by simp; omega) hg5.size); rw [HAP.out] at hown5; clear hg5)
            | (at_builtin; refine wpList_append_sl rfl (.tmp 67) (.tmp 70) rfl rowLn w0.heap.size _ _ _ _ rfl hown5 rfl (by have hq := HTL.out.below hb5; first | exact hq | simpa using hq) HWD.out (by rw [HDL.out, HL2.out]; unfold maxLen; omega) (by rw [HDL.out, HL2.out]; omega) hs5 ?_; intro v6 w6 hown6 hg6 _; have hb6 : Below w.heap.size w w6 := (hb5.grown hg6 hb5.size (fun g hg => Nat.le_trans (by omega) (hown5.1.lt g hg).1)); rw [HAQ.out] at hown6; clear hg6))
          go_ret
          exact ⟨_, rfl, hown6.more (by omega), hb6⟩
end Go.Proofs.YtljhdkdabiemmaaDoor
