/- Contract of transfer.parse. Written by gen_tpar.py. -/
import Derived.Test.YtlchcfkngjbdjaaGreatDoorTParS
import Derived.Test.YtlchcfkngjbdjaaGreatDoorTRd
import Derived.Test.YtlchcfkngjbdjaaGreatDoorStp
import Derived.Deep.RegionHeld3
import Derived.Deep.RegionLaw
namespace Go.Proofs.YtlchcfkngjbdjaaGreatDoor
open Go.RowKit Go.Shelf

theorem rowPay : RowTy Tryz.prog 35 46 2 16 := by
  obtain ⟨i, hi, hz, hs, hb⟩ := info_parts (show (Tryz.prog.info? 46).map (fun i => (i.zero, i.size, i.bytes)) = some (some (.agg #[.int .i64 0, .int .i64 0]), 2, 16) by kernel_rfl)
  exact ⟨Tryz.underlying35, ⟨i, _, hi, hz, hs, hb, rfl⟩, by omega⟩
/-- the call returns the file and the control totals, or nothing -/
def RetPar (o : Option (Fil × Ctl)) (w : World) (e : Ending) (w' : World) : Prop :=
  Below w.heap.size w w' ∧ ((∃ f c v, o = some (f, c) ∧ e = .returned (.tuple #[.agg (f.vals v), .agg c.vals, .bool true]) ∧ Own w' w.heap.size 46 2 v (pays f.l)) ∨
    (o = none ∧ e = .returned (.tuple #[.agg #[.int .i64 0, .int .i64 0, .slice none 0 0], .agg #[.int .i64 0, .int .i64 0, .int .i64 0], .bool false])))
/-- both results lie as at the start -/
def Zs (w : World) (r q : Nat) : Prop := Row w r 37 #[.int .i64 0, .int .i64 0, .slice none 0 0] ∧ Row w q 61 #[.int .i64 0, .int .i64 0, .int .i64 0]
theorem Zs.below {w w' : World} {r q B : Nat} (h : Zs w r q) (hb : Below B w w') (h1 : r < B) (h2 : q < B) : Zs w' r q := ⟨h.1.below hb h1, h.2.below hb h2⟩
theorem Zs.same {w w' : World} {r q : Nat} (h : Zs w r q) (hb : Below w.heap.size w w') : Zs w' r q := h.below hb h.1.lt h.2.lt
theorem two_rows {w : World} {r q : Nat} {t u : TypeId} {a b c d e f : Value} (h1 : Row w r t #[a, b, c]) (h2 : Row w q u #[d, e, f]) (hne : r ≠ q) (x y z p s k : Value) :
    Row ((((((w.setCell ⟨r, 0, none⟩ x).setCell ⟨r, 1, none⟩ y).setCell ⟨r, 2, none⟩ z).setCell ⟨q, 0, none⟩ p).setCell ⟨q, 1, none⟩ s).setCell ⟨q, 2, none⟩ k) r t #[x, y, z] ∧
    Row ((((((w.setCell ⟨r, 0, none⟩ x).setCell ⟨r, 1, none⟩ y).setCell ⟨r, 2, none⟩ z).setCell ⟨q, 0, none⟩ p).setCell ⟨q, 1, none⟩ s).setCell ⟨q, 2, none⟩ k) q u #[p, s, k] :=
  ⟨(((h1.set3 x y z).far (p := ⟨q, 0, none⟩) hne _).far (p := ⟨q, 1, none⟩) hne _).far (p := ⟨q, 2, none⟩) hne _,
    ((((h2.far (p := ⟨r, 0, none⟩) hne.symm _).far (p := ⟨r, 1, none⟩) hne.symm _).far (p := ⟨r, 2, none⟩) hne.symm _).set3 p s k)⟩
theorem below6 {B : Nat} {w0 w : World} {r q : Nat} (h : Below B w0 w) (hr : B ≤ r) (hq : B ≤ q) (x y z p s k : Value) :
    Below B w0 ((((((w.setCell ⟨r, 0, none⟩ x).setCell ⟨r, 1, none⟩ y).setCell ⟨r, 2, none⟩ z).setCell ⟨q, 0, none⟩ p).setCell ⟨q, 1, none⟩ s).setCell ⟨q, 2, none⟩ k) := Below.set3 (Below.set3 h hr x y z) hq p s k
/-- a payment list in a box, beside what lay before -/
structure PrS (wL : World) (m : Nat) (n d : Int) (acc : List Pay) (v : Value) (wr : World) : Prop where
  below : Below wL.heap.size wL wr
  box : Row wr m 37 #[.int .i64 n, .int .i64 d, v]
  own : Own wr wL.heap.size 46 2 v (pays acc)
  apart : v.ownBlock ≠ some m
  high : wL.heap.size ≤ m
theorem PrS.same {wL wr w' : World} {m : Nat} {n d : Int} {acc : List Pay} {v : Value} (h : PrS wL m n d acc v wr) (hb : Below wr.heap.size wr w') : PrS wL m n d acc v w' :=
  ⟨h.below.trans (hb.mono h.below.size), h.box.below hb h.box.lt, h.own.kept hb, h.apart, h.high⟩
theorem Own.form1 {w : World} {base e sz : Nat} {v : Value} {es : List (List Value)} (h : Own w base e sz v es) (h0 : 0 < es.length) : ∃ g cap, v = .slice (some ⟨g, 0, none⟩) es.length cap ∧ es.length ≤ cap := by
  rcases h.1.2 with ⟨rfl, h0'⟩ | ⟨g, cap, cur, rfl, _, _, h7, _⟩
  · omega
  · exact ⟨g, cap, rfl, h7⟩
theorem own_set {w : World} {base e sz : Nat} {v : Value} {es : List (List Value)} (h : Own w base e sz v es) {r : Nat} (hr : r < base) (i : Nat) (u : Value) : Own (w.setCell ⟨r, i, none⟩ u) base e sz v es :=
  h.keepG (grown_set w r i u) (by
    rcases hv : v.ownBlock with _ | k
    · exact .inl rfl
    · refine .inr fun e => ?_
      have := (h.1.lt k hv).1
      injection e; omega)
theorem own6 {w : World} {base e sz : Nat} {v : Value} {es : List (List Value)} (h : Own w base e sz v es) {r q : Nat} (hr : r < base) (hq : q < base) (x y z p s k : Value) :
    Own ((((((w.setCell ⟨r, 0, none⟩ x).setCell ⟨r, 1, none⟩ y).setCell ⟨r, 2, none⟩ z).setCell ⟨q, 0, none⟩ p).setCell ⟨q, 1, none⟩ s).setCell ⟨q, 2, none⟩ k) base e sz v es :=
  own_set (own_set (own_set (own_set (own_set (own_set h hr 0 x) hr 1 y) hr 2 z) hq 0 p) hq 1 s) hq 2 k
/-- a payment appended -/
theorem PrS.app {wL w5 : World} {m : Nat} {n d : Int} {acc : List Pay} {v : Value} (h : PrS wL m n d acc v w5) (p : Pay) {v7 : Value} {w7 : World}
    (hown7 : Own w7 wL.heap.size 46 2 v7 (pays acc ++ [p.vals])) (hg7 : (w5.alloc (.cells #[.int .i64 p.e, .int .i64 p.a] 46)).drew.grownBy w7 v.ownBlock)
    (hv7 : v7.ownBlock = v.ownBlock ∨ v7.ownBlock = some (w5.alloc (.cells #[.int .i64 p.e, .int .i64 p.a] 46)).drew.heap.size) :
    PrS wL m n d (acc ++ [p]) v7 (w7.setCell ⟨m, 2, none⟩ v7) ∧ Row w7 m 37 #[.int .i64 n, .int .i64 d, v] := by
  have hW := ((Below.refl w5.heap.size w5).alloc (Nat.le_refl _) (.cells #[.int .i64 p.e, .int .i64 p.a] 46)).drew
  have h5 := h.same hW
  have hml := h.box.lt
  have hr7 := h5.box.keep hg7 (fun e => h.apart e.symm)
  have hne : v7.ownBlock ≠ some m := by
    rcases hv7 with e | e
    · rw [e]; exact h.apart
    · rw [e]; intro hh; injection hh with hh; have := hW.size; simp only [World.size_drew, World.size_alloc] at hh; omega
  refine ⟨⟨(Own.grown h5.own h5.below hg7 h5.below.size).setCell (p := ⟨m, 2, none⟩) h.high _, hr7.set 2 _, ?_, hne, h.high⟩, hr7⟩
  rw [pays_append]
  exact hown7.keepG (grown_set w7 m 2 v7) (.inr hne)
theorem PrS.far {wL w5 : World} {m : Nat} {n d : Int} {acc : List Pay} {v : Value} (_h : PrS wL m n d acc v w5) {g i : Nat} {u : Value} {o : Obj} {w7 : World} (hg7 : (w5.alloc o).drew.grownBy w7 v.ownBlock) (hg : g < w5.heap.size) (hne : v.ownBlock ≠ some g) (hc : w5.cell? ⟨g, i, none⟩ = some u) : w7.cell? ⟨g, i, none⟩ = some u := by
  have hW := ((Below.refl w5.heap.size w5).alloc (Nat.le_refl _) o).drew
  exact (World.cell?_of_block (w := (w5.alloc o).drew) (a := ⟨g, i, none⟩) (hg7.block g (Nat.lt_of_lt_of_le hg hW.size) (fun e => hne e.symm))).trans ((hW.cell (p := ⟨g, i, none⟩) hg).trans hc)
theorem RetPar.no {o : Option (Fil × Ctl)} {w w' : World} (h : o = none) (hb : Below w.heap.size w w') : RetPar o w (.returned (.tuple #[.agg #[.int .i64 0, .int .i64 0, .slice none 0 0], .agg #[.int .i64 0, .int .i64 0, .int .i64 0], .bool false])) w' := ⟨hb, .inr ⟨h, rfl⟩⟩
theorem zs_cells {w : World} {r q : Nat} (h : Zs w r q) : (w.cell? ⟨r, 0, none⟩ = some (.int .i64 0) ∧ w.cell? ⟨r, 1, none⟩ = some (.int .i64 0) ∧ w.cell? ⟨r, 2, none⟩ = some (.slice none 0 0) ∧ r < w.heap.size) ∧ (w.frozen? ⟨r, 0, none⟩ = false ∧ w.frozen? ⟨r, 1, none⟩ = false ∧ w.frozen? ⟨r, 2, none⟩ = false) ∧
    (w.cell? ⟨q, 0, none⟩ = some (.int .i64 0) ∧ w.cell? ⟨q, 1, none⟩ = some (.int .i64 0) ∧ w.cell? ⟨q, 2, none⟩ = some (.int .i64 0) ∧ q < w.heap.size) ∧ (w.frozen? ⟨q, 0, none⟩ = false ∧ w.frozen? ⟨q, 1, none⟩ = false ∧ w.frozen? ⟨q, 2, none⟩ = false) :=
  ⟨(row3 h.1).1, (row3 h.1).2, (row3 h.2).1, (row3 h.2).2⟩
/-- the call returns these many numbers -/
def RetNs (o : Option (List Int)) (k : Nat) (w : World) (e : Ending) (w' : World) : Prop :=
  Below w.heap.size w w' ∧ ((∃ ns g cap, o = some ns ∧ ns.length = k ∧ e = .returned (.tuple #[.slice (some ⟨g, 0, none⟩) k cap, .bool true]) ∧ k ≤ cap ∧ w.heap.size ≤ g ∧ g < w'.heap.size ∧ ∀ i (h : i < ns.length), w'.cell? ⟨g, i, none⟩ = some (.int .i64 ns[i])) ∨ (o = none ∧ e = .returned (.tuple #[.slice none 0 0, .bool false])))
theorem RetNums.many {o : Option (List Int)} {k : Nat} {w : World} {x : Obj} {e : Ending} {w' : World} (h : RetNums o (w.alloc x) e w') (hk : ∀ ns, o = some ns → ns.length = k) (h0 : 0 < k) : RetNs o k w e w' := by
  obtain ⟨hb, h⟩ := h
  have hb' : Below w.heap.size w w' := ((Below.refl w.heap.size w).alloc (Nat.le_refl _) x).trans (hb.mono (by simp))
  refine ⟨hb', ?_⟩
  rcases h with ⟨ns, v, h1, h2, h3⟩ | h
  · left
    have hn := hk ns h1
    rcases h3.1.2 with ⟨_, h0'⟩ | ⟨g, cap, cur, h4, h5, h6, h7, h8⟩
    · rw [ints_len] at h0'; omega
    · have hsl := h3.sl (by omega)
      rw [ints_len, hn] at h4
      subst h4
      rw [ints_len, hn] at h7
      obtain ⟨b, off, hq, hc⟩ := hsl.cells (by rw [ints_len]; omega)
      simp only [Option.some.injEq, Addr.mk.injEq, and_true] at hq
      obtain ⟨rfl, rfl⟩ := hq
      refine ⟨ns, g, cap, h1, hn, h2, h7, by rw [World.size_alloc] at h5; omega, hc.1, fun i hi => ?_⟩
      have := hc.2 i [.int .i64 ns[i]] (by simp [ints, hi]) 0 _ rfl
      simpa using this
  · exact .inr h
theorem readHead_any (s : ByteArray) (w : World) (hT : Tabs w) (hE : Errs w) (hs : s.size ≤ 1000000) :
    Calls Tryz.prog 55 #[.string s, .slice (some ⟨w.heap.size, 0, none⟩) 4 4] (w.alloc (.cells #[.string ⟨#[102, 105, 108, 101]⟩, .string ⟨#[]⟩, .string ⟨#[100, 97, 121]⟩, .string ⟨#[]⟩] 9)) (RetNs (readL pHead s.data.toList) 2 w) := by
  have hb := (Below.refl w.heap.size w).alloc (Nat.le_refl _) (.cells #[.string ⟨#[102, 105, 108, 101]⟩, .string ⟨#[]⟩, .string ⟨#[100, 97, 121]⟩, .string ⟨#[]⟩] 9)
  refine (read_any s [⟨#[102, 105, 108, 101]⟩, ⟨#[]⟩, ⟨#[100, 97, 121]⟩, ⟨#[]⟩] _ _ (Sl.txts w 9 [⟨#[102, 105, 108, 101]⟩, ⟨#[]⟩, ⟨#[100, 97, 121]⟩, ⟨#[]⟩] (by unfold maxLen; simp) _ rfl) (hT.below hb) (hE.below hb) hs (by simp)).mono ?_
  intro e w' h
  exact h.many (fun ns hn => by
    have := readL_head.1 hn
    obtain ⟨_, _, rfl, _⟩ := this
    rfl) (by decide)
theorem readPay_any (s : ByteArray) (w : World) (hT : Tabs w) (hE : Errs w) (hs : s.size ≤ 1000000) :
    Calls Tryz.prog 55 #[.string s, .slice (some ⟨w.heap.size, 0, none⟩) 3 3] (w.alloc (.cells #[.string ⟨#[112, 97, 121]⟩, .string ⟨#[]⟩, .string ⟨#[]⟩] 9)) (RetNs (readL pPay s.data.toList) 2 w) := by
  have hb := (Below.refl w.heap.size w).alloc (Nat.le_refl _) (.cells #[.string ⟨#[112, 97, 121]⟩, .string ⟨#[]⟩, .string ⟨#[]⟩] 9)
  refine (read_any s [⟨#[112, 97, 121]⟩, ⟨#[]⟩, ⟨#[]⟩] _ _ (Sl.txts w 9 [⟨#[112, 97, 121]⟩, ⟨#[]⟩, ⟨#[]⟩] (by unfold maxLen; simp) _ rfl) (hT.below hb) (hE.below hb) hs (by simp)).mono ?_
  intro e w' h
  exact h.many (fun ns hn => by
    have := readL_pay.1 hn
    obtain ⟨_, _, rfl, _⟩ := this
    rfl) (by decide)
theorem readTotal_any (s : ByteArray) (w : World) (hT : Tabs w) (hE : Errs w) (hs : s.size ≤ 1000000) :
    Calls Tryz.prog 55 #[.string s, .slice (some ⟨w.heap.size, 0, none⟩) 4 4] (w.alloc (.cells #[.string ⟨#[116, 111, 116, 97, 108]⟩, .string ⟨#[]⟩, .string ⟨#[]⟩, .string ⟨#[]⟩] 9)) (RetNs (readL pTotal s.data.toList) 3 w) := by
  have hb := (Below.refl w.heap.size w).alloc (Nat.le_refl _) (.cells #[.string ⟨#[116, 111, 116, 97, 108]⟩, .string ⟨#[]⟩, .string ⟨#[]⟩, .string ⟨#[]⟩] 9)
  refine (read_any s [⟨#[116, 111, 116, 97, 108]⟩, ⟨#[]⟩, ⟨#[]⟩, ⟨#[]⟩] _ _ (Sl.txts w 9 [⟨#[116, 111, 116, 97, 108]⟩, ⟨#[]⟩, ⟨#[]⟩, ⟨#[]⟩] (by unfold maxLen; simp) _ rfl) (hT.below hb) (hE.below hb) hs (by simp)).mono ?_
  intro e w' h
  exact h.many (fun ns hn => by
    have := readL_total.1 hn
    obtain ⟨_, _, _, rfl, _⟩ := this
    rfl) (by decide)

set_option maxRecDepth 100000 in
set_option maxHeartbeats 4000000 in
theorem parse_any (s : ByteArray) (w : World) (hT : Tabs w) (hE : Errs w) (hs : s.size ≤ 262144) :
    Calls Tryz.prog 39 #[.string s] w (RetPar (parseF s.data.toList) w) := by
  have HT := Lib.hid hT
  have HER := Lib.hid hE
  clear hT hE
  have hsz : s.data.toList.length = s.size := by simp
  have HF : Hid (parseF s.data.toList = if Lib.hasSuffix s.data.toList [10] then parseL (splitBy 10 (Lib.trimSuffix s.data.toList [10])) else none) := parseF_lines _
  obtain ⟨en, hen⟩ : ∃ en, Lib.hasSuffix s.data.toList [10] = en := ⟨_, rfl⟩
  have hTr : (Lib.trimSuffix s.data.toList [10]).length ≤ s.size := by
    unfold Lib.trimSuffix; split <;> simp
  obtain ⟨bd, hbd⟩ : ∃ bd : ByteArray, (⟨(Lib.trimSuffix s.data.toList [10]).toArray⟩ : ByteArray) = bd := ⟨_, rfl⟩
  have hbz : bd.size ≤ s.size := by rw [← hbd]; show (Lib.trimSuffix s.data.toList [10]).toArray.size ≤ _; rw [List.size_toArray]; exact hTr
  have HBD : Hid (bd.data.toList = Lib.trimSuffix s.data.toList [10]) := by rw [Hid, ← hbd]
  have HCUT : Hid (∀ W, Calls Tryz.prog 53 #[.string s, .string ⟨#[10]⟩] W fun e w' => e = .returned (.tuple #[.string bd, .bool en]) ∧ w' = W) := fun W => by
    have := Tryz.strings_CutSuffix s ⟨#[10]⟩ W (by omega)
    simp only [] at this
    rw [hbd, hen] at this
    exact this
  rw [hen] at HF
  rw [← HBD.out] at HF
  clear hen hbd hTr hsz
  obtain ⟨hr1, hr2, hB0⟩ := row_new2 w 37 61 #[.int .i64 0, .int .i64 0, .slice none 0 0] #[.int .i64 0, .int .i64 0, .int .i64 0]
  go_enter Tryz.func39, Tryz.ntmps39
  go_wp2_with fail
  obtain ⟨w0, hw0⟩ : ∃ w0, (w.alloc (.cells #[.int .i64 0, .int .i64 0, .slice none 0 0] 37)).alloc (.cells #[.int .i64 0, .int .i64 0, .int .i64 0] 61) = w0 := ⟨_, rfl⟩
  rw [hw0] at hr1 hr2 hB0 ⊢
  clear hw0
  obtain ⟨q, hq⟩ : ∃ q, w.heap.size + 1 = q := ⟨_, rfl⟩
  rw [hq] at hr2 ⊢
  obtain ⟨r, hr⟩ : ∃ r, w.heap.size = r := ⟨_, rfl⟩
  rw [hr] at hr1 ⊢
  have hrq : r ≠ q := by omega
  have hwr : w.heap.size ≤ r := by omega
  have hwq : w.heap.size ≤ q := by omega
  have hz0 : Zs w0 r q := ⟨hr1, hr2⟩
  clear hr1 hr2 hq hr
  refine (HCUT.out _).mono ?_
  rintro e w' ⟨rfl, hww⟩
  rw [hww]
  clear hww HCUT
  go_wp2_with fail
  refine (Split_any bd 10 w0 (by omega)).mono ?_
  rintro e w1 ⟨P, A1, cap1, rfl, hP, hPs, hPl, hsl1, hb1⟩
  have hHP : Hid (P.map (·.data.toList) = splitBy 10 bd.data.toList) := hP
  have HPS := Lib.hid hPs
  have HS1 := Lib.hid hsl1
  have hB1 := below_after hB0 hb1 hB0.size
  have hz1 := hz0.same hb1
  have hr1l := hz1.1.lt
  have hq1l := hz1.2.lt
  obtain ⟨hcl, hcm⟩ : P.length ≤ cap1 ∧ cap1 ≤ maxLen := by
    obtain ⟨A', cap', hv, k1, k2, _, _⟩ := hsl1
    injection hv with e1 e2 e3
    subst e1 e3
    rw [txts_len] at k1
    exact ⟨k1, k2⟩
  unfold maxLen at hcm
  clear hP hPs hsl1 hb1 hB0 hz0
  have hs1 := hB1.size
  have HNO : Hid (parseF s.data.toList = none → ∀ w', Below w.heap.size w w' → RetPar (parseF s.data.toList) w (.returned (.tuple #[.agg #[.int .i64 0, .int .i64 0, .slice none 0 0], .agg #[.int .i64 0, .int .i64 0, .int .i64 0], .bool false])) w') := fun h w' hb => RetPar.no h hb
  cases en
  · have hF : parseF s.data.toList = none := by rw [HF.out]; rfl
    have hN := Lib.hid (HNO.out hF _ (below6 hB1 hwr hwq (.int .i64 0) (.int .i64 0) (.slice none 0 0) (.int .i64 0) (.int .i64 0) (.int .i64 0)))
    obtain ⟨t1, t2⟩ := two_rows hz1.1 hz1.2 hrq (.int .i64 0) (.int .i64 0) (.slice none 0 0) (.int .i64 0) (.int .i64 0) (.int .i64 0)
    have HZ := Lib.hid (zs_cells ⟨t1, t2⟩)
    obtain ⟨⟨a0, a1, a2, al⟩, ⟨b0, b1, b2⟩, ⟨c0, c1, c2, cl⟩, ⟨d0, d1, d2⟩⟩ := zs_cells hz1
    clear hF t1 t2
    go_wp2
    obtain ⟨⟨z0, z1, z2, _⟩, _, ⟨z3, z4, z5, _⟩, _⟩ := HZ.out
    refine bodyPost_ret (v := .tuple #[.agg #[.int .i64 0, .int .i64 0, .slice none 0 0], .agg #[.int .i64 0, .int .i64 0, .int .i64 0], .bool false]) (by simp only [results, Tryz.results39, go_sem]; simp [z0, z1, z2, z3, z4, z5, go_sem]) rfl hN.out
  rw [if_pos rfl, ← hHP.out] at HF
  by_cases hL3 : 3 ≤ P.length
  rotate_left
  · have hF : parseF s.data.toList = none := by rw [HF.out]; exact pl_short (fun h => hL3 (by simpa using h.1))
    have i1 : ((P.length : Int) - 1) < 2 := by omega
    have hN := Lib.hid (HNO.out hF _ (below6 hB1 hwr hwq (.int .i64 0) (.int .i64 0) (.slice none 0 0) (.int .i64 0) (.int .i64 0) (.int .i64 0)))
    obtain ⟨t1, t2⟩ := two_rows hz1.1 hz1.2 hrq (.int .i64 0) (.int .i64 0) (.slice none 0 0) (.int .i64 0) (.int .i64 0) (.int .i64 0)
    have HZ := Lib.hid (zs_cells ⟨t1, t2⟩)
    obtain ⟨⟨a0, a1, a2, al⟩, ⟨b0, b1, b2⟩, ⟨c0, c1, c2, cl⟩, ⟨d0, d1, d2⟩⟩ := zs_cells hz1
    clear hF t1 t2
    go_wp2
    obtain ⟨⟨z0, z1, z2, _⟩, _, ⟨z3, z4, z5, _⟩, _⟩ := HZ.out
    refine bodyPost_ret (v := .tuple #[.agg #[.int .i64 0, .int .i64 0, .slice none 0 0], .agg #[.int .i64 0, .int .i64 0, .int .i64 0], .bool false]) (by simp only [results, Tryz.results39, go_sem]; simp [z0, z1, z2, z3, z4, z5, go_sem]) rfl hN.out
  have i1 : ¬ ((P.length : Int) - 1) < 2 := by omega
  have i2 : ((P.length : Int) - 1) < (P.length : Int) := by omega
  have i3 : (0 : Int) ≤ ((P.length : Int) - 1) := by omega
  have i4 : ((P.length : Int) - 1).toNat = P.length - 1 := by omega
  obtain ⟨bp, op, rfl, hc⟩ := HS1.out.cells (by rw [txts_len]; omega)
  have q1 := hc.txt (k := P.length - 1) (by omega)
  have hbl := hc.1
  have HPE := Lib.hid (show (P.map (·.data.toList)).getD (P.length - 1) [] = (P[P.length - 1]).data.toList by simp [List.getD, List.getElem?_eq_getElem (show P.length - 1 < P.length by omega)])
  obtain ⟨pe, hpe⟩ : ∃ pe, P[P.length - 1] = pe := ⟨_, rfl⟩
  rw [hpe] at q1 HPE
  have HEE := Lib.hid (show (P.map (·.data.toList))[(P.map (·.data.toList)).length - 1]? = some pe.data.toList by
    rw [List.length_map, List.getElem?_map, List.getElem?_eq_getElem (show P.length - 1 < P.length by omega), hpe]; rfl)
  clear hpe HPE
  by_cases hend : pe.data.toList = wEnd
  rotate_left
  · have hF : parseF s.data.toList = none := by
      rw [HF.out]; exact pl_short (fun h => hend (by have := h.2; rw [HEE.out] at this; exact Option.some.inj this))
    have t3 : (pe.toList == [101, 110, 100]) = false := by
      rw [ByteArray.toList_eq]
      have : ¬ pe.data.toList = [101, 110, 100] := hend
      simpa using this
    have t4 : ¬ pe.toList = [101, 110, 100] := by simpa using t3
    have i1d : decide (((P.length : Int) - 1) < 2) = false := decide_eq_false i1
    clear hend
    have hN := Lib.hid (HNO.out hF _ (below6 hB1 hwr hwq (.int .i64 0) (.int .i64 0) (.slice none 0 0) (.int .i64 0) (.int .i64 0) (.int .i64 0)))
    obtain ⟨t1, t2⟩ := two_rows hz1.1 hz1.2 hrq (.int .i64 0) (.int .i64 0) (.slice none 0 0) (.int .i64 0) (.int .i64 0) (.int .i64 0)
    have HZ := Lib.hid (zs_cells ⟨t1, t2⟩)
    obtain ⟨⟨a0, a1, a2, al⟩, ⟨b0, b1, b2⟩, ⟨c0, c1, c2, cl⟩, ⟨d0, d1, d2⟩⟩ := zs_cells hz1
    clear hF t1 t2
    go_wp2
    obtain ⟨⟨z0, z1, z2, _⟩, _, ⟨z3, z4, z5, _⟩, _⟩ := HZ.out
    refine bodyPost_ret (v := .tuple #[.agg #[.int .i64 0, .int .i64 0, .slice none 0 0], .agg #[.int .i64 0, .int .i64 0, .int .i64 0], .bool false]) (by simp only [results, Tryz.results39, go_sem]; simp [z0, z1, z2, z3, z4, z5, go_sem]) rfl hN.out
  have t3 : (pe.toList == [101, 110, 100]) = true := by
    rw [ByteArray.toList_eq]
    have : pe.data.toList = [101, 110, 100] := hend
    simpa using this
  have t4 : pe.toList = [101, 110, 100] := by simpa using t3
  have i1d : decide (((P.length : Int) - 1) < 2) = false := decide_eq_false i1
  have HCO : Hid (3 ≤ (P.map (·.data.toList)).length ∧ (P.map (·.data.toList))[(P.map (·.data.toList)).length - 1]? = some wEnd) := ⟨by simpa using hL3, by rw [HEE.out, hend]⟩
  have q0 := hc.txt (k := 0) (by omega)
  rw [Nat.add_zero] at q0
  have q2 := hc.txt (k := P.length - 2) (by omega)
  have HC := Lib.hid hc
  have HP0 := Lib.hid (show (P.map (·.data.toList)).getD 0 [] = (P[0]).data.toList by simp [List.getD, List.getElem?_eq_getElem (show 0 < P.length by omega)])
  have HP2 := Lib.hid (show (P.map (·.data.toList)).getD ((P.map (·.data.toList)).length - 2) [] = (P[P.length - 2]).data.toList by simp [List.getD, List.getElem?_eq_getElem (show P.length - 2 < P.length by omega)])
  have z0 := HPS.out _ (List.getElem_mem (show 0 < P.length by omega))
  have z2 := HPS.out _ (List.getElem_mem (show P.length - 2 < P.length by omega))
  obtain ⟨p0, hp0⟩ : ∃ x, P[0] = x := ⟨_, rfl⟩
  obtain ⟨p2, hp2⟩ : ∃ x, P[P.length - 2] = x := ⟨_, rfl⟩
  rw [hp0] at q0 HP0 z0
  rw [hp2] at q2 HP2 z2
  clear hp0 hp2 hend HEE hc
  go_wp2_with fail
  refine (readHead_any p0 w1 (HT.out.below hB1) (HER.out.below hB1) (by omega)).mono ?_
  rintro e w2 ⟨hb2, hh⟩
  have hB2 := below_after hB1 hb2 hB1.size
  have hz2 := hz1.same hb2
  have q22 := (hb2.cell (p := ⟨bp, op + (P.length - 2), none⟩) hbl).trans q2
  have HC2 := Lib.hid (HC.out.below hb2 HC.out.1)
  have hbl2 : bp < w2.heap.size := Nat.lt_of_lt_of_le hbl hb2.size
  have hs2 := hB2.size
  have hs12 := hb2.size
  clear q0 q1 q2 t3 t4 hB1 hz1 hbl HC hb2 hs1
  rcases hh with ⟨ns, g, cg, hns, hnl, rfl, hcg, hg1, hg2, hcells⟩ | ⟨hno, rfl⟩
  rotate_left
  · have hF : parseF s.data.toList = none := by rw [HF.out]; exact pl_head HCO.out (by rw [HP0.out]; exact hno)
    clear hno q22
    have hN := Lib.hid (HNO.out hF _ (below6 hB2 hwr hwq (.int .i64 0) (.int .i64 0) (.slice none 0 0) (.int .i64 0) (.int .i64 0) (.int .i64 0)))
    obtain ⟨t1, t2⟩ := two_rows hz2.1 hz2.2 hrq (.int .i64 0) (.int .i64 0) (.slice none 0 0) (.int .i64 0) (.int .i64 0) (.int .i64 0)
    have HZ := Lib.hid (zs_cells ⟨t1, t2⟩)
    obtain ⟨⟨a0, a1, a2, al⟩, ⟨b0, b1, b2⟩, ⟨c0, c1, c2, cl⟩, ⟨d0, d1, d2⟩⟩ := zs_cells hz2
    clear hF t1 t2
    go_wp2
    obtain ⟨⟨z0, z1, z2, _⟩, _, ⟨z3, z4, z5, _⟩, _⟩ := HZ.out
    refine bodyPost_ret (v := .tuple #[.agg #[.int .i64 0, .int .i64 0, .slice none 0 0], .agg #[.int .i64 0, .int .i64 0, .int .i64 0], .bool false]) (by simp only [results, Tryz.results39, go_sem]; simp [z0, z1, z2, z3, z4, z5, go_sem]) rfl hN.out
  obtain ⟨n, d, rfl, -, hn1, hd1⟩ := readL_head.1 hns
  have g0 := hcells 0 (by simp)
  have g1 := hcells 1 (by simp)
  simp only [List.getElem_cons_zero, List.getElem_cons_succ] at g0 g1
  have HH := Lib.hid hns
  clear hcells hnl hns
  have i5 : ((P.length : Int) - 1 - 1) < (P.length : Int) := by omega
  have i6 : (0 : Int) ≤ ((P.length : Int) - 1 - 1) := by omega
  have i7 : ((P.length : Int) - 1 - 1).toNat = P.length - 2 := by omega
  go_wp2_with fail
  refine (readTotal_any p2 w2 (HT.out.below hB2) (HER.out.below hB2) (by omega)).mono ?_
  rintro e w3 ⟨hb3, hh⟩
  have hB3 := below_after hB2 hb3 hB2.size
  have hz3 := hz2.same hb3
  have g03 := (hb3.cell (p := ⟨g, 0, none⟩) hg2).trans g0
  have g13 := (hb3.cell (p := ⟨g, 1, none⟩) hg2).trans g1
  have HC3 := Lib.hid (HC2.out.below hb3 HC2.out.1)
  have hbl3 : bp < w3.heap.size := Nat.lt_of_lt_of_le hbl2 hb3.size
  have hg3 : g < w3.heap.size := Nat.lt_of_lt_of_le hg2 hb3.size
  have hs3 := hB3.size
  clear q22 hB2 hz2 hbl2 HC2 hb3 hs2 g0 g1 hg2
  rcases hh with ⟨ns, t, ct, hns, hnl, rfl, hct, ht1, ht2, hcells⟩ | ⟨hno, rfl⟩
  rotate_left
  · have hF : parseF s.data.toList = none := by rw [HF.out]; exact pl_total HCO.out (by rw [HP0.out]; exact HH.out) (by rw [HP2.out]; exact hno)
    clear hno
    have hN := Lib.hid (HNO.out hF _ (below6 hB3 hwr hwq (.int .i64 0) (.int .i64 0) (.slice none 0 0) (.int .i64 0) (.int .i64 0) (.int .i64 0)))
    obtain ⟨t1, t2⟩ := two_rows hz3.1 hz3.2 hrq (.int .i64 0) (.int .i64 0) (.slice none 0 0) (.int .i64 0) (.int .i64 0) (.int .i64 0)
    have HZ := Lib.hid (zs_cells ⟨t1, t2⟩)
    obtain ⟨⟨a0, a1, a2, al⟩, ⟨b0, b1, b2⟩, ⟨c0, c1, c2, cl⟩, ⟨d0, d1, d2⟩⟩ := zs_cells hz3
    clear hF t1 t2
    go_wp2
    obtain ⟨⟨z0, z1, z2, _⟩, _, ⟨z3, z4, z5, _⟩, _⟩ := HZ.out
    refine bodyPost_ret (v := .tuple #[.agg #[.int .i64 0, .int .i64 0, .slice none 0 0], .agg #[.int .i64 0, .int .i64 0, .int .i64 0], .bool false]) (by simp only [results, Tryz.results39, go_sem]; simp [z0, z1, z2, z3, z4, z5, go_sem]) rfl hN.out
  obtain ⟨c, y, z, rfl, -, hc1, hy1, hz1'⟩ := readL_total.1 hns
  have k0 := hcells 0 (by simp)
  have k1 := hcells 1 (by simp)
  have k2 := hcells 2 (by simp)
  simp only [List.getElem_cons_zero, List.getElem_cons_succ] at k0 k1 k2
  have HTT := Lib.hid hns
  clear hcells hnl hns
  have HK : Hid (w3.cell? ⟨t, 0, none⟩ = some (.int .i64 c) ∧ w3.cell? ⟨t, 1, none⟩ = some (.int .i64 y) ∧ w3.cell? ⟨t, 2, none⟩ = some (.int .i64 z)) := ⟨k0, k1, k2⟩
  clear k0 k1 k2
  have j1 : (1 : Int) < (cg : Int) := by omega
  have j2 : ¬ (cg : Int) = 1 := by omega
  go_wp2_with fail
  go_region_held3 (fun w' => w'.cell? ⟨g, 0, none⟩ = some (.int .i64 n) ∧ w'.cell? ⟨g, 1, none⟩ = some (.int .i64 d)) (go_keep) (fail)
  have hs0 : PrS w3 w3.heap.size n d [] (.slice none 0 0) (w3.alloc (.cells #[.int .i64 n, .int .i64 d, .slice none 0 0] 37)).drew := by
    have hb := ((Below.refl w3.heap.size w3).alloc (Nat.le_refl _) (.cells #[.int .i64 n, .int .i64 d, .slice none 0 0] 37))
    have hr := Row.new w3 37 #[.int .i64 n, .int .i64 d, .slice none 0 0]
    exact ⟨hb.drew, hr.below (Below.refl _ _).drew hr.lt, Own.nil _ _ _ _, by simp [Value.ownBlock], Nat.le_refl _⟩
  obtain ⟨w4, hw4⟩ : ∃ w4, (w3.alloc (.cells #[.int .i64 n, .int .i64 d, .slice none 0 0] 37)).drew = w4 := ⟨_, rfl⟩
  obtain ⟨m, hm⟩ : ∃ m, w3.heap.size = m := ⟨_, rfl⟩
  rw [hm] at hs0
  rw [hw4] at hs0 ⊢
  rw [hm]
  clear hw4 g03 g13 j1 j2
  have i8 : (1 : Int) ≤ ((P.length : Int) - 1 - 1) := by omega
  have i9 : ((P.length : Int) - 1 - 1) ≤ (cap1 : Int) := by omega
  have ia : ¬ cap1 = 1 := by omega
  have ib : 1 < cap1 := by omega
  have ic : P.length - 2 ≤ cap1 := by omega
  obtain ⟨mid, hmid⟩ : ∃ mid, ((P.map (·.data.toList)).drop 1).take ((P.map (·.data.toList)).length - 3) = mid := ⟨_, rfl⟩
  have hml : mid.length = P.length - 2 - 1 := by rw [← hmid]; simp; omega
  have HMD : Hid (∀ k (h : k < mid.length) (h' : k + 1 < P.length), mid[k] = (P[k + 1]).data.toList) := fun k h h' => by
    subst hmid
    simp
  have HMI := Lib.hid hmid
  have HML := Lib.hid hml
  have hm1 : mid.length ≤ P.length - 2 - 1 := by omega
  have hm2 : P.length - 2 - 1 ≤ mid.length := by omega
  clear hmid hml
  go_wp2_with fail
  clear i1 i1d i2 i3 i4 i5 i6 i7 i8 i9 ia ib ic
  go_loopw [80] (fun i wr => ∃ k : Nat, ∃ acc : List Pay, ∃ v, k ≤ mid.length ∧ i = .int .i64 k ∧ acc.length ≤ k ∧ Hid (PyI mid k acc) ∧ Hid (PrS w3 m n d acc v wr)) (fun i _ => mid.length - (intOf i).toNat)
  case atStart => exact ⟨0, [], _, by omega, rfl, by simp, pyI_start mid, hs0⟩
  case round =>
    clear hs0
    obtain ⟨k, acc, v, hk, rfl, hacc, HI, HS⟩ := hrel
    obtain ⟨wo, rfl⟩ : ∃ wo : World, wo = wr := ⟨_, rfl⟩
    have hBo := hB3.trans (HS.out.below.mono hs3)
    have hzo := hz3.below HS.out.below hz3.1.lt hz3.2.lt
    have hlo := HS.out.below.size
    have hcl0 := (HC3.out.below HS.out.below HC3.out.1)
    by_cases hlt : k < mid.length
    · have hkP : k + 1 < P.length := by omega
      have hkN : k < P.length - 2 - 1 := by omega
      have q0 := hcl0.txt hkP
      rw [show op + (k + 1) = op + 1 + k by omega] at q0
      have hpz := HPS.out _ (List.getElem_mem hkP)
      have HMK := Lib.hid (HMD.out k hlt hkP)
      obtain ⟨px, hpx⟩ : ∃ x, P[k + 1] = x := ⟨_, rfl⟩
      rw [hpx] at q0 hpz HMK
      have hblo := hcl0.1
      clear hpx hcl0
      go_wp2_with fail
      refine (readPay_any px wo (HT.out.below hBo) (HER.out.below hBo) (by omega)).mono ?_
      rintro e w5 ⟨hb5, hh⟩
      have hB5 := below_after hBo hb5 hBo.size
      have hz5 := hzo.same hb5
      have HS5 := Lib.hid (HS.out.same hb5)
      have hvl := fun g (h : v.ownBlock = some g) => (HS.out.own.1.lt g h).2
      have HVL := Lib.hid hvl
      have hs5 := hB5.size
      clear q0 hBo hzo hb5 HS hvl
      rcases hh with ⟨ns, g5, c5, hns, hnl, rfl, hc5, hg5, hg5l, hcells⟩ | ⟨hno, rfl⟩
      rotate_left
      · have hF : parseF s.data.toList = none := by
          rw [HF.out]
          refine pl_pays HCO.out (by rw [HP0.out]; exact HH.out) (by rw [HP2.out]; exact HTT.out) ?_
          rw [HMI.out]
          exact pyI_no HI.out hlt (by rw [HMK.out]; exact hno)
        clear hno
        have hN := Lib.hid (HNO.out hF _ (below6 hB5 hwr hwq (.int .i64 0) (.int .i64 0) (.slice none 0 0) (.int .i64 0) (.int .i64 0) (.int .i64 0)))
        obtain ⟨t1, t2⟩ := two_rows hz5.1 hz5.2 hrq (.int .i64 0) (.int .i64 0) (.slice none 0 0) (.int .i64 0) (.int .i64 0) (.int .i64 0)
        have HZ := Lib.hid (zs_cells ⟨t1, t2⟩)
        obtain ⟨⟨a0, a1, a2, al⟩, ⟨b0, b1, b2⟩, ⟨c0, c1, c2, cl⟩, ⟨d0, d1, d2⟩⟩ := zs_cells hz5
        clear hF t1 t2
        go_wp2
        obtain ⟨⟨z0, z1, z2, _⟩, _, ⟨z3, z4, z5, _⟩, _⟩ := HZ.out
        refine bodyPost_ret (v := .tuple #[.agg #[.int .i64 0, .int .i64 0, .slice none 0 0], .agg #[.int .i64 0, .int .i64 0, .int .i64 0], .bool false]) (by simp only [results, Tryz.results39, go_sem]; simp [z0, z1, z2, z3, z4, z5, go_sem]) rfl hN.out
      obtain ⟨xe, xa, rfl, -, hxe, hxa⟩ := readL_pay.1 hns
      have g0 := hcells 0 (by simp)
      have g1 := hcells 1 (by simp)
      simp only [List.getElem_cons_zero, List.getElem_cons_succ] at g0 g1
      have HI2 := Lib.hid (pyI_next HI.out hlt (e := xe) (a := xa) (by rw [HMK.out]; exact hns))
      clear hcells hnl hns HMK HI hB5 hz5
      have j1 : (1 : Int) < (c5 : Int) := by omega
      have hm5 := HS5.out.box.lt
      have gm := HS5.out.box.cell 2
      have fm := HS5.out.box.frozen 2
      have HNE : Hid (v.ownBlock ≠ some g5) := fun h => by have := HVL.out g5 h; omega
      simp only [List.getElem?_toArray, List.getElem?_cons_succ, List.getElem?_cons_zero] at gm
      have HG : Hid (w5.cell? ⟨g5, 0, none⟩ = some (.int .i64 xe) ∧ w5.cell? ⟨g5, 1, none⟩ = some (.int .i64 xa)) := ⟨g0, g1⟩
      go_wp2_with fail
      go_region_law ((refine step_append_sl rfl (.tmp 95) (.tmp 103) rfl rowPay w3.heap.size _ _ (pays acc) [Pay.vals ⟨xe, xa⟩] rfl ((HS5.out.own.alloc _).drew) rfl ((Sl.one rfl rfl).below (below_a0 _)) (pay_wide _) (by simp only [pays_len, List.length_cons, List.length_nil]; unfold maxLen; omega) (by simp only [pays_len, List.length_cons, List.length_nil]; omega) (by have := HS5.out.below.size; simp only [World.size_drew, World.size_alloc]; omega) ?_; intro v7 w7 hown7 hg7 hv7; obtain ⟨g7, c7, rfl, hc7⟩ := hown7.form1 (by simp); simp only [List.length_append, pays_len, List.length_cons, List.length_nil, Nat.zero_add] at hown7 hg7 hv7 hc7 ⊢; have H7 := Lib.hid (HS5.out.app ⟨xe, xa⟩ hown7 hg7 hv7); have y0 := HS5.out.far hg7 hg5l HNE.out HG.out.1; have y1 := HS5.out.far hg7 hg5l HNE.out HG.out.2; have y2 := H7.out.2.cell 2; have y3 := H7.out.2.frozen 2; have y4 := H7.out.2.lt; simp only [List.getElem?_toArray, List.getElem?_cons_succ, List.getElem?_cons_zero] at y2))
      all_goals
        clear g0 g1 gm fm y0 y1 y2 y3 y4 hown7 hg7 hv7
        go_wp2
        have R := Lib.hid H7.out.1
        refine ⟨⟨k + 1, acc ++ [Pay.mk xe xa], .slice (some ⟨g7, 0, none⟩) (acc.length + 1) c7, hlt, ?_, ?_, HI2, R⟩, ?_⟩
        · go_num
        · simp only [List.length_append, List.length_cons, List.length_nil]; exact Nat.succ_le_succ hacc
        · simp only [intOf]; omega
    · obtain rfl : k = mid.length := by omega
      have hkN : ¬ mid.length < P.length - 2 - 1 := by omega
      have HPY := Lib.hid (pyI_end HI.out)
      have HFF : Hid (parseF s.data.toList = some (⟨n, d, acc⟩, ⟨c, y, z⟩)) := by
        rw [Hid, HF.out]
        exact pl_ok HCO.out (by rw [HP0.out]; exact HH.out) (by rw [HP2.out]; exact HTT.out) (by rw [HMI.out]; exact HPY.out)
      obtain ⟨⟨b0, b1, b2, bl⟩, -⟩ := row3 HS.out.box
      have t0 := (HS.out.below.cell (p := ⟨t, 0, none⟩) ht2).trans HK.out.1
      have t1 := (HS.out.below.cell (p := ⟨t, 1, none⟩) ht2).trans HK.out.2.1
      have t2 := (HS.out.below.cell (p := ⟨t, 2, none⟩) ht2).trans HK.out.2.2
      have htl := Nat.lt_of_lt_of_le ht2 hlo
      obtain ⟨⟨a0, a1, a2, al⟩, ⟨e0, e1, e2⟩, ⟨c0, c1, c2, cl⟩, ⟨d0, d1, d2⟩⟩ := zs_cells hzo
      have HZO := Lib.hid hzo
      have HBO := Lib.hid hBo
      have j1 : (1 : Int) < (ct : Int) := by omega
      have j2 : (2 : Int) < (ct : Int) := by omega
      obtain ⟨Av, cv, rfl⟩ := HS.out.own.form
      rw [pays_len] at HS b2
      have hmr : m ≠ r := by have := hz3.1.lt; omega
      have hmq : m ≠ q := by have := hz3.2.lt; omega
      have htr : t ≠ r := by omega
      have htq : t ≠ q := by omega
      have hmr' := hmr.symm
      have hmq' := hmq.symm
      have htr' := htr.symm
      have htq' := htq.symm
      clear hzo hBo hcl0
      go_wp2_with fail
      go_region_held3 (fun w' => w'.cell? ⟨m, 0, none⟩ = some (.int .i64 n) ∧ w'.cell? ⟨m, 1, none⟩ = some (.int .i64 d) ∧ w'.cell? ⟨m, 2, none⟩ = some (.slice Av acc.length cv) ∧ w'.cell? ⟨t, 0, none⟩ = some (.int .i64 c) ∧ w'.cell? ⟨t, 1, none⟩ = some (.int .i64 y) ∧ w'.cell? ⟨t, 2, none⟩ = some (.int .i64 z)) (go_keep) (fail)
      obtain ⟨T1, T2⟩ := two_rows HZO.out.1 HZO.out.2 hrq (.int .i64 n) (.int .i64 d) (.slice Av acc.length cv) (.int .i64 c) (.int .i64 y) (.int .i64 z)
      have hBN := (below6 HBO.out hwr hwq (.int .i64 n) (.int .i64 d) (.slice Av acc.length cv) (.int .i64 c) (.int .i64 y) (.int .i64 z)).drew
      have hON := own6 HS.out.own (r := r) (q := q) (by omega) (by omega) (.int .i64 n) (.int .i64 d) (.slice Av acc.length cv) (.int .i64 c) (.int .i64 y) (.int .i64 z)
      have T1' := T1.below (Below.refl _ _).drew T1.lt
      have T2' := T2.below (Below.refl _ _).drew T2.lt
      have hON' := (hON.drew).more (show w.heap.size ≤ w3.heap.size by omega)
      clear T1 T2 hON t0 t1 t2 a0 a1 a2 c0 c1 c2 b0 b1 b2 e0 e1 e2 d0 d1 d2
      obtain ⟨W, hW⟩ : ∃ W, ((((((wo.setCell ⟨r, 0, none⟩ (.int .i64 n)).setCell ⟨r, 1, none⟩ (.int .i64 d)).setCell ⟨r, 2, none⟩ (.slice Av acc.length cv)).setCell ⟨q, 0, none⟩ (.int .i64 c)).setCell ⟨q, 1, none⟩ (.int .i64 y)).setCell ⟨q, 2, none⟩ (.int .i64 z)).drew = W := ⟨_, rfl⟩
      rw [hW] at T1' T2' hBN hON' ⊢
      clear hW
      have HZ := Lib.hid (And.intro T1' (And.intro T2' (And.intro hBN hON')))
      clear T1' T2' hBN hON'
      go_wp2
      obtain ⟨T1, T2, hBN, hON⟩ := HZ.out
      obtain ⟨⟨x0, x1, x2, _⟩, _⟩ := row3 T1
      obtain ⟨⟨x3, x4, x5, _⟩, _⟩ := row3 T2
      refine bodyPost_ret (v := .tuple #[.agg #[.int .i64 n, .int .i64 d, .slice Av acc.length cv], .agg #[.int .i64 c, .int .i64 y, .int .i64 z], .bool true]) (by simp only [results, Tryz.results39, go_sem]; simp [x0, x1, x2, x3, x4, x5, go_sem]) rfl ?_
      exact ⟨hBN, .inl ⟨⟨n, d, acc⟩, ⟨c, y, z⟩, .slice Av acc.length cv, HFF.out, rfl, hON⟩⟩
end Go.Proofs.YtlchcfkngjbdjaaGreatDoor
