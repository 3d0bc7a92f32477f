/- Contracts and plain facts that the laws of this seat share, part 8. -/
import Derived.Test.YtogdefomigiepaaGreatDoorPkC
import Derived.Test.YtogdefomigiepaaGreatDoorPkG
import Derived.Test.YtogdefomigiepaaGreatDoorPkA
import Derived.Test.YtogdefomigiepaaGreatDoorPkB
import Derived.Deep.CutBlock
import Derived.Deep.DeepCutAuto
import Derived.Deep.RegionHeld3
import Derived.IntWalk
set_option linter.unusedVariables false
set_option linter.unusedSimpArgs false
/- Contract of paygen.Deck.Employments. Written by gen_dem.py. -/
namespace Go.Proofs.YtogdefomigiepaaGreatDoor
open Go.RowKit

structure Em where
 ev : Value
 l : List Int
 base : Int
def Em.vals (x : Em) : List Value := [x.ev, .int .i64 x.base]
theorem rowEm : RowTy Tryz.prog 62 126 2 32 := by
 obtain ⟨i, hi, hz, hs, hb⟩ := info_parts (show (Tryz.prog.info? 126).map (fun i => (i.zero, i.size, i.bytes)) = some (some (.agg #[.slice none 0 0, .int .i64 0]), 2, 32) by kernel_rfl)
 exact ⟨Tryz.underlying62, ⟨i, _, hi, hz, hs, hb, rfl⟩, by omega⟩
structure EmsOwn (w : World) (B : Nat) (v : Value) (ems : List Em) : Prop where
 own : Own w B 126 2 v (ems.map Em.vals)
 each : ∀ x ∈ ems, Own w B 3 1 x.ev (ints x.l)
 apart : ∀ x ∈ ems, ∀ g, x.ev.ownBlock = some g → v.ownBlock ≠ some g
theorem EmsOwn.nil (w : World) (B : Nat) : EmsOwn w B (.slice none 0 0) [] := ⟨Own.nil _ _ _ _, (fun _ h => by cases h), (fun _ h => by cases h)⟩
theorem EmsOwn.step {w w' : World} {B D m : Nat} {v : Value} {ems : List Em} (h : EmsOwn w B v ems) (k : DS w D m w') (hD : D < B) : EmsOwn w' B v ems := ⟨k.own h.own hD, fun x hx => k.own (h.each x hx) hD, h.apart⟩
theorem EmsOwn.more {w : World} {B B' : Nat} {v : Value} {ems : List Em} (h : EmsOwn w B v ems) (hB : B' ≤ B) : EmsOwn w B' v ems := ⟨h.own.more hB, fun x hx => (h.each x hx).more hB, h.apart⟩
theorem EmsOwn.app {w w1 w' : World} {B : Nat} {v v' : Value} {ems : List Em} {x : Em} (h : EmsOwn w B v ems) (hx : Own w B 3 1 x.ev (ints x.l)) (hxa : ∀ g, x.ev.ownBlock = some g → v.ownBlock ≠ some g) (hb : Below w.heap.size w w1)
  (ho : Own w' B 126 2 v' (ems.map Em.vals ++ [x].map Em.vals)) (hg : w1.grownBy w' v.ownBlock) (hv : v'.ownBlock = v.ownBlock ∨ v'.ownBlock = some w1.heap.size) : EmsOwn w' B v' (ems ++ [x]) := by
 have hall : ∀ y ∈ ems ++ [x], Own w B 3 1 y.ev (ints y.l) ∧ ∀ g, y.ev.ownBlock = some g → v.ownBlock ≠ some g := fun y hy => by
  rcases List.mem_append.1 hy with hy | hy
  ·exact ⟨h.each y hy, h.apart y hy⟩
  ·rw [List.mem_singleton.1 hy]; exact ⟨hx, hxa⟩
 refine ⟨by rw [List.map_append]; exact ho, fun y hy => ?_, fun y hy g hyg => ?_⟩
 ·obtain ⟨h1, h2⟩ := hall y hy
  refine (h1.kept hb).keepG hg ?_
  cases hv' : y.ev.ownBlock with
  | none => exact .inl rfl
  | some g => exact .inr fun e => h2 g hv' e.symm
 ·obtain ⟨h1, h2⟩ := hall y hy
  rcases hv with hv | hv
  ·rw [hv]; exact h2 g hyg
  ·rw [hv]
   intro e
   injection e with e
   have := (h1.1.lt g hyg).2
   have := hb.size
   omega
def EmsOk (n k : Nat) (ems : List Em) : Prop := ems.length = n ∧ ∀ x ∈ ems, (x.l.length = k ∧ ∀ y ∈ x.l, 0 ≤ y ∧ y ≤ 1000000) ∧ 0 ≤ x.base ∧ x.base ≤ 600000
def EmsD (n k : Nat) (w : World) (D m : Nat) (e : Ending) (w' : World) : Prop := ∃ (v : Value) (ems : List Em), e = .returned v ∧ EmsOk n k ems ∧ EmsOwn w' w.heap.size v ems ∧ DS w D m w'
set_option maxRecDepth 100000 in
set_option maxHeartbeats 4000000 in
theorem EmploymentsD {w : World} {D m : Nat} (n q : Nat) (hn : n ≤ 100) (hq : q ≤ 100) (hd : Dk w D m) (hm : m ≤ 100000) :
  Calls Tryz.prog 75 #[.pointer (some ⟨D, 0, none⟩), .int .i64 n, .int .i64 q] w (EmsD n q w D (m + 600 * n)) := by
 have hD := hd.lt
 go_enter Tryz.func75, Tryz.ntmps75
 go_wp2_with fail
 go_loopw [7, 8] (fun v i wr => ∃ (k : Nat) (ems : List Em), k ≤ n ∧ i = .int .i64 k ∧ Hid (EmsOk k q ems ∧ EmsOwn wr w.heap.size v ems ∧ DS w D (m + 600 * k) wr)) (fun _ i _ => n - (intOf i).toNat)
 case atStart => exact ⟨0, [], by omega, rfl, ⟨rfl, (fun _ h => by cases h)⟩, EmsOwn.nil _ _, hd.start⟩
 case round =>
  obtain ⟨k, ems, hk, rfl, HI⟩ := hrel
  obtain ⟨wo, rfl⟩ : ∃ wo : World, wo = wr := ⟨_, rfl⟩
  by_cases hlt : k < n
  rotate_left
  ·obtain rfl : k = n := by omega
   have dk : decide ((k : Int) < (k : Int)) = false := decide_eq_false (by omega)
   go_wp2
   go_ret
   exact ⟨_, ems, rfl, HI.out.1, HI.out.2.1, HI.out.2.2⟩
  have dk : decide ((k : Int) < (n : Int)) = true := decide_eq_true (by omega)
  have hS := HI.out.2.2
  have HC := Lib.hid HI.out.1
  have HO := Lib.hid HI.out.2.1
  have hlo := fun g hg => (HO.out.own.1.lt g hg).2
  have hso := hS.size
  clear HI
  go_wp2_with fail
  refine (BasesD q hq hS.dk (by omega)).mono ?_
  rintro e w1 ⟨ev, lb, rfl, hlb, hev, k1⟩
  have HO1 := Lib.hid (HO.out.step k1 hD)
  have h1 := hS.step k1
  have HE1 := Lib.hid (hev.more hso)
  have HA : Hid (∀ g, ev.ownBlock = some g → u7.ownBlock ≠ some g) := fun g hg hh => by have := (hev.1.lt g hg).1; have := hlo g hh; omega
  have HLB := Lib.hid hlb
  obtain ⟨Ae, ce, rfl⟩ := hev.form
  rw [ints_len, hlb.1] at HE1 HA ⊢
  clear HO hS k1 hev hlo hlb
  go_wp2_with fail
  refine (SmallD h1.dk (by omega)).mono ?_
  rintro e w2 ⟨r2, hr2, rfl, k2⟩
  have h2 := h1.step k2
  have HO2 := Lib.hid (HO1.out.step k2 hD)
  have HE2 := Lib.hid (k2.own HE1.out hD)
  clear HO1 HE1 h1 k2
  go_wp2_with fail
  refine (PickD [r2, 0, 500000] 0 600000 h2.dk.start (by omega) rfl rfl (by simp) (by simp) (by simp; omega)).mono ?_
  rintro e w3 ⟨r3, hr3, rfl, k3⟩
  have h3 := h2.step k3
  have HO3 := Lib.hid (HO2.out.step k3 hD)
  have HE3 := Lib.hid (k3.own HE2.out hD)
  clear HO2 HE2 h2 k3
  go_wp2_with (at_builtin; refine wpList_append_sl rfl (.tmp 14) (.tmp 24) rfl rowEm w.heap.size _ _ (ems.map Em.vals) ([(⟨.slice Ae q ce, lb, r3⟩ : Em)].map Em.vals) rfl (HO3.out.own.alloc _) rfl (Sl.one rfl rfl) (fun y hy => by simp only [List.map_cons, List.map_nil, List.mem_singleton] at hy; subst hy; exact ⟨rfl, by simp [Em.vals, Value.oneCell']⟩) (by have := HC.out.1; simp only [List.length_map]; unfold maxLen; simp; omega) (by have := HC.out.1; simp only [List.length_map]; simp; omega) (by have := h3.size; simp only [World.size_alloc]; omega) ?_; intro vz wz hownz hgz hvz)
  have ltz := fun g hg => (HO3.out.own.1.lt g hg).1
  have hz := (h3.alloc _).other hgz ltz hD
  have oz := HO3.out.app (x := ⟨.slice Ae q ce, lb, r3⟩) HE3.out HA.out ((Below.refl _ _).alloc (Nat.le_refl _) _) hownz hgz hvz
  have HEND : Hid (EmsOk (k + 1) q (ems ++ [⟨.slice Ae q ce, lb, r3⟩]) ∧ EmsOwn wz w.heap.size vz (ems ++ [⟨.slice Ae q ce, lb, r3⟩]) ∧ DS w D (m + 600 * (k + 1)) wz) := ⟨⟨by simp [HC.out.1], fun x hx => by rcases List.mem_append.1 hx with hx | hx; exact HC.out.2 x hx; rw [List.mem_singleton.1 hx]; exact ⟨HLB.out, hr3⟩⟩, oz, hz.more (by omega)⟩
  clear hownz hgz hvz ltz hz oz HO3 HE3 h3 HC HA HLB
  go_roundw
  case rel => exact ⟨k + 1, _, by omega, by go_num, HEND.out⟩
  case measure => simp [intOf]; omega
end Go.Proofs.YtogdefomigiepaaGreatDoor
/- Contracts of paygen.Deck: Year, Person, Rules. Written by gen_dyr.py. -/
namespace Go.Proofs.YtogdefomigiepaaGreatDoor
open Go.RowKit

structure Yr where
 inc : Int
 wh : Int
 iv : Value
 ins : List Int
 tv : Value
 tak : List El
structure YrOk (k : Nat) (y : Yr) : Prop where
 ins : y.ins.length = k ∧ ∀ x ∈ y.ins, 0 ≤ x ∧ x ≤ 1000000
 inc : 0 ≤ y.inc ∧ y.inc ≤ 600000 * k
 wh : 0 ≤ y.wh ∧ y.wh ≤ 60000 * k
 tak : Coded El.code ElOk0 litC litC.length y.tak
structure YrOwn (w : World) (B : Nat) (y : Yr) : Prop where
 ins : Own w B 3 1 y.iv (ints y.ins)
 tak : Own w B 112 2 y.tv (y.tak.map El.vals)
theorem YrOwn.step {w w' : World} {B D m : Nat} {y : Yr} (h : YrOwn w B y) (k : DS w D m w') (hD : D < B) : YrOwn w' B y := ⟨k.own h.ins hD, k.own h.tak hD⟩
theorem YrOwn.more {w : World} {B B' : Nat} {y : Yr} (h : YrOwn w B y) (hB : B' ≤ B) : YrOwn w B' y := ⟨h.ins.more hB, h.tak.more hB⟩
def YrD (k : Nat) (w : World) (D m : Nat) (e : Ending) (w' : World) : Prop :=
 ∃ y : Yr, YrOk k y ∧ e = .returned (.agg #[.int .i64 (k : Int), .int .i64 y.inc, .int .i64 y.wh, y.iv, y.tv]) ∧ YrOwn w' w.heap.size y ∧ DS w D m w'
set_option maxRecDepth 100000 in
set_option maxHeartbeats 8000000 in
theorem YearD {w : World} {D m : Nat} (k : Nat) (hk : k ≤ 10) (hd : Dk w D m) (hm : m ≤ 100000) :
  Calls Tryz.prog 39 #[.pointer (some ⟨D, 0, none⟩), .int .i64 k] w (YrD k w D (m + 100)) := by
 have hD := hd.lt
 go_enter Tryz.func39, Tryz.ntmps39
 go_upto_region 1 with (fail)
 have y1 := hd.start.alloc (.cells #[.int .i64 0, .int .i64 0, .int .i64 0, .slice none 0 0, .slice none 0 0] 67)
 have R_1 := Row.new w 67 #[.int .i64 0, .int .i64 0, .int .i64 0, .slice none 0 0, .slice none 0 0]
 have b1 := (hd.start.dk.start.alloc (.cells #[.int .i64 0, .int .i64 0, .int .i64 0, .slice none 0 0, .slice none 0 0] 67))
 have nR : w.heap.size ≠ D := by have := hd.start.dk.lt; omega
 obtain ⟨w1, hw⟩ : ∃ w1, w.alloc (.cells #[.int .i64 0, .int .i64 0, .int .i64 0, .slice none 0 0, .slice none 0 0] 67) = w1 := ⟨_, rfl⟩
 rw [hw] at y1 R_1 ⊢
 obtain ⟨gR, hg⟩ : ∃ gR, w.heap.size = gR := ⟨_, rfl⟩
 have zR : w.heap.size ≤ gR := by have := hd.start.size; omega
 rw [hg] at R_1 nR ⊢
 have h1 := y1
 have GR := Lib.hid hg
 clear hw hg b1 y1
 have sP := h1.size
 have lR0 := Row.lt R_1
 go_wp2_with fail
 refine (BasesD k (by omega) h1.dk (by omega)).mono ?_
 rintro e w2 ⟨iv, ins, rfl, hins, hoi, k2⟩
 have R_2 := k2.row R_1 nR
 have h2 := h1.step k2
 clear R_1 h1 k2
 have oIR : ∀ g, iv.ownBlock = some g → g ≠ gR := fun g hg => by have := (hoi.1.lt g hg).1; omega
 have HI := Lib.hid (hoi.more sP)
 have HIN := Lib.hid hins
 obtain ⟨Ai, ci, rfl⟩ := hoi.form
 rw [ints_len, hins.1] at HI oIR ⊢
 clear hoi hins
 have sQ := h2.size
 have lR1 := Row.lt R_2
 go_wp2_with fail
 refine (RecordD h2.dk (by omega)).mono ?_
 rintro e w3 ⟨tv, tak, rfl, htak, hot, k3⟩
 have R_3 := k3.row R_2 nR
 have I_3 := Lib.hid (k3.own HI.out hD)
 have h3 := h2.step k3
 clear R_2 HI h2 k3
 have oTR : ∀ g, tv.ownBlock = some g → g ≠ gR := fun g hg => by have := (hot.1.lt g hg).1; omega
 have HT := Lib.hid (hot.more sQ)
 have HTK := Lib.hid htak
 obtain ⟨At, ct, rfl⟩ := hot.form
 rw [List.length_map] at HT oTR ⊢
 clear hot htak
 go_upto_region 2 with (fail)
 have y4 := h3.alloc (.cells #[.int .i64 (k : Int), .int .i64 0, .int .i64 0, .slice Ai k ci, .slice At tak.length ct] 67)
 have X_4 := Row.new w3 67 #[.int .i64 (k : Int), .int .i64 0, .int .i64 0, .slice Ai k ci, .slice At tak.length ct]
 have b4 := (h3.dk.start.alloc (.cells #[.int .i64 (k : Int), .int .i64 0, .int .i64 0, .slice Ai k ci, .slice At tak.length ct] 67))
 have R_4 := b4.row R_3 nR
 have I_4 := Lib.hid (b4.own I_3.out hD)
 have T_4 := Lib.hid (b4.own HT.out hD)
 have nX : w3.heap.size ≠ D := by have := h3.dk.lt; omega
 have dXR : w3.heap.size ≠ gR := by have := Row.lt R_3; omega
 have oXI := Own.offNew I_3.out
 have oXT := Own.offNew HT.out
 obtain ⟨w4, hw⟩ : ∃ w4, w3.alloc (.cells #[.int .i64 (k : Int), .int .i64 0, .int .i64 0, .slice Ai k ci, .slice At tak.length ct] 67) = w4 := ⟨_, rfl⟩
 rw [hw] at y4 X_4 ⊢
 rw [hw] at R_4
 rw [hw] at I_4
 rw [hw] at T_4
 obtain ⟨gX, hg⟩ : ∃ gX, w3.heap.size = gX := ⟨_, rfl⟩
 have zX : w.heap.size ≤ gX := by have := h3.size; omega
 rw [hg] at X_4 nX ⊢
 rw [hg] at dXR
 rw [hg] at oXI
 rw [hg] at oXT
 have h4 := y4
 have GX := Lib.hid hg
 clear R_3 I_3 HT hw hg b4 y4 h3
 go_wp2_with fail
 go_loopw [6] (fun i wr => ∃ (j : Nat) (a b : Int), j ≤ k ∧ i = .int .i64 j ∧ (0 ≤ a ∧ a ≤ 600000 * j) ∧ (0 ≤ b ∧ b ≤ 60000 * j) ∧ Hid (Row wr gX 67 #[.int .i64 (k : Int), .int .i64 a, .int .i64 b, .slice Ai k ci, .slice At tak.length ct] ∧ Row wr gR 67 #[.int .i64 0, .int .i64 0, .int .i64 0, .slice none 0 0, .slice none 0 0] ∧ Own wr w.heap.size 3 1 (.slice Ai k ci) (ints ins) ∧ Own wr w.heap.size 112 2 (.slice At tak.length ct) (tak.map El.vals) ∧ DS w D (m + 70 + 3 * j) wr)) (fun i _ => k - (intOf i).toNat)
 case atStart => exact ⟨0, 0, 0, by omega, rfl, ⟨by omega, by omega⟩, ⟨by omega, by omega⟩, X_4, R_4, I_4.out, T_4.out, h4.more (by omega)⟩
 case round =>
  clear X_4 R_4 I_4 T_4 h4
  obtain ⟨j, a, b, hj, rfl, ha, hb, HX⟩ := hrel
  obtain ⟨wo, rfl⟩ : ∃ wo : World, wo = wr := ⟨_, rfl⟩
  by_cases hlt : j < k
  rotate_left
  ·obtain rfl : k = j := by omega
   have dk : decide ((k : Int) < (k : Int)) = false := decide_eq_false (by omega)
   obtain ⟨X1, R1, I1, T1, D1⟩ := HX.out
   have I1 := Lib.hid I1
   have T1 := Lib.hid T1
   clear HX
   have cX0 : wo.cell? ⟨gX, 0, none⟩ = some (.int .i64 (k : Int)) := Row.cell X1 0
   have cX1 : wo.cell? ⟨gX, 1, none⟩ = some (.int .i64 a) := Row.cell X1 1
   have cX2 : wo.cell? ⟨gX, 2, none⟩ = some (.int .i64 b) := Row.cell X1 2
   have cX3 : wo.cell? ⟨gX, 3, none⟩ = some (.slice Ai k ci) := Row.cell X1 3
   have cX4 : wo.cell? ⟨gX, 4, none⟩ = some (.slice At tak.length ct) := Row.cell X1 4
   have lX := Row.lt X1
   have cR0 : wo.cell? ⟨gR, 0, none⟩ = some (.int .i64 0) := Row.cell R1 0
   have cR1 : wo.cell? ⟨gR, 1, none⟩ = some (.int .i64 0) := Row.cell R1 1
   have cR2 : wo.cell? ⟨gR, 2, none⟩ = some (.int .i64 0) := Row.cell R1 2
   have cR3 : wo.cell? ⟨gR, 3, none⟩ = some (.slice none 0 0) := Row.cell R1 3
   have cR4 : wo.cell? ⟨gR, 4, none⟩ = some (.slice none 0 0) := Row.cell R1 4
   have fR0 : wo.frozen? ⟨gR, 0, none⟩ = false := Row.frozen R1 0
   have fR1 : wo.frozen? ⟨gR, 1, none⟩ = false := Row.frozen R1 1
   have fR2 : wo.frozen? ⟨gR, 2, none⟩ = false := Row.frozen R1 2
   have fR3 : wo.frozen? ⟨gR, 3, none⟩ = false := Row.frozen R1 3
   have fR4 : wo.frozen? ⟨gR, 4, none⟩ = false := Row.frozen R1 4
   have lR := Row.lt R1
   go_wp2_with fail
   refine bodyPost_ret (v := .agg #[.int .i64 (k : Int), .int .i64 a, .int .i64 b, .slice Ai k ci, .slice At tak.length ct]) (by simp [results, Tryz.results39, go_sem, *]) rfl ⟨⟨a, b, .slice Ai k ci, ins, .slice At tak.length ct, tak⟩, ⟨HIN.out, ha, hb, HTK.out⟩, rfl, ⟨I1.out.keepG (gb_set (gb_set (gb_set (gb_set (gb_set (World.grownBy.refl _ (some gR)) (.inl rfl) _) (.inl rfl) _) (.inl rfl) _) (.inl rfl) _) (.inl rfl) _) (own_ne oIR), T1.out.keepG (gb_set (gb_set (gb_set (gb_set (gb_set (World.grownBy.refl _ (some gR)) (.inl rfl) _) (.inl rfl) _) (.inl rfl) _) (.inl rfl) _) (.inl rfl) _) (own_ne oTR)⟩, (D1.other (gb_set (gb_set (gb_set (gb_set (gb_set (World.grownBy.refl _ (some gR)) (.inl rfl) _) (.inl rfl) _) (.inl rfl) _) (.inl rfl) _) (.inl rfl) _) (fun g hg => by injection hg; omega) hD).more (by omega)⟩
  have dk : decide ((j : Int) < (k : Int)) = true := decide_eq_true (by omega)
  go_upto_region 5 with (fail)
  go_cut [6] (fun i wx => ∃ a2 : Int, i = .int .i64 j ∧ (0 ≤ a2 ∧ a2 ≤ 600000 * (j + 1)) ∧ Hid (Row wx gX 67 #[.int .i64 (k : Int), .int .i64 a2, .int .i64 b, .slice Ai k ci, .slice At tak.length ct] ∧ Row wx gR 67 #[.int .i64 0, .int .i64 0, .int .i64 0, .slice none 0 0, .slice none 0 0] ∧ Own wx w.heap.size 3 1 (.slice Ai k ci) (ints ins) ∧ Own wx w.heap.size 112 2 (.slice At tak.length ct) (tak.map El.vals) ∧ DS w D (m + 70 + 3 * j + 2) wx))
  case first =>
   obtain ⟨X1, R1, I1, T1, D1⟩ := HX.out
   have I1 := Lib.hid I1
   have T1 := Lib.hid T1
   clear HX
   have cX0 : wo.cell? ⟨gX, 0, none⟩ = some (.int .i64 (k : Int)) := Row.cell X1 0
   have cX1 : wo.cell? ⟨gX, 1, none⟩ = some (.int .i64 a) := Row.cell X1 1
   have cX2 : wo.cell? ⟨gX, 2, none⟩ = some (.int .i64 b) := Row.cell X1 2
   have cX3 : wo.cell? ⟨gX, 3, none⟩ = some (.slice Ai k ci) := Row.cell X1 3
   have cX4 : wo.cell? ⟨gX, 4, none⟩ = some (.slice At tak.length ct) := Row.cell X1 4
   have fX1 : wo.frozen? ⟨gX, 1, none⟩ = false := Row.frozen X1 1
   have lX := Row.lt X1
   go_region_law (first | (go_simp; refine (SmallD (D1.dk.start.draws _).dk (by omega)).mono ?_; rintro e wx ⟨rx, hrx, rfl, kx'⟩; have kx := (D1.dk.start.draws _).step kx'; have Xx := kx.row X1 nX; have px : wx.cell? ⟨gX, 1, none⟩ = some (.int .i64 a) := Row.cell Xx 1; have pf := Row.frozen Xx 1; have pl := Row.lt Xx; have ew : IntKind.i64.wrap (a + rx) = a + rx := IntWalk.i64_in _ (by omega)))
   all_goals
    have Xy := Row.set Xx 1 (.int .i64 (a + rx))
    have Ry := Row.far (kx.row R1 nR) (p := ⟨gX, 1, none⟩) (fun e => dXR e.symm) (.int .i64 (a + rx))
    have Iy := (kx.own I1.out hD).setOff oXI 1 (.int .i64 (a + rx))
    have Ty := (kx.own T1.out hD).setOff oXT 1 (.int .i64 (a + rx))
    have hy := (D1.step kx).set (p := ⟨gX, 1, none⟩) zX hD (.int .i64 (a + rx))
    have HEND := Lib.hid (And.intro Xy (And.intro Ry (And.intro Iy (And.intro Ty (hy.more (show _ ≤ m + 70 + 3 * j + 2 by omega))))))
    clear Xy Ry Iy Ty hy Xx kx kx' px pf pl
    go_wp2_with fail
    go_meet
    exact ⟨a + rx, rfl, ⟨by omega, by omega⟩, HEND.out⟩
  case rest =>
   clear HX
   obtain ⟨a2, rfl, ha2, HC⟩ := hcut
   obtain ⟨w2, hw2⟩ : ∃ w2 : World, w2 = wc := ⟨_, rfl⟩
   subst hw2
   obtain ⟨X1, R1, I1, T1, D1⟩ := HC.out
   have I1 := Lib.hid I1
   have T1 := Lib.hid T1
   clear HC
   go_upto_region 6 with (fail)
   have cX0 : w2.cell? ⟨gX, 0, none⟩ = some (.int .i64 (k : Int)) := Row.cell X1 0
   have cX1 : w2.cell? ⟨gX, 1, none⟩ = some (.int .i64 a2) := Row.cell X1 1
   have cX2 : w2.cell? ⟨gX, 2, none⟩ = some (.int .i64 b) := Row.cell X1 2
   have cX3 : w2.cell? ⟨gX, 3, none⟩ = some (.slice Ai k ci) := Row.cell X1 3
   have cX4 : w2.cell? ⟨gX, 4, none⟩ = some (.slice At tak.length ct) := Row.cell X1 4
   have fX2 : w2.frozen? ⟨gX, 2, none⟩ = false := Row.frozen X1 2
   have lX := Row.lt X1
   go_region_law (first | (go_simp; refine (NextD _ (D1.dk.start.draws _).dk (by omega) (by omega) (by omega)).mono ?_; rintro e wx ⟨rx, hrx, rfl, kx'⟩; have kx := (D1.dk.start.draws _).step kx'; have Xx := kx.row X1 nX; have px : wx.cell? ⟨gX, 2, none⟩ = some (.int .i64 b) := Row.cell Xx 2; have pf := Row.frozen Xx 2; have pl := Row.lt Xx; have ew : IntKind.i64.wrap (b + rx) = b + rx := IntWalk.i64_in _ (by omega)))
   all_goals
    have Xy := Row.set Xx 2 (.int .i64 (b + rx))
    have Ry := Row.far (kx.row R1 nR) (p := ⟨gX, 2, none⟩) (fun e => dXR e.symm) (.int .i64 (b + rx))
    have Iy := (kx.own I1.out hD).setOff oXI 2 (.int .i64 (b + rx))
    have Ty := (kx.own T1.out hD).setOff oXT 2 (.int .i64 (b + rx))
    have hy := (D1.step kx).set (p := ⟨gX, 2, none⟩) zX hD (.int .i64 (b + rx))
    have HEND := Lib.hid (And.intro Xy (And.intro Ry (And.intro Iy (And.intro Ty (hy.more (show _ ≤ m + 70 + 3 * (j + 1) by omega))))))
    clear Xy Ry Iy Ty hy Xx kx kx' px pf pl X1 R1 I1 T1 D1
    go_wp2_with fail
    go_roundw
    case rel => exact ⟨j + 1, a2, b + rx, by omega, by go_num, ⟨by omega, by omega⟩, ⟨by omega, by omega⟩, HEND.out⟩
    case measure => simp [intOf]; omega
end Go.Proofs.YtogdefomigiepaaGreatDoor
/- Contract of paygen.Deck.Elements. Written by gen_del.py. -/
namespace Go.Proofs.YtogdefomigiepaaGreatDoor
open Go.RowKit

def codeOf (ws : List Wg) (j : Nat) : ByteArray := (ws[j]?.map (·.code)).getD ⟨#[]⟩
theorem codeOf_mem {ws : List Wg} {j : Nat} (h : j < ws.length) : ∃ x ∈ ws, codeOf ws j = x.code := ⟨ws[j], List.getElem_mem h, by simp [codeOf, h]⟩
theorem codes_own {w : World} {base e g n cap : Nat} {ws : List Wg} (h : Own w base e 6 (.slice (some ⟨g, 0, none⟩) n cap) (ws.map Wg.vals)) : ∀ j, j < ws.length → w.cell? ⟨g, j * 6, none⟩ = some (.string (codeOf ws j)) := fun j hj =>
 h.cellE (by omega) (i := j) (x := Wg.vals ws[j]) (by simp [hj]) (j := 0) (by simp [Wg.vals, codeOf, hj])
theorem codes_alloc {w : World} {g n : Nat} {f : Nat → Value} (h : ∀ j, j < n → w.cell? ⟨g, j * 6, none⟩ = some (f j)) (o : Obj) : ∀ j, j < n → (w.alloc o).cell? ⟨g, j * 6, none⟩ = some (f j) := fun j hj =>
 (World.cell?_alloc_some _ _ _ (by rw [h j hj]; rfl)).trans (h j hj)
theorem codes_set {w : World} {g n : Nat} {f : Nat → Value} (h : ∀ j, j < n → w.cell? ⟨g, j * 6, none⟩ = some (f j)) (p : Addr) (u : Value) (hp : p.block ≠ g) : ∀ j, j < n → (w.setCell p u).cell? ⟨g, j * 6, none⟩ = some (f j) := fun j hj =>
 (World.cell?_setCell_far _ _ _ _ hp).trans (h j hj)
def ElsOf (ws : List Wg) (l : List El) : Prop := ∀ x ∈ l, (∃ y ∈ ws, x.code = y.code) ∧ -600000 ≤ x.amt ∧ x.amt ≤ 600000
def ElsD (ws : List Wg) (n : Nat) (w : World) (D m : Nat) (e : Ending) (w' : World) : Prop :=
 ∃ (v : Value) (l : List El), e = .returned v ∧ (ElsOf ws l ∧ l.length ≤ n) ∧ Own w' w.heap.size 112 2 v (l.map El.vals) ∧ DS w D m w'
structure ElRel (w wx : World) (D M gY base E g cv : Nat) (ws : List Wg) (v : Value) (c : ByteArray) (a : Int) (l : List El) : Prop where
 row : Row wx gY 112 #[.string c, .int .i64 a]
 own : Own wx w.heap.size 112 2 v (l.map El.vals)
 off : ∀ g, v.ownBlock = some g → g ≠ gY
 ds : DS w D M wx
 wages : Own wx base E 6 (.slice (some ⟨g, 0, none⟩) ws.length cv) (ws.map Wg.vals)
 ne : g ≠ gY
theorem sl_off {g n c gY : Nat} (h : g ≠ gY) : ∀ k, Value.ownBlock (.slice (some ⟨g, 0, none⟩) n c) = some k → k ≠ gY := fun k hk => by
 have : g = k := by simpa [Value.ownBlock] using hk
 omega
theorem ElRel.ofAlloc {w wx : World} {D M base E g cv : Nat} {ws : List Wg} {v : Value} {c : ByteArray} {a : Int} {l : List El} (hA : Own wx w.heap.size 112 2 v (l.map El.vals)) (hS : DS w D M wx) (hW : Own wx base E 6 (.slice (some ⟨g, 0, none⟩) ws.length cv) (ws.map Wg.vals)) : ElRel w (wx.alloc (.cells #[.string c, .int .i64 a] 112)) D M wx.heap.size base E g cv ws v c a l := ⟨Row.new _ _ _, hA.alloc _, hA.offNew, hS.alloc _, hW.alloc _, hW.offNew g rfl⟩
theorem ElRel.ofSet {w wx : World} {D M gY base E g cv : Nat} {ws : List Wg} {v : Value} {c c' : ByteArray} {a a' : Int} {l : List El} (hY : Row wx gY 112 #[.string c', .int .i64 a']) (hA : Own wx w.heap.size 112 2 v (l.map El.vals)) (hS : DS w D M wx) (hW : Own wx base E 6 (.slice (some ⟨g, 0, none⟩) ws.length cv) (ws.map Wg.vals)) (h2 : ∀ g, v.ownBlock = some g → g ≠ gY) (h4 : g ≠ gY) (h3 : w.heap.size ≤ gY) (hD : D < w.heap.size) :
  ElRel w ((wx.setCell ⟨gY, 0, none⟩ (.string c)).setCell ⟨gY, 1, none⟩ (.int .i64 a)) D M gY base E g cv ws v c a l :=
 ⟨Row.set (Row.set hY 0 (.string c)) 1 (.int .i64 a), (hA.setOff h2 0 _).setOff h2 1 _, h2, (hS.set (p := ⟨gY, 0, none⟩) h3 hD _).set (p := ⟨gY, 1, none⟩) h3 hD _, (hW.setOff (sl_off h4) 0 _).setOff (sl_off h4) 1 _, h4⟩
theorem ElRel.ofSet1 {w wx : World} {D M gY base E g cv : Nat} {ws : List Wg} {v : Value} {c : ByteArray} {a a' : Int} {l : List El} (h : ElRel w wx D M gY base E g cv ws v c a' l) (h3 : w.heap.size ≤ gY) (hD : D < w.heap.size) : ElRel w (wx.setCell ⟨gY, 1, none⟩ (.int .i64 a)) D M gY base E g cv ws v c a l :=
 ⟨Row.set h.row 1 (.int .i64 a), h.own.setOff h.off 1 _, h.off, h.ds.set (p := ⟨gY, 1, none⟩) h3 hD _, h.wages.setOff (sl_off h.ne) 1 _, h.ne⟩
theorem ElRel.more {w wx : World} {D M N gY base E g cv : Nat} {ws : List Wg} {v : Value} {c : ByteArray} {a : Int} {l : List El} (h : ElRel w wx D M gY base E g cv ws v c a l) (hN : M ≤ N) : ElRel w wx D N gY base E g cv ws v c a l := ⟨h.row, h.own, h.off, h.ds.more hN, h.wages, h.ne⟩
theorem ElRel.step {w wx w' : World} {D M N gY base E g cv : Nat} {ws : List Wg} {v : Value} {c : ByteArray} {a : Int} {l : List El} (h : ElRel w wx D M gY base E g cv ws v c a l) (k : DS wx D N w') (hY : gY ≠ D) (hD : D < w.heap.size) (hb : D < base) : ElRel w w' D N gY base E g cv ws v c a l := ⟨k.row h.row hY, k.own h.own hD, h.off, h.ds.step k, k.own h.wages hb, h.ne⟩

set_option maxRecDepth 100000 in
set_option maxHeartbeats 8000000 in
theorem ElementsD {w : World} {D m base E : Nat} (v : Value) (ws : List Wg) (n : Nat) (hn : n ≤ 100) (hw : Own w base E 6 v (ws.map Wg.vals)) (hb : D < base) (hd : Dk w D m) (hm : m ≤ 1000000) (hws : ws.length ≤ 100) :
    Calls Tryz.prog 41 #[.pointer (some ⟨D, 0, none⟩), v, .int .i64 n] w (ElsD ws n w D (m + 1 + 4 * n)) := by
  have hD := hd.lt
  have HW := Lib.hid hw
  have HG0 := Lib.hid (fun gg hg => (hw.1.lt gg hg).2)
  obtain ⟨Av, cv, rfl⟩ := hw.form
  rw [List.length_map] at HW HG0 ⊢
  clear hw
  go_enter Tryz.func41, Tryz.ntmps41
  go_wp2_with fail
  refine (NextD ((n : Int) + 1) hd.start.dk (by omega) (by omega) (by omega)).mono ?_
  rintro e w1 ⟨r1, hr1, rfl, k1⟩
  have W_1 := Lib.hid (k1.own HW.out hb)
  have h1 := hd.start.step k1
  clear HW k1
  obtain ⟨K, rfl⟩ := Int.eq_ofNat_of_zero_le hr1.1
  have hK : K ≤ n := by omega
  go_wp2_with fail
  have HW1 := W_1
  go_loopw [7, 8] (fun v i wr => ∃ (k : Nat) (l : List El), k ≤ K ∧ i = .int .i64 k ∧ Hid ((ElsOf ws l ∧ l.length + k = K) ∧ Own wr w.heap.size 112 2 v (l.map El.vals) ∧ Own wr base E 6 (.slice Av ws.length cv) (ws.map Wg.vals) ∧ DS w D (m + 1 + 4 * (K - k)) wr)) (fun _ i _ => (intOf i).toNat)
  case atStart => exact ⟨K, [], by omega, rfl, ⟨(fun x hx => by cases hx), by simp⟩, Own.nil _ _ _ _, W_1.out, h1.more (by omega)⟩
  case round =>
    clear  HW1 h1
    obtain ⟨k, l, hk, rfl, HI⟩ := hrel
    obtain ⟨wo, rfl⟩ : ∃ wo : World, wo = wr := ⟨_, rfl⟩
    have fin : Hid (∀ vv : Value, Own wo w.heap.size 112 2 vv (l.map El.vals) → ElsD ws n w D (m + 1 + 4 * n) (.returned vv) wo) := fun vv ho => ⟨vv, l, rfl, ⟨HI.out.1.1, by have := HI.out.1.2; omega⟩, ho, HI.out.2.2.2.more (by omega)⟩
    by_cases hlt : 0 < k
    rotate_left
    · obtain rfl : k = 0 := by omega
      go_wp2
      go_ret
      exact fin.out _ HI.out.2.1
    have dk : decide ((0 : Int) < (k : Int)) = true := decide_eq_true (by omega)
    by_cases hwl : 0 < ws.length
    rotate_left
    · have dw : decide ((0 : Int) < (ws.length : Int)) = false := decide_eq_false (by omega)
      go_wp2
      go_ret
      exact fin.out _ HI.out.2.1
    have dw : decide ((0 : Int) < (ws.length : Int)) = true := decide_eq_true (by omega)
    have hS := HI.out.2.2.2
    have HT := Lib.hid HI.out.1
    have HO := Lib.hid HI.out.2.1
    have HW := Lib.hid HI.out.2.2.1
    clear HI fin
    obtain ⟨g, cap, hsl, hcap, hgb, hgl⟩ := HW.out.formP (by rw [List.length_map]; exact hwl)
    rw [List.length_map] at hsl hcap
    injection hsl with e1 e2 e3
    subst e1 e3
    have hgw : g < w.heap.size := HG0.out g rfl
    clear e2
    go_upto_region 5 with (fail)
    go_cut [9] (fun y wx => ∃ (c : ByteArray) (a : Int) (gY : Nat), y = .pointer (some ⟨gY, 0, none⟩) ∧ (0 ≤ a ∧ a ≤ 600000) ∧ (∃ x ∈ ws, c = x.code) ∧ (gY ≠ D ∧ w.heap.size ≤ gY ∧ g ≠ gY) ∧ Hid (ElRel w wx D (m + 1 + 4 * (K - k) + 3) gY base E g cv ws u7 c a l))
    case first =>
      have q0 := hS.dk
      have s0 := q0.lt
      have cs0 := codes_own HW.out
      go_region_held3 (fun w' => ∀ j, j < ws.length → w'.cell? ⟨g, j * 6, none⟩ = some (.string (codeOf ws j))) (first | assumption | exact codes_alloc (by assumption) _ | (exact codes_set (codes_set (by assumption) _ _ (by dsimp only; omega)) _ _ (by dsimp only; omega)))
        (first
          | (go_at_call 40; (with_reducible refine (SmallD q1.start.dk (by omega)).mono ?_); rintro e wd2 ⟨rd2, hrd2, rfl, k2⟩; have i2 : DS wo D _ wd2 := DS.step i1 k2; have q2 := i2.dk; have z2 := i2.size; have s2 := q2.lt; have cs2 := codes_own (i2.own HW.out hb); have lg2 : g < wd2.heap.size := (by omega); (first | (have Y2 := k2.row Y1 (by first | omega | (simp only [World.size_alloc]; omega))) | skip); (try (have y20 : wd2.cell? ⟨_, 0, none⟩ = some (.string ⟨#[]⟩) := Row.cell Y2 0; have y21 : wd2.cell? ⟨_, 1, none⟩ = some (.int .i64 0) := Row.cell Y2 1; have yf20 := Row.frozen Y2 0; have yf21 := Row.frozen Y2 1; have yl2 := Row.lt Y2)); (try simp only [World.size_alloc] at Y2 y20 y21 yf20 yf21 yl2); skip)
          | (go_at_call 40; (with_reducible refine (SmallD (q1.alloc _) (by omega)).mono ?_); rintro e wd2 ⟨rd2, hrd2, rfl, k2⟩; have i2 : DS wo D _ wd2 := DS.step (i1.alloc _) k2; have q2 := i2.dk; have z2 := i2.size; have s2 := q2.lt; have cs2 := codes_own (i2.own HW.out hb); have lg2 : g < wd2.heap.size := (by omega); have Y2 := k2.row (Row.new wd1 112 #[.string ⟨#[]⟩, .int .i64 0]) (by first | omega | (simp only [World.size_alloc]; omega)); (try (have y20 : wd2.cell? ⟨_, 0, none⟩ = some (.string ⟨#[]⟩) := Row.cell Y2 0; have y21 : wd2.cell? ⟨_, 1, none⟩ = some (.int .i64 0) := Row.cell Y2 1; have yf20 := Row.frozen Y2 0; have yf21 := Row.frozen Y2 1; have yl2 := Row.lt Y2)); (try simp only [World.size_alloc] at Y2 y20 y21 yf20 yf21 yl2); skip)
          | (go_at_call 13; (with_reducible refine (NextD _ q0.drew (by omega) (by omega) (by omega)).mono ?_); rintro e wd1 ⟨rd1, hrd1, rfl, k1⟩; have i1 : DS wo D _ wd1 := DS.step q0.start.drew k1; have q1 := i1.dk; have z1 := i1.size; have s1 := q1.lt; have cs1 := codes_own (i1.own HW.out hb); have lg1 : g < wd1.heap.size := (by omega); (try (have y10 : wd1.cell? ⟨_, 0, none⟩ = some (.string ⟨#[]⟩) := Row.cell Y1 0; have y11 : wd1.cell? ⟨_, 1, none⟩ = some (.int .i64 0) := Row.cell Y1 1; have yf10 := Row.frozen Y1 0; have yf11 := Row.frozen Y1 1; have yl1 := Row.lt Y1)); (try simp only [World.size_alloc] at Y1 y10 y11 yf10 yf11 yl1); obtain ⟨j, rfl⟩ := Int.eq_ofNat_of_zero_le hrd1.1; have hj : j < ws.length := (by omega); have hj2 : (j : Int) < (ws.length : Int) := (by omega))
          | (go_at_call 13; (with_reducible refine (NextD _ (q0.alloc _).drew (by omega) (by omega) (by omega)).mono ?_); rintro e wd1 ⟨rd1, hrd1, rfl, k1⟩; have i1 : DS wo D _ wd1 := DS.step (q0.start.alloc _).drew k1; have q1 := i1.dk; have z1 := i1.size; have s1 := q1.lt; have cs1 := codes_own (i1.own HW.out hb); have lg1 : g < wd1.heap.size := (by omega); have Y1 := k1.row (Row.new wo 112 #[.string ⟨#[]⟩, .int .i64 0]).drew (by first | omega | (simp only [World.size_alloc]; omega)); (try (have y10 : wd1.cell? ⟨_, 0, none⟩ = some (.string ⟨#[]⟩) := Row.cell Y1 0; have y11 : wd1.cell? ⟨_, 1, none⟩ = some (.int .i64 0) := Row.cell Y1 1; have yf10 := Row.frozen Y1 0; have yf11 := Row.frozen Y1 1; have yl1 := Row.lt Y1)); (try simp only [World.size_alloc] at Y1 y10 y11 yf10 yf11 yl1); obtain ⟨j, rfl⟩ := Int.eq_ofNat_of_zero_le hrd1.1; have hj : j < ws.length := (by omega); have hj2 : (j : Int) < (ws.length : Int) := (by omega))
          | fail)
      all_goals
        have A3 := i2.own HO.out hD
        have h3 := hS.step i2
        have W3 := i2.own HW.out hb
        have hoff := fun gg hg => (HO.out.1.lt gg hg).2
        have szo := hS.size
        first
          | (have HEND := Lib.hid ((ElRel.ofAlloc (c := codeOf ws j) (a := rd2) A3 h3 W3).more (show _ ≤ m + 1 + 4 * (K - k) + 3 by omega)); clear A3 h3 W3; go_wp2_with fail; go_meet; exact ⟨codeOf ws j, rd2, _, rfl, hrd2, codeOf_mem hj, ⟨by omega, by omega, by omega⟩, HEND.out⟩)
          | (have HEND := Lib.hid ((ElRel.ofSet (c := codeOf ws j) (a := rd2) Y2 A3 h3 W3 (fun gg hg => by have := hoff gg hg; omega) (by omega) (by omega) hD).more (show _ ≤ m + 1 + 4 * (K - k) + 3 by omega)); clear A3 h3 W3 Y2; go_wp2_with fail; go_meet; exact ⟨codeOf ws j, rd2, _, rfl, hrd2, codeOf_mem hj, ⟨by omega, by omega, by omega⟩, HEND.out⟩)
    case rest =>
      clear HW HO hS
      obtain ⟨c, a, gY, rfl, ha, hc, hy, HC⟩ := hcut
      obtain ⟨w2, hw2⟩ : ∃ w2 : World, w2 = wc := ⟨_, rfl⟩
      subst hw2
      have B2 := Lib.hid HC.out
      clear HC
      go_wp2_with fail
      refine (NextD 10 B2.out.ds.dk (by omega) (by omega) (by omega)).mono ?_
      rintro e w3 ⟨r3, hr3, rfl, k3⟩
      have B3 := Lib.hid (B2.out.step k3 hy.1 hD hb)
      clear B2 k3
      have y0 : w3.cell? ⟨gY, 0, none⟩ = some (.string c) := Row.cell B3.out.row 0
      have y1 : w3.cell? ⟨gY, 1, none⟩ = some (.int .i64 a) := Row.cell B3.out.row 1
      have yf := Row.frozen B3.out.row 1
      have yl := Row.lt B3.out.row
      cases hneg : (r3 == 0)
      · go_wp2_with (at_builtin; refine wpList_append_sl rfl (.tmp 41) (.tmp 43) rfl rowEl w.heap.size _ _ (l.map El.vals) ([(⟨c, a⟩ : El)].map El.vals) rfl (B3.out.own.alloc _) rfl (Sl.one rfl rfl) (wideEl _) (by have := HT.out.2; simp only [List.length_map]; unfold maxLen; simp; omega) (by have := HT.out.2; simp only [List.length_map]; simp; omega) (by have := B3.out.ds.size; simp only [World.size_alloc]; omega) ?_; intro vz wz hownz hgz _)
        have ltz := fun g hg => (B3.out.own.1.lt g hg).1
        have hz := (B3.out.ds.alloc _).other hgz ltz hD
        have wz1 := (B3.out.wages.alloc _).keepG hgz (.inr fun e => by have := ltz g e.symm; omega)
        have HEND : Hid ((ElsOf ws (l ++ [(⟨c, a⟩ : El)]) ∧ (l ++ [(⟨c, a⟩ : El)]).length + (k - 1) = K) ∧ Own wz w.heap.size 112 2 vz ((l ++ [(⟨c, a⟩ : El)]).map El.vals) ∧ Own wz base E 6 (.slice (some ⟨g, 0, none⟩) ws.length cv) (ws.map Wg.vals) ∧ DS w D (m + 1 + 4 * (K - (k - 1))) wz) := ⟨⟨fun x hx => by rcases List.mem_append.1 hx with hx | hx; exact HT.out.1 x hx; rw [List.mem_singleton.1 hx]; exact ⟨hc, by show _ ≤ a; omega, by show a ≤ _; omega⟩, by have := HT.out.2; simp; omega⟩, by rw [List.map_append]; exact hownz, wz1, hz.more (by omega)⟩
        clear hownz hgz ltz hz wz1 HT B3
        go_roundw
        case rel => exact ⟨k - 1, _, by omega, by go_num, HEND.out⟩
        case measure => simp [intOf]; omega
      · go_upto_region 8 with (fail)
        have B4 := B3.out.ofSet1 (a := -a) hy.2.1 hD
        obtain ⟨w4, hw4⟩ : ∃ w4, w3.setCell ⟨gY, 1, none⟩ (.int .i64 (-a)) = w4 := ⟨_, rfl⟩
        rw [hw4] at B4 ⊢
        have B4 := Lib.hid B4
        clear hw4 B3 y0 y1 yf yl
        have y0 : w4.cell? ⟨gY, 0, none⟩ = some (.string c) := Row.cell B4.out.row 0
        have y1 : w4.cell? ⟨gY, 1, none⟩ = some (.int .i64 (-a)) := Row.cell B4.out.row 1
        have yl := Row.lt B4.out.row
        go_wp2_with (at_builtin; refine wpList_append_sl rfl (.tmp 41) (.tmp 43) rfl rowEl w.heap.size _ _ (l.map El.vals) ([(⟨c, (-a)⟩ : El)].map El.vals) rfl (B4.out.own.alloc _) rfl (Sl.one rfl rfl) (wideEl _) (by have := HT.out.2; simp only [List.length_map]; unfold maxLen; simp; omega) (by have := HT.out.2; simp only [List.length_map]; simp; omega) (by have := B4.out.ds.size; simp only [World.size_alloc]; omega) ?_; intro vz wz hownz hgz _)
        have ltz := fun g hg => (B4.out.own.1.lt g hg).1
        have hz := (B4.out.ds.alloc _).other hgz ltz hD
        have wz1 := (B4.out.wages.alloc _).keepG hgz (.inr fun e => by have := ltz g e.symm; omega)
        have HEND : Hid ((ElsOf ws (l ++ [(⟨c, (-a)⟩ : El)]) ∧ (l ++ [(⟨c, (-a)⟩ : El)]).length + (k - 1) = K) ∧ Own wz w.heap.size 112 2 vz ((l ++ [(⟨c, (-a)⟩ : El)]).map El.vals) ∧ Own wz base E 6 (.slice (some ⟨g, 0, none⟩) ws.length cv) (ws.map Wg.vals) ∧ DS w D (m + 1 + 4 * (K - (k - 1))) wz) := ⟨⟨fun x hx => by rcases List.mem_append.1 hx with hx | hx; exact HT.out.1 x hx; rw [List.mem_singleton.1 hx]; exact ⟨hc, by show _ ≤ (-a); omega, by show (-a) ≤ _; omega⟩, by have := HT.out.2; simp; omega⟩, by rw [List.map_append]; exact hownz, wz1, hz.more (by omega)⟩
        clear hownz hgz ltz hz wz1 HT B4
        go_roundw
        case rel => exact ⟨k - 1, _, by omega, by go_num, HEND.out⟩
        case measure => simp [intOf]; omega
end Go.Proofs.YtogdefomigiepaaGreatDoor
/- Contracts of paygen.Deck: Person, Rules, Case. Written by gen_dcs.py. -/
namespace Go.Proofs.YtogdefomigiepaaGreatDoor
open Go.RowKit

structure Ps where
 dep : Int
 dv : Value
 ded : List Dd
 ov : Value
 ord : List Od
 ev : Value
 ems : List Em
structure PsOk (k : Nat) (p : Ps) : Prop where
 dep : 0 ≤ p.dep ∧ p.dep ≤ 3
 ded : Coded Dd.code DdOk litC litC.length p.ded
 ord : Coded Od.code OdOk litO litO.length p.ord
 ems : p.ems.length ≤ 2 ∧ EmsOk p.ems.length k p.ems
structure PsOwn (w : World) (B : Nat) (p : Ps) : Prop where
 ded : Own w B 170 6 p.dv (p.ded.map Dd.vals)
 ord : Own w B 202 5 p.ov (p.ord.map Od.vals)
 ems : EmsOwn w B p.ev p.ems
theorem PsOwn.step {w w' : World} {B D m : Nat} {p : Ps} (h : PsOwn w B p) (k : DS w D m w') (hD : D < B) : PsOwn w' B p := ⟨k.own h.ded hD, k.own h.ord hD, h.ems.step k hD⟩
theorem PsOwn.more {w : World} {B B' : Nat} {p : Ps} (h : PsOwn w B p) (hB : B' ≤ B) : PsOwn w B' p := ⟨h.ded.more hB, h.ord.more hB, h.ems.more hB⟩
theorem EmsOwn.other {w w' : World} {B g : Nat} {v : Value} {ems : List Em} (h : EmsOwn w B v ems) (hg : w.grownBy w' (some g)) (hB : g < B) : EmsOwn w' B v ems :=
 have ne : ∀ {v : Value} {e sz : Nat} {es : List (List Value)}, Own w B e sz v es → v.ownBlock = none ∨ v.ownBlock ≠ some g := fun {v} {e} {sz} {es} ho => own_ne fun k hk => by have := (ho.1.lt k hk).1; omega
 ⟨h.own.keepG hg (ne h.own), fun x hx => (h.each x hx).keepG hg (ne (h.each x hx)), h.apart⟩
def PsD (k : Nat) (w : World) (D m : Nat) (e : Ending) (w' : World) : Prop :=
 ∃ p : Ps, PsOk k p ∧ e = .returned (.agg #[.int .i64 p.dep, p.dv, p.ov, p.ev]) ∧ PsOwn w' w.heap.size p ∧ DS w D m w'
set_option maxRecDepth 100000 in
set_option maxHeartbeats 8000000 in
theorem PersonD {w : World} {D m : Nat} (k : Nat) (hk : k ≤ 10) (hd : Dk w D m) (hm : m ≤ 10000) :
  Calls Tryz.prog 38 #[.pointer (some ⟨D, 0, none⟩), .int .i64 k] w (PsD k w D (m + 2000)) := by
 have hD := hd.lt
 go_enter Tryz.func38, Tryz.ntmps38
 go_upto_region 1 with (fail)
 have y1 := hd.start.alloc (.cells #[.int .i64 0, .slice none 0 0, .slice none 0 0, .slice none 0 0] 64)
 have R_1 := Row.new w 64 #[.int .i64 0, .slice none 0 0, .slice none 0 0, .slice none 0 0]
 have b1 := (hd.start.dk.start.alloc (.cells #[.int .i64 0, .slice none 0 0, .slice none 0 0, .slice none 0 0] 64))
 have nR : w.heap.size ≠ D := by have := hd.start.dk.lt; omega
 obtain ⟨w1, hw⟩ : ∃ w1, w.alloc (.cells #[.int .i64 0, .slice none 0 0, .slice none 0 0, .slice none 0 0] 64) = w1 := ⟨_, rfl⟩
 rw [hw] at y1 R_1 ⊢
 obtain ⟨gR, hg⟩ : ∃ gR, w.heap.size = gR := ⟨_, rfl⟩
 have zR : w.heap.size ≤ gR := by have := hd.start.size; omega
 rw [hg] at R_1 nR ⊢
 have h1 := y1
 have GR := Lib.hid hg
 clear hw hg b1 y1
 go_wp2_with fail
 refine (NextD 4 h1.dk (by omega) (by omega) (by omega)).mono ?_
 rintro e w2 ⟨r2, hr2, rfl, k2⟩
 have R_2 := k2.row R_1 nR
 have h2 := h1.step k2
 clear R_1 h1 k2
 have sd := h2.size
 have ldR := Row.lt R_2
 go_wp2_with fail
 refine (DeductionsD h2.dk (by omega)).mono ?_
 rintro e w3 ⟨dv, ded, rfl, hded, hod, k3⟩
 have R_3 := k3.row R_2 nR
 have h3 := h2.step k3
 clear R_2 h2 k3
 have oDR : ∀ g, dv.ownBlock = some g → g ≠ gR := fun g hg => by have := (hod.1.lt g hg).1; omega
 have HDo := Lib.hid (hod.more sd)
 have HDed := Lib.hid hded
 obtain ⟨Ad, cd, rfl⟩ := hod.form
 rw [List.length_map] at HDo oDR ⊢
 clear hod hded
 have so := h3.size
 have loR := Row.lt R_3
 go_wp2_with fail
 refine (OrdersD h3.dk (by omega)).mono ?_
 rintro e w4 ⟨ov, ord, rfl, hord, hoo, k4⟩
 have R_4 := k4.row R_3 nR
 have D_4 := Lib.hid (k4.own HDo.out hD)
 have h4 := h3.step k4
 clear R_3 HDo h3 k4
 have oOR : ∀ g, ov.ownBlock = some g → g ≠ gR := fun g hg => by have := (hoo.1.lt g hg).1; omega
 have HOo := Lib.hid (hoo.more so)
 have HOrd := Lib.hid hord
 obtain ⟨Ao, co, rfl⟩ := hoo.form
 rw [List.length_map] at HOo oOR ⊢
 clear hoo hord
 go_upto_region 2 with (fail)
 have y5 := h4.alloc (.cells #[.int .i64 r2, .slice Ad ded.length cd, .slice Ao ord.length co, .slice none 0 0] 64)
 have X_5 := Row.new w4 64 #[.int .i64 r2, .slice Ad ded.length cd, .slice Ao ord.length co, .slice none 0 0]
 have b5 := (h4.dk.start.alloc (.cells #[.int .i64 r2, .slice Ad ded.length cd, .slice Ao ord.length co, .slice none 0 0] 64))
 have R_5 := b5.row R_4 nR
 have D_5 := Lib.hid (b5.own D_4.out hD)
 have O_5 := Lib.hid (b5.own HOo.out hD)
 have nX : w4.heap.size ≠ D := by have := h4.dk.lt; omega
 have dXR : w4.heap.size ≠ gR := by have := Row.lt R_4; omega
 have oXD := Own.offNew D_4.out
 have oXO := Own.offNew HOo.out
 obtain ⟨w5, hw⟩ : ∃ w5, w4.alloc (.cells #[.int .i64 r2, .slice Ad ded.length cd, .slice Ao ord.length co, .slice none 0 0] 64) = w5 := ⟨_, rfl⟩
 rw [hw] at y5 X_5 ⊢
 rw [hw] at R_5
 rw [hw] at D_5
 rw [hw] at O_5
 obtain ⟨gX, hg⟩ : ∃ gX, w4.heap.size = gX := ⟨_, rfl⟩
 have zX : w.heap.size ≤ gX := by have := h4.size; omega
 rw [hg] at X_5 nX ⊢
 rw [hg] at dXR
 rw [hg] at oXD
 rw [hg] at oXO
 have h5 := y5
 have GX := Lib.hid hg
 clear R_4 D_4 HOo hw hg b5 y5 h4
 go_wp2_with fail
 refine (NextD 4 h5.dk (by omega) (by omega) (by omega)).mono ?_
 rintro e w6 ⟨r6, hr6, rfl, k6⟩
 have R_6 := k6.row R_5 nR
 have X_6 := k6.row X_5 nX
 have D_6 := Lib.hid (k6.own D_5.out hD)
 have O_6 := Lib.hid (k6.own O_5.out hD)
 have h6 := h5.step k6
 clear R_5 X_5 D_5 O_5 h5 k6
 cases hb : (r6 == 0)
 ·have cX0 : w6.cell? ⟨gX, 0, none⟩ = some (.int .i64 r2) := Row.cell X_6 0
  have cX1 : w6.cell? ⟨gX, 1, none⟩ = some (.slice Ad ded.length cd) := Row.cell X_6 1
  have cX2 : w6.cell? ⟨gX, 2, none⟩ = some (.slice Ao ord.length co) := Row.cell X_6 2
  have cX3 : w6.cell? ⟨gX, 3, none⟩ = some (.slice none 0 0) := Row.cell X_6 3
  have lX := Row.lt X_6
  have cR0 : w6.cell? ⟨gR, 0, none⟩ = some (.int .i64 0) := Row.cell R_6 0
  have cR1 : w6.cell? ⟨gR, 1, none⟩ = some (.slice none 0 0) := Row.cell R_6 1
  have cR2 : w6.cell? ⟨gR, 2, none⟩ = some (.slice none 0 0) := Row.cell R_6 2
  have cR3 : w6.cell? ⟨gR, 3, none⟩ = some (.slice none 0 0) := Row.cell R_6 3
  have fR0 : w6.frozen? ⟨gR, 0, none⟩ = false := Row.frozen R_6 0
  have fR1 : w6.frozen? ⟨gR, 1, none⟩ = false := Row.frozen R_6 1
  have fR2 : w6.frozen? ⟨gR, 2, none⟩ = false := Row.frozen R_6 2
  have fR3 : w6.frozen? ⟨gR, 3, none⟩ = false := Row.frozen R_6 3
  have lR := Row.lt R_6
  go_wp2_with fail
  refine bodyPost_ret (v := .agg #[.int .i64 r2, .slice Ad ded.length cd, .slice Ao ord.length co, .slice none 0 0]) (by simp [results, Tryz.results38, go_sem, *]) rfl ⟨⟨r2, .slice Ad ded.length cd, ded, .slice Ao ord.length co, ord, .slice none 0 0, []⟩, ⟨⟨hr2.1, by show r2 ≤ _; omega⟩, HDed.out, HOrd.out, ⟨by simp, ⟨rfl, (fun _ h => by cases h)⟩⟩⟩, rfl, ⟨D_6.out.keepG (gb_set (gb_set (gb_set (gb_set (World.grownBy.refl _ (some gR)) (.inl rfl) _) (.inl rfl) _) (.inl rfl) _) (.inl rfl) _) (own_ne oDR), O_6.out.keepG (gb_set (gb_set (gb_set (gb_set (World.grownBy.refl _ (some gR)) (.inl rfl) _) (.inl rfl) _) (.inl rfl) _) (.inl rfl) _) (own_ne oOR), EmsOwn.nil _ _⟩, (h6.other (gb_set (gb_set (gb_set (gb_set (World.grownBy.refl _ (some gR)) (.inl rfl) _) (.inl rfl) _) (.inl rfl) _) (.inl rfl) _) (fun g hg => by injection hg; omega) hD).more (by omega)⟩
 ·go_wp2_with fail
  refine (NextD 2 h6.dk (by omega) (by omega) (by omega)).mono ?_
  rintro e w7 ⟨r7, hr7, rfl, k7⟩
  have R_7 := k7.row R_6 nR
  have X_7 := k7.row X_6 nX
  have D_7 := Lib.hid (k7.own D_6.out hD)
  have O_7 := Lib.hid (k7.own O_6.out hD)
  have h7 := h6.step k7
  clear R_6 X_6 D_6 O_6 h6 k7
  obtain ⟨ne, hne⟩ := Int.eq_ofNat_of_zero_le (show (0 : Int) ≤ 1 + r7 by omega)
  have hne2 : 1 ≤ ne ∧ ne ≤ 2 := by omega
  have hwr : IntKind.i64.wrap (1 + r7) = (ne : Int) := by rw [IntWalk.i64_in _ (by omega)]; exact hne
  have sE := h7.size
  have lER := Row.lt R_7
  have lEX := Row.lt X_7
  go_wp2_with fail
  refine (EmploymentsD ne k (by omega) (by omega) h7.dk (by omega)).mono ?_
  rintro e w8 ⟨ev, ems, rfl, hems, hoe, k8⟩
  have R_8 := k8.row R_7 nR
  have X_8 := k8.row X_7 nX
  have D_8 := Lib.hid (k8.own D_7.out hD)
  have O_8 := Lib.hid (k8.own O_7.out hD)
  have h8 := h7.step k8
  clear R_7 X_7 D_7 O_7 h7 k8
  obtain ⟨Ae, ce, rfl⟩ := hoe.own.form
  rw [List.length_map, hems.1] at hoe ⊢
  have HEo := Lib.hid hoe
  have HEms := Lib.hid hems
  clear hoe hems
  have cX3 : w8.cell? ⟨gX, 3, none⟩ = some (.slice none 0 0) := Row.cell X_8 3
  have fX3 : w8.frozen? ⟨gX, 3, none⟩ = false := Row.frozen X_8 3
  have lX := Row.lt X_8
  go_upto_region 4 with (fail)
  clear cX3 fX3 lX
  have HEo3 := Lib.hid (HEo.out.other (grown_set _ gX 3 (.slice Ae ne ce)) lEX)
  clear HEo
  have X_9 := Row.set X_8 3 (.slice Ae ne ce)
  have R_9 := Row.far R_8 (p := ⟨gX, 3, none⟩) (fun e => dXR e.symm) (.slice Ae ne ce)
  have D_9 := Lib.hid (Own.setOff D_8.out oXD 3 (.slice Ae ne ce))
  have O_9 := Lib.hid (Own.setOff O_8.out oXO 3 (.slice Ae ne ce))
  have h9 := h8.set (p := ⟨gX, 3, none⟩) zX hD (.slice Ae ne ce)
  clear X_8 R_8 D_8 O_8 h8
  obtain ⟨w9, hw⟩ : ∃ w9, World.setCell w8 ⟨gX, 3, none⟩ (.slice Ae ne ce) = w9 := ⟨_, rfl⟩
  rw [hw] at R_9
  rw [hw] at X_9
  rw [hw] at D_9
  rw [hw] at O_9
  rw [hw] at HEo3
  rw [hw] at h9 ⊢
  clear hw
  have cX0 : w9.cell? ⟨gX, 0, none⟩ = some (.int .i64 r2) := Row.cell X_9 0
  have cX1 : w9.cell? ⟨gX, 1, none⟩ = some (.slice Ad ded.length cd) := Row.cell X_9 1
  have cX2 : w9.cell? ⟨gX, 2, none⟩ = some (.slice Ao ord.length co) := Row.cell X_9 2
  have cX3 : w9.cell? ⟨gX, 3, none⟩ = some (.slice Ae ne ce) := Row.cell X_9 3
  have lX := Row.lt X_9
  have cR0 : w9.cell? ⟨gR, 0, none⟩ = some (.int .i64 0) := Row.cell R_9 0
  have cR1 : w9.cell? ⟨gR, 1, none⟩ = some (.slice none 0 0) := Row.cell R_9 1
  have cR2 : w9.cell? ⟨gR, 2, none⟩ = some (.slice none 0 0) := Row.cell R_9 2
  have cR3 : w9.cell? ⟨gR, 3, none⟩ = some (.slice none 0 0) := Row.cell R_9 3
  have fR0 : w9.frozen? ⟨gR, 0, none⟩ = false := Row.frozen R_9 0
  have fR1 : w9.frozen? ⟨gR, 1, none⟩ = false := Row.frozen R_9 1
  have fR2 : w9.frozen? ⟨gR, 2, none⟩ = false := Row.frozen R_9 2
  have fR3 : w9.frozen? ⟨gR, 3, none⟩ = false := Row.frozen R_9 3
  have lR := Row.lt R_9
  go_wp2_with fail
  refine bodyPost_ret (v := .agg #[.int .i64 r2, .slice Ad ded.length cd, .slice Ao ord.length co, .slice Ae ne ce]) (by simp [results, Tryz.results38, go_sem, *]) rfl ⟨⟨r2, .slice Ad ded.length cd, ded, .slice Ao ord.length co, ord, .slice Ae ne ce, ems⟩, ⟨⟨hr2.1, by show r2 ≤ _; omega⟩, HDed.out, HOrd.out, ⟨by rw [HEms.out.1]; exact hne2.2, by rw [HEms.out.1]; exact HEms.out⟩⟩, rfl, ⟨D_9.out.keepG (gb_set (gb_set (gb_set (gb_set (World.grownBy.refl _ (some gR)) (.inl rfl) _) (.inl rfl) _) (.inl rfl) _) (.inl rfl) _) (own_ne oDR), O_9.out.keepG (gb_set (gb_set (gb_set (gb_set (World.grownBy.refl _ (some gR)) (.inl rfl) _) (.inl rfl) _) (.inl rfl) _) (.inl rfl) _) (own_ne oOR), (HEo3.out.other (gb_set (gb_set (gb_set (gb_set (World.grownBy.refl _ (some gR)) (.inl rfl) _) (.inl rfl) _) (.inl rfl) _) (.inl rfl) _) lER).more sE⟩, (h9.other (gb_set (gb_set (gb_set (gb_set (World.grownBy.refl _ (some gR)) (.inl rfl) _) (.inl rfl) _) (.inl rfl) _) (.inl rfl) _) (fun g hg => by injection hg; omega) hD).more (by omega)⟩
end Go.Proofs.YtogdefomigiepaaGreatDoor
