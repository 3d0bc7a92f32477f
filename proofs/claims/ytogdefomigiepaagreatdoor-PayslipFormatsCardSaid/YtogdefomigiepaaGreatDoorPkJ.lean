/- Contracts and plain facts that the laws of this seat share, part 10. -/
import Derived.Test.YtogdefomigiepaaGreatDoorPkH
import Derived.Test.YtogdefomigiepaaGreatDoorPkD
set_option linter.unusedVariables false
set_option linter.unusedSimpArgs false
/- Contracts of paygen.Deck: Rules, Case. Written by gen_dca.py. -/
namespace Go.Proofs.YtogdefomigiepaaGreatDoor
open Go.RowKit

def Off (v : Value) (g : Nat) : Prop := ∀ k, v.ownBlock = some k → k ≠ g
theorem Own.offLow {w : World} {B e sz g : Nat} {v : Value} {es : List (List Value)} (h : Own w B e sz v es) (hg : g < B) : Off v g := fun k hk => by have := (h.1.lt k hk).1; omega
theorem Own.far {w w' : World} {B e sz g : Nat} {v : Value} {es : List (List Value)} (h : Own w B e sz v es) (hg : w.grownBy w' (some g)) (ho : Off v g) : Own w' B e sz v es := h.keepG hg (own_ne ho)
structure Ru where
 wv : Value
 ws : List Wg
 sv : Value
 ss : List Sc
 tf : Tf
 count : Int
 sh : Sh
 rcv : Int
structure RuOk (r : Ru) : Prop where
 ws : Coded Wg.code WgOk litW litW.length r.ws
 ss : Coded Sc.code ScOk litS litS.length r.ss
 tf : TfOk r.tf
 count : 1 ≤ r.count ∧ r.count ≤ 53
 sh : ShOk r.sh
 rcv : 0 ≤ r.rcv ∧ r.rcv ≤ 1000000
structure RuOwn (w : World) (B : Nat) (r : Ru) : Prop where
 ws : Own w B 120 6 r.wv (r.ws.map Wg.vals)
 ss : Own w B 131 8 r.sv (r.ss.map Sc.vals)
 tf : TfOwn w B r.tf
theorem TfOwn.offNew {w : World} {B : Nat} {t : Tf} (h : TfOwn w B t) : Off t.bv w.heap.size ∧ Off t.rv w.heap.size := ⟨h.brs.offNew, h.rows.offNew⟩
theorem TfOwn.offLow {w : World} {B g : Nat} {t : Tf} (h : TfOwn w B t) (hg : g < B) : Off t.bv g ∧ Off t.rv g := ⟨h.brs.offLow hg, h.rows.offLow hg⟩
theorem TfOwn.far {w w' : World} {B g : Nat} {t : Tf} (h : TfOwn w B t) (hg : w.grownBy w' (some g)) (ho : Off t.bv g ∧ Off t.rv g) : TfOwn w' B t := ⟨h.brs.far hg ho.1, h.rows.far hg ho.2⟩
def RuOff (r : Ru) (g : Nat) : Prop := Off r.wv g ∧ Off r.sv g ∧ Off r.tf.bv g ∧ Off r.tf.rv g
theorem RuOwn.step {w w' : World} {B D m : Nat} {r : Ru} (h : RuOwn w B r) (k : DS w D m w') (hD : D < B) : RuOwn w' B r := ⟨k.own h.ws hD, k.own h.ss hD, h.tf.step k hD⟩
theorem RuOwn.more {w : World} {B B' : Nat} {r : Ru} (h : RuOwn w B r) (hB : B' ≤ B) : RuOwn w B' r := ⟨h.ws.more hB, h.ss.more hB, h.tf.more hB⟩
theorem RuOwn.offNew {w : World} {B : Nat} {r : Ru} (h : RuOwn w B r) : RuOff r w.heap.size := ⟨h.ws.offNew, h.ss.offNew, h.tf.offNew⟩
theorem RuOwn.offLow {w : World} {B g : Nat} {r : Ru} (h : RuOwn w B r) (hg : g < B) : RuOff r g := ⟨h.ws.offLow hg, h.ss.offLow hg, h.tf.offLow hg⟩
theorem RuOwn.far {w w' : World} {B g : Nat} {r : Ru} (h : RuOwn w B r) (hg : w.grownBy w' (some g)) (ho : RuOff r g) : RuOwn w' B r := ⟨h.ws.far hg ho.1, h.ss.far hg ho.2.1, h.tf.far hg ho.2.2⟩
def RuD (w : World) (D m : Nat) (e : Ending) (w' : World) : Prop :=
 ∃ r : Ru, RuOk r ∧ e = .returned (.agg #[r.wv, r.sv, .int .i64 r.tf.method, r.tf.bv, .int .i64 r.tf.allow, .int .i64 r.tf.credit, .int .i64 r.tf.unit, .int .i64 r.tf.mode, r.tf.rv, .int .i64 r.count, .int .i64 r.sh.fixed, .int .i64 r.sh.dep, .int .i64 r.sh.lower, .int .i64 r.sh.share, .int .i64 r.sh.top, .int .i64 r.rcv]) ∧ RuOwn w' w.heap.size r ∧ DS w D m w'
set_option maxRecDepth 100000 in
set_option maxHeartbeats 8000000 in
theorem RulesD {w : World} {D m : Nat} (hd : Dk w D m) (hm : m ≤ 10000) :
  Calls Tryz.prog 37 #[.pointer (some ⟨D, 0, none⟩), .int .i64 0] w (RuD w D (m + 200)) := by
 have hD := hd.lt
 go_enter Tryz.func37, Tryz.ntmps37
 go_upto_region 1 with (fail)
 have y1 := hd.start.alloc (.cells #[.slice none 0 0, .slice none 0 0, .int .i64 0, .slice none 0 0, .int .i64 0, .int .i64 0, .int .i64 0, .int .i64 0, .slice none 0 0, .int .i64 0, .int .i64 0, .int .i64 0, .int .i64 0, .int .i64 0, .int .i64 0, .int .i64 0] 59)
 have R_1 := Row.new w 59 #[.slice none 0 0, .slice none 0 0, .int .i64 0, .slice none 0 0, .int .i64 0, .int .i64 0, .int .i64 0, .int .i64 0, .slice none 0 0, .int .i64 0, .int .i64 0, .int .i64 0, .int .i64 0, .int .i64 0, .int .i64 0, .int .i64 0]
 have b1 := (hd.start.dk.start.alloc (.cells #[.slice none 0 0, .slice none 0 0, .int .i64 0, .slice none 0 0, .int .i64 0, .int .i64 0, .int .i64 0, .int .i64 0, .slice none 0 0, .int .i64 0, .int .i64 0, .int .i64 0, .int .i64 0, .int .i64 0, .int .i64 0, .int .i64 0] 59))
 have nR : w.heap.size ≠ D := by have := hd.start.dk.lt; omega
 obtain ⟨w1, hw⟩ : ∃ w1, w.alloc (.cells #[.slice none 0 0, .slice none 0 0, .int .i64 0, .slice none 0 0, .int .i64 0, .int .i64 0, .int .i64 0, .int .i64 0, .slice none 0 0, .int .i64 0, .int .i64 0, .int .i64 0, .int .i64 0, .int .i64 0, .int .i64 0, .int .i64 0] 59) = w1 := ⟨_, rfl⟩
 rw [hw] at y1 R_1 ⊢
 obtain ⟨gR, hg⟩ : ∃ gR, w.heap.size = gR := ⟨_, rfl⟩
 have zR : w.heap.size ≤ gR := by have := hd.start.size; omega
 rw [hg] at R_1 nR ⊢
 have h1 := y1
 have GR := Lib.hid hg
 clear hw hg b1 y1
 have sW := h1.size
 have lWR := Row.lt R_1
 go_wp2_with fail
 refine (WagesD h1.dk (by omega)).mono ?_
 rintro e w2 ⟨wv, ws, rfl, hws, how, k2⟩
 have R_2 := k2.row R_1 nR
 have h2 := h1.step k2
 clear R_1 h1 k2
 have oRW : Off wv gR := how.offLow lWR
 have HWo := Lib.hid (how.more sW)
 have HWs := Lib.hid hws
 obtain ⟨Aw, cw, rfl⟩ := how.form
 rw [List.length_map] at HWo oRW ⊢
 clear how hws
 have sS := h2.size
 have lSR := Row.lt R_2
 go_wp2_with fail
 refine (SchemesD h2.dk (by omega)).mono ?_
 rintro e w3 ⟨sv, ss, rfl, hss, hos, k3⟩
 have R_3 := k3.row R_2 nR
 have W_3 := Lib.hid (k3.own HWo.out hD)
 have h3 := h2.step k3
 clear R_2 HWo h2 k3
 have oRS : Off sv gR := hos.offLow lSR
 have HSo := Lib.hid (hos.more sS)
 have HSs := Lib.hid hss
 obtain ⟨As, cs, rfl⟩ := hos.form
 rw [List.length_map] at HSo oRS ⊢
 clear hos hss
 have sT := h3.size
 have lTR := Row.lt R_3
 go_wp2_with fail
 refine (TariffD h3.dk (by omega)).mono ?_
 rintro e w4 ⟨tf, htf, rfl, hot, k4⟩
 have R_4 := k4.row R_3 nR
 have W_4 := Lib.hid (k4.own W_3.out hD)
 have S_4 := Lib.hid (k4.own HSo.out hD)
 have h4 := h3.step k4
 clear R_3 W_3 HSo h3 k4
 have oRT := hot.offLow lTR
 have HTo := Lib.hid (hot.more sT)
 have HTf := Lib.hid htf
 obtain ⟨Ab, cb, hb1⟩ := hot.brs.form
 obtain ⟨Ar, cr, hr1⟩ := hot.rows.form
 rw [prs_len] at hb1 hr1
 rw [hb1, hr1]
 have HB1 := Lib.hid hb1
 have HR1 := Lib.hid hr1
 clear hot htf hb1 hr1
 go_wp2_with fail
 refine (PickD [12, 12, 4, 1, 53] 1 53 h4.dk.start (by omega) rfl rfl (by simp) (by simp) (by simp; try omega)).mono ?_
 rintro e w5 ⟨r5, hr5, rfl, k5⟩
 have R_5 := k5.row R_4 nR
 have W_5 := Lib.hid (k5.own W_4.out hD)
 have S_5 := Lib.hid (k5.own S_4.out hD)
 have T_5 := Lib.hid (HTo.out.step k5 hD)
 have h5 := h4.step k5
 clear R_4 W_4 S_4 HTo h4 k5
 go_wp2_with fail
 refine (ShieldD h5.dk (by omega)).mono ?_
 rintro e w6 ⟨sh, hsh, rfl, k6⟩
 have R_6 := k6.row R_5 nR
 have W_6 := Lib.hid (k6.own W_5.out hD)
 have S_6 := Lib.hid (k6.own S_5.out hD)
 have T_6 := Lib.hid (T_5.out.step k6 hD)
 have h6 := h5.step k6
 clear R_5 W_5 S_5 T_5 h5 k6
 go_wp2_with fail
 refine (PickD [300000, 0, 1000000] 0 1000000 h6.dk.start (by omega) rfl rfl (by simp) (by simp) (by simp; try omega)).mono ?_
 rintro e w7 ⟨r7, hr7, rfl, k7⟩
 have R_7 := k7.row R_6 nR
 have W_7 := Lib.hid (k7.own W_6.out hD)
 have S_7 := Lib.hid (k7.own S_6.out hD)
 have T_7 := Lib.hid (T_6.out.step k7 hD)
 have h7 := h6.step k7
 clear R_6 W_6 S_6 T_6 h6 k7
 have cR0 : w7.cell? ⟨gR, 0, none⟩ = some (.slice none 0 0) := Row.cell R_7 0
 have cR1 : w7.cell? ⟨gR, 1, none⟩ = some (.slice none 0 0) := Row.cell R_7 1
 have cR2 : w7.cell? ⟨gR, 2, none⟩ = some (.int .i64 0) := Row.cell R_7 2
 have cR3 : w7.cell? ⟨gR, 3, none⟩ = some (.slice none 0 0) := Row.cell R_7 3
 have cR4 : w7.cell? ⟨gR, 4, none⟩ = some (.int .i64 0) := Row.cell R_7 4
 have cR5 : w7.cell? ⟨gR, 5, none⟩ = some (.int .i64 0) := Row.cell R_7 5
 have cR6 : w7.cell? ⟨gR, 6, none⟩ = some (.int .i64 0) := Row.cell R_7 6
 have cR7 : w7.cell? ⟨gR, 7, none⟩ = some (.int .i64 0) := Row.cell R_7 7
 have cR8 : w7.cell? ⟨gR, 8, none⟩ = some (.slice none 0 0) := Row.cell R_7 8
 have cR9 : w7.cell? ⟨gR, 9, none⟩ = some (.int .i64 0) := Row.cell R_7 9
 have cR10 : w7.cell? ⟨gR, 10, none⟩ = some (.int .i64 0) := Row.cell R_7 10
 have cR11 : w7.cell? ⟨gR, 11, none⟩ = some (.int .i64 0) := Row.cell R_7 11
 have cR12 : w7.cell? ⟨gR, 12, none⟩ = some (.int .i64 0) := Row.cell R_7 12
 have cR13 : w7.cell? ⟨gR, 13, none⟩ = some (.int .i64 0) := Row.cell R_7 13
 have cR14 : w7.cell? ⟨gR, 14, none⟩ = some (.int .i64 0) := Row.cell R_7 14
 have cR15 : w7.cell? ⟨gR, 15, none⟩ = some (.int .i64 0) := Row.cell R_7 15
 have fR0 : w7.frozen? ⟨gR, 0, none⟩ = false := Row.frozen R_7 0
 have fR1 : w7.frozen? ⟨gR, 1, none⟩ = false := Row.frozen R_7 1
 have fR2 : w7.frozen? ⟨gR, 2, none⟩ = false := Row.frozen R_7 2
 have fR3 : w7.frozen? ⟨gR, 3, none⟩ = false := Row.frozen R_7 3
 have fR4 : w7.frozen? ⟨gR, 4, none⟩ = false := Row.frozen R_7 4
 have fR5 : w7.frozen? ⟨gR, 5, none⟩ = false := Row.frozen R_7 5
 have fR6 : w7.frozen? ⟨gR, 6, none⟩ = false := Row.frozen R_7 6
 have fR7 : w7.frozen? ⟨gR, 7, none⟩ = false := Row.frozen R_7 7
 have fR8 : w7.frozen? ⟨gR, 8, none⟩ = false := Row.frozen R_7 8
 have fR9 : w7.frozen? ⟨gR, 9, none⟩ = false := Row.frozen R_7 9
 have fR10 : w7.frozen? ⟨gR, 10, none⟩ = false := Row.frozen R_7 10
 have fR11 : w7.frozen? ⟨gR, 11, none⟩ = false := Row.frozen R_7 11
 have fR12 : w7.frozen? ⟨gR, 12, none⟩ = false := Row.frozen R_7 12
 have fR13 : w7.frozen? ⟨gR, 13, none⟩ = false := Row.frozen R_7 13
 have fR14 : w7.frozen? ⟨gR, 14, none⟩ = false := Row.frozen R_7 14
 have fR15 : w7.frozen? ⟨gR, 15, none⟩ = false := Row.frozen R_7 15
 have lR := Row.lt R_7
 go_wp2_with fail
 refine bodyPost_ret (v := .agg #[.slice Aw ws.length cw, .slice As ss.length cs, .int .i64 tf.method, .slice Ab tf.brs.length cb, .int .i64 tf.allow, .int .i64 tf.credit, .int .i64 tf.unit, .int .i64 tf.mode, .slice Ar tf.rows.length cr, .int .i64 r5, .int .i64 sh.fixed, .int .i64 sh.dep, .int .i64 sh.lower, .int .i64 sh.share, .int .i64 sh.top, .int .i64 r7]) (by simp [results, Tryz.results37, go_sem, *]) rfl ⟨⟨.slice Aw ws.length cw, ws, .slice As ss.length cs, ss, tf, r5, sh, r7⟩, ⟨HWs.out, HSs.out, HTf.out, hr5, hsh, hr7⟩, by simp only [HB1.out, HR1.out], ⟨W_7.out.far (gb_set (gb_set (gb_set (gb_set (gb_set (gb_set (gb_set (gb_set (gb_set (gb_set (gb_set (gb_set (gb_set (gb_set (gb_set (gb_set (World.grownBy.refl _ (some gR)) (.inl rfl) _) (.inl rfl) _) (.inl rfl) _) (.inl rfl) _) (.inl rfl) _) (.inl rfl) _) (.inl rfl) _) (.inl rfl) _) (.inl rfl) _) (.inl rfl) _) (.inl rfl) _) (.inl rfl) _) (.inl rfl) _) (.inl rfl) _) (.inl rfl) _) (.inl rfl) _) oRW, S_7.out.far (gb_set (gb_set (gb_set (gb_set (gb_set (gb_set (gb_set (gb_set (gb_set (gb_set (gb_set (gb_set (gb_set (gb_set (gb_set (gb_set (World.grownBy.refl _ (some gR)) (.inl rfl) _) (.inl rfl) _) (.inl rfl) _) (.inl rfl) _) (.inl rfl) _) (.inl rfl) _) (.inl rfl) _) (.inl rfl) _) (.inl rfl) _) (.inl rfl) _) (.inl rfl) _) (.inl rfl) _) (.inl rfl) _) (.inl rfl) _) (.inl rfl) _) (.inl rfl) _) oRS, T_7.out.far (gb_set (gb_set (gb_set (gb_set (gb_set (gb_set (gb_set (gb_set (gb_set (gb_set (gb_set (gb_set (gb_set (gb_set (gb_set (gb_set (World.grownBy.refl _ (some gR)) (.inl rfl) _) (.inl rfl) _) (.inl rfl) _) (.inl rfl) _) (.inl rfl) _) (.inl rfl) _) (.inl rfl) _) (.inl rfl) _) (.inl rfl) _) (.inl rfl) _) (.inl rfl) _) (.inl rfl) _) (.inl rfl) _) (.inl rfl) _) (.inl rfl) _) (.inl rfl) _) oRT⟩, (h7.other (gb_set (gb_set (gb_set (gb_set (gb_set (gb_set (gb_set (gb_set (gb_set (gb_set (gb_set (gb_set (gb_set (gb_set (gb_set (gb_set (World.grownBy.refl _ (some gR)) (.inl rfl) _) (.inl rfl) _) (.inl rfl) _) (.inl rfl) _) (.inl rfl) _) (.inl rfl) _) (.inl rfl) _) (.inl rfl) _) (.inl rfl) _) (.inl rfl) _) (.inl rfl) _) (.inl rfl) _) (.inl rfl) _) (.inl rfl) _) (.inl rfl) _) (.inl rfl) _) (fun g hg => by injection hg; omega) hD).more (by omega)⟩
end Go.Proofs.YtogdefomigiepaaGreatDoor
/- Contract of paygen.Deck.Case. Written by gen_dcc.py. -/
namespace Go.Proofs.YtogdefomigiepaaGreatDoor
open Go.RowKit

theorem Own.ofRow {w : World} {base g e sz : Nat} {c : Array Value} (h : Row w g e c) (hb : base ≤ g) (hc : c.size = sz) (h1 : ∀ u ∈ c.toList, u.oneCell' = true) : Own w base e sz (.slice (some ⟨g, 0, none⟩) 1 1) [c.toList] := by
 refine ⟨⟨by simp [hc], .inr ⟨g, 1, c, rfl, hb, h, by simp, by unfold maxLen; omega, by omega, ?_⟩⟩, fun x hx => ?_⟩
 ·rw [List.flatten_singleton, List.length_singleton, Nat.one_mul, ← hc]; exact List.take_of_length_le (by simp)
 ·rw [List.mem_singleton.1 hx]; exact ⟨by simpa using hc, h1⟩
def PsOff (p : Ps) (g : Nat) : Prop := Off p.dv g ∧ Off p.ov g ∧ Off p.ev g ∧ ∀ x ∈ p.ems, Off x.ev g
def YrOff (y : Yr) (g : Nat) : Prop := Off y.iv g ∧ Off y.tv g
theorem PsOwn.offNew {w : World} {B : Nat} {p : Ps} (h : PsOwn w B p) : PsOff p w.heap.size := ⟨h.ded.offNew, h.ord.offNew, h.ems.own.offNew, fun x hx => (h.ems.each x hx).offNew⟩
theorem PsOwn.offLow {w : World} {B g : Nat} {p : Ps} (h : PsOwn w B p) (hg : g < B) : PsOff p g := ⟨h.ded.offLow hg, h.ord.offLow hg, h.ems.own.offLow hg, fun x hx => (h.ems.each x hx).offLow hg⟩
theorem PsOwn.far {w w' : World} {B g : Nat} {p : Ps} (h : PsOwn w B p) (hg : w.grownBy w' (some g)) (ho : PsOff p g) : PsOwn w' B p := ⟨h.ded.far hg ho.1, h.ord.far hg ho.2.1, ⟨h.ems.own.far hg ho.2.2.1, fun x hx => (h.ems.each x hx).far hg (ho.2.2.2 x hx), h.ems.apart⟩⟩
theorem YrOwn.offNew {w : World} {B : Nat} {y : Yr} (h : YrOwn w B y) : YrOff y w.heap.size := ⟨h.ins.offNew, h.tak.offNew⟩
theorem YrOwn.offLow {w : World} {B g : Nat} {y : Yr} (h : YrOwn w B y) (hg : g < B) : YrOff y g := ⟨h.ins.offLow hg, h.tak.offLow hg⟩
theorem YrOwn.far {w w' : World} {B g : Nat} {y : Yr} (h : YrOwn w B y) (hg : w.grownBy w' (some g)) (ho : YrOff y g) : YrOwn w' B y := ⟨h.ins.far hg ho.1, h.tak.far hg ho.2⟩
structure Cs where
 ru : Ru
 ps : Ps
 k : Nat
 yr : Yr
 kv : Value
 kept : List El
 first : Bool
 ev : Value
 es : List El
def litCity : ByteArray := ⟨#[99, 105, 116, 121]⟩
structure CsOk (c : Cs) : Prop where
 ru : RuOk c.ru
 k : c.k ≤ 3 ∧ (c.k : Int) < c.ru.count
 ps : PsOk c.k c.ps
 yr : YrOk c.k c.yr
 kept : c.kept = [] ∨ ∃ a, (0 ≤ a ∧ a ≤ 600000) ∧ c.kept = [⟨litCity, a⟩]
 es : ElsOf c.ru.ws c.es ∧ c.es.length ≤ 5
structure CsOwn (w : World) (B : Nat) (c : Cs) : Prop where
 ru : RuOwn w B c.ru
 ps : PsOwn w B c.ps
 yr : YrOwn w B c.yr
 kept : Own w B 112 2 c.kv (c.kept.map El.vals)
 es : Own w B 112 2 c.ev (c.es.map El.vals)
def Ru.cells (r : Ru) : List Value := [r.wv, r.sv, .int .i64 r.tf.method, r.tf.bv, .int .i64 r.tf.allow, .int .i64 r.tf.credit, .int .i64 r.tf.unit, .int .i64 r.tf.mode, r.tf.rv, .int .i64 r.count, .int .i64 r.sh.fixed, .int .i64 r.sh.dep, .int .i64 r.sh.lower, .int .i64 r.sh.share, .int .i64 r.sh.top, .int .i64 r.rcv]
def Cs.cells (c : Cs) : List Value := c.ru.cells ++ [.int .i64 c.ps.dep, c.ps.dv, c.ps.ov, c.ps.ev, .int .i64 (c.k : Int), .int .i64 c.yr.inc, .int .i64 c.yr.wh, c.yr.iv, c.yr.tv, c.kv, .bool c.first, c.ev]
def CsD (w : World) (D m : Nat) (e : Ending) (w' : World) : Prop := ∃ c : Cs, CsOk c ∧ e = .returned (.agg c.cells.toArray) ∧ CsOwn w' w.heap.size c ∧ DS w D m w'
set_option maxRecDepth 100000 in
set_option maxHeartbeats 16000000 in
theorem CaseD {w : World} {D m : Nat} (hd : Dk w D m) (hm : m ≤ 1000) :
  Calls Tryz.prog 18 #[.pointer (some ⟨D, 0, none⟩), .int .i64 0] w (CsD w D (m + 4000)) := by
 have hD := hd.lt
 go_enter Tryz.func18, Tryz.ntmps18
 go_upto_region 1 with (fail)
 have y1 := hd.start.alloc (.cells #[.slice none 0 0, .slice none 0 0, .int .i64 0, .slice none 0 0, .int .i64 0, .int .i64 0, .int .i64 0, .int .i64 0, .slice none 0 0, .int .i64 0, .int .i64 0, .int .i64 0, .int .i64 0, .int .i64 0, .int .i64 0, .int .i64 0, .int .i64 0, .slice none 0 0, .slice none 0 0, .slice none 0 0, .int .i64 0, .int .i64 0, .int .i64 0, .slice none 0 0, .slice none 0 0, .slice none 0 0, .bool false, .slice none 0 0] 69)
 have R_1 := Row.new w 69 #[.slice none 0 0, .slice none 0 0, .int .i64 0, .slice none 0 0, .int .i64 0, .int .i64 0, .int .i64 0, .int .i64 0, .slice none 0 0, .int .i64 0, .int .i64 0, .int .i64 0, .int .i64 0, .int .i64 0, .int .i64 0, .int .i64 0, .int .i64 0, .slice none 0 0, .slice none 0 0, .slice none 0 0, .int .i64 0, .int .i64 0, .int .i64 0, .slice none 0 0, .slice none 0 0, .slice none 0 0, .bool false, .slice none 0 0]
 have b1 := (hd.start.dk.start.alloc (.cells #[.slice none 0 0, .slice none 0 0, .int .i64 0, .slice none 0 0, .int .i64 0, .int .i64 0, .int .i64 0, .int .i64 0, .slice none 0 0, .int .i64 0, .int .i64 0, .int .i64 0, .int .i64 0, .int .i64 0, .int .i64 0, .int .i64 0, .int .i64 0, .slice none 0 0, .slice none 0 0, .slice none 0 0, .int .i64 0, .int .i64 0, .int .i64 0, .slice none 0 0, .slice none 0 0, .slice none 0 0, .bool false, .slice none 0 0] 69))
 have nR : w.heap.size ≠ D := by have := hd.start.dk.lt; omega
 obtain ⟨w1, hw⟩ : ∃ w1, w.alloc (.cells #[.slice none 0 0, .slice none 0 0, .int .i64 0, .slice none 0 0, .int .i64 0, .int .i64 0, .int .i64 0, .int .i64 0, .slice none 0 0, .int .i64 0, .int .i64 0, .int .i64 0, .int .i64 0, .int .i64 0, .int .i64 0, .int .i64 0, .int .i64 0, .slice none 0 0, .slice none 0 0, .slice none 0 0, .int .i64 0, .int .i64 0, .int .i64 0, .slice none 0 0, .slice none 0 0, .slice none 0 0, .bool false, .slice none 0 0] 69) = w1 := ⟨_, rfl⟩
 rw [hw] at y1 R_1 ⊢
 obtain ⟨gR, hg⟩ : ∃ gR, w.heap.size = gR := ⟨_, rfl⟩
 have zR : w.heap.size ≤ gR := by have := hd.start.size; omega
 rw [hg] at R_1 nR ⊢
 have h1 := y1
 have GR := Lib.hid hg
 clear hw hg b1 y1
 have sU := h1.size
 have lUR := Row.lt R_1
 go_wp2_with fail
 refine (RulesD h1.dk (by omega)).mono ?_
 rintro e w2 ⟨⟨wv, ws, sv, ss, ⟨me, bv, brs, al, cr, un, mo, rv, rows⟩, ct, ⟨s1, s2, s3, s4, s5⟩, rc⟩, hru, rfl, hro, k2⟩
 have R_2 := k2.row R_1 nR
 have h2 := h1.step k2
 clear R_1 h1 k2
 obtain ⟨Aw, cw, hf⟩ := hro.ws.form
 try dsimp only at hf
 rw [List.length_map] at hf
 subst hf
 obtain ⟨As, cs, hf⟩ := hro.ss.form
 try dsimp only at hf
 rw [List.length_map] at hf
 subst hf
 obtain ⟨Ab, cb, hf⟩ := hro.tf.brs.form
 try dsimp only at hf
 rw [prs_len] at hf
 subst hf
 obtain ⟨Ar, cr2, hf⟩ := hro.tf.rows.form
 try dsimp only at hf
 rw [prs_len] at hf
 subst hf
 have oRU := hro.offLow lUR
 have HU := Lib.hid (hro.more sU)
 have HRU := Lib.hid hru
 have hct := hru.count
 dsimp only at hct
 clear hro hru
 go_upto_region 2 with (first | (refine wpList_buildTo rfl 69 #[(0, .tmp 9)] rfl #[.slice Aw ws.length cw, .slice As ss.length cs, .int .i64 me, .slice Ab brs.length cb, .int .i64 al, .int .i64 cr, .int .i64 un, .int .i64 mo, .slice Ar rows.length cr2, .int .i64 ct, .int .i64 s1, .int .i64 s2, .int .i64 s3, .int .i64 s4, .int .i64 s5, .int .i64 rc, .int .i64 0, .slice none 0 0, .slice none 0 0, .slice none 0 0, .int .i64 0, .int .i64 0, .int .i64 0, .slice none 0 0, .slice none 0 0, .slice none 0 0, .bool false, .slice none 0 0] (by kernel_rfl) ?_) | (refine wpList_storeNew rfl 69 (.tmp 5) (.tmp 10) rfl #[.slice Aw ws.length cw, .slice As ss.length cs, .int .i64 me, .slice Ab brs.length cb, .int .i64 al, .int .i64 cr, .int .i64 un, .int .i64 mo, .slice Ar rows.length cr2, .int .i64 ct, .int .i64 s1, .int .i64 s2, .int .i64 s3, .int .i64 s4, .int .i64 s5, .int .i64 rc, .int .i64 0, .slice none 0 0, .slice none 0 0, .slice none 0 0, .int .i64 0, .int .i64 0, .int .i64 0, .slice none 0 0, .slice none 0 0, .slice none 0 0, .bool false, .slice none 0 0] rfl rfl (by simp) (by kernel_rfl) (by simp [Value.oneCell']) (by kernel_rfl) ?_; intro w3 X_3 bb))
 go_simp
 have y3 := h2.below bb
 have b3 := h2.dk.start.below bb
 have nX : w2.heap.size ≠ D := by have := h2.dk.lt; omega
 have dXR : w2.heap.size ≠ gR := by have := Row.lt R_2; omega
 have oXU := HU.out.offNew
 have R_3 := b3.row R_2 nR
 have U_3 := Lib.hid (HU.out.step b3 hD)
 obtain ⟨gX, hg⟩ : ∃ gX, w2.heap.size = gX := ⟨_, rfl⟩
 have zX : w.heap.size ≤ gX := by have := h2.size; omega
 rw [hg] at X_3 nX ⊢
 rw [hg] at dXR
 rw [hg] at oXU
 have h3 := y3
 have GX := Lib.hid hg
 clear bb R_2 HU hg b3 y3 h2
 obtain ⟨PM, hPM⟩ : ∃ PM : World → Prop, PM = fun wx => (Row wx gX 69 #[.slice Aw ws.length cw, .slice As ss.length cs, .int .i64 me, .slice Ab brs.length cb, .int .i64 al, .int .i64 cr, .int .i64 un, .int .i64 mo, .slice Ar rows.length cr2, .int .i64 ct, .int .i64 s1, .int .i64 s2, .int .i64 s3, .int .i64 s4, .int .i64 s5, .int .i64 rc, .int .i64 0, .slice none 0 0, .slice none 0 0, .slice none 0 0, .int .i64 0, .int .i64 0, .int .i64 0, .slice none 0 0, .slice none 0 0, .slice none 0 0, .bool false, .slice none 0 0] ∧ Row wx gR 69 #[.slice none 0 0, .slice none 0 0, .int .i64 0, .slice none 0 0, .int .i64 0, .int .i64 0, .int .i64 0, .int .i64 0, .slice none 0 0, .int .i64 0, .int .i64 0, .int .i64 0, .int .i64 0, .int .i64 0, .int .i64 0, .int .i64 0, .int .i64 0, .slice none 0 0, .slice none 0 0, .slice none 0 0, .int .i64 0, .int .i64 0, .int .i64 0, .slice none 0 0, .slice none 0 0, .slice none 0 0, .bool false, .slice none 0 0] ∧ RuOwn wx w.heap.size ⟨.slice Aw ws.length cw, ws, .slice As ss.length cs, ss, ⟨me, .slice Ab brs.length cb, brs, al, cr, un, mo, .slice Ar rows.length cr2, rows⟩, ct, ⟨s1, s2, s3, s4, s5⟩, rc⟩ ∧ DS w D (m + 201) wx) := ⟨_, rfl⟩
 have HPM := Lib.hid hPM
 clear hPM
 go_cut [6] (fun i wx => ∃ k : Nat, i = .int .i64 k ∧ (k ≤ 3 ∧ (k : Int) < ct) ∧ Hid (PM wx))
 case first =>
  have cX9 : w3.cell? ⟨gX, 9, none⟩ = some (.int .i64 ct) := Row.cell X_3 9
  have lX := Row.lt X_3
  go_wp2_with fail
  all_goals
   refine (NextD _ h3.dk (by omega) (by omega) (by omega)).mono ?_
   rintro e wk ⟨rk, hrk, rfl, kk⟩
   obtain ⟨k, rfl⟩ := Int.eq_ofNat_of_zero_le hrk.1
   have HEND : Hid (PM wk) := by rw [Hid, HPM.out]; exact And.intro (kk.row X_3 nX) (And.intro (kk.row R_3 nR) (And.intro (U_3.out.step kk hD) ((h3.step kk).more (show _ ≤ m + 201 by omega))))
   clear kk X_3 R_3 U_3 h3 cX9 lX
   go_wp2_with fail
   go_meet
   exact ⟨k, rfl, ⟨by omega, by omega⟩, HEND.out⟩
 case rest =>
  clear X_3 R_3 U_3 h3
  obtain ⟨k, rfl, hk, HC⟩ := hcut
  obtain ⟨w2, hw2⟩ : ∃ w2 : World, w2 = wc := ⟨_, rfl⟩
  subst hw2
  have HC2 := HC.out
  rw [HPM.out] at HC2
  obtain ⟨X1, R1, U1, D1⟩ := HC2
  have U1 := Lib.hid U1
  clear HC HPM
  have sP := D1.size
  have lPR := Row.lt R1
  have lPX := Row.lt X1
  go_wp2_with fail
  refine (PersonD k (by omega) D1.dk (by omega)).mono ?_
  rintro e w4 ⟨⟨dp, dv, ded, ov, ord, pv, ems⟩, hps, rfl, hpo, k4⟩
  have R_4 := k4.row R1 nR
  have X_4 := k4.row X1 nX
  have U_4 := Lib.hid (U1.out.step k4 hD)
  have h4 := D1.step k4
  clear R1 X1 U1 D1 k4
  obtain ⟨Ad, cd, hf⟩ := hpo.ded.form
  try dsimp only at hf
  rw [List.length_map] at hf
  subst hf
  obtain ⟨Ao, co, hf⟩ := hpo.ord.form
  try dsimp only at hf
  rw [List.length_map] at hf
  subst hf
  obtain ⟨Ap, cp, hf⟩ := hpo.ems.own.form
  try dsimp only at hf
  rw [List.length_map] at hf
  subst hf
  have oRP := hpo.offLow lPR
  have oXP := hpo.offLow lPX
  have HP := Lib.hid (hpo.more sP)
  have HPS := Lib.hid hps
  clear hpo hps
  have sY := h4.size
  have lYR := Row.lt R_4
  have lYX := Row.lt X_4
  go_wp2_with fail
  refine (YearD k (by omega) h4.dk (by omega)).mono ?_
  rintro e w5 ⟨⟨inc, wh, iv, ins, tv, tak⟩, hyr, rfl, hyo, k5⟩
  have R_5 := k5.row R_4 nR
  have X_5 := k5.row X_4 nX
  have U_5 := Lib.hid (U_4.out.step k5 hD)
  have P_5 := Lib.hid (HP.out.step k5 hD)
  have h5 := h4.step k5
  clear R_4 X_4 U_4 HP h4 k5
  obtain ⟨Ai, ci, hf⟩ := hyo.ins.form
  try dsimp only at hf
  rw [ints_len] at hf
  subst hf
  obtain ⟨At, ct2, hf⟩ := hyo.tak.form
  try dsimp only at hf
  rw [List.length_map] at hf
  subst hf
  have oRY := hyo.offLow lYR
  have oXY := hyo.offLow lYX
  have HY := Lib.hid (hyo.more sY)
  have HYR := Lib.hid hyr
  clear hyo hyr
  go_wp2_with fail
  refine (NextD 4 h5.dk (by omega) (by omega) (by omega)).mono ?_
  rintro e w6 ⟨r6, hr6, rfl, k6⟩
  have R_6 := k6.row R_5 nR
  have X_6 := k6.row X_5 nX
  have U_6 := Lib.hid (U_5.out.step k6 hD)
  have P_6 := Lib.hid (P_5.out.step k6 hD)
  have Y_6 := Lib.hid (HY.out.step k6 hD)
  have h6 := h5.step k6
  clear R_5 X_5 U_5 P_5 HY h5 k6
  go_upto_region 4 with (first | (refine wpList_storeRow rfl 64 (.tmp 26) (.tmp 19) rfl #[.slice Aw ws.length cw, .slice As ss.length cs, .int .i64 me, .slice Ab brs.length cb, .int .i64 al, .int .i64 cr, .int .i64 un, .int .i64 mo, .slice Ar rows.length cr2, .int .i64 ct, .int .i64 s1, .int .i64 s2, .int .i64 s3, .int .i64 s4, .int .i64 s5, .int .i64 rc, .int .i64 dp, .slice Ad ded.length cd, .slice Ao ord.length co, .slice Ap ems.length cp, .int .i64 0, .int .i64 0, .int .i64 0, .slice none 0 0, .slice none 0 0, .slice none 0 0, .bool false, .slice none 0 0] rfl rfl X_6 (by simp) (by kernel_rfl) (by simp [Value.oneCell']) (by kernel_rfl) ?_; intro wA RA gA _) | (refine wpList_storeRow rfl 67 (.tmp 27) (.tmp 22) rfl #[.slice Aw ws.length cw, .slice As ss.length cs, .int .i64 me, .slice Ab brs.length cb, .int .i64 al, .int .i64 cr, .int .i64 un, .int .i64 mo, .slice Ar rows.length cr2, .int .i64 ct, .int .i64 s1, .int .i64 s2, .int .i64 s3, .int .i64 s4, .int .i64 s5, .int .i64 rc, .int .i64 dp, .slice Ad ded.length cd, .slice Ao ord.length co, .slice Ap ems.length cp, .int .i64 (k : Int), .int .i64 inc, .int .i64 wh, .slice Ai ins.length ci, .slice At tak.length ct2, .slice none 0 0, .bool false, .slice none 0 0] rfl rfl RA (by simp) (by kernel_rfl) (by simp [Value.oneCell']) (by kernel_rfl) ?_; intro wB RB gB _; have cB := Row.cell RB 26; have fB := Row.frozen RB 26; have lB := Row.lt RB))
  have gC := gb_set (gb_trans gA gB) (p := ⟨gX, 26, none⟩) (.inl rfl) (.bool (decide (0 < r6)))
  have RC := Row.set RB 26 (.bool (decide (0 < r6)))
  obtain ⟨wC, hw⟩ : ∃ wC, wB.setCell ⟨gX, 26, none⟩ (.bool (decide (0 < r6))) = wC := ⟨_, rfl⟩
  rw [hw] at gC RC ⊢
  clear hw cB fB lB gA gB RA RB
  have RX : Row wC gX 69 #[.slice Aw ws.length cw, .slice As ss.length cs, .int .i64 me, .slice Ab brs.length cb, .int .i64 al, .int .i64 cr, .int .i64 un, .int .i64 mo, .slice Ar rows.length cr2, .int .i64 ct, .int .i64 s1, .int .i64 s2, .int .i64 s3, .int .i64 s4, .int .i64 s5, .int .i64 rc, .int .i64 dp, .slice Ad ded.length cd, .slice Ao ord.length co, .slice Ap ems.length cp, .int .i64 (k : Int), .int .i64 inc, .int .i64 wh, .slice Ai ins.length ci, .slice At tak.length ct2, .slice none 0 0, .bool (decide (0 < r6)), .slice none 0 0] := RC
  clear RC
  have R_7 := Row.keep R_6 gC (fun e => dXR (by injection e with e; exact e.symm))
  have U_7 := Lib.hid (U_6.out.far gC oXU)
  have P_7 := Lib.hid (P_6.out.far gC oXP)
  have Y_7 := Lib.hid (Y_6.out.far gC oXY)
  have h7 := h6.other gC (fun gg hgg => by injection hgg; omega) hD
  clear X_6 R_6 U_6 P_6 Y_6 h6 gC
  go_wp2_with fail
  refine (NextD 3 h7.dk (by omega) (by omega) (by omega)).mono ?_
  rintro e w8 ⟨r8, hr8, rfl, k8⟩
  have R_8 := k8.row R_7 nR
  have X_8 := k8.row RX nX
  have U_8 := Lib.hid (U_7.out.step k8 hD)
  have P_8 := Lib.hid (P_7.out.step k8 hD)
  have Y_8 := Lib.hid (Y_7.out.step k8 hD)
  have h8 := h7.step k8
  clear R_7 RX U_7 P_7 Y_7 h7 k8
  cases hb : (r8 == 0)
  ·go_upto_region 6 with (fail)
   have cX0 : w8.cell? ⟨gX, 0, none⟩ = some (.slice Aw ws.length cw) := Row.cell X_8 0
   have lX := Row.lt X_8
   have HWA := Lib.hid U_8.out.ws
   have hwl := HRU.out.ws.len
   dsimp only at hwl
   have sE := h8.size
   have lER := Row.lt R_8
   have lEX := Row.lt X_8
   go_wp2_with fail
   refine (ElementsD (.slice Aw ws.length cw) ws 5 (by omega) HWA.out hD h8.dk (by omega) (by simp [litW] at hwl; omega)).mono ?_
   rintro e w9 ⟨ev, es, rfl, hes, heo, k9⟩
   have R_9 := k9.row R_8 nR
   have X_9 := k9.row X_8 nX
   have U_9 := Lib.hid (U_8.out.step k9 hD)
   have P_9 := Lib.hid (P_8.out.step k9 hD)
   have Y_9 := Lib.hid (Y_8.out.step k9 hD)
   have h9 := h8.step k9
   clear R_8 X_8 U_8 P_8 Y_8 h8 k9
   clear HWA cX0 lX
   obtain ⟨Ae, ce, hf⟩ := heo.form
   try dsimp only at hf
   rw [List.length_map] at hf
   subst hf
   have oRE := heo.offLow lER
   have oXE := heo.offLow lEX
   have HE := Lib.hid (heo.more sE)
   have HES := Lib.hid hes
   clear heo hes
   have cX27 : w9.cell? ⟨gX, 27, none⟩ = some (.slice none 0 0) := Row.cell X_9 27
   have fX27 : w9.frozen? ⟨gX, 27, none⟩ = false := Row.frozen X_9 27
   have lX := Row.lt X_9
   go_upto_region 7 with (fail)
   clear cX27 fX27 lX
   have hg : w9.grownBy (World.setCell w9 ⟨gX, 27, none⟩ (.slice Ae es.length ce)) (some gX) := (gb_set (World.grownBy.refl w9 (some gX)) (.inl rfl) _)
   have hsz10 : ((World.setCell w9 ⟨gX, 27, none⟩ (.slice Ae es.length ce))).heap.size = w9.heap.size := by simp [World.setCell]
   have X_10 : Row (World.setCell w9 ⟨gX, 27, none⟩ (.slice Ae es.length ce)) gX 69 #[.slice Aw ws.length cw, .slice As ss.length cs, .int .i64 me, .slice Ab brs.length cb, .int .i64 al, .int .i64 cr, .int .i64 un, .int .i64 mo, .slice Ar rows.length cr2, .int .i64 ct, .int .i64 s1, .int .i64 s2, .int .i64 s3, .int .i64 s4, .int .i64 s5, .int .i64 rc, .int .i64 dp, .slice Ad ded.length cd, .slice Ao ord.length co, .slice Ap ems.length cp, .int .i64 (k : Int), .int .i64 inc, .int .i64 wh, .slice Ai ins.length ci, .slice At tak.length ct2, .slice none 0 0, .bool (decide (0 < r6)), .slice Ae es.length ce] := (Row.set X_9 27 (.slice Ae es.length ce))
   have R_10 := Row.keep R_9 hg (fun e => dXR (by injection e with e; exact e.symm))
   have U_10 := Lib.hid (U_9.out.far hg oXU)
   have P_10 := Lib.hid (P_9.out.far hg oXP)
   have Y_10 := Lib.hid (Y_9.out.far hg oXY)
   have E_10 := Lib.hid (HE.out.far hg oXE)
   have h10 := h9.other hg (fun gg hgg => by injection hgg; omega) hD
   clear X_9 R_9 U_9 P_9 Y_9 HE h9
   obtain ⟨w10, hw⟩ : ∃ w10, (World.setCell w9 ⟨gX, 27, none⟩ (.slice Ae es.length ce)) = w10 := ⟨_, rfl⟩
   rw [hw] at X_10
   rw [hw] at R_10
   rw [hw] at U_10
   rw [hw] at P_10
   rw [hw] at Y_10
   rw [hw] at E_10
   rw [hw] at hsz10
   rw [hw] at h10 ⊢
   clear hw hg
   have HG := fun w' (hg : World.grownBy w10 w' (some gR)) => And.intro (U_10.out.far hg oRU) (And.intro (P_10.out.far hg oRP) (And.intro (Y_10.out.far hg oRY) (And.intro (E_10.out.far hg oRE) (And.intro (Own.nil w' w.heap.size 112 2) ((h10.other hg (fun g hg => by injection hg; omega) hD).more (show _ ≤ m + 4000 by omega))))))
   have HG := Lib.hid HG
   go_wp2_with (first | (refine wpList_loadRow rfl 69 (.tmp 5) rfl [.slice Aw ws.length cw, .slice As ss.length cs, .int .i64 me, .slice Ab brs.length cb, .int .i64 al, .int .i64 cr, .int .i64 un, .int .i64 mo, .slice Ar rows.length cr2, .int .i64 ct, .int .i64 s1, .int .i64 s2, .int .i64 s3, .int .i64 s4, .int .i64 s5, .int .i64 rc, .int .i64 dp, .slice Ad ded.length cd, .slice Ao ord.length co, .slice Ap ems.length cp, .int .i64 (k : Int), .int .i64 inc, .int .i64 wh, .slice Ai ins.length ci, .slice At tak.length ct2, .slice none 0 0, .bool (decide (0 < r6)), .slice Ae es.length ce] _ rfl X_10 (by kernel_rfl) Tryz.underlying69 rfl (by kernel_rfl) ?_) | (refine wpList_storeRow rfl 69 (.tmp 4) (.tmp 43) rfl #[.slice Aw ws.length cw, .slice As ss.length cs, .int .i64 me, .slice Ab brs.length cb, .int .i64 al, .int .i64 cr, .int .i64 un, .int .i64 mo, .slice Ar rows.length cr2, .int .i64 ct, .int .i64 s1, .int .i64 s2, .int .i64 s3, .int .i64 s4, .int .i64 s5, .int .i64 rc, .int .i64 dp, .slice Ad ded.length cd, .slice Ao ord.length co, .slice Ap ems.length cp, .int .i64 (k : Int), .int .i64 inc, .int .i64 wh, .slice Ai ins.length ci, .slice At tak.length ct2, .slice none 0 0, .bool (decide (0 < r6)), .slice Ae es.length ce] rfl rfl R_10 (by simp) (by kernel_rfl) (by simp [Value.oneCell']) (by kernel_rfl) ?_; intro wZ RZ gZ _))
   refine bodyPost_ret (v := .agg #[.slice Aw ws.length cw, .slice As ss.length cs, .int .i64 me, .slice Ab brs.length cb, .int .i64 al, .int .i64 cr, .int .i64 un, .int .i64 mo, .slice Ar rows.length cr2, .int .i64 ct, .int .i64 s1, .int .i64 s2, .int .i64 s3, .int .i64 s4, .int .i64 s5, .int .i64 rc, .int .i64 dp, .slice Ad ded.length cd, .slice Ao ord.length co, .slice Ap ems.length cp, .int .i64 (k : Int), .int .i64 inc, .int .i64 wh, .slice Ai ins.length ci, .slice At tak.length ct2, .slice none 0 0, .bool (decide (0 < r6)), .slice Ae es.length ce]) (results_row rfl _ rfl RZ Tryz.underlying69 rfl (by kernel_rfl)) rfl ⟨⟨⟨.slice Aw ws.length cw, ws, .slice As ss.length cs, ss, ⟨me, .slice Ab brs.length cb, brs, al, cr, un, mo, .slice Ar rows.length cr2, rows⟩, ct, ⟨s1, s2, s3, s4, s5⟩, rc⟩, ⟨dp, .slice Ad ded.length cd, ded, .slice Ao ord.length co, ord, .slice Ap ems.length cp, ems⟩, k, ⟨inc, wh, .slice Ai ins.length ci, ins, .slice At tak.length ct2, tak⟩, .slice none 0 0, [], decide (0 < r6), .slice Ae es.length ce, es⟩, ⟨HRU.out, hk, HPS.out, HYR.out, .inl rfl, HES.out⟩, rfl, ?_, ?_⟩
   ·have h := HG.out _ gZ
    exact ⟨h.1, h.2.1, h.2.2.1, h.2.2.2.2.1, h.2.2.2.1⟩
   ·exact (HG.out _ gZ).2.2.2.2.2
  ·go_wp2_with fail
   refine (SmallD h8.dk (by omega)).mono ?_
   rintro e w9 ⟨r9, hr9, rfl, k9⟩
   have R_9 := k9.row R_8 nR
   have X_9 := k9.row X_8 nX
   have U_9 := Lib.hid (U_8.out.step k9 hD)
   have P_9 := Lib.hid (P_8.out.step k9 hD)
   have Y_9 := Lib.hid (Y_8.out.step k9 hD)
   have h9 := h8.step k9
   clear R_8 X_8 U_8 P_8 Y_8 h8 k9
   have cX25 : w9.cell? ⟨gX, 25, none⟩ = some (.slice none 0 0) := Row.cell X_9 25
   have fX25 : w9.frozen? ⟨gX, 25, none⟩ = false := Row.frozen X_9 25
   have lX := Row.lt X_9
   obtain ⟨gK, hgK⟩ : ∃ gK, w9.heap.size = gK := ⟨_, rfl⟩
   have hgK2 : w.heap.size ≤ gK := by have := h9.size; omega
   have dKX : gK ≠ gX := by have := Row.lt X_9; omega
   have dKR : gK ≠ gR := by have := Row.lt R_9; omega
   have lXK : gX < gK := by have := Row.lt X_9; omega
   have dXK0 : gX ≠ gK := by omega
   go_upto_region 6 with (fail)
   clear lXK dXK0 cX25 fX25 lX
   try rw [hgK]
   have hg : w9.grownBy (World.setCell w9 ⟨gX, 25, none⟩ (.slice (some ⟨gK, 0, none⟩) 1 1)) (some gX) := (gb_set (World.grownBy.refl w9 (some gX)) (.inl rfl) _)
   have hsz10 : ((World.setCell w9 ⟨gX, 25, none⟩ (.slice (some ⟨gK, 0, none⟩) 1 1))).heap.size = w9.heap.size := by simp [World.setCell]
   have X_10 : Row (World.setCell w9 ⟨gX, 25, none⟩ (.slice (some ⟨gK, 0, none⟩) 1 1)) gX 69 #[.slice Aw ws.length cw, .slice As ss.length cs, .int .i64 me, .slice Ab brs.length cb, .int .i64 al, .int .i64 cr, .int .i64 un, .int .i64 mo, .slice Ar rows.length cr2, .int .i64 ct, .int .i64 s1, .int .i64 s2, .int .i64 s3, .int .i64 s4, .int .i64 s5, .int .i64 rc, .int .i64 dp, .slice Ad ded.length cd, .slice Ao ord.length co, .slice Ap ems.length cp, .int .i64 (k : Int), .int .i64 inc, .int .i64 wh, .slice Ai ins.length ci, .slice At tak.length ct2, .slice (some ⟨gK, 0, none⟩) 1 1, .bool (decide (0 < r6)), .slice none 0 0] := (Row.set X_9 25 (.slice (some ⟨gK, 0, none⟩) 1 1))
   have R_10 := Row.keep R_9 hg (fun e => dXR (by injection e with e; exact e.symm))
   have U_10 := Lib.hid (U_9.out.far hg oXU)
   have P_10 := Lib.hid (P_9.out.far hg oXP)
   have Y_10 := Lib.hid (Y_9.out.far hg oXY)
   have h10 := h9.other hg (fun gg hgg => by injection hgg; omega) hD
   clear X_9 R_9 U_9 P_9 Y_9 h9
   obtain ⟨w10, hw⟩ : ∃ w10, (World.setCell w9 ⟨gX, 25, none⟩ (.slice (some ⟨gK, 0, none⟩) 1 1)) = w10 := ⟨_, rfl⟩
   rw [hw] at X_10
   rw [hw] at R_10
   rw [hw] at U_10
   rw [hw] at P_10
   rw [hw] at Y_10
   rw [hw] at hsz10
   rw [hw] at h10 ⊢
   clear hw hg
   have hgK3 : w10.heap.size = gK := hsz10.trans hgK
   have y11 := h10.alloc (.cells #[.string ⟨#[99, 105, 116, 121]⟩, .int .i64 r9] 112)
   have K_11 := Row.new w10 112 #[.string ⟨#[99, 105, 116, 121]⟩, .int .i64 r9]
   have b11 := (h10.dk.start.alloc (.cells #[.string ⟨#[99, 105, 116, 121]⟩, .int .i64 r9] 112))
   have R_11 := b11.row R_10 nR
   have X_11 := b11.row X_10 nX
   have U_11 := Lib.hid (U_10.out.step b11 hD)
   have P_11 := Lib.hid (P_10.out.step b11 hD)
   have Y_11 := Lib.hid (Y_10.out.step b11 hD)
   have nK : w10.heap.size ≠ D := by have := h10.dk.lt; omega
   have dKR : w10.heap.size ≠ gR := by have := Row.lt R_10; omega
   have dKX : w10.heap.size ≠ gX := by have := Row.lt X_10; omega
   have oKU := U_10.out.offNew
   have oKP := P_10.out.offNew
   have oKY := Y_10.out.offNew
   obtain ⟨w11, hw⟩ : ∃ w11, w10.alloc (.cells #[.string ⟨#[99, 105, 116, 121]⟩, .int .i64 r9] 112) = w11 := ⟨_, rfl⟩
   rw [hw] at y11 K_11 ⊢
   rw [hw] at R_11
   rw [hw] at X_11
   rw [hw] at U_11
   rw [hw] at P_11
   rw [hw] at Y_11
   obtain ⟨gKK, hg⟩ : ∃ gKK, w10.heap.size = gKK := ⟨_, rfl⟩
   have zK : w.heap.size ≤ gKK := by have := h10.size; omega
   rw [hg] at K_11 nK
   try rw [hg]
   rw [hg] at dKR
   rw [hg] at dKX
   rw [hg] at oKU
   rw [hg] at oKP
   rw [hg] at oKY
   have h11 := y11
   have GK := Lib.hid hg
   clear R_10 X_10 U_10 P_10 Y_10 hw hg b11 y11 h10
   have hKK : gK = gKK := by rw [← GK.out]; exact hgK3.symm
   subst hKK
   have dXK : gX ≠ gK := fun e => dKX e.symm
   have dRK : gR ≠ gK := fun e => dKR e.symm
   have cX0 : w11.cell? ⟨gX, 0, none⟩ = some (.slice Aw ws.length cw) := Row.cell X_11 0
   have lX := Row.lt X_11
   have HWA := Lib.hid U_11.out.ws
   have hwl := HRU.out.ws.len
   dsimp only at hwl
   have sE := h11.size
   have lER := Row.lt R_11
   have lEX := Row.lt X_11
   have lEK := Row.lt K_11
   go_wp2_with fail
   refine (ElementsD (.slice Aw ws.length cw) ws 5 (by omega) HWA.out hD h11.dk (by omega) (by simp [litW] at hwl; omega)).mono ?_
   rintro e w12 ⟨ev, es, rfl, hes, heo, k12⟩
   have R_12 := k12.row R_11 nR
   have X_12 := k12.row X_11 nX
   have K_12 := k12.row K_11 nK
   have U_12 := Lib.hid (U_11.out.step k12 hD)
   have P_12 := Lib.hid (P_11.out.step k12 hD)
   have Y_12 := Lib.hid (Y_11.out.step k12 hD)
   have h12 := h11.step k12
   clear R_11 X_11 K_11 U_11 P_11 Y_11 h11 k12
   clear HWA cX0 lX
   obtain ⟨Ae, ce, hf⟩ := heo.form
   try dsimp only at hf
   rw [List.length_map] at hf
   subst hf
   have oRE := heo.offLow lER
   have oXE := heo.offLow lEX
   have HE := Lib.hid (heo.more sE)
   have HES := Lib.hid hes
   clear heo hes
   have cX27 : w12.cell? ⟨gX, 27, none⟩ = some (.slice none 0 0) := Row.cell X_12 27
   have fX27 : w12.frozen? ⟨gX, 27, none⟩ = false := Row.frozen X_12 27
   have lX := Row.lt X_12
   go_upto_region 7 with (fail)
   clear cX27 fX27 lX
   have hg : w12.grownBy (World.setCell w12 ⟨gX, 27, none⟩ (.slice Ae es.length ce)) (some gX) := (gb_set (World.grownBy.refl w12 (some gX)) (.inl rfl) _)
   have hsz13 : ((World.setCell w12 ⟨gX, 27, none⟩ (.slice Ae es.length ce))).heap.size = w12.heap.size := by simp [World.setCell]
   have X_13 : Row (World.setCell w12 ⟨gX, 27, none⟩ (.slice Ae es.length ce)) gX 69 #[.slice Aw ws.length cw, .slice As ss.length cs, .int .i64 me, .slice Ab brs.length cb, .int .i64 al, .int .i64 cr, .int .i64 un, .int .i64 mo, .slice Ar rows.length cr2, .int .i64 ct, .int .i64 s1, .int .i64 s2, .int .i64 s3, .int .i64 s4, .int .i64 s5, .int .i64 rc, .int .i64 dp, .slice Ad ded.length cd, .slice Ao ord.length co, .slice Ap ems.length cp, .int .i64 (k : Int), .int .i64 inc, .int .i64 wh, .slice Ai ins.length ci, .slice At tak.length ct2, .slice (some ⟨gK, 0, none⟩) 1 1, .bool (decide (0 < r6)), .slice Ae es.length ce] := (Row.set X_12 27 (.slice Ae es.length ce))
   have R_13 := Row.keep R_12 hg (fun e => dXR (by injection e with e; exact e.symm))
   have K_13 := Row.keep K_12 hg (fun e => dXK (by injection e with e; exact e.symm))
   have U_13 := Lib.hid (U_12.out.far hg oXU)
   have P_13 := Lib.hid (P_12.out.far hg oXP)
   have Y_13 := Lib.hid (Y_12.out.far hg oXY)
   have E_13 := Lib.hid (HE.out.far hg oXE)
   have h13 := h12.other hg (fun gg hgg => by injection hgg; omega) hD
   clear X_12 R_12 K_12 U_12 P_12 Y_12 HE h12
   obtain ⟨w13, hw⟩ : ∃ w13, (World.setCell w12 ⟨gX, 27, none⟩ (.slice Ae es.length ce)) = w13 := ⟨_, rfl⟩
   rw [hw] at X_13
   rw [hw] at R_13
   rw [hw] at K_13
   rw [hw] at U_13
   rw [hw] at P_13
   rw [hw] at Y_13
   rw [hw] at E_13
   rw [hw] at hsz13
   rw [hw] at h13 ⊢
   clear hw hg
   have HG := fun w' (hg : World.grownBy w13 w' (some gR)) => And.intro (U_13.out.far hg oRU) (And.intro (P_13.out.far hg oRP) (And.intro (Y_13.out.far hg oRY) (And.intro (E_13.out.far hg oRE) (And.intro (Own.ofRow (base := w.heap.size) (sz := 2) (Row.keep K_13 hg (fun e => dKR (by injection e))) hgK2 rfl (by simp [Value.oneCell'])) ((h13.other hg (fun g hg => by injection hg; omega) hD).more (show _ ≤ m + 4000 by omega))))))
   have HG := Lib.hid HG
   go_wp2_with (first | (refine wpList_loadRow rfl 69 (.tmp 5) rfl [.slice Aw ws.length cw, .slice As ss.length cs, .int .i64 me, .slice Ab brs.length cb, .int .i64 al, .int .i64 cr, .int .i64 un, .int .i64 mo, .slice Ar rows.length cr2, .int .i64 ct, .int .i64 s1, .int .i64 s2, .int .i64 s3, .int .i64 s4, .int .i64 s5, .int .i64 rc, .int .i64 dp, .slice Ad ded.length cd, .slice Ao ord.length co, .slice Ap ems.length cp, .int .i64 (k : Int), .int .i64 inc, .int .i64 wh, .slice Ai ins.length ci, .slice At tak.length ct2, .slice (some ⟨gK, 0, none⟩) 1 1, .bool (decide (0 < r6)), .slice Ae es.length ce] _ rfl X_13 (by kernel_rfl) Tryz.underlying69 rfl (by kernel_rfl) ?_) | (refine wpList_storeRow rfl 69 (.tmp 4) (.tmp 43) rfl #[.slice Aw ws.length cw, .slice As ss.length cs, .int .i64 me, .slice Ab brs.length cb, .int .i64 al, .int .i64 cr, .int .i64 un, .int .i64 mo, .slice Ar rows.length cr2, .int .i64 ct, .int .i64 s1, .int .i64 s2, .int .i64 s3, .int .i64 s4, .int .i64 s5, .int .i64 rc, .int .i64 dp, .slice Ad ded.length cd, .slice Ao ord.length co, .slice Ap ems.length cp, .int .i64 (k : Int), .int .i64 inc, .int .i64 wh, .slice Ai ins.length ci, .slice At tak.length ct2, .slice (some ⟨gK, 0, none⟩) 1 1, .bool (decide (0 < r6)), .slice Ae es.length ce] rfl rfl R_13 (by simp) (by kernel_rfl) (by simp [Value.oneCell']) (by kernel_rfl) ?_; intro wZ RZ gZ _))
   refine bodyPost_ret (v := .agg #[.slice Aw ws.length cw, .slice As ss.length cs, .int .i64 me, .slice Ab brs.length cb, .int .i64 al, .int .i64 cr, .int .i64 un, .int .i64 mo, .slice Ar rows.length cr2, .int .i64 ct, .int .i64 s1, .int .i64 s2, .int .i64 s3, .int .i64 s4, .int .i64 s5, .int .i64 rc, .int .i64 dp, .slice Ad ded.length cd, .slice Ao ord.length co, .slice Ap ems.length cp, .int .i64 (k : Int), .int .i64 inc, .int .i64 wh, .slice Ai ins.length ci, .slice At tak.length ct2, .slice (some ⟨gK, 0, none⟩) 1 1, .bool (decide (0 < r6)), .slice Ae es.length ce]) (results_row rfl _ rfl RZ Tryz.underlying69 rfl (by kernel_rfl)) rfl ⟨⟨⟨.slice Aw ws.length cw, ws, .slice As ss.length cs, ss, ⟨me, .slice Ab brs.length cb, brs, al, cr, un, mo, .slice Ar rows.length cr2, rows⟩, ct, ⟨s1, s2, s3, s4, s5⟩, rc⟩, ⟨dp, .slice Ad ded.length cd, ded, .slice Ao ord.length co, ord, .slice Ap ems.length cp, ems⟩, k, ⟨inc, wh, .slice Ai ins.length ci, ins, .slice At tak.length ct2, tak⟩, .slice (some ⟨gK, 0, none⟩) 1 1, [⟨litCity, r9⟩], decide (0 < r6), .slice Ae es.length ce, es⟩, ⟨HRU.out, hk, HPS.out, HYR.out, .inr ⟨r9, hr9, rfl⟩, HES.out⟩, rfl, ?_, ?_⟩
   ·have h := HG.out _ gZ
    exact ⟨h.1, h.2.1, h.2.2.1, h.2.2.2.2.1, h.2.2.2.1⟩
   ·exact (HG.out _ gZ).2.2.2.2.2
end Go.Proofs.YtogdefomigiepaaGreatDoor
