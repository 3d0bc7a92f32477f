/- Contracts and plain facts that the laws of this seat share, part 1. -/
import Derived.WalkKit
import Derived.WalkSpells
import Derived.WalkLawsBesides
import Derived.Lib.Hide
import Derived.StillTailTactics
import Derived.Test.YtogdefomigiepaaGreatDoorRows
import Derived.Maps.AppendAt
import Derived.Deep.AppendLies
import Derived.Laws.OwnMore
import Derived.OwnWalk
import Derived.RegionTactic
import Derived.Deep.QuietTactic
import Derived.BigQuiet
import Derived.Test.YtogdefomigiepaaGreatDoorProg
set_option linter.unusedVariables false
set_option linter.unusedSimpArgs false
/- Small helpers of the walks. -/
namespace Go.Proofs.YtogdefomigiepaaGreatDoor
open Go.RowKit

theorem ret_int {k : IntKind} {a b : Int} (h : a = b) : Ending.returned (.int k a) = .returned (.int k b) := by rw [h]
theorem tup_int {x : Value} {a b : Int} (h : a = b) : Ending.returned (.tuple #[x, .int .i64 a]) = .returned (.tuple #[x, .int .i64 b]) := by rw [h]
theorem ret_bool {a b : Bool} (h : a = b) : Ending.returned (.bool a) = .returned (.bool b) := by rw [h]
theorem size_zero {s : ByteArray} (h : s.size = 0) : s = ByteArray.empty := by simpa using h
theorem notEmpty {s : ByteArray} (h : 0 < s.size) : s.toList.isEmpty = false := by
  rw [ByteArray.toList_eq]
  cases hh : s.data.toList with
  | nil => have : s.data.toList.length = s.size := by simp
           rw [hh] at this; simp at this; omega
  | cons _ _ => rfl
theorem notNil {s : ByteArray} (h : 0 < s.size) : ¬ s.toList = [] := by
 intro hh; have := notEmpty h; rw [hh] at this; cases this

theorem isEmpty_dec (c : ByteArray) : c.toList.isEmpty = decide (c.size = 0) := by
 by_cases h : c.size = 0
 ·rw [ByteArray.toList_eq, size_zero h]; rfl
 ·rw [notEmpty (by omega)]; simp only [h, decide_false]
theorem ne_dec (a b : Int) : (a != b) = decide (a ≠ b) := by rw [Bool.eq_iff_iff]; simp
theorem bcell {W w1 : World} (hb : Below W.heap.size W w1) : (∀ b o, b < W.heap.size → w1.cell? ⟨b, o, none⟩ = W.cell? ⟨b, o, none⟩) ∧ (∀ b o, b < W.heap.size → w1.frozen? ⟨b, o, none⟩ = W.frozen? ⟨b, o, none⟩) :=
 ⟨fun b o h => hb.cell (p := ⟨b, o, none⟩) h, fun b o h => hb.frozen (p := ⟨b, o, none⟩) h⟩
theorem Below.draws {B : Nat} {a w : World} (h : Below B a w) (n : Nat) : Below B a (w.drewN n) := ⟨h.os, h.tape, h.output, h.size, h.block⟩
theorem below_after {B : Nat} {w w1 w2 : World} (h : Below B w w1) (k : Below w1.heap.size w1 w2) (hB : B ≤ w1.heap.size) : Below B w w2 := h.trans (k.mono hB)

theorem region_tail {P : Program} {id : Nat} {Q : Exit → Act → World → Prop} {a : Act} {w : World} {l : List Oper} (n : Nat) (hm : P.follows .mixedOrders = true) (hB : Region.lexTailB .any l.toArray n = true)
  (h : wpStill P l.toArray w.drew (fun a' => wpList P l.toArray Q (l.drop n) a' w.drew) (l.take n) a) : (Code.region id l.toArray true).wp P Q a w := wp_region_still_tail n hm hB h

end Go.Proofs.YtogdefomigiepaaGreatDoor
/- Remainders. -/
namespace Go.Proofs.YtogdefomigiepaaGreatDoor
open Go.RowKit

theorem tmod_lo (v n : Int) (hn : 0 < n) : -n < v.tmod n := by
 have := Int.tmod_lt_of_pos (-v) hn
 rw [Int.neg_tmod] at this; omega
theorem emod_of_tmod (v n : Int) (hn : 0 < n) : v % n = if v.tmod n < 0 then v.tmod n + n else v.tmod n := by
 rw [Int.emod_eq_tmod]
 have h1 := Int.tmod_lt_of_pos v hn
 have h2 := tmod_lo v n hn
 by_cases h0 : 0 ≤ v
 ·rw [if_pos (.inl h0)]
  have h3 := Int.tmod_nonneg n h0
  rw [if_neg (by omega)]; omega
 ·by_cases hd : n ∣ v
  ·rw [if_pos (.inr hd)]
   have h3 : v.tmod n = 0 := Int.tmod_eq_zero_of_dvd hd
   rw [h3]; simp
  ·rw [if_neg (by simp [h0, hd])]
   have h3 : v.tmod n ≤ 0 := by
    have := Int.tmod_nonneg n (show 0 ≤ -v by omega)
    rw [Int.neg_tmod] at this; omega
   have h4 : v.tmod n ≠ 0 := fun h => hd (Int.dvd_of_tmod_eq_zero h)
   rw [if_pos (by omega)]
   have : (n.natAbs : Int) = n := by omega
   omega

end Go.Proofs.YtogdefomigiepaaGreatDoor
/- A slice in memory that reads as a list of elements, each of so many cells; one that the call owns; append. -/
namespace Go.Proofs.YtogdefomigiepaaGreatDoor
open Go.RowKit

def CellsAt (w : World) (sz b off : Nat) (es : List (List Value)) : Prop :=
 b < w.heap.size ∧ ∀ i e, es[i]? = some e → ∀ j u, e[j]? = some u → w.cell? ⟨b, off + i * sz + j, none⟩ = some u
def Sl (w : World) (sz : Nat) (v : Value) (es : List (List Value)) : Prop :=
 ∃ A cap, v = .slice A es.length cap ∧ es.length ≤ cap ∧ cap ≤ maxLen ∧ (A = none → cap = 0) ∧ (es = [] ∨ ∃ b off, A = some ⟨b, off, none⟩ ∧ CellsAt w sz b off es)
def Wide (sz : Nat) (es : List (List Value)) : Prop := ∀ x ∈ es, x.length = sz ∧ ∀ u ∈ x, u.oneCell' = true

theorem CellsAt.below {w w' : World} {B sz b off : Nat} {es : List (List Value)} (h : CellsAt w sz b off es) (hb : Below B w w') (hB : b < B) : CellsAt w' sz b off es :=
 ⟨Nat.lt_of_lt_of_le h.1 hb.size, fun i e hi j u hj => (hb.cell (p := ⟨b, _, none⟩) hB).trans (h.2 i e hi j u hj)⟩
theorem Sl.below {w w' : World} {sz : Nat} {v : Value} {es : List (List Value)} (h : Sl w sz v es) (hb : Below w.heap.size w w') : Sl w' sz v es := by
 obtain ⟨A, cap, rfl, h1, h2, h0, h3⟩ := h
 refine ⟨A, cap, rfl, h1, h2, h0, ?_⟩
 rcases h3 with rfl | ⟨b, off, rfl, hc⟩
 ·exact .inl rfl
 ·exact .inr ⟨b, off, rfl, hc.below hb hc.1⟩
theorem Sl.nil (w : World) (sz : Nat) : Sl w sz (.slice none 0 0) [] := ⟨none, 0, rfl, Nat.le_refl _, Nat.zero_le _, fun _ => rfl, .inl rfl⟩

theorem Wide.nil (sz : Nat) : Wide sz [] := fun _ h => by cases h
theorem Wide.append {sz : Nat} {a b : List (List Value)} (h : Wide sz a) (k : Wide sz b) : Wide sz (a ++ b) := fun x hx => by
 rcases List.mem_append.1 hx with hx | hx
 ·exact h x hx
 ·exact k x hx
theorem Wide.flat {sz : Nat} {es : List (List Value)} (h : Wide sz es) : es.flatten.length = es.length * sz := by
 induction es with
 | nil => simp
 | cons x r ih =>
  rw [List.flatten_cons, List.length_append, (h x (by simp)).1, ih fun y hy => h y (by simp [hy]), List.length_cons, Nat.add_mul, Nat.one_mul, Nat.add_comm]
theorem Wide.get {sz : Nat} (hsz : 0 < sz) {es : List (List Value)} (h : Wide sz es) (j : Nat) : es.flatten[j]? = (es[j / sz]?).bind (·[j % sz]?) := by
 induction es generalizing j with
 | nil => simp
 | cons x r ih =>
  have hx := (h x (by simp)).1
  rw [List.flatten_cons]
  by_cases hj : j < sz
  ·rw [List.getElem?_append_left (by omega), Nat.div_eq_of_lt hj, Nat.mod_eq_of_lt hj]; simp
  ·rw [List.getElem?_append_right (by omega), ih (fun y hy => h y (by simp [hy])), hx]
   have e1 : j / sz = (j - sz) / sz + 1 := by
    have : j = (j - sz) + sz := by omega
    conv => lhs; rw [this]
    rw [Nat.add_div_right _ hsz]
   have e2 : j % sz = (j - sz) % sz := by
    have : j = (j - sz) + sz := by omega
    conv => lhs; rw [this]
    rw [Nat.add_mod_right]
   rw [e1, e2, List.getElem?_cons_succ]
theorem Wide.one {sz : Nat} {es : List (List Value)} (h : Wide sz es) : ∀ u ∈ es.flatten, u.oneCell' = true := fun u hu => by
 obtain ⟨x, hx, hux⟩ := List.mem_flatten.1 hu
 exact (h x hx).2 u hux

def Own (w : World) (base e sz : Nat) (v : Value) (es : List (List Value)) : Prop := w.ownsRow base e sz v es.length es.flatten ∧ Wide sz es

theorem Own.nil (w : World) (base e sz : Nat) : Own w base e sz (.slice none 0 0) [] := ⟨w.ownsRow_nil base e sz, Wide.nil sz⟩
theorem Own.alloc {w : World} {base e sz : Nat} {v : Value} {es : List (List Value)} (h : Own w base e sz v es) (o : Obj) : Own (w.alloc o) base e sz v es := ⟨h.1.alloc o, h.2⟩
theorem Own.kept {w w' : World} {base e sz : Nat} {v : Value} {es : List (List Value)} (h : Own w base e sz v es) (hb : Below w.heap.size w w') : Own w' base e sz v es := by
 refine ⟨h.1.kept (row := none) ⟨hb.os, hb.tape, hb.output, hb.size, fun k hk _ => hb.block k hk⟩ ?_, h.2⟩
 cases hv : v.ownBlock
 ·exact .inl rfl
 ·exact .inr (by simp)
theorem Own.more {w : World} {base base' e sz : Nat} {v : Value} {es : List (List Value)} (h : Own w base e sz v es) (hb : base' ≤ base) : Own w base' e sz v es := by
 refine ⟨⟨h.1.1, ?_⟩, h.2⟩
 rcases h.1.2 with h' | ⟨g, cap, cur, h1, h2, h3⟩
 ·exact .inl h'
 ·exact .inr ⟨g, cap, cur, h1, Nat.le_trans hb h2, h3⟩
theorem Own.sl {w : World} {base e sz : Nat} {v : Value} {es : List (List Value)} (hsz : 0 < sz) (h : Own w base e sz v es) : Sl w sz v es := by
 obtain ⟨⟨hl, h2⟩, hw⟩ := h
 rcases h2 with ⟨rfl, h0⟩ | ⟨g, cap, cur, rfl, hb, hg, hnc, hcm, hcs, ht⟩
 ·obtain rfl : es = [] := List.eq_nil_of_length_eq_zero h0
  exact Sl.nil w sz
 ·refine ⟨some ⟨g, 0, none⟩, cap, rfl, hnc, hcm, (fun h => by cases h), .inr ⟨g, 0, rfl, ?_, ?_⟩⟩
  ·rcases Nat.lt_or_ge g w.heap.size with hlt | hge
   ·exact hlt
   ·rw [Array.getElem?_eq_none hge] at hg; cases hg
  ·intro i x hx j u hu
   have hxl := (hw x (List.mem_of_getElem? hx)).1
   have hjs : j < sz := by
    have := (List.getElem?_eq_some_iff.1 hu).1
    omega
   have hi : i < es.length := (List.getElem?_eq_some_iff.1 hx).1
   have hij : i * sz + j < es.length * sz := by
    have : (i + 1) * sz ≤ es.length * sz := Nat.mul_le_mul_right _ hi
    rw [Nat.add_mul] at this; omega
   have e1 : (i * sz + j) / sz = i := by rw [Nat.mul_comm, Nat.mul_add_div hsz, Nat.div_eq_of_lt hjs]; rfl
   have e2 : (i * sz + j) % sz = j := by rw [Nat.mul_comm, Nat.mul_add_mod, Nat.mod_eq_of_lt hjs]
   rw [Nat.zero_add, cell_of_row w g _ cur e (0, 0) hg]
   have h3 : (cur.toList.take (es.length * sz))[i * sz + j]? = some u := by rw [ht, hw.get hsz, e1, e2, hx]; exact hu
   rw [List.getElem?_take, if_pos hij] at h3
   simpa using h3

structure RowTy (P : Program) (t e : TypeId) (sz bytes : Nat) : Prop where
 ht : P.underlying t = some (.slice e)
 hi : ∃ i z, P.info? e = some i ∧ i.zero = some z ∧ i.size = sz ∧ i.bytes = bytes ∧ z.cells.size = sz
 hsz : 0 < sz

theorem run_append_sl {P : Program} (w : World) {t e : TypeId} {sz bytes : Nat} (hT : RowTy P t e sz bytes) (ty : TypeId) (base : Nat)
  (v u : Value) (es fs : List (List Value)) (hown : Own w base e sz v es) (hsl : Sl w sz u fs) (hwd : Wide sz fs)
  (h63 : es.length + fs.length ≤ maxLen) (hbytes : (es.length + fs.length) * bytes ≤ 140737488355328) (hbase : base ≤ w.heap.size) :
  ∃ v' w', (Builtin.append_ #[t, t] ty #[v, u]).run P w = .ok v' w' ∧ Own w' base e sz v' (es ++ fs) ∧ w.grownBy w' v.ownBlock ∧ (v'.ownBlock = v.ownBlock ∨ v'.ownBlock = some w.heap.size) := by
 obtain ⟨i, z, hi, hz, hs, hby, hzs⟩ := hT.hi
 obtain ⟨A, cap, rfl, h1, h2, h0, h3⟩ := hsl
 have hfl := hwd.flat
 have key : ∀ ad : Addr, (∀ j u, fs.flatten[j]? = some u → w.cell? (ad.add j) = some u) → ∃ v' w', (Builtin.append_ #[t, t] ty #[v, .slice (some ad) fs.length cap]).run P w = .ok v' w' ∧ Own w' base e sz v' (es ++ fs) ∧ w.grownBy w' v.ownBlock ∧ (v'.ownBlock = v.ownBlock ∨ v'.ownBlock = some w.heap.size) := by
  intro ad hc
  obtain ⟨v', w', hrun, k1, k2, _, k3⟩ := run_append_own_at (P := P) w base t ty e i z sz bytes hT.ht hi hz hs hby hzs hT.hsz v es.length es.flatten hown.1 ad fs.length cap fs.flatten hfl hc hwd.one h63 hbytes hbase
  exact ⟨v', w', hrun, ⟨by rw [List.length_append, List.flatten_append]; exact k1, hown.2.append hwd⟩, k2, k3⟩
 rcases h3 with rfl | ⟨b, off, rfl, hc⟩
 ·cases A with
  | none =>
   obtain rfl := h0 rfl
   refine ⟨v, w, run_append_owned_none (P := P) (w := w) base t ty e i sz hT.ht hi v es.length es.flatten hown.1, by simpa using hown, World.grownBy.refl w _, .inl rfl⟩
  | some ad => exact key ad fun j u hu => by simp at hu
 ·refine key _ fun j u hu => ?_
  rw [hwd.get hT.hsz] at hu
  cases hx : fs[j / sz]? with
  | none => rw [hx] at hu; cases hu
  | some x =>
   rw [hx] at hu
   have := hc.2 _ x hx _ u hu
   have ej : off + j / sz * sz + j % sz = off + j := by
    have := Nat.div_add_mod j sz
    rw [Nat.mul_comm] at this
    omega
   rw [ej] at this
   rw [Addr.add]
   by_cases hj : j = 0
   ·subst hj; rw [if_pos rfl]; exact this
   ·rw [if_neg hj]; exact this

theorem wpList_append_sl {P : Program} {w : World} {ops : Array Oper} {rest : List Oper} {o : Oper} {a : Act} {Q : Exit → Act → World → Prop} (hgd : o.guard = none) (s x : Operand) {t e : TypeId} {sz bytes : Nat}
  (ho : o.op = .call { callee := .builtin .append, args := #[s, x], argTypes := #[t, t] }) (hT : RowTy P t e sz bytes) (base : Nat)
  (v u : Value) (es fs : List (List Value)) (hs : a.eval s = v) (hown : Own w base e sz v es) (hx : a.eval x = u) (hsl : Sl w sz u fs) (hwd : Wide sz fs)
  (h63 : es.length + fs.length ≤ maxLen) (hbytes : (es.length + fs.length) * bytes ≤ 140737488355328) (hbase : base ≤ w.heap.size)
  (h : ∀ v' w', Own w' base e sz v' (es ++ fs) → w.grownBy w' v.ownBlock → (v'.ownBlock = v.ownBlock ∨ v'.ownBlock = some w.heap.size) → wpList P ops Q rest (a.put o.dst v') w') : wpList P ops Q (o :: rest) a w := by
 refine wpList_plain hgd fun K hK => ?_
 obtain ⟨v', w', hrun, k1, k2, k3⟩ := run_append_sl (P := P) w hT o.type base v u es fs hown hsl hwd h63 hbytes hbase
 unfold Oper.wp execOp
 simp only [ho, resolve, invoke, builtin, Sem.run_bind, Sem.run_pure, Result.andThen_ok, List.map_toArray, List.map_cons, List.map_nil, hs, hx, hrun]
 exact hK _ _ (h v' w' k1 k2 k3)

theorem Own.grown {w0 w w' : World} {base e sz : Nat} {v : Value} {es : List (List Value)} (h : Own w base e sz v es) (hb : Below base w0 w) (hg : w.grownBy w' v.ownBlock) (hB : base ≤ w.heap.size) : Below base w0 w' :=
 hb.grown hg hB fun k hk => (h.1.lt k hk).1
theorem Sl.one {w : World} {t : TypeId} {sz n : Nat} {c : Array Value} (hn : w.heap.size = n) (_hc : c.size = sz) : Sl (w.alloc (.cells c t)) sz (.slice (some ⟨n, 0, none⟩) 1 1) [c.toList] := by
 subst hn
 refine ⟨_, 1, rfl, Nat.le_refl _, by unfold maxLen; omega, (fun h => by cases h), .inr ⟨w.heap.size, 0, rfl, by simp, ?_⟩⟩
 intro i x hx j u hu
 have hi : i = 0 := by have := (List.getElem?_eq_some_iff.1 hx).1; simp only [List.length_singleton] at this; omega
 subst hi
 simp only [List.getElem?_cons_zero, Option.some.injEq] at hx
 subst hx
 rw [World.cell?_alloc_new]
 simpa using hu

theorem Own.form {w : World} {base e sz : Nat} {v : Value} {es : List (List Value)} (h : Own w base e sz v es) : ∃ A cap, v = .slice A es.length cap := by
 rcases h.1.2 with ⟨rfl, h0⟩ | ⟨g, cap, cur, rfl, _⟩
 ·exact ⟨none, 0, by rw [h0]⟩
 ·exact ⟨_, _, rfl⟩

def RetOwn (w : World) (E sz : Nat) (es : List (List Value)) (e : Ending) (w' : World) : Prop :=
 ∃ x, e = .returned x ∧ Own w' w.heap.size E sz x es ∧ Below w.heap.size w w'
def RetOwn2 (w : World) (E sz : Nat) (es : List (List Value)) (err : Int) (e : Ending) (w' : World) : Prop :=
 ∃ x, e = .returned (.tuple #[x, .int .i64 err]) ∧ Own w' w.heap.size E sz x es ∧ Below w.heap.size w w'

end Go.Proofs.YtogdefomigiepaaGreatDoor
/- Worlds that differ in one block and in new ones; numbers as cells. -/
namespace Go.Proofs.YtogdefomigiepaaGreatDoor
open Go.RowKit

theorem gb_draws {a w : World} {row : Option Nat} (h : a.grownBy w row) (n : Nat) : a.grownBy (w.drewN n) row := ⟨h.os, h.tape, h.output, h.size, h.block⟩
theorem gb_alloc {a w : World} {row : Option Nat} (h : a.grownBy w row) (o : Obj) : a.grownBy (w.alloc o) row :=
 ⟨h.os, h.tape, h.output, Nat.le_trans h.size (by simp), fun i hi hne => (Below.heap_alloc w o i (Nat.lt_of_lt_of_le hi h.size)).trans (h.block i hi hne)⟩
theorem gb_set {a w : World} {D : Nat} (h : a.grownBy w (some D)) {p : Addr} (hp : p.block = D ∨ a.heap.size ≤ p.block) (u : Value) : a.grownBy (w.setCell p u) (some D) :=
 ⟨h.os, h.tape, h.output, by simpa [World.setCell] using h.size, fun i hi hne => (Below.heap_setCell w p u i (by
  rintro rfl
  rcases hp with hp | hp
  ·exact hne (by rw [hp])
  ·omega)).trans (h.block i hi hne)⟩
theorem gb_below {a w w' : World} {row : Option Nat} (h : a.grownBy w row) (hb : Below w.heap.size w w') : a.grownBy w' row :=
 ⟨hb.os.trans h.os, hb.tape.trans h.tape, hb.output.trans h.output, Nat.le_trans h.size hb.size, fun i hi hne => (hb.block i (Nat.lt_of_lt_of_le hi h.size)).trans (h.block i hi hne)⟩
theorem gb_trans {a w w' : World} {row : Option Nat} (h : a.grownBy w row) (k : w.grownBy w' row) : a.grownBy w' row :=
 ⟨k.os.trans h.os, k.tape.trans h.tape, k.output.trans h.output, Nat.le_trans h.size k.size, fun i hi hne => (k.block i (Nat.lt_of_lt_of_le hi h.size) hne).trans (h.block i hi hne)⟩
theorem gb_new {a w w' : World} {row row' : Option Nat} (h : a.grownBy w row) (k : w.grownBy w' row') (hr : ∀ g, row' = some g → a.heap.size ≤ g) : a.grownBy w' row :=
 ⟨k.os.trans h.os, k.tape.trans h.tape, k.output.trans h.output, Nat.le_trans h.size k.size, fun i hi hne => (k.block i (Nat.lt_of_lt_of_le hi h.size) (fun e => by have := hr i e.symm; omega)).trans (h.block i hi hne)⟩
def ints (l : List Int) : List (List Value) := l.map fun z => [.int .i64 z]
theorem ints_len (l : List Int) : (ints l).length = l.length := by simp [ints]
theorem cellsAt_ints (w : World) (t : TypeId) (c : Array Value) (xs : List Int) (h : c.toList = xs.map (.int .i64)) : CellsAt (w.alloc (.cells c t)) 1 w.heap.size 0 (ints xs) := by
 refine ⟨by simp, fun i e hi j u hu => ?_⟩
 rw [World.cell?_alloc_new]
 simp only [ints, List.getElem?_map, Option.map_eq_some_iff] at hi
 obtain ⟨z, hz, rfl⟩ := hi
 match j, hu with
 | 0, hu =>
  simp only [List.getElem?_cons_zero, Option.some.injEq] at hu
  subst hu
  have : c.toList[i]? = some (.int .i64 z) := by rw [h]; simp [hz]
  simpa using this
end Go.Proofs.YtogdefomigiepaaGreatDoor
/- Contracts of paygen.Deck: New, Next, Pick. What is drawn is said by its range alone. -/
namespace Go.Proofs.YtogdefomigiepaaGreatDoor
open Go.RowKit

def Deck (w : World) (D dr : Nat) : Prop :=
 ∃ (A : Option Addr) (n c : Nat) (zs : List Int), w.heap[D]? = some (.cells #[.slice A n c, .int .i64 dr] 49 (0, 0)) ∧ zs.length = n ∧ n ≤ maxLen ∧
  (zs = [] ∨ ∃ b off, A = some ⟨b, off, none⟩ ∧ b < D ∧ ∀ i z, zs[i]? = some z → w.cell? ⟨b, off + i, none⟩ = some (.int .i64 z))
theorem Deck.lt {w : World} {D dr : Nat} (h : Deck w D dr) : D < w.heap.size := by
 obtain ⟨A, n, c, zs, hh, _⟩ := h
 rcases Nat.lt_or_ge D w.heap.size with hlt | hge
 ·exact hlt
 ·rw [Array.getElem?_eq_none hge] at hh; cases hh
theorem Deck.keep {w w' : World} {D dr : Nat} {row : Option Nat} (h : Deck w D dr) (hg : w.grownBy w' row) (hr : ∀ k, row = some k → D < k) : Deck w' D dr := by
 have hlt := h.lt
 obtain ⟨A, n, c, zs, hh, h1, h2, h3⟩ := h
 refine ⟨A, n, c, zs, (hg.block D hlt fun e => by have := hr D e.symm; omega).trans hh, h1, h2, ?_⟩
 rcases h3 with rfl | ⟨b, off, rfl, hb, hc⟩
 ·exact .inl rfl
 ·refine .inr ⟨b, off, rfl, hb, fun i z hz => ?_⟩
  exact (World.cell?_of_block (w := w) (a := ⟨b, off + i, none⟩) (hg.block b (by omega) fun e => by have := hr b e.symm; omega)).trans (hc i z hz)
theorem Deck.below {w w' : World} {D dr : Nat} (h : Deck w D dr) (hb : Below w.heap.size w w') : Deck w' D dr :=
 h.keep (row := none) ⟨hb.os, hb.tape, hb.output, hb.size, fun k hk _ => hb.block k hk⟩ (fun k hk => by cases hk)
theorem Deck.step {w : World} {D dr : Nat} (h : Deck w D dr) (q : Nat) : Deck ((w.drewN q).setCell ⟨D, 1, none⟩ (.int .i64 (dr + 1 : Nat))) D (dr + 1) ∧ w.grownBy ((w.drewN q).setCell ⟨D, 1, none⟩ (.int .i64 (dr + 1 : Nat))) (some D) := by
 refine ⟨?_, gb_set (gb_draws (World.grownBy.refl _ _) q) (.inl rfl) _⟩
 obtain ⟨A, n, c, zs, hh, h1, h2, h3⟩ := h
 refine ⟨A, n, c, zs, ?_, h1, h2, ?_⟩
 ·simp only [World.setCell]
  rw [Array.getElem?_modify, if_pos rfl]
  show (w.heap[D]?).map _ = _
  rw [hh]; rfl
 ·rcases h3 with rfl | ⟨b, off, rfl, hb, hc⟩
  ·exact .inl rfl
  ·refine .inr ⟨b, off, rfl, hb, fun i z hz => ?_⟩
   rw [World.cell?_setCell_other _ _ _ _ (by intro e; injection e; omega)]
   exact hc i z hz
def NextPost (w : World) (D dr : Nat) (n : Int) (e : Ending) (w' : World) : Prop :=
 ∃ r : Int, (0 ≤ r ∧ r < n) ∧ e = .returned (.int .i64 r) ∧ Deck w' D (dr + 1) ∧ w.grownBy w' (some D)

set_option maxHeartbeats 1000000 in
theorem Next_any (D dr : Nat) (n : Int) (w : World) (hd : Deck w D dr) (hdr : dr ≤ 1099511627776) (hn : 0 < n) (hn2 : n ≤ 1099511627776) :
  Calls Tryz.prog 13 #[.pointer (some ⟨D, 0, none⟩), .int .i64 n] w (NextPost w D dr n) := by
 have hst := Lib.hid (fun q => hd.step q)
 obtain ⟨A, m, c, zs, hh, h1, h2, h3⟩ := hd
 have c0 : w.cell? ⟨D, 0, none⟩ = some (.slice A m c) := cell_of_row w D 0 _ _ _ hh
 have c1 : w.cell? ⟨D, 1, none⟩ = some (.int .i64 dr) := cell_of_row w D 1 _ _ _ hh
 have f1 : w.frozen? ⟨D, 1, none⟩ = false := frozen_of_row w D 1 _ _ hh
 have hz : (n == 0) = false := beq_eq_false_iff_ne.2 (by omega)
 unfold maxLen at h2
 have H1 := Lib.hid h1
 have H3 := Lib.hid h3
 clear hh h1 h3
 by_cases hlt : dr < m
 ·rcases H3.out with h | ⟨b, off, rfl, hb, hc⟩
  ·have := H1.out; rw [h] at this; simp at this; omega
  ·obtain ⟨z, hzz⟩ : ∃ z, zs[dr]? = some z := ⟨_, List.getElem?_eq_getElem (by have := H1.out; omega)⟩
   have cz : w.cell? ⟨b, off + dr, none⟩ = some (.int .i64 z) := hc dr z hzz
   have t1 := Int.tmod_lt_of_pos z hn
   have t2 := tmod_lo z n hn
   have HE := Lib.hid (emod_of_tmod z n hn)
   have HR : Hid (0 ≤ z % n ∧ z % n < n) := ⟨Int.emod_nonneg _ (by omega), Int.emod_lt_of_pos _ hn⟩
   clear H3 hc hzz H1
   by_cases h0 : z.tmod n < 0
   ·go_enter Tryz.func13, Tryz.ntmps13
    go_wp2
    go_quiet (fail)
    go_wp2
    go_quiet (fail)
    go_wp2
    go_ret
    exact ⟨_, HR.out, ret_int (by rw [HE.out, if_pos (by omega)]), (hst.out _).1, (hst.out _).2⟩
   ·go_enter Tryz.func13, Tryz.ntmps13
    go_wp2
    go_quiet (fail)
    go_wp2
    go_quiet (fail)
    go_wp2
    go_ret
    exact ⟨_, HR.out, ret_int (by rw [HE.out, if_neg (by omega)]), (hst.out _).1, (hst.out _).2⟩
 ·have t1 := Int.tmod_lt_of_pos (5 * (dr : Int) + 2) hn
  have HE : Hid ((5 * (dr : Int) + 2).tmod n = (5 * (dr : Int) + 2) % n) := Int.tmod_eq_emod_of_nonneg (by omega)
  have HR : Hid (0 ≤ (5 * (dr : Int) + 2) % n ∧ (5 * (dr : Int) + 2) % n < n) := ⟨Int.emod_nonneg _ (by omega), Int.emod_lt_of_pos _ hn⟩
  have hr1 := HR.out.1
  clear H3 H1 t1
  go_enter Tryz.func13, Tryz.ntmps13
  go_wp2
  go_quiet (fail)
  go_wp2
  go_ret
  exact ⟨_, HR.out, rfl, (hst.out _).1, (hst.out _).2⟩

def PickPost (w : World) (D dr : Nat) (xs : List Int) (e : Ending) (w' : World) : Prop :=
 ∃ r : Int, r ∈ xs ∧ e = .returned (.int .i64 r) ∧ Deck w' D (dr + 1) ∧ w.grownBy w' (some D)
set_option maxHeartbeats 400000 in
theorem Pick_any (D dr g c : Nat) (xs : List Int) (w : World) (hd : Deck w D dr) (hdr : dr ≤ 1099511627776) (hx : 0 < xs.length) (hx2 : xs.length ≤ 1099511627776) (hg : D < g) (hs : CellsAt w 1 g 0 (ints xs)) :
  Calls Tryz.prog 10 #[.pointer (some ⟨D, 0, none⟩), .slice (some ⟨g, 0, none⟩) xs.length c] w (PickPost w D dr xs) := by
 go_enter Tryz.func10, Tryz.ntmps10
 go_wp2_with fail
 refine (Next_any D dr _ w hd hdr (by omega) (by omega)).mono ?_
 rintro e w1 ⟨r, ⟨hr1, hr2⟩, rfl, hd1, hg1⟩
 obtain ⟨k, rfl⟩ := Int.eq_ofNat_of_zero_le hr1
 have hk : k < xs.length := by omega
 have hc : w1.cell? ⟨g, k, none⟩ = some (.int .i64 xs[k]) := by
  have h1 : w.cell? ⟨g, 0 + k * 1 + 0, none⟩ = some (.int .i64 xs[k]) := hs.2 k _ (by simp [ints, hk]; rfl) 0 _ rfl
  rw [Nat.zero_add, Nat.mul_one, Nat.add_zero] at h1
  exact (World.cell?_of_block (w := w) (a := ⟨g, k, none⟩) (hg1.block g hs.1 (by intro e; injection e; omega))).trans h1
 go_wp2
 go_ret
 exact ⟨_, List.getElem_mem hk, rfl, hd1, hg1⟩

end Go.Proofs.YtogdefomigiepaaGreatDoor
/- Contracts of paygen: New, Small, no line. -/
namespace Go.Proofs.YtogdefomigiepaaGreatDoor
open Go.RowKit

theorem new_any (v : Value) (zs : List Int) (w : World) (hv : Sl w 1 v (ints zs)) :
  Calls Tryz.prog 8 #[v] w fun e w' => e = .returned (.pointer (some ⟨w.heap.size, 0, none⟩)) ∧ Deck w' w.heap.size 0 ∧ Below w.heap.size w w' := by
 obtain ⟨A, cap, rfl, h1, h2, _, h3⟩ := hv
 have H3 := Lib.hid h3
 clear h3
 go_enter Tryz.func8, Tryz.ntmps8
 go_wp2
 go_ret
 refine ⟨rfl, ⟨A, zs.length, cap, zs, by rw [← ints_len]; exact heap_alloc_new w _, rfl, by rw [ints_len] at h1; omega, ?_⟩, (Below.refl _ _).alloc (Nat.le_refl _) _⟩
 rcases H3.out with h | ⟨b, off, rfl, hc⟩
 ·left
  have := congrArg List.length h
  rw [ints_len] at this
  exact List.eq_nil_of_length_eq_zero this
 ·refine .inr ⟨b, off, rfl, hc.1, fun i z hz => ?_⟩
  rw [World.cell?_alloc_lt _ _ _ hc.1]
  have := hc.2 i [.int .i64 z] (by simp [ints, hz]) 0 _ rfl
  rwa [Nat.mul_one, Nat.add_zero] at this

def DrawPost (w : World) (D dr c : Nat) (lo hi : Int) (e : Ending) (w' : World) : Prop :=
 ∃ r : Int, (lo ≤ r ∧ r ≤ hi) ∧ e = .returned (.int .i64 r) ∧ ∃ dr', dr' ≤ dr + c ∧ Deck w' D dr' ∧ w.grownBy w' (some D)
set_option maxHeartbeats 400000 in
theorem Small_any (D dr : Nat) (w : World) (hd : Deck w D dr) (hdr : dr ≤ 1099511627775) :
  Calls Tryz.prog 40 #[.pointer (some ⟨D, 0, none⟩)] w (DrawPost w D dr 2 0 600000) := by
 go_enter Tryz.func40, Tryz.ntmps40
 go_wp2_with fail
 refine (Next_any D dr _ w hd (by omega) (by omega) (by omega)).mono ?_
 rintro e w1 ⟨r, ⟨hr1, hr2⟩, rfl, hd1, hg1⟩
 have hD1 := hd1.lt
 cases h0 : (r == 0)
 ·go_wp2_with fail
  refine (Next_any D (dr + 1) _ w1 hd1 (by omega) (by omega) (by omega)).mono ?_
  rintro e w2 ⟨s, ⟨hs1, hs2⟩, rfl, hd2, hg2⟩
  go_wp2
  go_ret
  exact ⟨s, ⟨hs1, by omega⟩, rfl, _, Nat.le_refl _, hd2, gb_trans hg1 hg2⟩
 ·go_wp2_with fail
  refine (Pick_any D (dr + 1) w1.heap.size 4 [0, 0, 1, 100] _ (hd1.below ((Below.refl _ _).alloc (Nat.le_refl _) _)) (by omega) (by simp) (by simp) hD1 ⟨by simp, fun i e hi j u hu => ?_⟩).mono ?_
  ·rw [World.cell?_alloc_new]
   match i, hi with
   | 0, hi => simp [ints] at hi; subst hi; match j, hu with | 0, hu => simpa using hu
   | 1, hi => simp [ints] at hi; subst hi; match j, hu with | 0, hu => simpa using hu
   | 2, hi => simp [ints] at hi; subst hi; match j, hu with | 0, hu => simpa using hu
   | 3, hi => simp [ints] at hi; subst hi; match j, hu with | 0, hu => simpa using hu
   | n + 4, hi => simp [ints] at hi
  ·rintro e w2 ⟨s, hs, rfl, hd2, hg2⟩
   have hb : 0 ≤ s ∧ s ≤ 600000 := by simp at hs; omega
   go_wp2
   go_ret
   exact ⟨s, hb, rfl, _, Nat.le_refl _, hd2, gb_trans (gb_alloc hg1 _) hg2⟩

end Go.Proofs.YtogdefomigiepaaGreatDoor
/- A block of memory that is known whole. -/
namespace Go.Proofs.YtogdefomigiepaaGreatDoor
open Go.RowKit

def Row (w : World) (g : Nat) (t : TypeId) (cs : Array Value) : Prop := w.heap[g]? = some (.cells cs t (0, 0))
theorem Row.lt {w : World} {g : Nat} {t : TypeId} {cs : Array Value} (h : Row w g t cs) : g < w.heap.size := by
 rcases Nat.lt_or_ge g w.heap.size with hlt | hge
 ·exact hlt
 ·unfold Row at h; rw [Array.getElem?_eq_none hge] at h; cases h
theorem Row.cell {w : World} {g : Nat} {t : TypeId} {cs : Array Value} (h : Row w g t cs) (i : Nat) : w.cell? ⟨g, i, none⟩ = cs[i]? := cell_of_row w g i cs t (0, 0) h
theorem Row.frozen {w : World} {g : Nat} {t : TypeId} {cs : Array Value} (h : Row w g t cs) (i : Nat) : w.frozen? ⟨g, i, none⟩ = false := frozen_of_row w g i cs t h
theorem Row.new (w : World) (t : TypeId) (cs : Array Value) : Row (w.alloc (.cells cs t)) w.heap.size t cs := heap_alloc_new w _
theorem Row.alloc {w : World} {g : Nat} {t : TypeId} {cs : Array Value} (h : Row w g t cs) (o : Obj) : Row (w.alloc o) g t cs := (Below.heap_alloc w o g h.lt).trans h
theorem Row.set {w : World} {g : Nat} {t : TypeId} {cs : Array Value} (h : Row w g t cs) (i : Nat) (u : Value) : Row (w.setCell ⟨g, i, none⟩ u) g t (cs.setIfInBounds i u) := by
 unfold Row at h ⊢
 simp [World.setCell, Array.getElem?_modify, h]
theorem Row.far {w : World} {g : Nat} {t : TypeId} {cs : Array Value} (h : Row w g t cs) {p : Addr} (hp : g ≠ p.block) (u : Value) : Row (w.setCell p u) g t cs := (Below.heap_setCell w p u g hp).trans h
theorem Row.keep {w w' : World} {g : Nat} {t : TypeId} {cs : Array Value} {row : Option Nat} (h : Row w g t cs) (hg : w.grownBy w' row) (hne : some g ≠ row) : Row w' g t cs := (hg.block g h.lt hne).trans h
theorem Row.below {w w' : World} {g B : Nat} {t : TypeId} {cs : Array Value} (h : Row w g t cs) (hb : Below B w w') (hlt : g < B) : Row w' g t cs := (hb.block g hlt).trans h
theorem Own.keepG {w w' : World} {base e sz : Nat} {v : Value} {o : Option Nat} {es : List (List Value)} (h : Own w base e sz v es) (hg : w.grownBy w' o) (hD : v.ownBlock = none ∨ v.ownBlock ≠ o) : Own w' base e sz v es := ⟨h.1.kept hg hD, h.2⟩
theorem grown_set (w : World) (g i : Nat) (u : Value) : w.grownBy (w.setCell ⟨g, i, none⟩ u) (some g) :=
 ⟨rfl, rfl, rfl, by simp, fun k _ hne => Below.heap_setCell w ⟨g, i, none⟩ u k (fun e => hne (by rw [e]))⟩

end Go.Proofs.YtogdefomigiepaaGreatDoor
/- Storing an element into a slice of the call's own; slices of such a slice. -/
namespace Go.Proofs.YtogdefomigiepaaGreatDoor
open Go.RowKit

theorem flatten_set {sz : Nat} (hsz : 0 < sz) {es : List (List Value)} (h : Wide sz es) (i : Nat) (hi : i < es.length) (x : List Value) (hx : x.length = sz) (j : Nat) :
  (es.set i x).flatten[j]? = if i * sz ≤ j ∧ j < i * sz + sz then x[j - i * sz]? else es.flatten[j]? := by
 have hw : ∀ y ∈ es.set i x, y.length = sz := fun y hy => by
  rcases List.mem_or_eq_of_mem_set hy with hy | rfl
  ·exact (h y hy).1
  ·exact hx
 have hget : ∀ (fs : List (List Value)), (∀ y ∈ fs, y.length = sz) → ∀ j, fs.flatten[j]? = (fs[j / sz]?).bind (·[j % sz]?) := by
  intro fs hfs
  induction fs with
  | nil => simp
  | cons y r ih =>
   intro j
   have hy := hfs y (by simp)
   rw [List.flatten_cons]
   by_cases hj : j < sz
   ·rw [List.getElem?_append_left (by omega), Nat.div_eq_of_lt hj, Nat.mod_eq_of_lt hj]; simp
   ·rw [List.getElem?_append_right (by omega), ih (fun z hz => hfs z (by simp [hz])), hy]
    have e1 : j / sz = (j - sz) / sz + 1 := by
     have : j = (j - sz) + sz := by omega
     conv => lhs; rw [this]
     rw [Nat.add_div_right _ hsz]
    have e2 : j % sz = (j - sz) % sz := by
     have : j = (j - sz) + sz := by omega
     conv => lhs; rw [this]
     rw [Nat.add_mod_right]
    rw [e1, e2, List.getElem?_cons_succ]
 rw [hget _ hw, hget _ (fun y hy => (h y hy).1), List.getElem?_set]
 by_cases hc : i * sz ≤ j ∧ j < i * sz + sz
 ·have hd : j / sz = i := by
   obtain ⟨h1, h2⟩ := hc
   exact Nat.div_eq_of_lt_le (by omega) (by rw [Nat.add_mul, Nat.one_mul]; omega)
  rw [if_pos hd.symm, if_pos hi, if_pos hc]
  show x[j % sz]? = _
  rw [← hd, Nat.mod_eq_sub_div_mul]
 ·rw [if_neg, if_neg hc]
  intro hd
  apply hc
  have a := Nat.div_mul_le_self j sz
  have b := Nat.lt_mul_div_succ j hsz
  rw [Nat.mul_add, Nat.mul_one, Nat.mul_comm] at b
  rw [hd]; exact ⟨a, b⟩

def setRun (xs : List Value) (j : Nat) : List Value → List Value
 | [] => xs
 | u :: r => setRun (xs.set j u) (j + 1) r
theorem setRun_get (us : List Value) : ∀ (xs : List Value) (j t : Nat), j + us.length ≤ xs.length → (setRun xs j us)[t]? = if j ≤ t ∧ t < j + us.length then us[t - j]? else xs[t]? := by
 induction us with
 | nil => intro xs j t _; rw [if_neg (by simp only [List.length_nil]; omega)]; rfl
 | cons u r ih =>
  intro xs j t h
  simp only [List.length_cons] at h ⊢
  rw [setRun, ih _ _ _ (by rw [List.length_set]; omega), List.getElem?_set]
  by_cases h1 : j + 1 ≤ t ∧ t < j + 1 + r.length
  ·rw [if_pos h1, if_pos (by omega), show t - j = (t - (j + 1)) + 1 by omega, List.getElem?_cons_succ]
  ·rw [if_neg h1]
   by_cases h2 : j = t
   ·subst h2; rw [if_pos rfl, if_pos (by omega), if_pos (by omega)]; simp
   ·rw [if_neg h2, if_neg (by omega)]
theorem setRun_flat {sz : Nat} (hsz : 0 < sz) {es : List (List Value)} (h : Wide sz es) (i : Nat) (hi : i < es.length) (x : List Value) (hx : x.length = sz) : setRun es.flatten (i * sz) x = (es.set i x).flatten := by
 apply List.ext_getElem?
 intro j
 have hl : i * sz + x.length ≤ es.flatten.length := by
  rw [h.flat, hx]
  have : (i + 1) * sz ≤ es.length * sz := Nat.mul_le_mul_right _ hi
  rw [Nat.add_mul, Nat.one_mul] at this; exact this
 rw [setRun_get _ _ _ _ hl, flatten_set hsz h i hi x hx, hx]
def storeRun (w : World) (g j : Nat) : List Value → World
 | [] => w
 | u :: r => storeRun (w.setCell ⟨g, j, none⟩ u) g (j + 1) r
theorem storeRun_own (us : List Value) : ∀ {w : World} {base e sz g n cap : Nat} {xs : List Value} (j : Nat), w.ownsRow base e sz (.slice (some ⟨g, 0, none⟩) n cap) n xs →
  (storeRun w g j us).ownsRow base e sz (.slice (some ⟨g, 0, none⟩) n cap) n (setRun xs j us) ∧ w.grownBy (storeRun w g j us) (some g) := by
 induction us with
 | nil => intro w base e sz g n cap xs j h; exact ⟨h, World.grownBy.refl _ _⟩
 | cons u r ih =>
  intro w base e sz g n cap xs j h
  obtain ⟨h1, h2⟩ := h.stored j u
  obtain ⟨h3, h4⟩ := ih (j + 1) h1
  exact ⟨h3, h2.trans h4⟩
theorem Own.store {w : World} {base e sz g n cap : Nat} {es : List (List Value)} (hsz : 0 < sz) (h : Own w base e sz (.slice (some ⟨g, 0, none⟩) n cap) es) (i : Nat) (hi : i < es.length) (x : List Value) (hx : x.length = sz) (hx1 : ∀ u ∈ x, u.oneCell' = true) :
  Own (storeRun w g (i * sz) x) base e sz (.slice (some ⟨g, 0, none⟩) n cap) (es.set i x) ∧ w.grownBy (storeRun w g (i * sz) x) (some g) := by
 have hn : n = es.length := by
  rcases h.1.2 with ⟨h', _⟩ | ⟨g', cap', cur, h', _⟩
  ·simp at h'
  ·injection h'
 subst hn
 obtain ⟨h1, h2⟩ := storeRun_own x (i * sz) h.1
 refine ⟨⟨?_, fun y hy => ?_⟩, h2⟩
 ·rw [List.length_set, ← setRun_flat hsz h.2 i hi x hx]; exact h1
 ·rcases List.mem_or_eq_of_mem_set hy with hy | rfl
  ·exact h.2 y hy
  ·exact ⟨hx, hx1⟩
theorem Own.cellE {w : World} {base e sz g n cap : Nat} {es : List (List Value)} (hsz : 0 < sz) (h : Own w base e sz (.slice (some ⟨g, 0, none⟩) n cap) es) {i : Nat} {x : List Value} (hi : es[i]? = some x) {j : Nat} {u : Value} (hj : x[j]? = some u) : w.cell? ⟨g, i * sz + j, none⟩ = some u := by
 obtain ⟨A, cap', hv, _, _, _, hc⟩ := h.sl hsz
 injection hv with hv1 hv2 hv3
 subst hv1
 rcases hc with rfl | ⟨b, off, hA, hc⟩
 ·simp at hi
 ·injection hA with hA
  injection hA with h1 h2
  subst h1 h2
  have := hc.2 i x hi j u hj
  rwa [Nat.zero_add] at this
theorem Own.frozenE {w : World} {base e sz g n cap : Nat} {es : List (List Value)} (h : Own w base e sz (.slice (some ⟨g, 0, none⟩) n cap) es) (j : Nat) : w.frozen? ⟨g, j, none⟩ = false := by
 have hn : n = es.length := by
  rcases h.1.2 with ⟨h', _⟩ | ⟨g', cap', cur, h', _⟩
  ·simp at h'
  ·injection h'
 subst hn
 exact h.1.frozenAt j
theorem Sl.take {w : World} {sz b off n cap : Nat} {es : List (List Value)} (h : Sl w sz (.slice (some ⟨b, off, none⟩) n cap) es) (k : Nat) (hk : k ≤ n) (c : Nat) (hc : k ≤ c) (hc2 : c ≤ maxLen) : Sl w sz (.slice (some ⟨b, off, none⟩) k c) (es.take k) := by
 obtain ⟨A, cap', hv, h1, h2, h0, h3⟩ := h
 injection hv with hv1 hv2 hv3
 subst hv1 hv2 hv3
 have hl : (es.take k).length = k := by rw [List.length_take]; omega
 refine ⟨_, c, by rw [hl], by omega, hc2, (fun h => by cases h), ?_⟩
 rcases h3 with rfl | ⟨b', off', hA, hcell⟩
 ·exact .inl (by simp)
 ·refine .inr ⟨b', off', hA, hcell.1, fun i e hi => hcell.2 i e ?_⟩
  rw [List.getElem?_take] at hi
  split at hi
  ·exact hi
  ·cases hi
theorem made_flat (z : Array Value) (hz : 0 < z.size) (h1 : ∀ u ∈ z.toList, u.oneCell' = true) (n : Nat) : (madeCells z (n * z.size)).toList = (List.replicate n z.toList).flatten := by
 have hw : Wide z.size (List.replicate n z.toList) := fun x hx => by rw [(List.mem_replicate.1 hx).2]; exact ⟨by simp, h1⟩
 apply List.ext_getElem?
 intro j
 rw [hw.get hz]
 by_cases hj : j < n * z.size
 ·have hd : j / z.size < n := (Nat.div_lt_iff_lt_mul hz).2 hj
  have hm : j % z.size < z.size := Nat.mod_lt _ hz
  simp [madeCells, hj, hd, getElem!_pos, hm]
 ·have hd : n ≤ j / z.size := by rw [Nat.le_div_iff_mul_le hz]; omega
  rw [List.getElem?_eq_none (by simp [madeCells]; omega), List.getElem?_eq_none (by simpa using hd)]; rfl

end Go.Proofs.YtogdefomigiepaaGreatDoor
/- Drawing from a deck: what a call leaves, with a bound of the draws; Next, Pick, Small, Rate, Mode. -/
namespace Go.Proofs.YtogdefomigiepaaGreatDoor
open Go.RowKit

def Dk (w : World) (D m : Nat) : Prop := ∃ dr, dr ≤ m ∧ Deck w D dr
structure DS (w : World) (D m : Nat) (w' : World) : Prop where
 dk : Dk w' D m
 grown : w.grownBy w' (some D)
theorem Dk.lt {w : World} {D m : Nat} (h : Dk w D m) : D < w.heap.size := by obtain ⟨dr, _, h⟩ := h; exact h.lt
theorem Dk.start {w : World} {D m : Nat} (h : Dk w D m) : DS w D m w := ⟨h, World.grownBy.refl _ _⟩
theorem Dk.more {w : World} {D m n : Nat} (h : Dk w D m) (hn : m ≤ n) : Dk w D n := by obtain ⟨dr, h1, h2⟩ := h; exact ⟨dr, by omega, h2⟩
theorem DS.more {w w1 : World} {D m n : Nat} (h : DS w D m w1) (hn : m ≤ n) : DS w D n w1 := ⟨h.dk.more hn, h.grown⟩
theorem DS.step {w w1 w2 : World} {D m n : Nat} (h : DS w D m w1) (k : DS w1 D n w2) : DS w D n w2 := ⟨k.dk, gb_trans h.grown k.grown⟩
theorem DS.size {w w1 : World} {D m : Nat} (h : DS w D m w1) : w.heap.size ≤ w1.heap.size := h.grown.size
theorem DS.below {w w1 w2 : World} {D m : Nat} (h : DS w D m w1) (hb : Below w1.heap.size w1 w2) : DS w D m w2 := by
 obtain ⟨⟨dr, h1, h2⟩, h3⟩ := h
 exact ⟨⟨dr, h1, h2.below hb⟩, gb_below h3 hb⟩
theorem DS.alloc {w w1 : World} {D m : Nat} (h : DS w D m w1) (o : Obj) : DS w D m (w1.alloc o) := h.below ((Below.refl _ _).alloc (Nat.le_refl _) _)
theorem DS.draws {w w1 : World} {D m : Nat} (h : DS w D m w1) (n : Nat) : DS w D m (w1.drewN n) := h.below (Below.draws (Below.refl _ _) n)
theorem DS.set {w w1 : World} {D m : Nat} (h : DS w D m w1) {p : Addr} (hp : w.heap.size ≤ p.block) (hD : D < w.heap.size) (u : Value) : DS w D m (w1.setCell p u) := by
 obtain ⟨⟨dr, h1, h2⟩, h3⟩ := h
 exact ⟨⟨dr, h1, h2.keep (gb_set (p := p) (World.grownBy.refl _ (some p.block)) (.inl rfl) u) (fun k hk => by injection hk; omega)⟩, gb_set h3 (.inr hp) u⟩
theorem DS.other {w w1 w2 : World} {D m : Nat} {row : Option Nat} (h : DS w D m w1) (hg : w1.grownBy w2 row) (hr : ∀ g, row = some g → w.heap.size ≤ g) (hD : D < w.heap.size) : DS w D m w2 := by
 obtain ⟨⟨dr, h1, h2⟩, h3⟩ := h
 exact ⟨⟨dr, h1, h2.keep hg (fun k hk => by have := hr k hk; omega)⟩, gb_new h3 hg hr⟩
theorem DS.row {w w1 : World} {D m g : Nat} {t : TypeId} {cs : Array Value} (h : DS w D m w1) (hr : Row w g t cs) (hne : g ≠ D) : Row w1 g t cs := hr.keep h.grown (fun e => hne (by injection e))
theorem DS.own {w w1 : World} {base e sz D m : Nat} {v : Value} {es : List (List Value)} (k : DS w D m w1) (h : Own w base e sz v es) (hD : D < base) : Own w1 base e sz v es :=
 h.keepG k.grown (by
  cases hv : v.ownBlock with
  | none => exact .inl rfl
  | some g =>
   have := (h.1.lt g hv).1
   refine .inr fun e => ?_
   injection e; omega)
def DrawD (w : World) (D m : Nat) (lo hi : Int) (e : Ending) (w' : World) : Prop := ∃ r : Int, (lo ≤ r ∧ r ≤ hi) ∧ e = .returned (.int .i64 r) ∧ DS w D m w'

theorem NextD {w : World} {D m : Nat} (n : Int) (hd : Dk w D m) (hm : m ≤ 1000000000) (hn : 0 < n) (hn2 : n ≤ 1000000000) :
  Calls Tryz.prog 13 #[.pointer (some ⟨D, 0, none⟩), .int .i64 n] w (DrawD w D (m + 1) 0 (n - 1)) := by
 obtain ⟨dr, h1, h2⟩ := hd
 exact (Next_any D dr n w h2 (by omega) hn (by omega)).mono fun e w' ⟨r, ⟨h1, h2⟩, he, hd', hg⟩ => ⟨r, ⟨h1, by omega⟩, he, ⟨dr + 1, by omega, hd'⟩, hg⟩
theorem SmallD {w : World} {D m : Nat} (hd : Dk w D m) (hm : m ≤ 1000000000) :
  Calls Tryz.prog 40 #[.pointer (some ⟨D, 0, none⟩)] w (DrawD w D (m + 2) 0 600000) := by
 obtain ⟨dr, h1, h2⟩ := hd
 exact (Small_any D dr w h2 (by omega)).mono fun e w' ⟨r, h, he, dr', hdr, hd', hg⟩ => ⟨r, h, he, ⟨dr', by omega, hd'⟩, hg⟩
theorem PickD {w w1 : World} {D m : Nat} (xs : List Int) (lo hi : Int) {n c : Nat} {t : TypeId} {cs : Array Value} (hd : DS w D m w1) (hm : m ≤ 1000000000) (hcs : cs = (xs.map (Value.int .i64)).toArray) (hn : n = xs.length) (hx : 0 < xs.length) (hx2 : xs.length ≤ 1000000) (hb : ∀ x ∈ xs, lo ≤ x ∧ x ≤ hi) :
  Calls Tryz.prog 10 #[.pointer (some ⟨D, 0, none⟩), .slice (some ⟨w1.heap.size, 0, none⟩) n c] (w1.alloc (.cells cs t)) (DrawD w D (m + 1) lo hi) := by
 obtain ⟨⟨dr, h1, h2⟩, h3⟩ := hd
 subst hn
 refine (Pick_any D dr w1.heap.size c xs _ (h2.below ((Below.refl _ _).alloc (Nat.le_refl _) _)) (by omega) hx (by omega) h2.lt (cellsAt_ints _ _ _ _ (by rw [hcs]))).mono fun e w' ⟨r, h, he, hd', hg⟩ => ?_
 exact ⟨r, hb r h, he, ⟨dr + 1, by omega, hd'⟩, gb_trans (gb_alloc h3 _) hg⟩

theorem ModeD {w : World} {D m : Nat} (hd : Dk w D m) (hm : m ≤ 1000000000) :
  Calls Tryz.prog 120 #[.pointer (some ⟨D, 0, none⟩)] w (DrawD w D (m + 1) 0 6) := by
 go_enter Tryz.func120, Tryz.ntmps120
 go_wp2_with fail
 refine (NextD _ hd hm (by omega) (by omega)).mono ?_
 rintro e w1 ⟨r, hr, rfl, h1⟩
 go_wp2
 go_ret
 exact ⟨r, by omega, rfl, h1⟩
theorem RateD {w : World} {D m : Nat} (hd : Dk w D m) (hm : m ≤ 100000000) :
  Calls Tryz.prog 122 #[.pointer (some ⟨D, 0, none⟩)] w (DrawD w D (m + 2) 0 1000000) := by
 go_enter Tryz.func122, Tryz.ntmps122
 go_wp2_with fail
 refine (NextD _ hd (by omega) (by omega) (by omega)).mono ?_
 rintro e w1 ⟨r, hr, rfl, h1⟩
 go_wp2_with fail
 refine (PickD [0, 1, 75000, 93000, 200000, 333333, 420000, 500000, 1000000, r] 0 1000000 h1 (by omega) rfl rfl (by simp) (by simp) (by simp; omega)).mono ?_
 rintro e w2 ⟨r2, hr2, rfl, h2⟩
 go_wp2
 go_ret
 exact ⟨r2, hr2, rfl, h2⟩

theorem Own.setOff {w : World} {base e sz b : Nat} {v : Value} {es : List (List Value)} (h : Own w base e sz v es) (hb : ∀ g, v.ownBlock = some g → g ≠ b) (i : Nat) (u : Value) : Own (w.setCell ⟨b, i, none⟩ u) base e sz v es :=
 h.keepG (grown_set w b i u) (by
  cases hv : v.ownBlock with
  | none => exact .inl rfl
  | some g => exact .inr fun e => hb g hv (by injection e))
theorem Own.offNew {w : World} {base e sz : Nat} {v : Value} {es : List (List Value)} (h : Own w base e sz v es) : ∀ g, v.ownBlock = some g → g ≠ w.heap.size := fun g hg => by
 have := (h.1.lt g hg).2
 omega
theorem Own.formP {w : World} {base e sz : Nat} {v : Value} {es : List (List Value)} (h : Own w base e sz v es) (h0 : 0 < es.length) : ∃ g cap, v = .slice (some ⟨g, 0, none⟩) es.length cap ∧ es.length ≤ cap ∧ base ≤ g ∧ g < w.heap.size := by
 rcases h.1.2 with ⟨rfl, h1⟩ | ⟨g, cap, cur, rfl, hb, hg, hnc, _⟩
 ·omega
 ·exact ⟨g, cap, rfl, hnc, hb, (h.1.lt g rfl).2⟩
theorem Dk.alloc {w : World} {D m : Nat} (h : Dk w D m) (o : Obj) : Dk (w.alloc o) D m := (h.start.alloc o).dk
theorem Dk.draws {w : World} {D m : Nat} (h : Dk w D m) (n : Nat) : Dk (w.drewN n) D m := (h.start.draws n).dk
theorem Dk.drew {w : World} {D m : Nat} (h : Dk w D m) : Dk w.drew D m := h.draws 1
theorem DS.drew {w w1 : World} {D m : Nat} (h : DS w D m w1) : DS w D m w1.drew := h.draws 1
theorem Row.drew {w : World} {g : Nat} {t : TypeId} {cs : Array Value} (h : Row w g t cs) : Row w.drew g t cs := h
theorem CellsAt.alloc {w : World} {sz b off : Nat} {es : List (List Value)} (h : CellsAt w sz b off es) (o : Obj) : CellsAt (w.alloc o) sz b off es := h.below ((Below.refl _ _).alloc (Nat.le_refl _) _) h.1
theorem PickG {w : World} {D m g n c : Nat} (xs : List Int) (lo hi : Int) (hd : Dk w D m) (hm : m ≤ 1000000000) (hs : CellsAt w 1 g 0 (ints xs)) (hg : D < g) (hn : n = xs.length) (hx : 0 < xs.length) (hx2 : xs.length ≤ 1000000) (hb : ∀ x ∈ xs, lo ≤ x ∧ x ≤ hi) :
  Calls Tryz.prog 10 #[.pointer (some ⟨D, 0, none⟩), .slice (some ⟨g, 0, none⟩) n c] w (DrawD w D (m + 1) lo hi) := by
 obtain ⟨dr, h1, h2⟩ := hd
 subst hn
 exact (Pick_any D dr g c xs w h2 (by omega) hx (by omega) hg hs).mono fun e w' ⟨r, h, he, hd', hg⟩ => ⟨r, hb r h, he, ⟨dr + 1, by omega, hd'⟩, hg⟩
theorem cellsAt_lit {w : World} {t : TypeId} {c : Array Value} {xs : List Int} {n : Nat} (hn : w.heap.size = n) (h : c.toList = xs.map (.int .i64)) : CellsAt (w.alloc (.cells c t)) 1 n 0 (ints xs) := by subst hn; exact cellsAt_ints w t c xs h
theorem PickD2 {w1 : World} {D m : Nat} (xs : List Int) (lo hi : Int) {n c : Nat} {t : TypeId} {cs : Array Value} {o : Obj} (hd : Dk w1 D m) (hm : m ≤ 1000000000) (hcs : cs = (xs.map (Value.int .i64)).toArray) (hn : n = xs.length) (hx : 0 < xs.length) (hx2 : xs.length ≤ 1000000) (hb : ∀ x ∈ xs, lo ≤ x ∧ x ≤ hi) :
  Calls Tryz.prog 10 #[.pointer (some ⟨D, 0, none⟩), .slice (some ⟨w1.heap.size + 1, 0, none⟩) n c] ((w1.alloc o).alloc (.cells cs t)) (DrawD (w1.alloc o) D (m + 1) lo hi) := by
 have h := PickD (w := w1.alloc o) (w1 := w1.alloc o) (c := c) (t := t) xs lo hi (hd.alloc o).start hm hcs hn hx hx2 hb
 rwa [World.size_alloc] at h
theorem PickD3 {w1 : World} {D m : Nat} (xs : List Int) (lo hi : Int) {n c : Nat} {t : TypeId} {cs : Array Value} {o : Obj} (hd : Dk w1 D m) (hm : m ≤ 1000000000) (hcs : cs = (xs.map (Value.int .i64)).toArray) (hn : n = xs.length) (hx : 0 < xs.length) (hx2 : xs.length ≤ 1000000) (hb : ∀ x ∈ xs, lo ≤ x ∧ x ≤ hi) :
  Calls Tryz.prog 10 #[.pointer (some ⟨D, 0, none⟩), .slice (some ⟨w1.heap.size, 0, none⟩) n c] ((w1.alloc (.cells cs t)).alloc o) (DrawD ((w1.alloc (.cells cs t)).alloc o) D (m + 1) lo hi) :=
 PickG xs lo hi ((hd.alloc _).alloc _) hm (CellsAt.alloc (cellsAt_lit rfl (by rw [hcs])) _) hd.lt hn hx hx2 hb
end Go.Proofs.YtogdefomigiepaaGreatDoor
/- payrollref2: Mode, nearest, Part, for numbers that are not negative. Written by gen_p2.py. -/
namespace Go.Proofs.YtogdefomigiepaaGreatDoor
open Go.RowKit

def modeB (m : Int) : Bool := decide (0 ≤ m) && decide (m ≤ 6)
theorem rMode_any (m : Int) (w : World) :
  Calls Tryz.prog 125 #[.int .i64 m] w fun e w' => e = .returned (.bool (modeB m)) ∧ w = w' := by
 by_cases h1 : 0 ≤ m
 ·have d1 : decide (m < 0) = false := decide_eq_false (by omega)
  go_enter Tryz.func125, Tryz.ntmps125
  go_wp2
  go_ret
  exact ⟨ret_bool (by unfold modeB; simp [h1]), rfl⟩
 ·have d1 : decide (m < 0) = true := decide_eq_true (by omega)
  go_enter Tryz.func125, Tryz.ntmps125
  go_wp2
  go_ret
  exact ⟨ret_bool (by unfold modeB; simp; omega), rfl⟩
def upI (m r den q : Int) : Int :=
 if r = 0 then 0 else if m = 0 then 0 else if m = 1 then 1 else if m = 2 then 0 else if m = 3 then 1
 else if r = den - r then (if m = 4 then 1 else if m = 5 then 0 else if q % 2 = 0 then 0 else 1)
 else if den - r < r then 1 else 0
def nearN (num den m : Int) : Int := num / den + upI m (num % den) den (num / den)
theorem upI_01 (m r den q : Int) : 0 ≤ upI m r den q ∧ upI m r den q ≤ 1 := by
 unfold upI
 repeat' split
 all_goals omega
theorem nearN_bounds {num den : Int} (m : Int) (_hd : 0 < den) (h0 : 0 ≤ num) : 0 ≤ nearN num den m ∧ nearN num den m ≤ num / den + 1 := by
 have := upI_01 m (num % den) den (num / den)
 have := Int.ediv_nonneg h0 (Int.le_of_lt _hd)
 unfold nearN
 omega
theorem upI_mono {m r1 r2 den q : Int} (h : r1 ≤ r2) (h0 : 0 ≤ r1) : upI m r1 den q ≤ upI m r2 den q := by
 unfold upI
 repeat' split
 all_goals omega
theorem nearN_mono {a b den : Int} (m : Int) (hd : 0 < den) (h : a ≤ b) : nearN a den m ≤ nearN b den m := by
 have hq := Int.ediv_le_ediv hd h
 by_cases e : a / den = b / den
 ·have h1 := Int.emod_add_mul_ediv a den
  have h2 := Int.emod_add_mul_ediv b den
  have hr : a % den ≤ b % den := by rw [e] at h1; omega
  have := upI_mono (m := m) (den := den) (q := a / den) hr (Int.emod_nonneg a (by omega))
  unfold nearN
  rw [← e]
  omega
 ·have h1 := upI_01 m (a % den) den (a / den)
  have h2 := upI_01 m (b % den) den (b / den)
  unfold nearN
  omega
set_option maxRecDepth 100000 in
set_option maxHeartbeats 4000000 in
theorem near_qr (q r den num m : Int) (w : World) (hn : num = q * den + r) (h0 : 0 ≤ r) (h1 : r < den) (hq : 0 ≤ q) (hb : num ≤ 4611686018427387904) (hd : den ≤ 4611686018427387904) (hm : modeB m = true) :
  Calls Tryz.prog 160 #[.int .i64 num, .int .i64 den, .int .i64 m] w fun e w' => e = .returned (.int .i64 (q + upI m r den q)) ∧ w = w' := by
 have hm' : 0 ≤ m ∧ m ≤ 6 := by simpa [modeB] using hm
 have hqd : 0 ≤ q * den := Int.mul_nonneg hq (by omega)
 have hqq : q ≤ q * den := by
  have := Int.mul_le_mul_of_nonneg_left (show (1 : Int) ≤ den by omega) hq
  simpa using this
 have ed : num.tdiv den = q := by
  rw [Int.tdiv_eq_ediv_of_nonneg (by omega), hn, Int.add_comm, Int.add_mul_ediv_right _ _ (by omega), Int.ediv_eq_zero_of_lt h0 h1]
  omega
 have dz : (den == 0) = false := by simp; omega
 have hdz : ¬ den = 0 := by omega
 have ew1 : IntKind.i64.wrap q = q := IntWalk.i64_in _ (by omega)
 have ew2 : IntKind.i64.wrap (q * den) = q * den := IntWalk.i64_in _ (by omega)
 have lt1 : decide (num < q * den) = false := decide_eq_false (by omega)
 have es : num - q * den = r := by omega
 have ln0 : decide (num < 0) = false := decide_eq_false (by omega)
 have HU : Hid (upI m r den q = if r = 0 then 0 else if m = 0 then 0 else if m = 1 then 1 else if m = 2 then 0 else if m = 3 then 1
   else if r = den - r then (if m = 4 then 1 else if m = 5 then 0 else if q % 2 = 0 then 0 else 1)
   else if den - r < r then 1 else 0) := rfl
 have er2 : IntKind.i64.wrap (q + 1) = q + 1 := IntWalk.i64_in _ (by omega)
 obtain ⟨p, hp⟩ : ∃ p, q * den = p := ⟨_, rfl⟩
 have hpq : Hid (q * den = p) := hp
 rw [hp] at hqd hqq ew2 lt1 es
 obtain ⟨u, hu⟩ : ∃ u, upI m r den q = u := ⟨_, rfl⟩
 rw [hu] at HU ⊢
 clear hu hm hn
 by_cases c0 : r = 0
 ·have b0 : (r == 0) = true := by simpa using c0
  have HE : Hid (u = 0) := by rw [Hid, HU.out, if_pos c0]
  have HC := Lib.hid c0
  clear HU c0
  go_enter Tryz.func160, Tryz.ntmps160
  go_wp2
  go_ret
  exact ⟨ret_int (by have := HE.out; omega), rfl⟩
 rw [if_neg c0] at HU
 have b0 : (r == 0) = false := by simpa using c0
 have HC := Lib.hid c0
 clear c0

 by_cases c : m = 0
 ·subst c
  have HE : Hid (u = 0) := by rw [Hid, HU.out]; rfl
  clear HU
  cases bl : decide (den - r < r)
  ·cases bt : (r == den - r)
   all_goals
    go_enter Tryz.func160, Tryz.ntmps160
    go_wp2
    go_ret
    exact ⟨ret_int (by have := HE.out; omega), rfl⟩
  ·cases bt : (r == den - r)
   all_goals
    go_enter Tryz.func160, Tryz.ntmps160
    go_wp2
    go_ret
    exact ⟨ret_int (by have := HE.out; omega), rfl⟩
 rw [if_neg c] at HU
 have bm0 : (m == 0) = false := by simpa using c
 clear c

 by_cases c : m = 1
 ·subst c
  have HE : Hid (u = 1) := by rw [Hid, HU.out]; rfl
  clear HU
  cases bl : decide (den - r < r)
  ·cases bt : (r == den - r)
   all_goals
    go_enter Tryz.func160, Tryz.ntmps160
    go_wp2
    go_ret
    exact ⟨ret_int (by have := HE.out; omega), rfl⟩
  ·cases bt : (r == den - r)
   all_goals
    go_enter Tryz.func160, Tryz.ntmps160
    go_wp2
    go_ret
    exact ⟨ret_int (by have := HE.out; omega), rfl⟩
 rw [if_neg c] at HU
 have bm1 : (m == 1) = false := by simpa using c
 clear c

 by_cases c : m = 2
 ·subst c
  have HE : Hid (u = 0) := by rw [Hid, HU.out]; rfl
  clear HU
  cases bl : decide (den - r < r)
  ·cases bt : (r == den - r)
   all_goals
    go_enter Tryz.func160, Tryz.ntmps160
    go_wp2
    go_ret
    exact ⟨ret_int (by have := HE.out; omega), rfl⟩
  ·cases bt : (r == den - r)
   all_goals
    go_enter Tryz.func160, Tryz.ntmps160
    go_wp2
    go_ret
    exact ⟨ret_int (by have := HE.out; omega), rfl⟩
 rw [if_neg c] at HU
 have bm2 : (m == 2) = false := by simpa using c
 clear c

 by_cases c : m = 3
 ·subst c
  have HE : Hid (u = 1) := by rw [Hid, HU.out]; rfl
  clear HU
  cases bl : decide (den - r < r)
  ·cases bt : (r == den - r)
   all_goals
    go_enter Tryz.func160, Tryz.ntmps160
    go_wp2
    go_ret
    exact ⟨ret_int (by have := HE.out; omega), rfl⟩
  ·cases bt : (r == den - r)
   all_goals
    go_enter Tryz.func160, Tryz.ntmps160
    go_wp2
    go_ret
    exact ⟨ret_int (by have := HE.out; omega), rfl⟩
 rw [if_neg c] at HU
 have bm3 : (m == 3) = false := by simpa using c
 clear c

 by_cases ct : r = den - r
 ·have bt : (r == den - r) = true := by simpa using ct
  have bl : decide (den - r < r) = false := decide_eq_false (by omega)
  rw [if_pos ct] at HU
  have HT := Lib.hid ct
  clear ct
  by_cases c4 : m = 4
  ·subst c4
   have HE : Hid (u = 1) := by rw [Hid, HU.out]; rfl
   clear HU
   go_enter Tryz.func160, Tryz.ntmps160
   go_wp2
   go_ret
   exact ⟨ret_int (by have := HE.out; omega), rfl⟩
  have bm4 : (m == 4) = false := by simpa using c4
  rw [if_neg c4] at HU
  clear c4
  by_cases c5 : m = 5
  ·subst c5
   have HE : Hid (u = 0) := by rw [Hid, HU.out]; rfl
   clear HU
   go_enter Tryz.func160, Tryz.ntmps160
   go_wp2
   go_ret
   exact ⟨ret_int (by have := HE.out; omega), rfl⟩
  have bm5 : (m == 5) = false := by simpa using c5
  rw [if_neg c5] at HU
  clear c5
  have em : q.tmod 2 = q % 2 := Int.tmod_eq_emod_of_nonneg hq
  by_cases c6 : q % 2 = 0
  ·have b6 : (q % 2 == 0) = true := by simpa using c6
   have HE : Hid (u = 0) := by rw [Hid, HU.out, if_pos c6]
   clear HU c6
   go_enter Tryz.func160, Tryz.ntmps160
   go_wp2
   go_ret
   exact ⟨ret_int (by have := HE.out; omega), rfl⟩
  ·have b6 : (q % 2 == 0) = false := by simpa using c6
   have HE : Hid (u = 1) := by rw [Hid, HU.out, if_neg c6]
   clear HU c6
   go_enter Tryz.func160, Tryz.ntmps160
   go_wp2
   go_ret
   exact ⟨ret_int (by have := HE.out; omega), rfl⟩
 have bt : (r == den - r) = false := by simpa using ct
 rw [if_neg ct] at HU
 have HT := Lib.hid ct
 clear ct
 by_cases cl : den - r < r
 ·have bl : decide (den - r < r) = true := decide_eq_true cl
  have HE : Hid (u = 1) := by rw [Hid, HU.out, if_pos cl]
  clear HU cl
  go_enter Tryz.func160, Tryz.ntmps160
  go_wp2
  go_ret
  exact ⟨ret_int (by have := HE.out; omega), rfl⟩
 ·have bl : decide (den - r < r) = false := decide_eq_false cl
  have HE : Hid (u = 0) := by rw [Hid, HU.out, if_neg cl]
  clear HU cl
  go_enter Tryz.func160, Tryz.ntmps160
  go_wp2
  go_ret
  exact ⟨ret_int (by have := HE.out; omega), rfl⟩
end Go.Proofs.YtogdefomigiepaaGreatDoor
/- Plain laws of rounded parts and of divided amounts. -/
namespace Go.Proofs.YtogdefomigiepaaGreatDoor
open Go.RowKit

def partI (a num unit m : Int) : Int := nearN (a * num) (1000000 * unit) m * unit
theorem partI_bounds {a num unit : Int} (m : Int) (ha : 0 ≤ a) (hn : 0 ≤ num) (hn2 : num ≤ 1000000) (hu : 1 ≤ unit) : 0 ≤ partI a num unit m ∧ partI a num unit m ≤ a + unit := by
 have hd : (0 : Int) < 1000000 * unit := by omega
 have hp : 0 ≤ a * num := Int.mul_nonneg ha hn
 obtain ⟨b0, b1⟩ := nearN_bounds m hd hp
 unfold partI
 have hq0 := Int.ediv_nonneg hp (Int.le_of_lt hd)
 have hq1 : a * num / (1000000 * unit) * (1000000 * unit) ≤ a * num := Int.ediv_mul_le _ (by omega)
 have h2 : a * num ≤ a * 1000000 := Int.mul_le_mul_of_nonneg_left hn2 ha
 generalize a * num / (1000000 * unit) = q at *
 generalize nearN (a * num) (1000000 * unit) m = n at *
 have e : q * (1000000 * unit) = 1000000 * (q * unit) := by rw [Int.mul_left_comm]
 have hqa : q * unit ≤ a := by omega
 have hnu : n * unit ≤ (q + 1) * unit := Int.mul_le_mul_of_nonneg_right b1 (by omega)
 rw [Int.add_mul, Int.one_mul] at hnu
 exact ⟨Int.mul_nonneg b0 (by omega), by omega⟩
theorem partI_mono {a b num unit : Int} (m : Int) (hab : a ≤ b) (hn : 0 ≤ num) (hu : 1 ≤ unit) : partI a num unit m ≤ partI b num unit m :=
 Int.mul_le_mul_of_nonneg_right (nearN_mono m (by omega) (Int.mul_le_mul_of_nonneg_right hab hn)) (by omega)

structure Alloc (t : Int) (ws ps : List Int) : Prop where
 len : ps.length = ws.length
 pos : ∀ p ∈ ps, 0 ≤ p
 sum : ps.sum = t
theorem sum_nonneg {l : List Int} (h : ∀ x ∈ l, 0 ≤ x) : 0 ≤ l.sum := by
 induction l with
 | nil => simp
 | cons a r ih =>
  have := h a (by simp)
  have := ih fun x hx => h x (by simp [hx])
  rw [List.sum_cons]; omega
theorem sum_mem {l : List Int} (h : ∀ x ∈ l, 0 ≤ x) {x : Int} (hx : x ∈ l) : x ≤ l.sum := by
 induction l with
 | nil => cases hx
 | cons a r ih =>
  have h0 := h a (by simp)
  have hr := fun y hy => h y (List.mem_cons_of_mem a hy)
  have := sum_nonneg hr
  rw [List.sum_cons]
  rcases List.mem_cons.1 hx with rfl | hx
  ·omega
  ·have := ih hr hx; omega
theorem sum_take_succ {l : List Int} {k : Nat} (h : k < l.length) : (l.take (k + 1)).sum = (l.take k).sum + l[k] := by
 rw [List.take_succ_eq_append_getElem h, List.sum_append]; simp
theorem sum_set {l : List Int} {k : Nat} (h : k < l.length) (v : Int) : (l.set k v).sum = l.sum - l[k] + v := by
 induction l generalizing k with
 | nil => simp at h
 | cons a r ih =>
  cases k with
  | zero => simp only [List.set_cons_zero, List.sum_cons, List.getElem_cons_zero]; omega
  | succ k =>
   have := ih (k := k) (by simpa using h)
   simp only [List.set_cons_succ, List.sum_cons, List.getElem_cons_succ]; omega
theorem sum_take_le {l : List Int} (h : ∀ x ∈ l, 0 ≤ x) (k : Nat) : (l.take k).sum ≤ l.sum := by
 have h1 := List.take_append_drop k l
 have h2 : (l.take k).sum + (l.drop k).sum = l.sum := by rw [← List.sum_append, h1]
 have := sum_nonneg (l := l.drop k) fun x hx => h x (List.mem_of_mem_drop hx)
 omega
theorem sum_bound {l : List Int} {M : Int} (h : ∀ x ∈ l, x ≤ M) : l.sum ≤ M * l.length := by
 induction l with
 | nil => simp
 | cons a r ih =>
  have := h a (by simp)
  have := ih fun x hx => h x (by simp [hx])
  have e : M * ((a :: r).length : Nat) = M * (r.length : Nat) + M := by simp only [List.length_cons]; rw [Int.natCast_succ, Int.mul_add, Int.mul_one]
  rw [List.sum_cons, e]; omega
def floorsI (t s : Int) (ws : List Int) : List Int := ws.map fun x => t * x / s
theorem floors_le {t s : Int} (ht : 0 ≤ t) (hs : 0 < s) : ∀ {ws : List Int}, (∀ x ∈ ws, 0 ≤ x) → (floorsI t s ws).sum * s ≤ t * ws.sum
 | [], _ => by simp [floorsI]
 | a :: r, h => by
  have := floors_le ht hs (ws := r) fun x hx => h x (by simp [hx])
  have h1 : t * a / s * s ≤ t * a := Int.ediv_mul_le _ (by omega)
  unfold floorsI at this ⊢
  rw [List.map_cons, List.sum_cons, List.sum_cons, Int.add_mul, Int.mul_add]
  omega
theorem floors_sum {t : Int} {ws : List Int} (ht : 0 ≤ t) (hs : 0 < ws.sum) (h : ∀ x ∈ ws, 0 ≤ x) : (floorsI t ws.sum ws).sum ≤ t := by
 have := floors_le ht hs h
 exact Int.le_of_mul_le_mul_right this hs
theorem floor_le {t s x : Int} (ht : 0 ≤ t) (hs : 0 < s) (h0 : 0 ≤ x) (h : x ≤ s) : 0 ≤ t * x / s ∧ t * x / s ≤ t := by
 refine ⟨Int.ediv_nonneg (Int.mul_nonneg ht h0) (by omega), ?_⟩
 have h1 : t * x / s * s ≤ t * x := Int.ediv_mul_le _ (by omega)
 have h2 : t * x ≤ t * s := Int.mul_le_mul_of_nonneg_left h ht
 exact Int.le_of_mul_le_mul_right (Int.le_trans h1 h2) hs
structure AllocAt (t : Int) (n : Nat) (m : Int) (ps : List Int) : Prop where
 len : ps.length = n
 pos : ∀ p ∈ ps, 0 ≤ p
 sum : ps.sum + m = t
theorem AllocAt.step {t m : Int} {n : Nat} {ps : List Int} (h : AllocAt t n m ps) {k : Nat} (hk : k < ps.length) : AllocAt t n (m - 1) (ps.set k (ps[k] + 1)) := by
 refine ⟨by rw [List.length_set]; exact h.len, fun p hp => ?_, by rw [sum_set hk]; have := h.sum; omega⟩
 rcases List.mem_or_eq_of_mem_set hp with hp | rfl
 ·exact h.pos p hp
 ·have := h.pos _ (List.getElem_mem hk); omega
theorem AllocAt.le {t m : Int} {n : Nat} {ps : List Int} (h : AllocAt t n m ps) (hm : 0 ≤ m) {k : Nat} (hk : k < ps.length) : 0 ≤ ps[k] ∧ ps[k] ≤ t := by
 have h1 := h.pos _ (List.getElem_mem hk)
 have h2 := sum_mem h.pos (List.getElem_mem hk)
 have := h.sum
 omega
theorem Alloc.of {t : Int} {ws ps : List Int} (h : AllocAt t ws.length 0 ps) : Alloc t ws ps := ⟨h.len, h.pos, by have := h.sum; omega⟩
def floorsTo (t s : Int) (ws : List Int) (k : Nat) : List Int := floorsI t s (ws.take k) ++ List.replicate (ws.length - k) 0
theorem floorsTo_len (t s : Int) (ws : List Int) {k : Nat} (hk : k ≤ ws.length) : (floorsTo t s ws k).length = ws.length := by simp [floorsTo, floorsI]; omega
theorem floorsTo_zero (t s : Int) (ws : List Int) : floorsTo t s ws 0 = List.replicate ws.length 0 := by simp [floorsTo, floorsI]
theorem floorsTo_all (t s : Int) (ws : List Int) : floorsTo t s ws ws.length = floorsI t s ws := by simp [floorsTo]
theorem floorsTo_set (t s : Int) (ws : List Int) {k : Nat} (hk : k < ws.length) : (floorsTo t s ws k).set k (t * ws[k] / s) = floorsTo t s ws (k + 1) := by
 unfold floorsTo
 have hl : (floorsI t s (ws.take k)).length = k := by simp [floorsI]; omega
 rw [List.set_append_right _ _ (by omega), hl, Nat.sub_self, List.take_succ_eq_append_getElem hk, floorsI, floorsI, List.map_append, List.append_assoc]
 congr 1
 obtain ⟨m, hm⟩ : ∃ m, ws.length - k = m + 1 := ⟨ws.length - k - 1, by omega⟩
 rw [hm, show ws.length - (k + 1) = m by omega, List.replicate_succ, List.set_cons_zero]
 rfl

end Go.Proofs.YtogdefomigiepaaGreatDoor
/- Plain functions on bytes: what the two texts on names (packages token and payrollref17) compute. No program in sight. -/
namespace Go.Proofs.YtogdefomigiepaaGreatDoor
open Go.RowKit

def lowB (c : Int) : Bool := decide (97 ≤ c) && decide (c ≤ 122)
def digB (c : Int) : Bool := decide (48 ≤ c) && decide (c ≤ 57)
def wcB (c : Int) : Bool := lowB c || digB c || decide (c = 95)
def wcount (l : List UInt8) : Nat := (l.takeWhile fun c => wcB c.toNat).length
def wordLen : List UInt8 → Nat
 | [] => 0
 | c :: r => if lowB c.toNat then 1 + wcount r else 0

theorem wcount_cons (c : UInt8) (r : List UInt8) : wcount (c :: r) = if wcB c.toNat then 1 + wcount r else 0 := by
 unfold wcount
 rw [List.takeWhile_cons]
 split <;> simp; omega
theorem drop_bytes (s : ByteArray) (k : Nat) (h : k < s.size) : s.data.toList.drop k = s[k] :: s.data.toList.drop (k + 1) := by
 rw [List.drop_eq_getElem_cons (by simpa using h)]; rfl
theorem wcount_drop (s : ByteArray) (k : Nat) (h : k < s.size) : wcount (s.data.toList.drop k) = if wcB s[k].toNat then 1 + wcount (s.data.toList.drop (k + 1)) else 0 := by
 rw [drop_bytes s k h, wcount_cons]
theorem wcount_drop_end (s : ByteArray) (k : Nat) (h : s.size ≤ k) : wcount (s.data.toList.drop k) = 0 := by
 rw [List.drop_eq_nil_of_le (by simpa using h)]; rfl
theorem wcount_le (l : List UInt8) : wcount l ≤ l.length := by
 unfold wcount; exact (List.takeWhile_sublist _).length_le
theorem wordLen_le (l : List UInt8) : wordLen l ≤ l.length := by
 cases l with
 | nil => simp [wordLen]
 | cons c r => simp only [wordLen]; split <;> simp; have := wcount_le r; omega
theorem wordLen_bytes (s : ByteArray) (h : 0 < s.size) : wordLen s.data.toList = if lowB s[0].toNat then 1 + wcount (s.data.toList.drop 1) else 0 := by
 have := drop_bytes s 0 h
 rw [List.drop_zero] at this
 rw [this]; rfl
theorem wcB_low {c : Int} (h : lowB c = true) : wcB c = true := by simp [wcB, h]
theorem wcB_dig {c : Int} (h : digB c = true) : wcB c = true := by simp [wcB, h]
theorem wcB_95 {c : Int} (h : (c == 95) = true) : wcB c = true := by simp at h; simp [wcB, h]
theorem wcB_no {c : Int} (h : lowB c = false) (h2 : digB c = false) (h3 : (c == 95) = false) : wcB c = false := by simp at h3; simp [wcB, h, h2, h3]

def kws : List (List UInt8) := [
 [97, 103, 114, 101, 101, 109, 101, 110, 116],
 [105, 110, 112, 117, 116],
 [112, 97, 115, 116],
 [115, 99, 97, 108, 101],
 [114, 117, 108, 101],
 [112, 97, 121],
 [102, 114, 111, 109],
 [114, 111, 117, 110, 100, 101, 100],
 [116, 111],
 [105, 102],
 [116, 104, 101, 110],
 [101, 108, 115, 101],
 [97, 110, 100],
 [111, 114],
 [110, 111, 116],
 [116, 114, 117, 101],
 [102, 97, 108, 115, 101],
 [109, 105, 110],
 [109, 97, 120],
 [114, 111, 117, 110, 100],
 [97, 118, 101, 114, 97, 103, 101],
 [108, 97, 115, 116],
 [109, 111, 110, 101, 121],
 [104, 111, 117, 114, 115],
 [100, 97, 121, 115],
 [110, 117, 109, 98, 101, 114],
 [98, 111, 111, 108],
 [100, 111, 119, 110],
 [117, 112],
 [102, 108, 111, 111, 114],
 [99, 101, 105, 108, 105, 110, 103],
 [104, 97, 108, 102, 95, 117, 112],
 [104, 97, 108, 102, 95, 100, 111, 119, 110],
 [104, 97, 108, 102, 95, 101, 118, 101, 110]]
def kwB (l : List UInt8) : Bool := kws.any fun k => l == k
def nameB (l : List UInt8) : Bool := decide (0 < l.length) && (decide (l.length ≤ 24) && ((wordLen l == l.length) && !kwB l))

def kwAt (i : Nat) : ByteArray := ⟨(kws.getD i []).toArray⟩
def kwArr : Array Value := (kws.map fun l => Value.string ⟨l.toArray⟩).toArray
theorem kwArr_at (i : Nat) (h : i < 34) : kwArr[i]? = some (.string (kwAt i)) := by
 have hl : i < kws.length := h
 simp [kwArr, kwAt, List.getD, hl]
theorem kwAt_toList (i : Nat) : (kwAt i).toList = kws.getD i [] := by rw [ByteArray.toList_eq]; simp [kwAt]
theorem kwB_yes {l : List UInt8} {i : Nat} (h : i < 34) (he : (kws.getD i [] == l) = true) : kwB l = true := by
 have hl : i < kws.length := h
 unfold kwB
 rw [List.any_eq_true]
 refine ⟨kws.getD i [], ?_, ?_⟩
 ·simp [List.getD, hl]
 ·rw [beq_iff_eq] at he ⊢; exact he.symm
theorem kwB_no {l : List UInt8} (h : ∀ i, i < 34 → (kws.getD i [] == l) = false) : kwB l = false := by
 unfold kwB
 rw [List.any_eq_false]
 intro x hx
 obtain ⟨i, hi, rfl⟩ := List.getElem_of_mem hx
 have := h i hi
 simp [List.getD, hi] at this ⊢
 exact fun hh => this hh.symm

theorem wordLen_drop (s : ByteArray) (k : Nat) (h : k < s.size) : wordLen (s.data.toList.drop k) = if lowB s[k].toNat then wcount (s.data.toList.drop k) else 0 := by
 rw [wcount_drop s k h, drop_bytes s k h]
 simp only [wordLen]
 cases hl : lowB s[k].toNat
 ·simp
 ·simp [wcB_low hl]
theorem wordLen_drop_end (s : ByteArray) (k : Nat) (h : s.size ≤ k) : wordLen (s.data.toList.drop k) = 0 := by
 rw [List.drop_eq_nil_of_le (by simpa using h)]; rfl
theorem nameB_long {l : List UInt8} (h : ¬ l.length ≤ 24) : nameB l = false := by simp [nameB, h]
theorem nameB_word {l : List UInt8} (h : (wordLen l == l.length) = false) : nameB l = false := by simp only [nameB, h, Bool.false_and, Bool.and_false]
theorem nameB_kw {l : List UInt8} (h : 0 < l.length) (h1 : l.length ≤ 24) (h2 : (wordLen l == l.length) = true) : nameB l = !kwB l := by simp only [nameB, h2, h, h1, decide_true, Bool.true_and]

end Go.Proofs.YtogdefomigiepaaGreatDoor
/- Plain laws of contributions: schemes, levies, cumulated earnings. -/
namespace Go.Proofs.YtogdefomigiepaaGreatDoor
open Go.RowKit

structure Sc where
 code : ByteArray
 ee : Int
 er : Int
 floor : Int
 ceil : Int
 unit : Int
 mode : Int
 ded : Bool
def Sc.vals (s : Sc) : List Value := [.string s.code, .int .i64 s.ee, .int .i64 s.er, .int .i64 s.floor, .int .i64 s.ceil, .int .i64 s.unit, .int .i64 s.mode, .bool s.ded]
structure ScOk (s : Sc) : Prop where
 name : nameB s.code.data.toList = true
 ee : 0 ≤ s.ee ∧ s.ee ≤ 1000000
 er : 0 ≤ s.er ∧ s.er ≤ 1000000
 floor : 0 ≤ s.floor ∧ s.floor ≤ s.ceil
 ceil : 1 ≤ s.ceil ∧ s.ceil ≤ 1000000000
 unit : 1 ≤ s.unit ∧ s.unit ≤ 100
 mode : modeB s.mode = true
structure Lv where
 base : Int
 ee : Int
 er : Int
def Lv.vals (v : Lv) : List Value := [.int .i64 v.base, .int .i64 v.ee, .int .i64 v.er]
def levyI (s : Sc) (b : Int) : Lv := ⟨b, partI b s.ee s.unit s.mode, partI b s.er s.unit s.mode⟩
def qual (f : Int) (l : List Int) : Int := (l.map fun x => if f ≤ x then x else 0).sum
def cumI (f c : Int) (l : List Int) : Int := min (qual f l) (l.length * c)
def nextI (s : Sc) (l : List Int) : Lv :=
 let a := levyI s (cumI s.floor s.ceil l)
 let b := levyI s (cumI s.floor s.ceil (l.take (l.length - 1)))
 ⟨a.base - b.base, a.ee - b.ee, a.er - b.er⟩
theorem qual_take_succ {f : Int} {l : List Int} {k : Nat} (h : k < l.length) : qual f (l.take (k + 1)) = qual f (l.take k) + if f ≤ l[k] then l[k] else 0 := by
 rw [List.take_succ_eq_append_getElem h, qual, qual, List.map_append, List.sum_append]; simp
theorem qual_nonneg {f : Int} {l : List Int} (h : ∀ x ∈ l, 0 ≤ x) : 0 ≤ qual f l := by
 refine sum_nonneg fun y hy => ?_
 obtain ⟨x, hx, rfl⟩ := List.mem_map.1 hy
 have := h x hx
 split <;> omega
theorem qual_take_le {f : Int} {l : List Int} (h : ∀ x ∈ l, 0 ≤ x) (k : Nat) : qual f (l.take k) ≤ qual f l := by
 have hm : ∀ y ∈ l.map (fun x => if f ≤ x then x else 0), 0 ≤ y := fun y hy => by
  obtain ⟨x, hx, rfl⟩ := List.mem_map.1 hy
  have := h x hx
  split <;> omega
 have := sum_take_le hm k
 rwa [← List.map_take] at this
theorem qual_le {f M : Int} {l : List Int} (h : ∀ x ∈ l, 0 ≤ x ∧ x ≤ M) : qual f l ≤ M * l.length := by
 have := sum_bound (l := l.map fun x => if f ≤ x then x else 0) (M := M) fun y hy => by
  obtain ⟨x, hx, rfl⟩ := List.mem_map.1 hy
  have := h x hx
  split <;> omega
 simpa [qual] using this
theorem cumI_nonneg {f c : Int} {l : List Int} (h : ∀ x ∈ l, 0 ≤ x) (hc : 0 ≤ c) : 0 ≤ cumI f c l := by
 have h1 := qual_nonneg (f := f) h
 have h2 : 0 ≤ (l.length : Int) * c := Int.mul_nonneg (by omega) hc
 unfold cumI; omega
theorem cumI_take {f c : Int} {l : List Int} (h : ∀ x ∈ l, 0 ≤ x) (hc : 0 ≤ c) (k : Nat) : cumI f c (l.take k) ≤ cumI f c l := by
 have h1 := qual_take_le (f := f) h k
 have h3 : (l.take k).length ≤ l.length := List.length_take_le' _ _
 have h2 : ((l.take k).length : Int) * c ≤ (l.length : Int) * c := Int.mul_le_mul_of_nonneg_right (by omega) hc
 unfold cumI; omega
theorem cumI_le {f c M : Int} {l : List Int} (h : ∀ x ∈ l, 0 ≤ x ∧ x ≤ M) : cumI f c l ≤ M * l.length := by
 have := qual_le (f := f) h
 unfold cumI; omega
structure LvOk (v : Lv) (M : Int) : Prop where
 base : 0 ≤ v.base ∧ v.base ≤ M
 ee : 0 ≤ v.ee ∧ v.ee ≤ M
 er : 0 ≤ v.er ∧ v.er ≤ M
theorem nextI_ok {s : Sc} (hs : ScOk s) {l : List Int} {M : Int} (h : ∀ x ∈ l, 0 ≤ x ∧ x ≤ M) : LvOk (nextI s l) (M * l.length + 100) := by
 have h0 : ∀ x ∈ l, 0 ≤ x := fun x hx => (h x hx).1
 have hc0 : 0 ≤ s.ceil := by have := hs.ceil; omega
 have a0 := cumI_nonneg (f := s.floor) h0 hc0
 have b0 := cumI_nonneg (f := s.floor) (l := l.take (l.length - 1)) (fun x hx => h0 x (List.mem_of_mem_take hx)) hc0
 have ab := cumI_take (f := s.floor) h0 hc0 (l.length - 1)
 have al := cumI_le (f := s.floor) (c := s.ceil) h
 have hu := hs.unit
 have e1 := partI_bounds s.mode a0 hs.ee.1 hs.ee.2 hu.1
 have e2 := partI_bounds s.mode b0 hs.ee.1 hs.ee.2 hu.1
 have e3 := partI_mono (num := s.ee) (unit := s.unit) s.mode ab hs.ee.1 hu.1
 have r1 := partI_bounds s.mode a0 hs.er.1 hs.er.2 hu.1
 have r2 := partI_bounds s.mode b0 hs.er.1 hs.er.2 hu.1
 have r3 := partI_mono (num := s.er) (unit := s.unit) s.mode ab hs.er.1 hu.1
 unfold nextI levyI
 exact ⟨⟨by dsimp only; omega, by dsimp only; omega⟩, ⟨by dsimp only; omega, by dsimp only; omega⟩, ⟨by dsimp only; omega, by dsimp only; omega⟩⟩

end Go.Proofs.YtogdefomigiepaaGreatDoor
/- Lists of structs that bear codes out of a list of literals; what a deck returns of them. -/
namespace Go.Proofs.YtogdefomigiepaaGreatDoor
open Go.RowKit

structure Wg where
 code : ByteArray
 kind : Int
 tax : Bool
 ins : Bool
 att : Bool
 acc : Int
def Wg.vals (x : Wg) : List Value := [.string x.code, .int .i64 x.kind, .bool x.tax, .bool x.ins, .bool x.att, .int .i64 x.acc]
structure Dd where
 code : ByteArray
 rank : Int
 before : Bool
 amt : Int
 rate : Int
 cap : Int
def Dd.vals (x : Dd) : List Value := [.string x.code, .int .i64 x.rank, .bool x.before, .int .i64 x.amt, .int .i64 x.rate, .int .i64 x.cap]
structure Od where
 code : ByteArray
 rank : Int
 day : Int
 amt : Int
 total : Int
def Od.vals (x : Od) : List Value := [.string x.code, .int .i64 x.rank, .int .i64 x.day, .int .i64 x.amt, .int .i64 x.total]
structure El where
 code : ByteArray
 amt : Int
def El.vals (x : El) : List Value := [.string x.code, .int .i64 x.amt]

structure Coded {α : Type} (code : α → ByteArray) (ok : α → Prop) (lits : List ByteArray) (k : Nat) (acc : List α) : Prop where
 sub : (acc.map code).Sublist (lits.take k)
 ok : ∀ x ∈ acc, ok x
theorem Coded.nil {α : Type} (code : α → ByteArray) (ok : α → Prop) (lits : List ByteArray) : Coded code ok lits 0 [] := ⟨List.nil_sublist _, fun _ h => (by cases h)⟩
theorem Coded.skip {α : Type} {code : α → ByteArray} {ok : α → Prop} {lits : List ByteArray} {k : Nat} {acc : List α} (h : Coded code ok lits k acc) : Coded code ok lits (k + 1) acc :=
 ⟨h.sub.trans (List.take_sublist_take_left (Nat.le_succ k)), h.ok⟩
theorem Coded.snoc {α : Type} {code : α → ByteArray} {ok : α → Prop} {lits : List ByteArray} {k : Nat} {acc : List α} (h : Coded code ok lits k acc) (hk : k < lits.length) {x : α} (hx : code x = lits[k]) (ho : ok x) : Coded code ok lits (k + 1) (acc ++ [x]) := by
 refine ⟨?_, fun y hy => ?_⟩
 ·rw [List.map_append, List.take_succ_eq_append_getElem hk, ← hx]
  exact h.sub.append (List.Sublist.refl _)
 ·rcases List.mem_append.1 hy with hy | hy
  ·exact h.ok y hy
  ·rw [List.mem_singleton.1 hy]; exact ho
theorem Coded.len {α : Type} {code : α → ByteArray} {ok : α → Prop} {lits : List ByteArray} {k : Nat} {acc : List α} (h : Coded code ok lits k acc) : acc.length ≤ k := by
 have := h.sub.length_le
 rw [List.length_map, List.length_take] at this
 omega
theorem Coded.mem {α : Type} {code : α → ByteArray} {ok : α → Prop} {lits : List ByteArray} {k : Nat} {acc : List α} (h : Coded code ok lits k acc) {x : α} (hx : x ∈ acc) : code x ∈ lits :=
 List.mem_of_mem_take (h.sub.subset (List.mem_map.2 ⟨x, hx, rfl⟩))
def AscB (l : List ByteArray) : Bool := match l with
 | a :: b :: r => decide (a.data.toList < b.data.toList) && AscB (b :: r)
 | _ => true
theorem ascB_pair : ∀ {l : List ByteArray}, AscB l = true → l.Pairwise fun a b => a.toList < b.toList
 | [], _ => .nil
 | [a], _ => List.pairwise_singleton _ _
 | a :: b :: r, h => by
  simp only [AscB, Bool.and_eq_true, decide_eq_true_eq] at h
  have ih := ascB_pair h.2
  refine List.pairwise_cons.2 ⟨fun c hc => ?_, ih⟩
  have hab : a.toList < b.toList := by rw [ByteArray.toList_eq, ByteArray.toList_eq]; exact h.1
  rcases List.mem_cons.1 hc with rfl | hc
  ·exact hab
  ·exact List.lt_trans hab ((List.pairwise_cons.1 ih).1 c hc)
theorem Coded.asc {α : Type} {code : α → ByteArray} {ok : α → Prop} {lits : List ByteArray} {k : Nat} {acc : List α} (h : Coded code ok lits k acc) (ha : AscB lits = true) : acc.Pairwise fun a b => (code a).toList < (code b).toList :=
 (List.pairwise_map (f := code) (R := fun a b => a.toList < b.toList)).1 (((ascB_pair ha).sublist (List.take_sublist _ _)).sublist h.sub)
def LstD {α : Type} (code : α → ByteArray) (ok : α → Prop) (lits : List ByteArray) (vals : α → List Value) (E sz : Nat) (w : World) (D m : Nat) (e : Ending) (w' : World) : Prop :=
 ∃ (v : Value) (acc : List α), e = .returned v ∧ Coded code ok lits lits.length acc ∧ Own w' w.heap.size E sz v (acc.map vals) ∧ DS w D m w'
theorem Row.lit {w : World} {g : Nat} {t : TypeId} {lits : List ByteArray} (h : Row w g t (lits.map Value.string).toArray) {k : Nat} (hk : k < lits.length) : w.cell? ⟨g, k, none⟩ = some (.string lits[k]) := by
 rw [h.cell k]; simp [hk]

def litW : List ByteArray := [⟨#[98, 111, 110, 117, 115]⟩, ⟨#[99, 97, 114]⟩, ⟨#[110, 105, 103, 104, 116]⟩, ⟨#[115, 97, 108, 97, 114, 121]⟩]
def litC : List ByteArray := [⟨#[99, 108, 117, 98]⟩, ⟨#[108, 111, 97, 110]⟩, ⟨#[112, 108, 97, 110]⟩, ⟨#[117, 110, 105, 111, 110]⟩]
def litS : List ByteArray := [⟨#[99, 97, 114, 101]⟩, ⟨#[104, 101, 97, 108, 116, 104]⟩, ⟨#[112, 101, 110, 115, 105, 111, 110]⟩]
def litO : List ByteArray := [⟨#[99, 104, 105, 108, 100]⟩, ⟨#[99, 105, 116, 121]⟩, ⟨#[99, 111, 117, 114, 116]⟩, ⟨#[116, 97, 120, 49]⟩, ⟨#[116, 97, 120, 50]⟩]
theorem litW_name : ∀ c ∈ litW, nameB c.data.toList = true := by decide +kernel
theorem litC_name : ∀ c ∈ litC, nameB c.data.toList = true := by decide +kernel
theorem litS_name : ∀ c ∈ litS, nameB c.data.toList = true := by decide +kernel
theorem litO_name : ∀ c ∈ litO, nameB c.data.toList = true := by decide +kernel
theorem litW_asc : AscB litW = true := by decide +kernel
theorem litC_asc : AscB litC = true := by decide +kernel
theorem litS_asc : AscB litS = true := by decide +kernel
theorem litO_asc : AscB litO = true := by decide +kernel
structure WgOk (x : Wg) : Prop where
 kind : x.kind = 1 ∨ x.kind = 2
 att : x.kind = 2 → x.att = false
 acc : 1000 ≤ x.acc ∧ x.acc ≤ 9999
structure DdOk (x : Dd) : Prop where
 rank : 0 ≤ x.rank ∧ x.rank ≤ 99
 amt : 0 ≤ x.amt ∧ x.amt ≤ 600000
 rate : 0 ≤ x.rate ∧ x.rate ≤ 1000000
 cap : 0 ≤ x.cap ∧ x.cap ≤ 1000000000
structure OdOk (x : Od) : Prop where
 rank : 0 ≤ x.rank ∧ x.rank ≤ 9
 day : 0 ≤ x.day ∧ x.day ≤ 84005
 amt : 0 ≤ x.amt ∧ x.amt ≤ 600000
 total : 0 ≤ x.total ∧ x.total ≤ 600000
def ElOk0 (x : El) : Prop := 0 ≤ x.amt ∧ x.amt ≤ 600000
theorem rowSc : RowTy Tryz.prog 51 131 8 72 := by
 obtain ⟨i, hi, hz, hs, hb⟩ := info_parts (show (Tryz.prog.info? 131).map (fun i => (i.zero, i.size, i.bytes)) = some (some (.agg #[.string ⟨#[]⟩, .int .i64 0, .int .i64 0, .int .i64 0, .int .i64 0, .int .i64 0, .int .i64 0, .bool false]), 8, 72) by kernel_rfl)
 exact ⟨Tryz.underlying51, ⟨i, _, hi, hz, hs, hb, rfl⟩, by omega⟩
theorem rowWg : RowTy Tryz.prog 50 120 6 40 := by
 obtain ⟨i, hi, hz, hs, hb⟩ := info_parts (show (Tryz.prog.info? 120).map (fun i => (i.zero, i.size, i.bytes)) = some (some (.agg #[.string ⟨#[]⟩, .int .i64 0, .bool false, .bool false, .bool false, .int .i64 0]), 6, 40) by kernel_rfl)
 exact ⟨Tryz.underlying50, ⟨i, _, hi, hz, hs, hb, rfl⟩, by omega⟩
theorem rowDd : RowTy Tryz.prog 60 170 6 56 := by
 obtain ⟨i, hi, hz, hs, hb⟩ := info_parts (show (Tryz.prog.info? 170).map (fun i => (i.zero, i.size, i.bytes)) = some (some (.agg #[.string ⟨#[]⟩, .int .i64 0, .bool false, .int .i64 0, .int .i64 0, .int .i64 0]), 6, 56) by kernel_rfl)
 exact ⟨Tryz.underlying60, ⟨i, _, hi, hz, hs, hb, rfl⟩, by omega⟩
theorem rowOd : RowTy Tryz.prog 61 202 5 48 := by
 obtain ⟨i, hi, hz, hs, hb⟩ := info_parts (show (Tryz.prog.info? 202).map (fun i => (i.zero, i.size, i.bytes)) = some (some (.agg #[.string ⟨#[]⟩, .int .i64 0, .int .i64 0, .int .i64 0, .int .i64 0]), 5, 48) by kernel_rfl)
 exact ⟨Tryz.underlying61, ⟨i, _, hi, hz, hs, hb, rfl⟩, by omega⟩
theorem rowEl : RowTy Tryz.prog 65 112 2 24 := by
 obtain ⟨i, hi, hz, hs, hb⟩ := info_parts (show (Tryz.prog.info? 112).map (fun i => (i.zero, i.size, i.bytes)) = some (some (.agg #[.string ⟨#[]⟩, .int .i64 0]), 2, 24) by kernel_rfl)
 exact ⟨Tryz.underlying65, ⟨i, _, hi, hz, hs, hb, rfl⟩, by omega⟩
theorem wideMap {α : Type} {vals : α → List Value} {sz : Nat} (h : ∀ x, (vals x).length = sz ∧ ∀ u ∈ vals x, u.oneCell' = true) (l : List α) : Wide sz (l.map vals) := fun y hy => by
 obtain ⟨x, _, rfl⟩ := List.mem_map.1 hy
 exact h x
theorem wideSc (l : List Sc) : Wide 8 (l.map Sc.vals) := wideMap (vals := Sc.vals) (fun x => ⟨rfl, by simp [Sc.vals, Value.oneCell']⟩) l
theorem wideWg (l : List Wg) : Wide 6 (l.map Wg.vals) := wideMap (vals := Wg.vals) (fun x => ⟨rfl, by simp [Wg.vals, Value.oneCell']⟩) l
theorem wideDd (l : List Dd) : Wide 6 (l.map Dd.vals) := wideMap (vals := Dd.vals) (fun x => ⟨rfl, by simp [Dd.vals, Value.oneCell']⟩) l
theorem wideOd (l : List Od) : Wide 5 (l.map Od.vals) := wideMap (vals := Od.vals) (fun x => ⟨rfl, by simp [Od.vals, Value.oneCell']⟩) l
theorem wideEl (l : List El) : Wide 2 (l.map El.vals) := wideMap (vals := El.vals) (fun x => ⟨rfl, by simp [El.vals, Value.oneCell']⟩) l

end Go.Proofs.YtogdefomigiepaaGreatDoor
