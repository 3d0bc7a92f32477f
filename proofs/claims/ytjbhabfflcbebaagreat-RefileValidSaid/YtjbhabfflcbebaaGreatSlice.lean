/- A slice in memory that reads as a list of elements, each of so many cells; one that the call owns; append. -/
import Derived.Test.YtjbhabfflcbebaaGreatKit
import Derived.Maps.AppendAt
import Derived.Deep.AppendLies
import Derived.Laws.OwnMore
import Derived.OwnWalk
namespace Go.Proofs.YtjbhabfflcbebaaGreat
open Go.RowKit

/-- the cells of a row of elements -/
def CellsAt (w : World) (sz b off : Nat) (es : List (List Value)) : Prop :=
  b < w.heap.size ∧ ∀ i e, es[i]? = some e → ∀ j u, e[j]? = some u → w.cell? ⟨b, off + i * sz + j, none⟩ = some u
/-- v is a slice whose elements, of sz cells each, read as es -/
def Sl (w : World) (sz : Nat) (v : Value) (es : List (List Value)) : Prop :=
  ∃ A cap, v = .slice A es.length cap ∧ es.length ≤ cap ∧ cap ≤ maxLen ∧ (A = none → cap = 0) ∧ (es = [] ∨ ∃ b off, A = some ⟨b, off, none⟩ ∧ CellsAt w sz b off es)
/-- all elements have sz cells, each of them a value of one cell -/
def Wide (sz : Nat) (es : List (List Value)) : Prop := ∀ x ∈ es, x.length = sz ∧ ∀ u ∈ x, u.oneCell' = true

theorem CellsAt.below {w w' : World} {B sz b off : Nat} {es : List (List Value)} (h : CellsAt w sz b off es) (hb : Below B w w') (hB : b < B) : CellsAt w' sz b off es :=
  ⟨Nat.lt_of_lt_of_le h.1 hb.size, fun i e hi j u hj => (hb.cell (p := ⟨b, _, none⟩) hB).trans (h.2 i e hi j u hj)⟩
theorem Sl.below {w w' : World} {sz : Nat} {v : Value} {es : List (List Value)} (h : Sl w sz v es) (hb : Below w.heap.size w w') : Sl w' sz v es := by
  obtain ⟨A, cap, rfl, h1, h2, h0, h3⟩ := h
  refine ⟨A, cap, rfl, h1, h2, h0, ?_⟩
  rcases h3 with rfl | ⟨b, off, rfl, hc⟩
  · exact .inl rfl
  · exact .inr ⟨b, off, rfl, hc.below hb hc.1⟩
theorem Sl.nil (w : World) (sz : Nat) : Sl w sz (.slice none 0 0) [] := ⟨none, 0, rfl, Nat.le_refl _, Nat.zero_le _, fun _ => rfl, .inl rfl⟩

theorem Wide.nil (sz : Nat) : Wide sz [] := fun _ h => by cases h
theorem Wide.append {sz : Nat} {a b : List (List Value)} (h : Wide sz a) (k : Wide sz b) : Wide sz (a ++ b) := fun x hx => by
  rcases List.mem_append.1 hx with hx | hx
  · exact h x hx
  · exact k x hx
theorem Wide.flat {sz : Nat} {es : List (List Value)} (h : Wide sz es) : es.flatten.length = es.length * sz := by
  induction es with
  | nil => simp
  | cons x r ih =>
    rw [List.flatten_cons, List.length_append, (h x (by simp)).1, ih fun y hy => h y (by simp [hy]), List.length_cons, Nat.add_mul, Nat.one_mul, Nat.add_comm]
theorem Wide.get {sz : Nat} (hsz : 0 < sz) {es : List (List Value)} (h : Wide sz es) (j : Nat) : es.flatten[j]? = (es[j / sz]?).bind (·[j % sz]?) := by
  induction es generalizing j with
  | nil => simp
  | cons x r ih =>
    have hx := (h x (by simp)).1
    rw [List.flatten_cons]
    by_cases hj : j < sz
    · rw [List.getElem?_append_left (by omega), Nat.div_eq_of_lt hj, Nat.mod_eq_of_lt hj]; simp
    · rw [List.getElem?_append_right (by omega), ih (fun y hy => h y (by simp [hy])), hx]
      have e1 : j / sz = (j - sz) / sz + 1 := by
        have : j = (j - sz) + sz := by omega
        conv => lhs; rw [this]
        rw [Nat.add_div_right _ hsz]
      have e2 : j % sz = (j - sz) % sz := by
        have : j = (j - sz) + sz := by omega
        conv => lhs; rw [this]
        rw [Nat.add_mod_right]
      rw [e1, e2, List.getElem?_cons_succ]
theorem Wide.one {sz : Nat} {es : List (List Value)} (h : Wide sz es) : ∀ u ∈ es.flatten, u.oneCell' = true := fun u hu => by
  obtain ⟨x, hx, hux⟩ := List.mem_flatten.1 hu
  exact (h x hx).2 u hux

/-- v is a slice of the call's own, from block base on, of elements of type e -/
def Own (w : World) (base e sz : Nat) (v : Value) (es : List (List Value)) : Prop := w.ownsRow base e sz v es.length es.flatten ∧ Wide sz es

theorem Own.nil (w : World) (base e sz : Nat) : Own w base e sz (.slice none 0 0) [] := ⟨w.ownsRow_nil base e sz, Wide.nil sz⟩
theorem Own.alloc {w : World} {base e sz : Nat} {v : Value} {es : List (List Value)} (h : Own w base e sz v es) (o : Obj) : Own (w.alloc o) base e sz v es := ⟨h.1.alloc o, h.2⟩
theorem Own.kept {w w' : World} {base e sz : Nat} {v : Value} {es : List (List Value)} (h : Own w base e sz v es) (hb : Below w.heap.size w w') : Own w' base e sz v es := by
  refine ⟨h.1.kept (row := none) ⟨hb.os, hb.tape, hb.output, hb.size, fun k hk _ => hb.block k hk⟩ ?_, h.2⟩
  cases hv : v.ownBlock
  · exact .inl rfl
  · exact .inr (by simp)
theorem Own.more {w : World} {base base' e sz : Nat} {v : Value} {es : List (List Value)} (h : Own w base e sz v es) (hb : base' ≤ base) : Own w base' e sz v es := by
  refine ⟨⟨h.1.1, ?_⟩, h.2⟩
  rcases h.1.2 with h' | ⟨g, cap, cur, h1, h2, h3⟩
  · exact .inl h'
  · exact .inr ⟨g, cap, cur, h1, Nat.le_trans hb h2, h3⟩
theorem Own.sl {w : World} {base e sz : Nat} {v : Value} {es : List (List Value)} (hsz : 0 < sz) (h : Own w base e sz v es) : Sl w sz v es := by
  obtain ⟨⟨hl, h2⟩, hw⟩ := h
  rcases h2 with ⟨rfl, h0⟩ | ⟨g, cap, cur, rfl, hb, hg, hnc, hcm, hcs, ht⟩
  · obtain rfl : es = [] := List.eq_nil_of_length_eq_zero h0
    exact Sl.nil w sz
  · refine ⟨some ⟨g, 0, none⟩, cap, rfl, hnc, hcm, (fun h => by cases h), .inr ⟨g, 0, rfl, ?_, ?_⟩⟩
    · rcases Nat.lt_or_ge g w.heap.size with hlt | hge
      · exact hlt
      · rw [Array.getElem?_eq_none hge] at hg; cases hg
    · intro i x hx j u hu
      have hxl := (hw x (List.mem_of_getElem? hx)).1
      have hjs : j < sz := by
        have := (List.getElem?_eq_some_iff.1 hu).1
        omega
      have hi : i < es.length := (List.getElem?_eq_some_iff.1 hx).1
      have hij : i * sz + j < es.length * sz := by
        have : (i + 1) * sz ≤ es.length * sz := Nat.mul_le_mul_right _ hi
        rw [Nat.add_mul] at this; omega
      have e1 : (i * sz + j) / sz = i := by rw [Nat.mul_comm, Nat.mul_add_div hsz, Nat.div_eq_of_lt hjs]; rfl
      have e2 : (i * sz + j) % sz = j := by rw [Nat.mul_comm, Nat.mul_add_mod, Nat.mod_eq_of_lt hjs]
      rw [Nat.zero_add, cell_of_row w g _ cur e (0, 0) hg]
      have h3 : (cur.toList.take (es.length * sz))[i * sz + j]? = some u := by rw [ht, hw.get hsz, e1, e2, hx]; exact hu
      rw [List.getElem?_take, if_pos hij] at h3
      simpa using h3

/-- a slice type and its element type's row of the table -/
structure RowTy (P : Program) (t e : TypeId) (sz bytes : Nat) : Prop where
  ht : P.underlying t = some (.slice e)
  hi : ∃ i z, P.info? e = some i ∧ i.zero = some z ∧ i.size = sz ∧ i.bytes = bytes ∧ z.cells.size = sz
  hsz : 0 < sz

theorem run_append_sl {P : Program} (w : World) {t e : TypeId} {sz bytes : Nat} (hT : RowTy P t e sz bytes) (ty : TypeId) (base : Nat)
    (v u : Value) (es fs : List (List Value)) (hown : Own w base e sz v es) (hsl : Sl w sz u fs) (hwd : Wide sz fs)
    (h63 : es.length + fs.length ≤ maxLen) (hbytes : (es.length + fs.length) * bytes ≤ 140737488355328) (hbase : base ≤ w.heap.size) :
    ∃ v' w', (Builtin.append_ #[t, t] ty #[v, u]).run P w = .ok v' w' ∧ Own w' base e sz v' (es ++ fs) ∧ w.grownBy w' v.ownBlock ∧ (v'.ownBlock = v.ownBlock ∨ v'.ownBlock = some w.heap.size) := by
  obtain ⟨i, z, hi, hz, hs, hby, hzs⟩ := hT.hi
  obtain ⟨A, cap, rfl, h1, h2, h0, h3⟩ := hsl
  have hfl := hwd.flat
  have key : ∀ ad : Addr, (∀ j u, fs.flatten[j]? = some u → w.cell? (ad.add j) = some u) → ∃ v' w', (Builtin.append_ #[t, t] ty #[v, .slice (some ad) fs.length cap]).run P w = .ok v' w' ∧ Own w' base e sz v' (es ++ fs) ∧ w.grownBy w' v.ownBlock ∧ (v'.ownBlock = v.ownBlock ∨ v'.ownBlock = some w.heap.size) := by
    intro ad hc
    obtain ⟨v', w', hrun, k1, k2, _, k3⟩ := run_append_own_at (P := P) w base t ty e i z sz bytes hT.ht hi hz hs hby hzs hT.hsz v es.length es.flatten hown.1 ad fs.length cap fs.flatten hfl hc hwd.one h63 hbytes hbase
    exact ⟨v', w', hrun, ⟨by rw [List.length_append, List.flatten_append]; exact k1, hown.2.append hwd⟩, k2, k3⟩
  rcases h3 with rfl | ⟨b, off, rfl, hc⟩
  · cases A with
    | none =>
      obtain rfl := h0 rfl
      refine ⟨v, w, run_append_owned_none (P := P) (w := w) base t ty e i sz hT.ht hi v es.length es.flatten hown.1, by simpa using hown, World.grownBy.refl w _, .inl rfl⟩
    | some ad => exact key ad fun j u hu => by simp at hu
  · refine key _ fun j u hu => ?_
    rw [hwd.get hT.hsz] at hu
    cases hx : fs[j / sz]? with
    | none => rw [hx] at hu; cases hu
    | some x =>
      rw [hx] at hu
      have := hc.2 _ x hx _ u hu
      have ej : off + j / sz * sz + j % sz = off + j := by
        have := Nat.div_add_mod j sz
        rw [Nat.mul_comm] at this
        omega
      rw [ej] at this
      rw [Addr.add]
      by_cases hj : j = 0
      · subst hj; rw [if_pos rfl]; exact this
      · rw [if_neg hj]; exact this

theorem wpList_append_sl {P : Program} {w : World} {ops : Array Oper} {rest : List Oper} {o : Oper} {a : Act} {Q : Exit → Act → World → Prop} (hgd : o.guard = none) (s x : Operand) {t e : TypeId} {sz bytes : Nat}
    (ho : o.op = .call { callee := .builtin .append, args := #[s, x], argTypes := #[t, t] }) (hT : RowTy P t e sz bytes) (base : Nat)
    (v u : Value) (es fs : List (List Value)) (hs : a.eval s = v) (hown : Own w base e sz v es) (hx : a.eval x = u) (hsl : Sl w sz u fs) (hwd : Wide sz fs)
    (h63 : es.length + fs.length ≤ maxLen) (hbytes : (es.length + fs.length) * bytes ≤ 140737488355328) (hbase : base ≤ w.heap.size)
    (h : ∀ v' w', Own w' base e sz v' (es ++ fs) → w.grownBy w' v.ownBlock → (v'.ownBlock = v.ownBlock ∨ v'.ownBlock = some w.heap.size) → wpList P ops Q rest (a.put o.dst v') w') : wpList P ops Q (o :: rest) a w := by
  refine wpList_plain hgd fun K hK => ?_
  obtain ⟨v', w', hrun, k1, k2, k3⟩ := run_append_sl (P := P) w hT o.type base v u es fs hown hsl hwd h63 hbytes hbase
  unfold Oper.wp execOp
  simp only [ho, resolve, invoke, builtin, Sem.run_bind, Sem.run_pure, Result.andThen_ok, List.map_toArray, List.map_cons, List.map_nil, hs, hx, hrun]
  exact hK _ _ (h v' w' k1 k2 k3)

/-- what an append leaves below the call's start -/
theorem Own.grown {w0 w w' : World} {base e sz : Nat} {v : Value} {es : List (List Value)} (h : Own w base e sz v es) (hb : Below base w0 w) (hg : w.grownBy w' v.ownBlock) (hB : base ≤ w.heap.size) : Below base w0 w' :=
  hb.grown hg hB fun k hk => (h.1.lt k hk).1
/-- the slice of one new element -/
theorem Sl.one {w : World} {t : TypeId} {sz n : Nat} {c : Array Value} (hn : w.heap.size = n) (_hc : c.size = sz) : Sl (w.alloc (.cells c t)) sz (.slice (some ⟨n, 0, none⟩) 1 1) [c.toList] := by
  subst hn
  refine ⟨_, 1, rfl, Nat.le_refl _, by unfold maxLen; omega, (fun h => by cases h), .inr ⟨w.heap.size, 0, rfl, by simp, ?_⟩⟩
  intro i x hx j u hu
  have hi : i = 0 := by have := (List.getElem?_eq_some_iff.1 hx).1; simp only [List.length_singleton] at this; omega
  subst hi
  simp only [List.getElem?_cons_zero, Option.some.injEq] at hx
  subst hx
  rw [World.cell?_alloc_new]
  simpa using hu

theorem Own.form {w : World} {base e sz : Nat} {v : Value} {es : List (List Value)} (h : Own w base e sz v es) : ∃ A cap, v = .slice A es.length cap := by
  rcases h.1.2 with ⟨rfl, h0⟩ | ⟨g, cap, cur, rfl, _⟩
  · exact ⟨none, 0, by rw [h0]⟩
  · exact ⟨_, _, rfl⟩

/-- the call returns a slice of its own -/
def RetOwn (w : World) (E sz : Nat) (es : List (List Value)) (e : Ending) (w' : World) : Prop :=
  ∃ x, e = .returned x ∧ Own w' w.heap.size E sz x es ∧ Below w.heap.size w w'
/-- the call returns a slice of its own and a number -/
def RetOwn2 (w : World) (E sz : Nat) (es : List (List Value)) (err : Int) (e : Ending) (w' : World) : Prop :=
  ∃ x, e = .returned (.tuple #[x, .int .i64 err]) ∧ Own w' w.heap.size E sz x es ∧ Below w.heap.size w w'

end Go.Proofs.YtjbhabfflcbebaaGreat
