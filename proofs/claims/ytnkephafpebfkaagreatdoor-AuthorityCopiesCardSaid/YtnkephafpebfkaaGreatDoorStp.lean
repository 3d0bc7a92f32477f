/- Append inside a region that draws its order: one step; worlds behind allocations in such a region. -/
import Derived.Test.YtnkephafpebfkaaGreatDoorRow
import Derived.Deep.RegionLaw
import Derived.Deep.AppendLies
namespace Go.Proofs.YtnkephafpebfkaaGreatDoor
open Go.RowKit

theorem step_append_sl {P : Program} {w : World} {ops : Array Oper} {o : Oper} {a : Act} {K : Act → World → Prop} {Q : Exit → Act → World → Prop} {E : Prop} (hgd : o.guard = none) (s x : Operand) {t e : TypeId} {sz bytes : Nat}
    (ho : o.op = .call { callee := .builtin .append, args := #[s, x], argTypes := #[t, t] }) (hT : RowTy P t e sz bytes) (base : Nat)
    (v u : Value) (es fs : List (List Value)) (hs : a.eval s = v) (hown : Own w base e sz v es) (hx : a.eval x = u) (hsl : Sl w sz u fs) (hwd : Wide sz fs)
    (h63 : es.length + fs.length ≤ maxLen) (hbytes : (es.length + fs.length) * bytes ≤ 140737488355328) (hbase : base ≤ w.heap.size)
    (h : ∀ v' w', Own w' base e sz v' (es ++ fs) → w.grownBy w' v.ownBlock → (v'.ownBlock = v.ownBlock ∨ v'.ownBlock = some w.heap.size) → K (a.put o.dst v') w') :
    if Region.wanted o (yielded ops a.tmps) = true then Oper.wp P o a w K Q else E := by
  have hw : Region.wanted o (yielded ops a.tmps) = true := by simp [Region.wanted, hgd]
  rw [if_pos hw]
  obtain ⟨v', w', hrun, k1, k2, k3⟩ := run_append_sl (P := P) w hT o.type base v u es fs hown hsl hwd h63 hbytes hbase
  unfold Oper.wp execOp
  simp only [ho, resolve, invoke, builtin, Sem.run_bind, Sem.run_pure, Result.andThen_ok, List.map_toArray, List.map_cons, List.map_nil, hs, hx, hrun]
  exact h v' w' k1 k2 k3
theorem Own.drew {w : World} {base e sz : Nat} {v : Value} {es : List (List Value)} (h : Own w base e sz v es) : Own w.drew base e sz v es := h.kept (Below.refl _ _).drew
theorem own_none (w : World) (e : TypeId) (sz base n : Nat) (hn : w.heap.size = n) (hb : base ≤ n) : Own (w.alloc (.cells #[] e)) base e sz (.slice (some ⟨n, 0, none⟩) 0 0) [] := by
  subst hn
  exact ⟨⟨by simp, .inr ⟨_, 0, #[], rfl, hb, heap_alloc_new w _, Nat.le_refl _, by unfold maxLen; omega, by simp, by simp⟩⟩, Wide.nil sz⟩
theorem below_a0 (w : World) : Below w.heap.size w w.drew := (Below.refl _ _).drew
theorem below_a1 (w : World) (o : Obj) : Below w.heap.size w (w.alloc o).drew := ((Below.refl _ _).alloc (Nat.le_refl _) _).drew
theorem below_a2 (w : World) (o o' : Obj) : Below w.heap.size w ((w.alloc o).alloc o').drew := (((Below.refl _ _).alloc (Nat.le_refl _) _).alloc (by simp) _).drew
theorem Sl.apart {w w' : World} {sz b off n cap : Nat} {row : Option Nat} {es : List (List Value)} (h : Sl w sz (.slice (some ⟨b, off, none⟩) n cap) es) (hg : w.grownBy w' row) (hne : some b ≠ row) : Sl w' sz (.slice (some ⟨b, off, none⟩) n cap) es := by
  obtain ⟨A', cap', hv, h1, h2, h0, hc⟩ := h
  injection hv with hv1 hv2 hv3
  subst hv1 hv2 hv3
  refine ⟨_, _, rfl, h1, h2, h0, ?_⟩
  rcases hc with rfl | ⟨b', off', hA, hc⟩
  · exact .inl rfl
  · injection hA with hA
    injection hA with e1 e2
    subst e1 e2
    exact .inr ⟨_, _, rfl, Nat.lt_of_lt_of_le hc.1 hg.size, fun i e hi j u hj => (World.cell?_of_block (w := w) (a := ⟨b, _, none⟩) (hg.block b hc.1 hne)).trans (hc.2 i e hi j u hj)⟩
theorem apps {w0 w w' : World} {base e sz : Nat} {v : Value} {es : List (List Value)} (hb : Below base w0 w) (h : Own w base e sz v es) (hg : w.grownBy w' v.ownBlock) (hB : base ≤ w.heap.size) : Below base w0 w' := Own.grown h hb hg hB
end Go.Proofs.YtnkephafpebfkaaGreatDoor
