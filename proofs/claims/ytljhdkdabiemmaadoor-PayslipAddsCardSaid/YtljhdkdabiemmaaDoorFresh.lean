/- An append onto a new empty slice. -/
import Derived.Test.YtljhdkdabiemmaaDoorSlice
namespace Go.Proofs.YtljhdkdabiemmaaDoor
open Go.RowKit

/-- an empty slice of the call's own that is not nil -/
theorem Own.empty (w : World) (base e sz n : Nat) (hb : base ≤ w.heap.size) (hn : w.heap.size = n) : Own (w.alloc (.cells #[] e)) base e sz (.slice (some ⟨n, 0, none⟩) 0 0) [] := by
  subst hn
  refine ⟨⟨by simp, .inr ⟨w.heap.size, 0, #[], rfl, hb, heap_alloc_new w _, Nat.le_refl _, Nat.zero_le _, by simp, by simp⟩⟩, Wide.nil sz⟩
/-- `append([]T{}, x...)` -/
theorem append_fresh {P : Program} {w w0 : World} {ops : Array Oper} {rest : List Oper} {o : Oper} {a : Act} {Q : Exit → Act → World → Prop} (hgd : o.guard = none) (s x : Operand) {t e : TypeId} {sz bytes : Nat}
    (ho : o.op = .call { callee := .builtin .append, args := #[s, x], argTypes := #[t, t] }) (hT : RowTy P t e sz bytes) (base : Nat)
    (u : Value) (fs : List (List Value)) (n : Nat) (hs : a.eval s = .slice (some ⟨n, 0, none⟩) 0 0) (hn : w.heap.size = n) (hB : base ≤ w.heap.size) (hb : Below base w0 w) (hx : a.eval x = u) (hsl : Sl w sz u fs) (hwd : Wide sz fs)
    (h63 : fs.length ≤ maxLen) (hbytes : fs.length * bytes ≤ 140737488355328)
    (h : ∀ v' w', Own w' base e sz v' fs → Below base w0 w' → wpList P ops Q rest (a.put o.dst v') w') : wpList P ops Q (o :: rest) a (w.alloc (.cells #[] e)) := by
  have hE := Own.empty w base e sz n hB hn
  have hB2 : base ≤ (w.alloc (.cells #[] e)).heap.size := by simp; omega
  refine wpList_append_sl hgd s x ho hT base _ u [] fs hs hE hx (hsl.below ((Below.refl _ _).alloc (Nat.le_refl _) _)) hwd (by simpa using h63) (by simpa using hbytes) hB2 ?_
  intro v' w' ho' hg _
  exact h v' w' ho' (Own.grown hE (hb.alloc hB _) hg hB2)
end Go.Proofs.YtljhdkdabiemmaaDoor
