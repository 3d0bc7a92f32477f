/- copy(out[k+1:], out[k:]) in a slice of the call's own, elements of any width. -/
import Derived.Test.YtnmbaeahnfbfiaaChgK
import Derived.Laws.IdiomCopy
namespace Go.Proofs.Ytnmbaeahnfbfiaa
open Go.RowKit

theorem setRun_tail (us : List Value) (xs : List Value) (j : Nat) (h : j + us.length = xs.length) : setRun xs j us = xs.take j ++ us := by
  apply List.ext_getElem?
  intro t
  rw [setRun_get us xs j t (by omega)]
  by_cases h1 : t < j
  · rw [if_neg (by omega), List.getElem?_append_left (by rw [List.length_take]; omega), List.getElem?_take, if_pos h1]
  · rw [List.getElem?_append_right (by rw [List.length_take]; omega), List.length_take, Nat.min_eq_left (by omega)]
    by_cases h2 : t < j + us.length
    · rw [if_pos ⟨by omega, h2⟩]
    · rw [if_neg (by omega), List.getElem?_eq_none (by omega), List.getElem?_eq_none (by omega)]
theorem Wide.take {sz : Nat} {es : List (List Value)} (h : Wide sz es) (k : Nat) : Wide sz (es.take k) := fun x hx => h x (List.mem_of_mem_take hx)
theorem Wide.drop {sz : Nat} {es : List (List Value)} (h : Wide sz es) (k : Nat) : Wide sz (es.drop k) := fun x hx => h x (List.mem_of_mem_drop hx)
theorem flat_take {sz : Nat} {es : List (List Value)} (h : Wide sz es) (k : Nat) (hk : k ≤ es.length) : es.flatten.take (k * sz) = (es.take k).flatten := by
  have h1 : es.flatten = (es.take k).flatten ++ (es.drop k).flatten := by rw [← List.flatten_append, List.take_append_drop]
  have h2 : (es.take k).flatten.length = k * sz := by rw [(h.take k).flat, List.length_take, Nat.min_eq_left hk]
  rw [h1, ← h2, List.take_left]

theorem run_copy_ins {P : Program} {w : World} {t e : TypeId} {sz bytes : Nat} (hT : RowTy P t e sz bytes) (ty : TypeId) {base g n cap : Nat} {es : List (List Value)}
    (h : Own w base e sz (.slice (some ⟨g, 0, none⟩) n cap) es) (k : Nat) (hk : k < n) (dp : Option Addr) (dLen dCap sLen sCap : Nat) (hd : dLen = n - (k + 1)) (hdp : dLen = 0 ∨ dp = some ⟨g, (k + 1) * sz, none⟩) (hs : sLen = n - k) :
    ∃ w', (Builtin.copy_ #[t, t] ty #[.slice dp dLen dCap, .slice (some ⟨g, k * sz, none⟩) sLen sCap]).run P w = .ok (goInt dLen) w' ∧ Own w' base e sz (.slice (some ⟨g, 0, none⟩) n cap) (es.take (k + 1) ++ (es.drop k).take dLen) ∧ w.grownBy w' (some g) := by
  obtain ⟨i, z, hi, hz, hsz, hby, hzs⟩ := hT.hi
  have hn : n = es.length := by
    rcases h.1.2 with ⟨h', _⟩ | ⟨g', cap', cur, h', _⟩
    · simp at h'
    · injection h'
  subst hn
  have hmin : Nat.min sLen dLen = dLen := by simp only [Nat.min_def]; split <;> omega
  have hwc : Wide sz ((es.drop k).take dLen) := (h.2.drop k).take dLen
  have hcl : ((es.drop k).take dLen).flatten.length = dLen * sz := by rw [hwc.flat, List.length_take, List.length_drop, Nat.min_eq_left (by omega)]
  have hsrc : ∀ j v, ((es.drop k).take dLen).flatten[j]? = some v → w.cell? ((⟨g, k * sz, none⟩ : Addr).add j) = some v := fun j v hj => by
    have hadd : (⟨g, k * sz, none⟩ : Addr).add j = ⟨g, k * sz + j, none⟩ := by unfold Addr.add; split <;> simp_all
    rw [hwc.get hT.hsz] at hj
    cases hx : ((es.drop k).take dLen)[j / sz]? with
    | none => rw [hx] at hj; cases hj
    | some x =>
      rw [hx] at hj
      have hlt : j / sz < dLen := by
        have := (List.getElem?_eq_some_iff.1 hx).1
        rw [List.length_take] at this; omega
      rw [List.getElem?_take, if_pos hlt, List.getElem?_drop] at hx
      have := h.cellE hT.hsz hx hj
      have e1 := Nat.div_add_mod j sz
      rw [hadd, ← this]
      congr 2
      rw [Nat.add_mul, Nat.mul_comm (j / sz)]; omega
  have hl := run_loadCells_list (P := P) w ⟨g, k * sz, none⟩ ((es.drop k).take dLen).flatten hsrc
  rw [hcl] at hl
  rcases Nat.eq_zero_or_pos dLen with h0 | hpos
  · subst h0
    refine ⟨w, ?_, ?_, World.grownBy.refl _ _⟩
    · have hl0 : (loadCells ⟨g, k * sz, none⟩ 0).run P w = .ok #[] w := by simpa using run_loadCells_list (P := P) w ⟨g, k * sz, none⟩ [] (by simp)
      cases dp <;> simp [Builtin.copy_, run_underlying hT.ht, Builtin.lenOf, Builtin.firstCells, sizeOf, typeInfo, hi, storeCells, hl0]
    · rw [List.take_zero, List.append_nil, List.take_of_length_le (by omega)]; exact h
  · have hdp' : dp = some ⟨g, (k + 1) * sz, none⟩ := hdp.resolve_left (by omega)
    subst hdp'
    have hfit : (k + 1) * sz + dLen * sz = es.length * sz := by rw [← Nat.add_mul]; congr 1; omega
    have hst := run_storeCells_cells (P := P) g ((k + 1) * sz) ((es.drop k).take dLen).flatten 0 w (fun j hj => by
      rw [hcl] at hj
      have hlt : (k + 1) * sz + j < es.length * sz := by omega
      obtain ⟨u, hu⟩ : ∃ u, es.flatten[(k + 1) * sz + j]? = some u := ⟨_, List.getElem?_eq_getElem (by rw [h.2.flat]; exact hlt)⟩
      rw [h.2.get hT.hsz] at hu
      cases hx : es[((k + 1) * sz + j) / sz]? with
      | none => rw [hx] at hu; cases hu
      | some x =>
        rw [hx] at hu
        have := h.cellE hT.hsz hx hu
        have e1 := Nat.div_add_mod ((k + 1) * sz + j) sz
        rw [Nat.mul_comm (((k + 1) * sz + j) / sz) sz, e1] at this
        rw [Nat.add_zero, this]; rfl) (fun j _ => h.frozenE _) hwc.one
    obtain ⟨k1, k2⟩ := storeRun_own ((es.drop k).take dLen).flatten ((k + 1) * sz) h.1
    refine ⟨storeRun w g ((k + 1) * sz) ((es.drop k).take dLen).flatten, ?_, ⟨?_, ?_⟩, k2⟩
    · rw [← storeRun_set]
      simp [Builtin.copy_, run_underlying hT.ht, Builtin.lenOf, Builtin.firstCells, sizeOf, typeInfo, hi, hsz, hmin, hl, hst]
    · have hlen : (es.take (k + 1) ++ (es.drop k).take dLen).length = es.length := by
        rw [List.length_append, List.length_take, List.length_take, List.length_drop]; omega
      rw [hlen, List.flatten_append, ← flat_take h.2 (k + 1) (by omega), ← setRun_tail _ _ _ (by rw [hcl, h.2.flat]; exact hfit)]
      exact k1
    · exact (h.2.take _).append hwc

theorem wpList_copy_ins {P : Program} {w : World} {ops : Array Oper} {rest : List Oper} {o : Oper} {a : Act} {Q : Exit → Act → World → Prop} (hgd : o.guard = none) (d s : Operand) {t e : TypeId} {sz bytes : Nat}
    (ho : o.op = .call { callee := .builtin .copy, args := #[d, s], argTypes := #[t, t] }) (hT : RowTy P t e sz bytes) {base g n cap : Nat} {es : List (List Value)}
    (h : Own w base e sz (.slice (some ⟨g, 0, none⟩) n cap) es) (k : Nat) (hk : k < n) (dp : Option Addr) (dLen dCap sLen sCap : Nat) (hd : dLen = n - (k + 1)) (hdp : dLen = 0 ∨ dp = some ⟨g, (k + 1) * sz, none⟩) (hs : sLen = n - k)
    (hde : a.eval d = .slice dp dLen dCap) (hse : a.eval s = .slice (some ⟨g, k * sz, none⟩) sLen sCap)
    (hh : ∀ w', Own w' base e sz (.slice (some ⟨g, 0, none⟩) n cap) (es.take (k + 1) ++ (es.drop k).take (n - (k + 1))) → w.grownBy w' (some g) → wpList P ops Q rest (a.put o.dst (goInt dLen)) w') : wpList P ops Q (o :: rest) a w := by
  refine wpList_plain hgd fun K hK => ?_
  obtain ⟨w', hrun, k1, k2⟩ := run_copy_ins (P := P) hT o.type h k hk dp dLen dCap sLen sCap hd hdp hs
  rw [hd] at k1
  unfold Oper.wp execOp
  simp only [ho, resolve, invoke, builtin, Sem.run_bind, Sem.run_pure, Result.andThen_ok, List.map_toArray, List.map_cons, List.map_nil, hde, hse, hrun]
  exact hK _ _ (hh w' k1 k2)

/-- the list behind the three statements -/
theorem ins_list {α : Type} (l : List α) (z c : α) (k : Nat) (hk : k ≤ l.length) : (((l ++ [z]).take (k + 1) ++ ((l ++ [z]).drop k).take (l.length - k)).set k c) = l.take k ++ c :: l.drop k := by
  have e1 : ((l ++ [z]).drop k).take (l.length - k) = l.drop k := by
    rw [List.drop_append_of_le_length hk, List.take_append_of_le_length (by simp), List.take_of_length_le (by simp)]
  have e2 : ∃ y, (l ++ [z]).take (k + 1) = l.take k ++ [y] := by
    rw [List.take_succ_eq_append_getElem (by simp; omega), List.take_append_of_le_length hk]
    exact ⟨_, rfl⟩
  obtain ⟨y, hy⟩ := e2
  have hl : (l.take k).length = k := by rw [List.length_take]; omega
  rw [e1, hy, List.append_assoc, List.set_append_right _ _ (by omega), hl, Nat.sub_self]
  rfl
end Go.Proofs.Ytnmbaeahnfbfiaa
