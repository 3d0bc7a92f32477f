/- Ranging over the map of sums of package payslip. -/
import Derived.Test.YtjbhabfflcbebaaGreatLns
namespace Go.Proofs.YtjbhabfflcbebaaGreat
open Go.RowKit

theorem run_choose {α : Type} (q : Question) (f : Nat → Sem α) (W : World) : ∃ (t : Nat) (W1 : World), (W1 = W ∨ W1 = W.drew) ∧ (choose q >>= f).run Tryz.prog W = (f t).run Tryz.prog W1 ∧ ∀ n, q = .mapNext n → 0 < n → t < n := by
  by_cases hf : q.forced = true
  · refine ⟨0, W, .inl rfl, ?_, fun n _ hn => hn⟩
    simp [choose, Sem.run, hf]
  · refine ⟨q.cut (W.tape W.drawn q), W.drew, .inr rfl, ?_, fun n hq hn => ?_⟩
    · simp [choose, Sem.run, hf]
    · subst hq
      exact Nat.mod_lt _ hn

/-- the block of the iterator: which entries have come -/
def itObj (m n : Nat) (seen : List Nat) : Obj := .mapIter (some m) n seen.toArray n

theorem run_next_title {W : World} {r m : Nat} {es : List Ln} {seen : List Nat} (hr : W.heap[r]? = some (itObj m es.length seen)) (hm : W.heap[m]? = some (tObj es)) (ty : TypeId) :
    (∃ (i : Nat) (l : Ln) (W1 : World), es[i]? = some l ∧ i ∉ seen ∧ (W1 = W ∨ W1 = W.drew) ∧ (Instr.next (.pointer (some ⟨r, 0, none⟩)) false ty).run Tryz.prog W = .ok (.tuple #[.bool true, .agg #[.int .i64 l.kind, .string l.code], .int .i64 l.amt]) (setB W1 r (itObj m es.length (seen ++ [i])))) ∨
    (∃ W1 : World, (∀ i, i < es.length → i ∈ seen) ∧ (W1 = W ∨ W1 = W.drew) ∧ (Instr.next (.pointer (some ⟨r, 0, none⟩)) false ty).run Tryz.prog W = .ok (.tuple #[.bool false]) W1) := by
  have hr' : W.heap[r]? = some (.mapIter (some m) es.length seen.toArray es.length) := hr
  have hm' : W.heap[m]? = some (.map (tEnts 0 es).toArray es.length) := hm
  have g1 : (getObj r).run Tryz.prog W = .ok (.mapIter (some m) es.length seen.toArray es.length) W := by simp [getObj, Sem.run, hr']
  have g2 := MapKept.run_getObj_map (P := Tryz.prog) hm'
  have hborn : ∀ e ∈ tEnts 0 es, e.born < es.length := by
    intro e he
    obtain ⟨i, hi⟩ := List.getElem?_of_mem he
    rw [tEnts_get] at hi
    cases hl : es[i]? with
    | none => rw [hl] at hi; cases hi
    | some l =>
      rw [hl] at hi
      simp only [Option.map_some, Option.some.injEq] at hi
      have := (List.getElem?_eq_some_iff.1 hl).1
      rw [← hi]; simp [tEnt]; exact this
  have hchk : (!seen.toArray.isEmpty && !(tEnts 0 es).toArray.isEmpty && (tEnts 0 es).toArray.all (fun e => decide (e.born ≥ es.length))) = false := by
    cases hes : tEnts 0 es with
    | nil => simp
    | cons e r =>
      have := hborn e (by rw [hes]; simp)
      simp
      intro _ h
      omega
  have hold : ((tEnts 0 es).toArray.filter fun e => !seen.toArray.contains e.born).filter (fun e => decide (e.born < es.length)) = (tEnts 0 es).toArray.filter fun e => !seen.toArray.contains e.born := by
    rw [Array.filter_eq_self]
    intro e he
    have := hborn e (by simpa using (Array.mem_filter.1 he).1)
    simpa using this
  have hnew : ((tEnts 0 es).toArray.filter fun e => !seen.toArray.contains e.born).filter (fun e => decide (e.born ≥ es.length)) = #[] := by
    rw [Array.filter_eq_empty_iff]
    intro e he
    have := hborn e (by simpa using (Array.mem_filter.1 he).1)
    simp; omega
  have hrun : ∀ (c : Array (Option MapEntry)), c = (if ((tEnts 0 es).toArray.filter fun e => !seen.toArray.contains e.born).isEmpty then #[none] else #[]) ++ ((tEnts 0 es).toArray.filter fun e => !seen.toArray.contains e.born).map some →
      (Instr.next (.pointer (some ⟨r, 0, none⟩)) false ty).run Tryz.prog W = (choose (.mapNext c.size) >>= fun t => match c[t]? with
        | some (some e) => do setObj r (.mapIter (some m) es.length (seen.toArray.push e.born) es.length); pure (.tuple #[.bool true, e.key, e.val])
        | some none => pure (.tuple #[.bool false])
        | none => stuck "Next: no such candidate").run Tryz.prog W := by
    intro c hc
    unfold Instr.next
    simp only [Sem.run_bind, g1, Result.andThen_ok, g2, hchk, Bool.false_eq_true, if_false, hold, hnew, Array.append_empty, ← hc]
    rfl
  have hmem : ∀ e, e ∈ ((tEnts 0 es).toArray.filter fun e => !seen.toArray.contains e.born) ↔ e ∈ tEnts 0 es ∧ e.born ∉ seen := by
    intro e
    rw [Array.mem_filter]
    simp
  generalize ((tEnts 0 es).toArray.filter fun e => !seen.toArray.contains e.born) = F at hrun hmem
  by_cases hF : F = #[]
  · right
    subst hF
    have h := hrun #[none] (by simp)
    obtain ⟨t, W1, hW1, hc, hlt⟩ := run_choose (.mapNext (#[none] : Array (Option MapEntry)).size) (fun t => match (#[none] : Array (Option MapEntry))[t]? with
        | some (some e) => do setObj r (.mapIter (some m) es.length (seen.toArray.push e.born) es.length); pure (Value.tuple #[.bool true, e.key, e.val])
        | some none => pure (.tuple #[.bool false])
        | none => stuck "Next: no such candidate") W
    have ht : t = 0 := by have := hlt _ rfl (by simp); simp at this; exact this
    subst ht
    refine ⟨W1, fun i hi => ?_, hW1, ?_⟩
    · by_cases hin : i ∈ seen
      · exact hin
      · have hl : es[i]? = some es[i] := List.getElem?_eq_getElem hi
        have : tEnt i es[i] ∈ tEnts 0 es := List.mem_of_getElem? (i := i) (by rw [tEnts_get, hl]; simp)
        have := (hmem _).2 ⟨this, by simpa [tEnt] using hin⟩
        simp at this
    · rw [h, hc]; rfl
  · left
    have hne : F.isEmpty = false := by simpa using hF
    have hpos : 0 < F.size := by
      rcases Nat.eq_zero_or_pos F.size with h0 | h0
      · exact absurd (Array.eq_empty_of_size_eq_zero h0) hF
      · exact h0
    have h := hrun (F.map some) (by rw [hne]; simp)
    obtain ⟨t, W1, hW1, hc, hlt⟩ := run_choose (.mapNext (F.map some).size) (fun t => match (F.map some)[t]? with
        | some (some e) => do setObj r (.mapIter (some m) es.length (seen.toArray.push e.born) es.length); pure (Value.tuple #[.bool true, e.key, e.val])
        | some none => pure (.tuple #[.bool false])
        | none => stuck "Next: no such candidate") W
    have ht : t < F.size := by have := hlt _ rfl (by simpa using hpos); simpa using this
    have hFt : (F.map some)[t]? = some (some F[t]) := by simp [ht]
    obtain ⟨h1, h2⟩ := (hmem F[t]).1 (Array.getElem_mem ht)
    obtain ⟨i, hi⟩ := List.getElem?_of_mem h1
    rw [tEnts_get] at hi
    cases hl : es[i]? with
    | none => rw [hl] at hi; cases hi
    | some l =>
      rw [hl] at hi
      simp only [Option.map_some, Option.some.injEq, Nat.zero_add] at hi
      rw [← hi] at h2
      refine ⟨i, l, W1, hl, by simpa [tEnt] using h2, hW1, ?_⟩
      have hr1 : W1.heap[r]? = some (.mapIter (some m) es.length seen.toArray es.length) := by rcases hW1 with rfl | rfl <;> exact hr'
      rw [h, hc, hFt, ← hi]
      simp only [Sem.run_bind, Sem.run_pure]
      simp [setObj, Sem.run, hr1, setB, itObj, tEnt]

theorem run_entry_it {W : World} {r m : Nat} {es : List Ln} {seen : List Nat} {i : Nat} {l : Ln} (hr : W.heap[r]? = some (itObj m es.length (seen ++ [i]))) (hm : W.heap[m]? = some (tObj es)) (hl : es[i]? = some l) :
    (Instr.entry (.pointer (some ⟨r, 0, none⟩))).run Tryz.prog W = .ok (.tuple #[.agg #[.int .i64 l.kind, .string l.code], .int .i64 l.amt]) W := by
  have hr' : W.heap[r]? = some (.mapIter (some m) es.length (seen ++ [i]).toArray es.length) := hr
  have hm' : W.heap[m]? = some (.map (tEnts 0 es).toArray es.length) := hm
  have g1 : (getObj r).run Tryz.prog W = .ok (.mapIter (some m) es.length (seen ++ [i]).toArray es.length) W := by simp [getObj, Sem.run, hr']
  have g2 := MapKept.run_getObj_map (P := Tryz.prog) hm'
  have hback : (seen ++ [i]).toArray.back? = some i := by simp
  have hfind : (tEnts 0 es).toArray.find? (fun e => e.born == i) = some (tEnt i l) := by
    rw [List.find?_toArray]
    have hi : i < es.length := (List.getElem?_eq_some_iff.1 hl).1
    rw [List.find?_eq_some_iff_getElem]
    refine ⟨by simp [tEnt], i, by rw [tEnts_len]; exact hi, ?_, fun j hj => ?_⟩
    · have := tEnts_get 0 es i
      rw [List.getElem?_eq_getElem (by rw [tEnts_len]; exact hi), hl] at this
      injection this with this
      rw [this]; simp
    · have := tEnts_get 0 es j
      rw [List.getElem?_eq_getElem (by rw [tEnts_len]; omega), List.getElem?_eq_getElem (by omega)] at this
      injection this with this
      rw [this]; simp [tEnt]; omega
  unfold Instr.entry
  simp only [Sem.run_bind, g1, Result.andThen_ok, hback, g2, hfind, bne_self_eq_false, Bool.false_eq_true, if_false, Sem.run_pure]
  rfl

end Go.Proofs.YtjbhabfflcbebaaGreat
