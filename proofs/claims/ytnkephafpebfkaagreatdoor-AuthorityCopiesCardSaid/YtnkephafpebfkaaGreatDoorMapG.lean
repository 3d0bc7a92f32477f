/- Maps whose keys are whole numbers, entry by entry: look-up, update, ranging. -/
import Derived.Test.YtnkephafpebfkaaGreatDoorKit
import Derived.Test.YtnkephafpebfkaaGreatDoorProg
import Derived.MapKept
import Derived.KernelRfl
import Derived.Lib.OthersKept
namespace Go.Proofs.YtnkephafpebfkaaGreatDoor
open Go.RowKit

def iEnt (i : Nat) (p : Int × Value) : MapEntry := ⟨.int .i64 p.1, p.2, i⟩
def iEnts (j : Nat) : List (Int × Value) → List MapEntry
  | [] => []
  | p :: r => iEnt j p :: iEnts (j + 1) r
/-- the map's block: the entries in the order in which their keys came -/
def iObj (es : List (Int × Value)) : Obj := .map (iEnts 0 es).toArray es.length
/-- the place and the value of a key, counted from j -/
def findI (k : Int) (j : Nat) : List (Int × Value) → Option (Nat × Value)
  | [] => none
  | p :: r => if k = p.1 then some (j, p.2) else findI k (j + 1) r
def getI (es : List (Int × Value)) (k : Int) : Option Value := (findI k 0 es).map (·.2)
def putI (k : Int) (v : Value) : List (Int × Value) → List (Int × Value)
  | [] => [(k, v)]
  | p :: r => if k = p.1 then (k, v) :: r else p :: putI k v r
theorem iEnts_get (j : Nat) (es : List (Int × Value)) (i : Nat) : (iEnts j es)[i]? = (es[i]?).map (iEnt (j + i)) := by
  induction es generalizing j i with
  | nil => simp [iEnts]
  | cons l r ih =>
    cases i with
    | zero => simp [iEnts]
    | succ i => simp only [iEnts, List.getElem?_cons_succ, ih]; rw [show j + 1 + i = j + (i + 1) by omega]
theorem iEnts_len (j : Nat) (es : List (Int × Value)) : (iEnts j es).length = es.length := by
  induction es generalizing j with
  | nil => rfl
  | cons l r ih => simp [iEnts, ih]
theorem iEnts_append (j : Nat) (es fs : List (Int × Value)) : iEnts j (es ++ fs) = iEnts j es ++ iEnts (j + es.length) fs := by
  induction es generalizing j with
  | nil => simp [iEnts]
  | cons l r ih => simp only [List.cons_append, iEnts, ih, List.length_cons]; rw [show j + 1 + r.length = j + (r.length + 1) by omega]
theorem findI_some {k : Int} {j : Nat} {es : List (Int × Value)} {n : Nat} {a : Value} (h : findI k j es = some (n, a)) : j ≤ n ∧ es[n - j]? = some (k, a) ∧ ∀ v, putI k v es = es.set (n - j) (k, v) := by
  induction es generalizing j with
  | nil => simp [findI] at h
  | cons l r ih =>
    simp only [findI] at h
    by_cases hs : k = l.1
    · rw [if_pos hs] at h
      injection h with h
      obtain ⟨rfl, rfl⟩ := Prod.mk.inj h
      exact ⟨Nat.le_refl _, by simp [hs], fun v => by simp [putI, hs]⟩
    · rw [if_neg hs] at h
      obtain ⟨h1, h2, h6⟩ := ih h
      refine ⟨by omega, ?_, fun v => ?_⟩
      · rw [show n - j = (n - (j + 1)) + 1 by omega, List.getElem?_cons_succ]; exact h2
      · rw [show n - j = (n - (j + 1)) + 1 by omega, List.set_cons_succ, ← h6 v]; simp [putI, hs]
theorem findI_none {k : Int} {j : Nat} {es : List (Int × Value)} (h : findI k j es = none) (v : Value) : putI k v es = es ++ [(k, v)] := by
  induction es generalizing j with
  | nil => rfl
  | cons l r ih =>
    simp only [findI] at h
    by_cases hs : k = l.1
    · rw [if_pos hs] at h; cases h
    · rw [if_neg hs] at h
      simp [putI, hs, ih h]
theorem findI_shift (k : Int) (es : List (Int × Value)) : ∀ (i j : Nat), findI k (i + j) es = (findI k j es).map fun p => (i + p.1, p.2) := by
  induction es with
  | nil => intro i j; rfl
  | cons p r ih =>
    intro i j
    simp only [findI]
    split
    · rfl
    · rw [Nat.add_assoc]; exact ih i (j + 1)
theorem findNow_i (k : Int) (es : List (Int × Value)) (j : Nat) : Instr.findNow (.int .i64) (.int .i64 k) (iEnts j es) j = some (findI k j es) := by
  induction es generalizing j with
  | nil => rfl
  | cons p r ih =>
    simp only [iEnts, Instr.findNow, iEnt, Instr.sameNow, if_true, findI]
    by_cases h : k = p.1
    · rw [if_pos h]; simp [h]
    · rw [if_neg h]
      have : (k == p.1) = false := by simpa using h
      rw [this]
      exact ih (j + 1)
theorem key_int (k : Int) : MapKept.IsKey (.int .i64) (.int .i64 k) := by simp [MapKept.IsKey]
theorem run_find_i (k : Int) (es : List (Int × Value)) (w : World) : (Instr.findKey 3 (.int .i64 k) (iEnts 0 es)).run Tryz.prog w = .ok (findI k 0 es) w :=
  MapKept.run_findKey Tryz.underlying3 (findNow_i k es 0)

/-- a world with another block b -/
def setB (w : World) (b : Nat) (o : Obj) : World := { w with heap := w.heap.setIfInBounds b o }
theorem setB_at {w : World} {b : Nat} {o' : Obj} (h : b < w.heap.size) : (setB w b o').heap[b]? = some o' := by
  simp [setB, h]
theorem lt_of_some {w : World} {b : Nat} {o : Obj} (h : w.heap[b]? = some o) : b < w.heap.size := by
  rcases Nat.lt_or_ge b w.heap.size with hlt | hge
  · exact hlt
  · rw [Array.getElem?_eq_none hge] at h; cases h
theorem setB_grown {w : World} {b : Nat} {o : Obj} : w.grownBy (setB w b o) (some b) :=
  ⟨rfl, rfl, rfl, by simp [setB], fun k hk hne => by simp only [setB]; rw [Array.getElem?_setIfInBounds_ne (by intro h; exact hne (by rw [h]))]⟩
theorem setObj_run (w : World) {b : Nat} {es : Array MapEntry} {n : Nat} (h : w.heap[b]? = some (.map es n)) (o : Obj) : (setObj b o).run Tryz.prog w = .ok () (setB w b o) := by
  rw [MapKept.run_setObj_map _ h]; rfl

theorem run_lookup_i {mt e : TypeId} {z : Value} (hm : Tryz.prog.underlying mt = some (.map 3 e)) {w : World} (hz : (zeroValue e).run Tryz.prog w = .ok z w) {b : Nat} {es : List (Int × Value)} (hb : w.heap[b]? = some (iObj es)) (k : Int) :
    (Instr.lookup mt (.map (some b)) (.int .i64 k) true).run Tryz.prog w = .ok (.tuple #[(getI es k).getD z, .bool (getI es k).isSome]) w ∧
    (Instr.lookup mt (.map (some b)) (.int .i64 k) false).run Tryz.prog w = .ok ((getI es k).getD z) w := by
  have hb' : w.heap[b]? = some (.map (iEnts 0 es).toArray es.length) := hb
  have hc := MapKept.run_checkKey (P := Tryz.prog) (w := w) Tryz.underlying3 (key_int k) (iEnts 0 es).toArray.isEmpty 9999
  constructor <;>
  · unfold Instr.lookup
    simp only [Sem.run_bind, run_underlying hm, Result.andThen_ok, MapKept.run_getObj_map hb', Sem.run_pure, hc, run_find_i]
    unfold getI
    cases hf : findI k 0 es with
    | none => simp [hz]
    | some p => simp
theorem run_update_i {mt e : TypeId} (hm : Tryz.prog.underlying mt = some (.map 3 e)) {w : World} {b : Nat} {es : List (Int × Value)} (hb : w.heap[b]? = some (iObj es)) (k : Int) (v : Value) :
    (Instr.mapUpdate mt (.map (some b)) (.int .i64 k) v).run Tryz.prog w = .ok () (setB w b (iObj (putI k v es))) := by
  have hb' : w.heap[b]? = some (.map (iEnts 0 es).toArray es.length) := hb
  have hc := MapKept.run_checkKey (P := Tryz.prog) (w := w) Tryz.underlying3 (key_int k) false 9999
  have hst : (Instr.keyThatStays (.int .i64 k) (.int .i64 k)).run Tryz.prog w = .ok (.int .i64 k) w := MapKept.run_keyThatStays (key_int k)
  cases hf : findI k 0 es with
  | none =>
    rw [findI_none hf]
    unfold Instr.mapUpdate
    simp only [Sem.run_bind, run_underlying hm, Result.andThen_ok, MapKept.run_getObj_map hb', hc, run_find_i, hf, setObj_run w hb']
    simp [iObj, iEnts_append, iEnts, iEnt]
  | some p =>
    obtain ⟨n, a⟩ := p
    obtain ⟨_, h2, h3⟩ := findI_some hf
    rw [Nat.sub_zero] at h2 h3
    have hn : n < es.length := (List.getElem?_eq_some_iff.1 h2).1
    have hent : (iEnts 0 es).toArray[n]? = some ⟨.int .i64 k, a, n⟩ := by
      rw [List.getElem?_toArray, iEnts_get, h2]; simp [iEnt]
    unfold Instr.mapUpdate
    simp only [Sem.run_bind, run_underlying hm, Result.andThen_ok, MapKept.run_getObj_map hb', hc, run_find_i, hf, hent, Option.map_some, Option.getD_some, hst, setObj_run w hb']
    rw [h3]
    have ha : (iEnts 0 es).toArray.modify n (fun e => { e with key := .int .i64 k, val := v }) = (iEnts 0 (es.set n (k, v))).toArray := by
      apply Array.ext_getElem?
      intro j
      rw [Array.getElem?_modify, List.getElem?_toArray, List.getElem?_toArray, iEnts_get, iEnts_get, List.getElem?_set]
      by_cases hij : n = j
      · subst hij
        rw [if_pos rfl, if_pos rfl, if_pos hn, h2]; simp [iEnt]
      · rw [if_neg hij, if_neg hij]
    rw [ha, iObj, List.length_set]

theorem run_choose {α : Type} (q : Question) (f : Nat → Sem α) (W : World) : ∃ (t : Nat) (W1 : World), (W1 = W ∨ W1 = W.drew) ∧ (choose q >>= f).run Tryz.prog W = (f t).run Tryz.prog W1 ∧ ∀ n, q = .mapNext n → 0 < n → t < n := by
  by_cases hf : q.forced = true
  · refine ⟨0, W, .inl rfl, ?_, fun n _ hn => hn⟩
    simp [choose, Sem.run, hf]
  · refine ⟨q.cut (W.tape W.drawn q), W.drew, .inr rfl, ?_, fun n hq hn => ?_⟩
    · simp [choose, Sem.run, hf]
    · subst hq
      exact Nat.mod_lt _ hn
/-- the block of the iterator: which entries have come -/
def itObj (m n : Nat) (seen : List Nat) : Obj := .mapIter (some m) n seen.toArray n
theorem run_next_i {W : World} {r m : Nat} {es : List (Int × Value)} {seen : List Nat} (hr : W.heap[r]? = some (itObj m es.length seen)) (hm : W.heap[m]? = some (iObj es)) (ty : TypeId) :
    (∃ (i : Nat) (l : Int × Value) (W1 : World), es[i]? = some l ∧ i ∉ seen ∧ (W1 = W ∨ W1 = W.drew) ∧ (Instr.next (.pointer (some ⟨r, 0, none⟩)) false ty).run Tryz.prog W = .ok (.tuple #[.bool true, .int .i64 l.1, l.2]) (setB W1 r (itObj m es.length (seen ++ [i])))) ∨
    (∃ W1 : World, (∀ i, i < es.length → i ∈ seen) ∧ (W1 = W ∨ W1 = W.drew) ∧ (Instr.next (.pointer (some ⟨r, 0, none⟩)) false ty).run Tryz.prog W = .ok (.tuple #[.bool false]) W1) := by
  have hr' : W.heap[r]? = some (.mapIter (some m) es.length seen.toArray es.length) := hr
  have hm' : W.heap[m]? = some (.map (iEnts 0 es).toArray es.length) := hm
  have g1 : (getObj r).run Tryz.prog W = .ok (.mapIter (some m) es.length seen.toArray es.length) W := by simp [getObj, Sem.run, hr']
  have g2 := MapKept.run_getObj_map (P := Tryz.prog) hm'
  have hborn : ∀ e ∈ iEnts 0 es, e.born < es.length := by
    intro e he
    obtain ⟨i, hi⟩ := List.getElem?_of_mem he
    rw [iEnts_get] at hi
    cases hl : es[i]? with
    | none => rw [hl] at hi; cases hi
    | some l =>
      rw [hl] at hi
      simp only [Option.map_some, Option.some.injEq] at hi
      have := (List.getElem?_eq_some_iff.1 hl).1
      rw [← hi]; simp [iEnt]; exact this
  have hchk : (!seen.toArray.isEmpty && !(iEnts 0 es).toArray.isEmpty && (iEnts 0 es).toArray.all (fun e => decide (e.born ≥ es.length))) = false := by
    cases hes : iEnts 0 es with
    | nil => simp
    | cons e r =>
      have := hborn e (by rw [hes]; simp)
      simp
      intro _ h
      omega
  have hold : ((iEnts 0 es).toArray.filter fun e => !seen.toArray.contains e.born).filter (fun e => decide (e.born < es.length)) = (iEnts 0 es).toArray.filter fun e => !seen.toArray.contains e.born := by
    rw [Array.filter_eq_self]
    intro e he
    have := hborn e (by simpa using (Array.mem_filter.1 he).1)
    simpa using this
  have hnew : ((iEnts 0 es).toArray.filter fun e => !seen.toArray.contains e.born).filter (fun e => decide (e.born ≥ es.length)) = #[] := by
    rw [Array.filter_eq_empty_iff]
    intro e he
    have := hborn e (by simpa using (Array.mem_filter.1 he).1)
    simp; omega
  have hrun : ∀ (c : Array (Option MapEntry)), c = (if ((iEnts 0 es).toArray.filter fun e => !seen.toArray.contains e.born).isEmpty then #[none] else #[]) ++ ((iEnts 0 es).toArray.filter fun e => !seen.toArray.contains e.born).map some →
      (Instr.next (.pointer (some ⟨r, 0, none⟩)) false ty).run Tryz.prog W = (choose (.mapNext c.size) >>= fun t => match c[t]? with
        | some (some e) => do setObj r (.mapIter (some m) es.length (seen.toArray.push e.born) es.length); pure (.tuple #[.bool true, e.key, e.val])
        | some none => pure (.tuple #[.bool false])
        | none => stuck "Next: no such candidate").run Tryz.prog W := by
    intro c hc
    unfold Instr.next
    simp only [Sem.run_bind, g1, Result.andThen_ok, g2, hchk, Bool.false_eq_true, if_false, hold, hnew, Array.append_empty, ← hc]
    rfl
  have hmem : ∀ e, e ∈ ((iEnts 0 es).toArray.filter fun e => !seen.toArray.contains e.born) ↔ e ∈ iEnts 0 es ∧ e.born ∉ seen := by
    intro e
    rw [Array.mem_filter]
    simp
  generalize ((iEnts 0 es).toArray.filter fun e => !seen.toArray.contains e.born) = F at hrun hmem
  by_cases hF : F = #[]
  · right
    subst hF
    have h := hrun #[none] (by simp)
    obtain ⟨t, W1, hW1, hc, hlt⟩ := run_choose (.mapNext (#[none] : Array (Option MapEntry)).size) (fun t => match (#[none] : Array (Option MapEntry))[t]? with
        | some (some e) => do setObj r (.mapIter (some m) es.length (seen.toArray.push e.born) es.length); pure (Value.tuple #[.bool true, e.key, e.val])
        | some none => pure (.tuple #[.bool false])
        | none => stuck "Next: no such candidate") W
    have ht : t = 0 := by have := hlt _ rfl (by simp); simp at this; exact this
    subst ht
    refine ⟨W1, fun i hi => ?_, hW1, ?_⟩
    · by_cases hin : i ∈ seen
      · exact hin
      · have hl : es[i]? = some es[i] := List.getElem?_eq_getElem hi
        have : iEnt i es[i] ∈ iEnts 0 es := List.mem_of_getElem? (i := i) (by rw [iEnts_get, hl]; simp)
        have := (hmem _).2 ⟨this, by simpa [iEnt] using hin⟩
        simp at this
    · rw [h, hc]; rfl
  · left
    have hne : F.isEmpty = false := by simpa using hF
    have hpos : 0 < F.size := by
      rcases Nat.eq_zero_or_pos F.size with h0 | h0
      · exact absurd (Array.eq_empty_of_size_eq_zero h0) hF
      · exact h0
    have h := hrun (F.map some) (by rw [hne]; simp)
    obtain ⟨t, W1, hW1, hc, hlt⟩ := run_choose (.mapNext (F.map some).size) (fun t => match (F.map some)[t]? with
        | some (some e) => do setObj r (.mapIter (some m) es.length (seen.toArray.push e.born) es.length); pure (Value.tuple #[.bool true, e.key, e.val])
        | some none => pure (.tuple #[.bool false])
        | none => stuck "Next: no such candidate") W
    have ht : t < F.size := by have := hlt _ rfl (by simpa using hpos); simpa using this
    have hFt : (F.map some)[t]? = some (some F[t]) := by simp [ht]
    obtain ⟨h1, h2⟩ := (hmem F[t]).1 (Array.getElem_mem ht)
    obtain ⟨i, hi⟩ := List.getElem?_of_mem h1
    rw [iEnts_get] at hi
    cases hl : es[i]? with
    | none => rw [hl] at hi; cases hi
    | some l =>
      rw [hl] at hi
      simp only [Option.map_some, Option.some.injEq, Nat.zero_add] at hi
      rw [← hi] at h2
      refine ⟨i, l, W1, hl, by simpa [iEnt] using h2, hW1, ?_⟩
      have hr1 : W1.heap[r]? = some (.mapIter (some m) es.length seen.toArray es.length) := by rcases hW1 with rfl | rfl <;> exact hr'
      rw [h, hc, hFt, ← hi]
      simp only [Sem.run_bind, Sem.run_pure]
      simp [setObj, Sem.run, hr1, setB, itObj, iEnt]
theorem run_entry_i {W : World} {r m : Nat} {es : List (Int × Value)} {seen : List Nat} {i : Nat} {l : Int × Value} (hr : W.heap[r]? = some (itObj m es.length (seen ++ [i]))) (hm : W.heap[m]? = some (iObj es)) (hl : es[i]? = some l) :
    (Instr.entry (.pointer (some ⟨r, 0, none⟩))).run Tryz.prog W = .ok (.tuple #[.int .i64 l.1, l.2]) W := by
  have hr' : W.heap[r]? = some (.mapIter (some m) es.length (seen ++ [i]).toArray es.length) := hr
  have hm' : W.heap[m]? = some (.map (iEnts 0 es).toArray es.length) := hm
  have g1 : (getObj r).run Tryz.prog W = .ok (.mapIter (some m) es.length (seen ++ [i]).toArray es.length) W := by simp [getObj, Sem.run, hr']
  have g2 := MapKept.run_getObj_map (P := Tryz.prog) hm'
  have hback : (seen ++ [i]).toArray.back? = some i := by simp
  have hfind : (iEnts 0 es).toArray.find? (fun e => e.born == i) = some (iEnt i l) := by
    rw [List.find?_toArray]
    have hi : i < es.length := (List.getElem?_eq_some_iff.1 hl).1
    rw [List.find?_eq_some_iff_getElem]
    refine ⟨by simp [iEnt], i, by rw [iEnts_len]; exact hi, ?_, fun j hj => ?_⟩
    · have := iEnts_get 0 es i
      rw [List.getElem?_eq_getElem (by rw [iEnts_len]; exact hi), hl] at this
      injection this with this
      rw [this]; simp
    · have := iEnts_get 0 es j
      rw [List.getElem?_eq_getElem (by rw [iEnts_len]; omega), List.getElem?_eq_getElem (by omega)] at this
      injection this with this
      rw [this]; simp [iEnt]; omega
  unfold Instr.entry
  simp only [Sem.run_bind, g1, Result.andThen_ok, hback, g2, hfind, bne_self_eq_false, Bool.false_eq_true, if_false, Sem.run_pure]
  rfl
end Go.Proofs.YtnkephafpebfkaaGreatDoor
