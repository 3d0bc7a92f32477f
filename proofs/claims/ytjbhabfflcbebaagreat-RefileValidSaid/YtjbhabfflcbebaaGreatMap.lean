/- The map of sums of package payslip, entry by entry: map[title]int, keys of a number and a string. -/
import Derived.Test.YtjbhabfflcbebaaGreatLine
import Derived.Laws.StructEq
import Derived.MapKept
import Derived.KernelRfl
namespace Go.Proofs.YtjbhabfflcbebaaGreat
open Go.RowKit

def tEnt (i : Nat) (l : Ln) : MapEntry := ⟨.agg #[.int .i64 l.kind, .string l.code], .int .i64 l.amt, i⟩
def tEnts (j : Nat) : List Ln → List MapEntry
  | [] => []
  | l :: r => tEnt j l :: tEnts (j + 1) r
/-- the map's block: the sums in the order in which their titles came -/
def tObj (es : List Ln) : Obj := .map (tEnts 0 es).toArray es.length
def sameT (k : Int) (c : ByteArray) (l : Ln) : Bool := (k == l.kind) && (c.toList == l.code.toList)
/-- the place of a title, counted from j -/
def findT (k : Int) (c : ByteArray) (j : Nat) : List Ln → Option (Nat × Int)
  | [] => none
  | l :: r => if sameT k c l then some (j, l.amt) else findT k c (j + 1) r
/-- the sum of a title -/
def amtT (es : List Ln) (k : Int) (c : ByteArray) : Int := ((findT k c 0 es).map (·.2)).getD 0
/-- the sums after one of them has been set -/
def putT (k : Int) (c : ByteArray) (v : Int) : List Ln → List Ln
  | [] => [⟨k, c, v⟩]
  | l :: r => if sameT k c l then ⟨k, c, v⟩ :: r else l :: putT k c v r

theorem run_eq_title (a b : Int) (c d : ByteArray) (w : World) : (Op.equal 86 (.agg #[.int .i64 a, .string c]) (.agg #[.int .i64 b, .string d])).run Tryz.prog w = .ok ((a == b) && (c.toList == d.toList)) w := by
  unfold Op.equal Op.maxDepth
  simp [go_sem]
  by_cases h1 : a = b <;> by_cases h2 : c.toList = d.toList <;> simp [h1, h2]
theorem run_check_title (e : Bool) (a : Int) (c : ByteArray) (w : World) : (Instr.checkKey e 10000 86 (.agg #[.int .i64 a, .string c])).run Tryz.prog w = .ok () w := by
  kernel_rfl
theorem run_asking (k : Int) (c : ByteArray) (w : World) (es : List Ln) (j : Nat) :
    (Instr.findAsking 86 (.agg #[.int .i64 k, .string c]) (tEnts j es) j).run Tryz.prog w = .ok ((findT k c j es).map fun p => (p.1, .int .i64 p.2)) w := by
  induction es generalizing j with
  | nil => rfl
  | cons l r ih =>
    have e : (Op.equal 86 (.agg #[.int .i64 k, .string c]) (tEnt j l).key).run Tryz.prog w = .ok (sameT k c l) w := run_eq_title k l.kind c l.code w
    rw [tEnts, Instr.findAsking, Sem.run_bind, e, Result.andThen_ok, findT]
    by_cases h : sameT k c l = true
    · rw [if_pos h, if_pos h]; rfl
    · rw [if_neg h, if_neg h]; exact ih (j + 1)
theorem run_find (k : Int) (c : ByteArray) (w : World) (es : List Ln) :
    (Instr.findKey 86 (.agg #[.int .i64 k, .string c]) (tEnts 0 es)).run Tryz.prog w = .ok ((findT k c 0 es).map fun p => (p.1, .int .i64 p.2)) w := by
  cases es with
  | nil => kernel_rfl
  | cons l r =>
    have h := run_asking k c w (l :: r) 0
    unfold Instr.findKey
    simp only [Sem.run_bind, run_underlying Tryz.underlying86, Result.andThen_ok, tEnts, Instr.findNow, Instr.sameNow]
    exact h

theorem tEnts_get (j : Nat) (es : List Ln) (i : Nat) : (tEnts j es)[i]? = (es[i]?).map (tEnt (j + i)) := by
  induction es generalizing j i with
  | nil => simp [tEnts]
  | cons l r ih =>
    cases i with
    | zero => simp [tEnts]
    | succ i => simp only [tEnts, List.getElem?_cons_succ, ih]; rw [show j + 1 + i = j + (i + 1) by omega]
theorem tEnts_len (j : Nat) (es : List Ln) : (tEnts j es).length = es.length := by
  induction es generalizing j with
  | nil => rfl
  | cons l r ih => simp [tEnts, ih]
theorem tEnts_append (j : Nat) (es fs : List Ln) : tEnts j (es ++ fs) = tEnts j es ++ tEnts (j + es.length) fs := by
  induction es generalizing j with
  | nil => simp [tEnts]
  | cons l r ih => simp only [List.cons_append, tEnts, ih, List.length_cons]; rw [show j + 1 + r.length = j + (r.length + 1) by omega]
theorem sameT_eq {k : Int} {c : ByteArray} {l : Ln} (h : sameT k c l = true) : l.kind = k ∧ l.code = c := by
  simp only [sameT, Bool.and_eq_true, beq_iff_eq] at h
  refine ⟨h.1.symm, ?_⟩
  have h2 := h.2
  rw [ByteArray.toList_eq, ByteArray.toList_eq] at h2
  exact (Go.WideShapes.bytes_inj h2).symm
theorem findT_some {k : Int} {c : ByteArray} {j : Nat} {es : List Ln} {n : Nat} {a : Int} (h : findT k c j es = some (n, a)) : j ≤ n ∧ ∃ l, es[n - j]? = some l ∧ l.kind = k ∧ l.code = c ∧ l.amt = a ∧ ∀ v, putT k c v es = es.set (n - j) ⟨k, c, v⟩ := by
  induction es generalizing j with
  | nil => simp [findT] at h
  | cons l r ih =>
    simp only [findT] at h
    by_cases hs : sameT k c l = true
    · rw [if_pos hs] at h
      injection h with h
      obtain ⟨rfl, rfl⟩ := Prod.mk.inj h
      obtain ⟨h1, h2⟩ := sameT_eq hs
      exact ⟨Nat.le_refl _, l, by simp, h1, h2, rfl, fun v => by simp [putT, hs]⟩
    · rw [if_neg hs] at h
      obtain ⟨h1, l', h2, h3, h4, h5, h6⟩ := ih h
      refine ⟨by omega, l', ?_, h3, h4, h5, fun v => ?_⟩
      · rw [show n - j = (n - (j + 1)) + 1 by omega, List.getElem?_cons_succ]; exact h2
      · rw [show n - j = (n - (j + 1)) + 1 by omega, List.set_cons_succ, ← h6 v]; simp [putT, hs]
theorem findT_none {k : Int} {c : ByteArray} {j : Nat} {es : List Ln} (h : findT k c j es = none) (v : Int) : putT k c v es = es ++ [⟨k, c, v⟩] := by
  induction es generalizing j with
  | nil => rfl
  | cons l r ih =>
    simp only [findT] at h
    by_cases hs : sameT k c l = true
    · rw [if_pos hs] at h; cases h
    · rw [if_neg hs] at h
      simp [putT, hs, ih h]

/-- a world with another block b -/
def setB (w : World) (b : Nat) (o : Obj) : World := { w with heap := w.heap.setIfInBounds b o }
theorem setB_at {w : World} {b : Nat} {o' : Obj} (h : b < w.heap.size) : (setB w b o').heap[b]? = some o' := by
  simp [setB, h]
theorem lt_of_some {w : World} {b : Nat} {o : Obj} (h : w.heap[b]? = some o) : b < w.heap.size := by
  rcases Nat.lt_or_ge b w.heap.size with hlt | hge
  · exact hlt
  · rw [Array.getElem?_eq_none hge] at h; cases h
theorem setB_grown {w : World} {b : Nat} {o : Obj} : w.grownBy (setB w b o) (some b) :=
  ⟨rfl, rfl, rfl, by simp [setB], fun k hk hne => by simp only [setB]; rw [Array.getElem?_setIfInBounds_ne (by intro h; exact hne (by rw [h]))]⟩
theorem getObj_run {α : Type} (w : World) {b : Nat} {es : Array MapEntry} {n : Nat} (h : w.heap[b]? = some (.map es n)) (f : Obj → Sem α) : (getObj b >>= f).run Tryz.prog w = (f (.map es n)).run Tryz.prog w := by
  rw [Sem.run_bind, MapKept.run_getObj_map h]; rfl
theorem setObj_run (w : World) {b : Nat} {es : Array MapEntry} {n : Nat} (h : w.heap[b]? = some (.map es n)) (o : Obj) : (setObj b o).run Tryz.prog w = .ok () (setB w b o) := by
  rw [MapKept.run_setObj_map _ h]; rfl

theorem run_lookup_title {w : World} {b : Nat} {es : List Ln} (hb : w.heap[b]? = some (tObj es)) (k : Int) (c : ByteArray) :
    (Instr.lookup 84 (.map (some b)) (.agg #[.int .i64 k, .string c]) false).run Tryz.prog w = .ok (.int .i64 (amtT es k c)) w := by
  have hz : (zeroValue 3).run Tryz.prog w = .ok (.int .i64 0) w := by kernel_rfl
  have hb' : w.heap[b]? = some (.map (tEnts 0 es).toArray es.length) := hb
  unfold Instr.lookup
  simp only [Sem.run_bind, run_underlying Tryz.underlying84, Result.andThen_ok, MapKept.run_getObj_map hb', Sem.run_pure, run_check_title, run_find]
  unfold amtT
  cases hf : findT k c 0 es with
  | none => simp [hz]
  | some p => simp
theorem modify_self {es : Array MapEntry} {i : Nat} {e : MapEntry} {f : MapEntry → MapEntry} (h : es[i]? = some e) (hf : f e = e) : es.modify i f = es := by
  apply Array.ext_getElem?
  intro j
  rw [Array.getElem?_modify]
  by_cases hij : i = j
  · subst hij; rw [if_pos rfl, h]; simp [hf]
  · rw [if_neg hij]
theorem run_stays (k : Int) (c : ByteArray) (w : World) : (Instr.keyThatStays (.agg #[.int .i64 k, .string c]) (.agg #[.int .i64 k, .string c])).run Tryz.prog w = .ok (.agg #[.int .i64 k, .string c]) w := by
  have hc : (c == c) = true := by rw [beq_toListBytes]; simp
  simp [Instr.keyThatStays, Instr.sameBits, hc]
theorem findT_append_none {k : Int} {c : ByteArray} {j : Nat} {es fs : List Ln} (h : findT k c j es = none) : findT k c j (es ++ fs) = findT k c (j + es.length) fs := by
  induction es generalizing j with
  | nil => rfl
  | cons l r ih =>
    simp only [findT] at h
    by_cases hs : sameT k c l = true
    · rw [if_pos hs] at h; cases h
    · rw [if_neg hs] at h
      rw [List.cons_append, findT, if_neg hs, ih h, List.length_cons, show j + 1 + r.length = j + (r.length + 1) by omega]
theorem run_entry_title {w : World} {b : Nat} {es : List Ln} (hb : w.heap[b]? = some (tObj es)) (k : Int) (c : ByteArray) :
    ∃ (n : Nat) (fs : List Ln), (Instr.mapEntry 84 (.map (some b)) (.agg #[.int .i64 k, .string c])).run Tryz.prog w = .ok (.tuple #[.int .i64 (amtT es k c), .int .i64 n]) (setB w b (tObj fs)) ∧
      amtT fs k c = amtT es k c ∧ n < fs.length ∧ (∀ v, fs.set n ⟨k, c, v⟩ = putT k c v es) ∧ fs[n]? = some ⟨k, c, amtT es k c⟩ := by
  have hz : (zeroValue 3).run Tryz.prog w = .ok (.int .i64 0) w := by kernel_rfl
  have hb' : w.heap[b]? = some (.map (tEnts 0 es).toArray es.length) := hb
  cases hf : findT k c 0 es with
  | none =>
    have hp := findT_none hf
    refine ⟨es.length, es ++ [⟨k, c, 0⟩], ?_, ?_, by simp, fun v => by rw [hp v]; simp, ?_⟩
    · unfold Instr.mapEntry
      simp only [Sem.run_bind, run_underlying Tryz.underlying84, Result.andThen_ok, MapKept.run_getObj_map hb', Sem.run_pure, run_check_title, run_find, hf, Option.map_none, hz, MapKept.run_setObj_map _ hb']
      simp [tObj, tEnts_append, tEnts, tEnt, setB, goInt, amtT, hf]
    · unfold amtT
      rw [hf, findT_append_none hf]
      simp [findT, sameT]
    · simp [amtT, hf]
  | some p =>
    obtain ⟨n, a⟩ := p
    obtain ⟨_, l, h1, h2, h3, h4, h5⟩ := findT_some hf
    rw [Nat.sub_zero] at h1
    have hlt : n < es.length := (List.getElem?_eq_some_iff.1 h1).1
    have hent : (tEnts 0 es).toArray[n]? = some ⟨.agg #[.int .i64 k, .string c], .int .i64 a, n⟩ := by
      rw [List.getElem?_toArray, tEnts_get, h1]; simp [tEnt, h2, h3, h4]
    refine ⟨n, es, ?_, rfl, hlt, fun v => by rw [h5 v, Nat.sub_zero], ?_⟩
    · unfold Instr.mapEntry
      simp only [Sem.run_bind, run_underlying Tryz.underlying84, Result.andThen_ok, MapKept.run_getObj_map hb', Sem.run_pure, run_check_title, run_find, hf, Option.map_some, hent, Option.getD_some, run_stays, MapKept.run_setObj_map _ hb', modify_self (f := fun e => { e with key := .agg #[.int .i64 k, .string c] }) hent rfl]
      simp [amtT, hf, setB, tObj, goInt]
    · rw [h1, amtT, hf]
      obtain ⟨x, y, z⟩ := l
      simp only at h2 h3 h4
      subst h2 h3 h4
      rfl
theorem run_store_title {w : World} {b : Nat} {fs : List Ln} (hb : w.heap[b]? = some (tObj fs)) {n : Nat} (hn : n < fs.length) {k : Int} {c : ByteArray} {a0 : Int} (hat : fs[n]? = some ⟨k, c, a0⟩) (v : Int) (mt : TypeId) :
    (Instr.entryStore mt (.map (some b)) (.int .i64 n) (.int .i64 v)).run Tryz.prog w = .ok () (setB w b (tObj (fs.set n ⟨k, c, v⟩))) := by
  have hb' : w.heap[b]? = some (.map (tEnts 0 fs).toArray fs.length) := hb
  have hi : (tEnts 0 fs).toArray.findIdx? (fun e => (e.born : Int) == (n : Int)) = some n := by
    rw [List.findIdx?_toArray]
    rw [List.findIdx?_eq_some_iff_getElem]
    have hl : n < (tEnts 0 fs).length := by rw [tEnts_len]; exact hn
    refine ⟨hl, ?_, fun j hj => ?_⟩
    · have := tEnts_get 0 fs n
      rw [List.getElem?_eq_getElem hl, hat] at this
      injection this with this
      rw [this]; simp [tEnt]
    · have := tEnts_get 0 fs j
      rw [List.getElem?_eq_getElem (by omega), List.getElem?_eq_getElem (by omega)] at this
      injection this with this
      rw [this]; simp [tEnt]; omega
  unfold Instr.entryStore
  have hai : (asInt (.int .i64 (n : Int))).run Tryz.prog w = .ok (n : Int) w := rfl
  simp only [Sem.run_bind, Result.andThen_ok, MapKept.run_getObj_map hb', hai, hi, MapKept.run_setObj_map _ hb', setB]
  congr 3
  simp only [tObj, List.length_set]
  congr 2
  apply Array.ext_getElem?
  intro j
  rw [Array.getElem?_modify, List.getElem?_toArray, List.getElem?_toArray, tEnts_get, tEnts_get, List.getElem?_set]
  by_cases hij : n = j
  · subst hij
    rw [if_pos rfl, if_pos rfl, if_pos hn, hat]; simp [tEnt]
  · rw [if_neg hij, if_neg hij]

end Go.Proofs.YtjbhabfflcbebaaGreat
