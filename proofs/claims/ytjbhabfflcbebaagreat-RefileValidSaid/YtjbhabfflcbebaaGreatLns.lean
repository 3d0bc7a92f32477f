/- Slices of lines, and the sums of lines by title. -/
import Derived.Test.YtjbhabfflcbebaaGreatMap
import Derived.Test.YtjbhabfflcbebaaGreatSlice
namespace Go.Proofs.YtjbhabfflcbebaaGreat
open Go.RowKit

def lns (l : List Ln) : List (List Value) := l.map Ln.vals
theorem lns_len (l : List Ln) : (lns l).length = l.length := by simp [lns]
theorem lns_at {l : List Ln} {k : Nat} (h : k < l.length) : (lns l)[k]? = some (l[k]).vals := by simp [lns, h]
theorem CellsAt.ln {w : World} {b off : Nat} {l : List Ln} (h : CellsAt w 3 b off (lns l)) {k : Nat} (hk : k < l.length) :
    w.cell? ⟨b, off + k * 3, none⟩ = some (.int .i64 (l[k]).kind) ∧ w.cell? ⟨b, off + k * 3 + 1, none⟩ = some (.string (l[k]).code) ∧ w.cell? ⟨b, off + k * 3 + 2, none⟩ = some (.int .i64 (l[k]).amt) :=
  ⟨h.2 k _ (lns_at hk) 0 _ rfl, h.2 k _ (lns_at hk) 1 _ rfl, h.2 k _ (lns_at hk) 2 _ rfl⟩
theorem lns_pos {l : List Ln} {k : Nat} (hlt : k < l.length) (h : lns l = []) : False := by
  have := congrArg List.length h
  rw [lns_len] at this; simp only [List.length_nil] at this; omega
theorem lns_wide (l : List Ln) : Wide 3 (lns l) := fun x hx => by
  obtain ⟨p, _, rfl⟩ := List.mem_map.1 hx
  exact ⟨rfl, by simp [Ln.vals, Value.oneCell']⟩
theorem lns_append (l m : List Ln) : lns (l ++ m) = lns l ++ lns m := by simp [lns]
theorem rowLn : RowTy Tryz.prog 30 51 3 32 := by
  obtain ⟨i, hi, hz, hs, hb⟩ := info_parts (show (Tryz.prog.info? 51).map (fun i => (i.zero, i.size, i.bytes)) = some (some (.agg #[.int .i64 0, .string ⟨#[]⟩, .int .i64 0]), 3, 32) by kernel_rfl)
  exact ⟨Tryz.underlying30, ⟨i, _, hi, hz, hs, hb, rfl⟩, by omega⟩

/-- one line added to the sums -/
def addT (es : List Ln) (x : Ln) : List Ln := putT x.kind x.code (amtT es x.kind x.code + x.amt) es
/-- the sums of lines, in the order in which their titles came -/
def sumsT (l : List Ln) : List Ln := l.foldl addT []
theorem sumsT_snoc (l : List Ln) (k : Nat) (h : k < l.length) : sumsT (l.take (k + 1)) = addT (sumsT (l.take k)) l[k] := by
  unfold sumsT
  rw [List.take_succ_eq_append_getElem h, List.foldl_append]; rfl
theorem sameT_iff (k : Int) (c : ByteArray) (l : Ln) : sameT k c l = true ↔ l.kind = k ∧ l.code = c :=
  ⟨sameT_eq, fun ⟨h1, h2⟩ => by simp [sameT, h1, h2]⟩
theorem findT_put (es : List Ln) (k : Int) (c : ByteArray) (v : Int) (k' : Int) (c' : ByteArray) (j : Nat) : (findT k' c' j (putT k c v es)).map (·.2) = if k' = k ∧ c' = c then some v else (findT k' c' j es).map (·.2) := by
  induction es generalizing j with
  | nil =>
    simp only [putT, findT]
    by_cases h : k' = k ∧ c' = c
    · rw [if_pos ((sameT_iff _ _ _).2 ⟨h.1.symm, h.2.symm⟩), if_pos h]; rfl
    · rw [if_neg (fun hh => h ⟨((sameT_iff _ _ _).1 hh).1.symm, ((sameT_iff _ _ _).1 hh).2.symm⟩), if_neg h]
  | cons l r ih =>
    simp only [putT]
    by_cases hs : sameT k c l = true
    · rw [if_pos hs]
      simp only [findT]
      obtain ⟨e1, e2⟩ := sameT_eq hs
      by_cases h : k' = k ∧ c' = c
      · rw [if_pos ((sameT_iff _ _ _).2 ⟨h.1.symm, h.2.symm⟩), if_pos h]; rfl
      · rw [if_neg (fun hh => h ⟨((sameT_iff _ _ _).1 hh).1.symm, ((sameT_iff _ _ _).1 hh).2.symm⟩), if_neg h,
          if_neg (fun hh => h ⟨((sameT_iff _ _ _).1 hh).1.symm.trans e1, ((sameT_iff _ _ _).1 hh).2.symm.trans e2⟩)]
    · rw [if_neg hs]
      simp only [findT]
      by_cases h' : sameT k' c' l = true
      · rw [if_pos h', if_pos h', if_neg]
        intro hh
        obtain ⟨e1, e2⟩ := sameT_eq h'
        exact hs ((sameT_iff _ _ _).2 ⟨e1.trans hh.1, e2.trans hh.2⟩)
      · rw [if_neg h', if_neg h', ih]
theorem amtT_put (es : List Ln) (k : Int) (c : ByteArray) (v : Int) (k' : Int) (c' : ByteArray) : amtT (putT k c v es) k' c' = if k' = k ∧ c' = c then v else amtT es k' c' := by
  unfold amtT
  rw [findT_put]
  split <;> rfl
theorem amtT_fold (l : List Ln) (es : List Ln) (M : Int) (_hM : 0 ≤ M) (B : Int) (hB : ∀ k c, -B ≤ amtT es k c ∧ amtT es k c ≤ B) (h : ∀ x ∈ l, -M ≤ x.amt ∧ x.amt ≤ M) (k : Int) (c : ByteArray) :
    -(B + M * l.length) ≤ amtT (l.foldl addT es) k c ∧ amtT (l.foldl addT es) k c ≤ B + M * l.length := by
  induction l generalizing es B with
  | nil => simpa using hB k c
  | cons x r ih =>
    have hx := h x (by simp)
    have := ih (addT es x) (B + M) (fun k' c' => by
      unfold addT
      rw [amtT_put]
      have h1 := hB x.kind x.code
      have h2 := hB k' c'
      split <;> omega) (fun y hy => h y (by simp [hy]))
    have e : M * ((x :: r).length : Int) = M * r.length + M := by rw [List.length_cons]; push_cast; rw [Int.mul_add, Int.mul_one]
    rw [List.foldl_cons, e]
    omega
theorem formed_amt {x : Ln} (h : formedB x = true) : -1000000000000 ≤ x.amt ∧ x.amt ≤ 1000000000000 := by simp [formedB, totB] at h; omega
theorem amtT_bound (l : List Ln) (h : l.all formedB = true) (k : Int) (c : ByteArray) : -(1000000000000 * (l.length : Int)) ≤ amtT (sumsT l) k c ∧ amtT (sumsT l) k c ≤ 1000000000000 * (l.length : Int) := by
  have := amtT_fold l [] 1000000000000 (by omega) 0 (fun k c => by simp [amtT, findT]) (fun x hx => formed_amt (List.all_eq_true.1 h x hx)) k c
  unfold sumsT
  omega

end Go.Proofs.YtjbhabfflcbebaaGreat
