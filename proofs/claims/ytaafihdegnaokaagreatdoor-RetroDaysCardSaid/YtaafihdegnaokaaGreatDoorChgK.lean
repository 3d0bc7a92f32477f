/- slices.Compact at changes: neighbours that are equal, once. -/
import Derived.Test.YtaafihdegnaokaaGreatDoorChgC
import Derived.Test.YtaafihdegnaokaaGreatDoorSet
import Derived.BigQuiet
import Derived.Deep.QuietTactic
namespace Go.Proofs.YtaafihdegnaokaaGreatDoor
open Go.RowKit

deriving instance DecidableEq for Chg
theorem eqC (a b : Chg) (w : World) : (binOp .eql 66 (.agg #[.int .i64 a.f, .int .i64 a.k, .int .i64 a.v, .bool a.d]) (.agg #[.int .i64 b.f, .int .i64 b.k, .int .i64 b.v, .bool b.d])).run Tryz.prog w = .ok (.bool (decide (a = b))) w := by
  obtain ⟨f, k, v, d⟩ := a
  obtain ⟨f', k', v', d'⟩ := b
  simp only [Chg.mk.injEq]
  by_cases h1 : f = f'
  · subst h1
    by_cases h2 : k = k'
    · subst h2
      by_cases h3 : v = v'
      · subst h3
        cases d <;> cases d' <;> simp [go_sem]
      · have e : (v == v') = false := by simpa using h3
        simp [go_sem, e, h3]
    · have e : (k == k') = false := by simpa using h2
      simp [go_sem, e, h2]
  · have e : (f == f') = false := by simpa using h1
    simp [go_sem, e, h1]
theorem neC (a b : Chg) (w : World) : (binOp .neq 66 (.agg #[.int .i64 a.f, .int .i64 a.k, .int .i64 a.v, .bool a.d]) (.agg #[.int .i64 b.f, .int .i64 b.k, .int .i64 b.v, .bool b.d])).run Tryz.prog w = .ok (.bool (!decide (a = b))) w := by
  have h := eqC a b w
  rw [run_eql_struct] at h
  rw [run_neq_struct]
  revert h
  generalize (Op.equalIn 10000 66 _ _).run Tryz.prog w = r
  cases r with
  | ok x w1 => intro h; simp only [Result.andThen_ok, Result.ok.injEq, Value.bool.injEq] at h ⊢; exact ⟨by rw [h.1], h.2⟩
  | halt x w1 => intro h; simp [Result.andThen] at h

theorem cpt_snoc : ∀ (l : List Chg) (a b : Chg), cpt (l ++ [a, b]) = if a = b then cpt (l ++ [a]) else cpt (l ++ [a]) ++ [b]
  | [], a, b => by
    by_cases h : a = b
    · rw [if_pos h]; simp [cpt, cmpC_zero, h]
    · rw [if_neg h]; simp [cpt, cmpC_zero, h]
  | [x], a, b => by
    have h := cpt_snoc [] a b
    simp only [List.nil_append, List.cons_append] at h ⊢
    rw [cpt, h]
    by_cases h1 : cmpC x a = 0 <;> by_cases h2 : a = b
    · subst h2; simp [cpt, h1]
    · simp [cpt, h1, h2]
    · subst h2; simp [cpt, h1]
    · simp [cpt, h1, h2]
  | x :: y :: r, a, b => by
    have h := cpt_snoc (y :: r) a b
    simp only [List.cons_append] at h ⊢
    rw [cpt, h, cpt]
    by_cases h1 : cmpC x y = 0 <;> by_cases h2 : a = b <;> simp [h1, h2]
theorem cpt_step {l : List Chg} {j : Nat} (hj : j + 1 < l.length) : cpt (l.take (j + 2)) = if l[j + 1] = l[j] then cpt (l.take (j + 1)) else cpt (l.take (j + 1)) ++ [l[j + 1]] := by
  have e1 : l.take (j + 2) = l.take j ++ [l[j], l[j + 1]] := by
    rw [List.take_succ_eq_append_getElem hj, List.take_succ_eq_append_getElem (by omega), List.append_assoc]; rfl
  have e2 : l.take (j + 1) = l.take j ++ [l[j]] := List.take_succ_eq_append_getElem (by omega)
  rw [e1, cpt_snoc, ← e2]
  by_cases h : l[j] = l[j + 1]
  · rw [if_pos h, if_pos h.symm]
  · rw [if_neg h, if_neg (Ne.symm h)]
theorem cpt_short {l : List Chg} (h : l.length < 2) : cpt l = l := by
  match l, h with
  | [], _ => rfl
  | [x], _ => rfl

theorem storeRun_set (us : List Value) : ∀ (w : World) (g j : Nat), w.setCells g j us = storeRun w g j us := by
  induction us with
  | nil => intro w g j; rfl
  | cons u r ih => intro w g j; rw [World.setCells, storeRun, ih]
theorem setRun_take (us : List Value) : ∀ (xs : List Value) (j k : Nat), k ≤ j → (setRun xs j us).take k = xs.take k := by
  induction us with
  | nil => intro xs j k _; rfl
  | cons u r ih =>
    intro xs j k h
    rw [setRun, ih _ _ _ (by omega)]
    exact List.take_set_of_le h
/-- an own slice cut -/
theorem Own.cut {w : World} {base e sz g n cap : Nat} {es : List (List Value)} (h : Own w base e sz (.slice (some ⟨g, 0, none⟩) n cap) es) (k : Nat) (hk : k ≤ n) : Own w base e sz (.slice (some ⟨g, 0, none⟩) k cap) (es.take k) := by
  obtain ⟨⟨h1, h2⟩, hw⟩ := h
  rcases h2 with ⟨h', _⟩ | ⟨g', cap', cur, h', hb, hg, hnc, hcm, hcs, ht⟩
  · simp at h'
  · injection h' with h3 h4 h5
    injection h3 with h3
    injection h3 with h3
    subst h3 h4 h5
    have hw' : Wide sz (es.take k) := fun x hx => hw x (List.mem_of_mem_take hx)
    have hkl : (es.take k).length = k := by rw [List.length_take]; omega
    refine ⟨⟨hw'.flat, .inr ⟨g, cap, cur, by rw [hkl], hb, hg, by omega, hcm, hcs, ?_⟩⟩, hw'⟩
    have e1 : es.flatten = (es.take k).flatten ++ (es.drop k).flatten := by rw [← List.flatten_append, List.take_append_drop]
    have e2 := hw'.flat
    have e3 : ((cur.toList.take (es.length * sz)).take ((es.take k).length * sz)) = (es.take k).flatten := by
      rw [ht, e1, ← e2, List.take_left]
    rw [List.take_take, Nat.min_eq_left (Nat.mul_le_mul_right _ (by omega))] at e3
    exact e3
theorem Own.chgE {w : World} {base e g n cap : Nat} {l : List Chg} (h : Own w base e 4 (.slice (some ⟨g, 0, none⟩) n cap) (chgs l)) {k : Nat} (hk : k < l.length) :
    w.cell? ⟨g, k * 4, none⟩ = some (.int .i64 (l[k]).f) ∧ w.cell? ⟨g, k * 4 + 1, none⟩ = some (.int .i64 (l[k]).k) ∧ w.cell? ⟨g, k * 4 + 2, none⟩ = some (.int .i64 (l[k]).v) ∧ w.cell? ⟨g, k * 4 + 3, none⟩ = some (.bool (l[k]).d) :=
  ⟨h.cellE (by omega) (chgs_at hk) (j := 0) rfl, h.cellE (by omega) (chgs_at hk) (j := 1) rfl, h.cellE (by omega) (chgs_at hk) (j := 2) rfl, h.cellE (by omega) (chgs_at hk) (j := 3) rfl⟩
theorem chgs_set (l : List Chg) (i : Nat) (c : Chg) : (chgs l).set i c.vals = chgs (l.set i c) := by simp [chgs, List.map_set]
theorem chgs_take (l : List Chg) (k : Nat) : (chgs l).take k = chgs (l.take k) := by simp [chgs, List.map_take]
theorem zeroCells_mem {z : Array Value} {n : Nat} (hz : 0 < z.size) {u : Value} (h : u ∈ (Builtin.zeroCells z n).toList) : u ∈ z.toList := by
  rw [Array.mem_toList_iff, Builtin.zeroCells, Array.mem_map] at h
  obtain ⟨i, _, rfl⟩ := h
  have : i % z.size < z.size := Nat.mod_lt _ hz
  rw [getElem!_pos z _ this]
  exact Array.mem_toList_iff.2 (Array.getElem_mem this)
theorem run_clear_own {P : Program} {w : World} {t e : TypeId} {sz bytes : Nat}
    (hT : RowTy P t e sz bytes) (hone : ∀ i z, P.info? e = some i → i.zero = some z → ∀ u ∈ z.cells.toList, u.oneCell' = true) (base g n cap c q : Nat) (ty : TypeId)
    (es : List (List Value)) (hown : Own w base e sz (.slice (some ⟨g, 0, none⟩) n cap) es) (hq : q < n) :
    ∃ w', (Builtin.clear_ #[t] ty #[.slice (some ⟨g, q * sz, none⟩) (n - q) c]).run P w = .ok (.tuple #[]) w' ∧ Own w' base e sz (.slice (some ⟨g, 0, none⟩) q cap) (es.take q) ∧ w.grownBy w' (some g) := by
  obtain ⟨i, z, hi, hz, hsi, hby, hzs⟩ := hT.hi
  have hn : n = es.length := by
    rcases hown.1.2 with ⟨h', _⟩ | ⟨g', cap', cur, h', _⟩
    · simp at h'
    · injection h'
  subst hn
  have hfl := hown.2.flat
  obtain ⟨us, hus⟩ : ∃ us, us = (Builtin.zeroCells z.cells (es.length - q)).toList := ⟨_, rfl⟩
  have hul : us.length = (es.length - q) * sz := by rw [hus, Array.length_toList, size_zeroCells, hzs]
  have hmul : (es.length - q) * sz + q * sz = es.length * sz := by rw [← Nat.add_mul]; congr 1; omega
  have hst := run_storeCells_cells (P := P) g (q * sz) us 0 w (by
    intro j hj
    rcases hown.1.2 with ⟨h', _⟩ | ⟨g', cap', cur, h', _, hg, hnc, _, hcs, _⟩
    · simp at h'
    · injection h' with h3 h4 h5
      injection h3 with h3
      injection h3 with h3
      subst h3 h5
      rw [cell_of_row w g _ cur e (0, 0) hg]
      have hle : es.length * sz ≤ cap * sz := Nat.mul_le_mul_right _ hnc
      simp only [Nat.add_zero]
      rw [Array.getElem?_eq_getElem (by omega)]; rfl) (fun j _ => hown.1.frozenAt _) (fun u hu => hone i z hi hz u (zeroCells_mem (by have := hT.hsz; omega) (hus ▸ hu)))
  have hzv : (zeroValue e).run P w = .ok z w := by simp [zeroValue, typeInfo, hi, hz]
  have hrun : (Builtin.clear_ #[t] ty #[.slice (some ⟨g, q * sz, none⟩) (es.length - q) c]).run P w = .ok (.tuple #[]) (storeRun w g (q * sz) us) := by
    rw [storeRun_set] at hst
    obtain ⟨m, hm⟩ : ∃ m, es.length - q = m + 1 := ⟨es.length - q - 1, by omega⟩
    rw [hm] at hus ⊢
    rw [hus] at hst ⊢
    simp [Builtin.clear_, run_underlying hT.ht, hzv, hst]
  obtain ⟨k1, k2⟩ := storeRun_own us (q * sz) hown.1
  refine ⟨_, hrun, ?_, k2⟩
  have hsame : (setRun es.flatten (q * sz) us).take (q * sz) = es.flatten.take (q * sz) := setRun_take _ _ _ _ (Nat.le_refl _)
  have hw' : Wide sz (es.take q) := fun x hx => hown.2 x (List.mem_of_mem_take hx)
  have hkl : (es.take q).length = q := by rw [List.length_take]; omega
  obtain ⟨h1, h2⟩ := k1
  rcases h2 with ⟨h', _⟩ | ⟨g', cap', cur, h', hb, hg, hnc, hcm, hcs, ht⟩
  · simp at h'
  · injection h' with h3 h4 h5
    injection h3 with h3
    injection h3 with h3
    subst h3 h5
    refine ⟨⟨hw'.flat, .inr ⟨g, cap, cur, by rw [hkl], hb, hg, by omega, hcm, hcs, ?_⟩⟩, hw'⟩
    have e1 : es.flatten.take (q * sz) = (es.take q).flatten := by
      have : es.flatten = (es.take q).flatten ++ (es.drop q).flatten := by rw [← List.flatten_append, List.take_append_drop]
      rw [this]
      exact List.take_left' (by rw [hw'.flat, hkl])
    rw [hkl, ← e1, ← hsame, ← ht, List.take_take, Nat.min_eq_left (by omega)]
theorem chg_zero : ∀ i z, Tryz.prog.info? 66 = some i → i.zero = some z → ∀ u ∈ z.cells.toList, u.oneCell' = true := by
  intro i z hi hz
  have h := show (Tryz.prog.info? 66).map (fun i => i.zero) = some (some (.agg #[.int .i64 0, .int .i64 0, .int .i64 0, .bool false])) by kernel_rfl
  rw [hi] at h
  simp only [Option.map_some, Option.some.injEq] at h
  rw [h] at hz
  injection hz with hz
  subst hz
  intro u hu
  have : u = .int .i64 0 ∨ u = .bool false := by simpa [Value.cells] using hu
  rcases this with rfl | rfl <;> rfl
/-- the first loop: no two neighbours of the first i are equal -/
def CpO (w : World) (base E g n cap : Nat) (l : List Chg) (i : Value) (wr : World) : Prop :=
  ∃ j : Nat, j + 1 ≤ l.length ∧ i = .int .i64 (j + 1 : Nat) ∧ Own wr base E 4 (.slice (some ⟨g, 0, none⟩) n cap) (chgs l) ∧ Below base w wr ∧ Hid (cpt (l.take (j + 1)) = l.take (j + 1))
/-- the second loop: m is what lies there -/
def CpI (w : World) (base E g n cap p : Nat) (l : List Chg) (i k : Value) (wr : World) : Prop :=
  ∃ (q t : Nat) (m : List Chg), p + t + 1 ≤ l.length ∧ k = .int .i64 (t + 1 : Nat) ∧ i = .int .i64 (q : Nat) ∧ q ≤ p + t ∧ m.length = l.length ∧ Own wr base E 4 (.slice (some ⟨g, 0, none⟩) n cap) (chgs m) ∧ Below base w wr ∧
    Hid (m.take q = cpt (l.take (p + t + 1)) ∧ ∀ j, p + t ≤ j → m[j]? = l[j]?)

end Go.Proofs.YtaafihdegnaokaaGreatDoor
