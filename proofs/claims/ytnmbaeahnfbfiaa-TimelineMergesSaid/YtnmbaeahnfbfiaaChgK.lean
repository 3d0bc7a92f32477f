/- slices.Compact at changes: neighbours that are equal, once. -/
import Derived.Test.YtnmbaeahnfbfiaaChgC
import Derived.Test.YtnmbaeahnfbfiaaSet
import Derived.BigQuiet
import Derived.Deep.QuietTactic
namespace Go.Proofs.Ytnmbaeahnfbfiaa
open Go.RowKit

deriving instance DecidableEq for Chg
theorem eqC (a b : Chg) (w : World) : (binOp .eql 40 (.agg #[.int .i64 a.f, .int .i64 a.k, .int .i64 a.v, .bool a.d]) (.agg #[.int .i64 b.f, .int .i64 b.k, .int .i64 b.v, .bool b.d])).run Try.prog w = .ok (.bool (decide (a = b))) w := by
  obtain ⟨f, k, v, d⟩ := a
  obtain ⟨f', k', v', d'⟩ := b
  simp only [Chg.mk.injEq]
  by_cases h1 : f = f'
  · subst h1
    by_cases h2 : k = k'
    · subst h2
      by_cases h3 : v = v'
      · subst h3
        cases d <;> cases d' <;> simp [go_sem]
      · have e : (v == v') = false := by simpa using h3
        simp [go_sem, e, h3]
    · have e : (k == k') = false := by simpa using h2
      simp [go_sem, e, h2]
  · have e : (f == f') = false := by simpa using h1
    simp [go_sem, e, h1]
theorem neC (a b : Chg) (w : World) : (binOp .neq 40 (.agg #[.int .i64 a.f, .int .i64 a.k, .int .i64 a.v, .bool a.d]) (.agg #[.int .i64 b.f, .int .i64 b.k, .int .i64 b.v, .bool b.d])).run Try.prog w = .ok (.bool (!decide (a = b))) w := by
  have h := eqC a b w
  rw [run_eql_struct] at h
  rw [run_neq_struct]
  revert h
  generalize (Op.equalIn 10000 40 _ _).run Try.prog w = r
  cases r with
  | ok x w1 => intro h; simp only [Result.andThen_ok, Result.ok.injEq, Value.bool.injEq] at h ⊢; exact ⟨by rw [h.1], h.2⟩
  | halt x w1 => intro h; simp [Result.andThen] at h

theorem cpt_snoc : ∀ (l : List Chg) (a b : Chg), cpt (l ++ [a, b]) = if a = b then cpt (l ++ [a]) else cpt (l ++ [a]) ++ [b]
  | [], a, b => by
    by_cases h : a = b
    · rw [if_pos h]; simp [cpt, cmpC_zero, h]
    · rw [if_neg h]; simp [cpt, cmpC_zero, h]
  | [x], a, b => by
    have h := cpt_snoc [] a b
    simp only [List.nil_append, List.cons_append] at h ⊢
    rw [cpt, h]
    by_cases h1 : cmpC x a = 0 <;> by_cases h2 : a = b
    · subst h2; simp [cpt, h1]
    · simp [cpt, h1, h2]
    · subst h2; simp [cpt, h1]
    · simp [cpt, h1, h2]
  | x :: y :: r, a, b => by
    have h := cpt_snoc (y :: r) a b
    simp only [List.cons_append] at h ⊢
    rw [cpt, h, cpt]
    by_cases h1 : cmpC x y = 0 <;> by_cases h2 : a = b <;> simp [h1, h2]
theorem cpt_step {l : List Chg} {j : Nat} (hj : j + 1 < l.length) : cpt (l.take (j + 2)) = if l[j + 1] = l[j] then cpt (l.take (j + 1)) else cpt (l.take (j + 1)) ++ [l[j + 1]] := by
  have e1 : l.take (j + 2) = l.take j ++ [l[j], l[j + 1]] := by
    rw [List.take_succ_eq_append_getElem hj, List.take_succ_eq_append_getElem (by omega), List.append_assoc]; rfl
  have e2 : l.take (j + 1) = l.take j ++ [l[j]] := List.take_succ_eq_append_getElem (by omega)
  rw [e1, cpt_snoc, ← e2]
  by_cases h : l[j] = l[j + 1]
  · rw [if_pos h, if_pos h.symm]
  · rw [if_neg h, if_neg (Ne.symm h)]
theorem cpt_short {l : List Chg} (h : l.length < 2) : cpt l = l := by
  match l, h with
  | [], _ => rfl
  | [x], _ => rfl

theorem storeRun_set (us : List Value) : ∀ (w : World) (g j : Nat), w.setCells g j us = storeRun w g j us := by
  induction us with
  | nil => intro w g j; rfl
  | cons u r ih => intro w g j; rw [World.setCells, storeRun, ih]
theorem setRun_take (us : List Value) : ∀ (xs : List Value) (j k : Nat), k ≤ j → (setRun xs j us).take k = xs.take k := by
  induction us with
  | nil => intro xs j k _; rfl
  | cons u r ih =>
    intro xs j k h
    rw [setRun, ih _ _ _ (by omega)]
    exact List.take_set_of_le h
/-- an own slice cut -/
theorem Own.cut {w : World} {base e sz g n cap : Nat} {es : List (List Value)} (h : Own w base e sz (.slice (some ⟨g, 0, none⟩) n cap) es) (k : Nat) (hk : k ≤ n) : Own w base e sz (.slice (some ⟨g, 0, none⟩) k cap) (es.take k) := by
  obtain ⟨⟨h1, h2⟩, hw⟩ := h
  rcases h2 with ⟨h', _⟩ | ⟨g', cap', cur, h', hb, hg, hnc, hcm, hcs, ht⟩
  · simp at h'
  · injection h' with h3 h4 h5
    injection h3 with h3
    injection h3 with h3
    subst h3 h4 h5
    have hw' : Wide sz (es.take k) := fun x hx => hw x (List.mem_of_mem_take hx)
    have hkl : (es.take k).length = k := by rw [List.length_take]; omega
    refine ⟨⟨hw'.flat, .inr ⟨g, cap, cur, by rw [hkl], hb, hg, by omega, hcm, hcs, ?_⟩⟩, hw'⟩
    have e1 : es.flatten = (es.take k).flatten ++ (es.drop k).flatten := by rw [← List.flatten_append, List.take_append_drop]
    have e2 := hw'.flat
    have e3 : ((cur.toList.take (es.length * sz)).take ((es.take k).length * sz)) = (es.take k).flatten := by
      rw [ht, e1, ← e2, List.take_left]
    rw [List.take_take, Nat.min_eq_left (Nat.mul_le_mul_right _ (by omega))] at e3
    exact e3
theorem Own.chgE {w : World} {base e g n cap : Nat} {l : List Chg} (h : Own w base e 4 (.slice (some ⟨g, 0, none⟩) n cap) (chgs l)) {k : Nat} (hk : k < l.length) :
    w.cell? ⟨g, k * 4, none⟩ = some (.int .i64 (l[k]).f) ∧ w.cell? ⟨g, k * 4 + 1, none⟩ = some (.int .i64 (l[k]).k) ∧ w.cell? ⟨g, k * 4 + 2, none⟩ = some (.int .i64 (l[k]).v) ∧ w.cell? ⟨g, k * 4 + 3, none⟩ = some (.bool (l[k]).d) :=
  ⟨h.cellE (by omega) (chgs_at hk) (j := 0) rfl, h.cellE (by omega) (chgs_at hk) (j := 1) rfl, h.cellE (by omega) (chgs_at hk) (j := 2) rfl, h.cellE (by omega) (chgs_at hk) (j := 3) rfl⟩
theorem chgs_set (l : List Chg) (i : Nat) (c : Chg) : (chgs l).set i c.vals = chgs (l.set i c) := by simp [chgs, List.map_set]
theorem chgs_take (l : List Chg) (k : Nat) : (chgs l).take k = chgs (l.take k) := by simp [chgs, List.map_take]
theorem zeroCells_mem {z : Array Value} {n : Nat} (hz : 0 < z.size) {u : Value} (h : u ∈ (Builtin.zeroCells z n).toList) : u ∈ z.toList := by
  rw [Array.mem_toList_iff, Builtin.zeroCells, Array.mem_map] at h
  obtain ⟨i, _, rfl⟩ := h
  have : i % z.size < z.size := Nat.mod_lt _ hz
  rw [getElem!_pos z _ this]
  exact Array.mem_toList_iff.2 (Array.getElem_mem this)
theorem run_clear_own {P : Program} {w : World} {t e : TypeId} {sz bytes : Nat}
    (hT : RowTy P t e sz bytes) (hone : ∀ i z, P.info? e = some i → i.zero = some z → ∀ u ∈ z.cells.toList, u.oneCell' = true) (base g n cap c q : Nat) (ty : TypeId)
    (es : List (List Value)) (hown : Own w base e sz (.slice (some ⟨g, 0, none⟩) n cap) es) (hq : q < n) :
    ∃ w', (Builtin.clear_ #[t] ty #[.slice (some ⟨g, q * sz, none⟩) (n - q) c]).run P w = .ok (.tuple #[]) w' ∧ Own w' base e sz (.slice (some ⟨g, 0, none⟩) q cap) (es.take q) ∧ w.grownBy w' (some g) := by
  obtain ⟨i, z, hi, hz, hsi, hby, hzs⟩ := hT.hi
  have hn : n = es.length := by
    rcases hown.1.2 with ⟨h', _⟩ | ⟨g', cap', cur, h', _⟩
    · simp at h'
    · injection h'
  subst hn
  have hfl := hown.2.flat
  obtain ⟨us, hus⟩ : ∃ us, us = (Builtin.zeroCells z.cells (es.length - q)).toList := ⟨_, rfl⟩
  have hul : us.length = (es.length - q) * sz := by rw [hus, Array.length_toList, size_zeroCells, hzs]
  have hmul : (es.length - q) * sz + q * sz = es.length * sz := by rw [← Nat.add_mul]; congr 1; omega
  have hst := run_storeCells_cells (P := P) g (q * sz) us 0 w (by
    intro j hj
    rcases hown.1.2 with ⟨h', _⟩ | ⟨g', cap', cur, h', _, hg, hnc, _, hcs, _⟩
    · simp at h'
    · injection h' with h3 h4 h5
      injection h3 with h3
      injection h3 with h3
      subst h3 h5
      rw [cell_of_row w g _ cur e (0, 0) hg]
      have hle : es.length * sz ≤ cap * sz := Nat.mul_le_mul_right _ hnc
      simp only [Nat.add_zero]
      rw [Array.getElem?_eq_getElem (by omega)]; rfl) (fun j _ => hown.1.frozenAt _) (fun u hu => hone i z hi hz u (zeroCells_mem (by have := hT.hsz; omega) (hus ▸ hu)))
  have hzv : (zeroValue e).run P w = .ok z w := by simp [zeroValue, typeInfo, hi, hz]
  have hrun : (Builtin.clear_ #[t] ty #[.slice (some ⟨g, q * sz, none⟩) (es.length - q) c]).run P w = .ok (.tuple #[]) (storeRun w g (q * sz) us) := by
    rw [storeRun_set] at hst
    obtain ⟨m, hm⟩ : ∃ m, es.length - q = m + 1 := ⟨es.length - q - 1, by omega⟩
    rw [hm] at hus ⊢
    rw [hus] at hst ⊢
    simp [Builtin.clear_, run_underlying hT.ht, hzv, hst]
  obtain ⟨k1, k2⟩ := storeRun_own us (q * sz) hown.1
  refine ⟨_, hrun, ?_, k2⟩
  have hsame : (setRun es.flatten (q * sz) us).take (q * sz) = es.flatten.take (q * sz) := setRun_take _ _ _ _ (Nat.le_refl _)
  have hw' : Wide sz (es.take q) := fun x hx => hown.2 x (List.mem_of_mem_take hx)
  have hkl : (es.take q).length = q := by rw [List.length_take]; omega
  obtain ⟨h1, h2⟩ := k1
  rcases h2 with ⟨h', _⟩ | ⟨g', cap', cur, h', hb, hg, hnc, hcm, hcs, ht⟩
  · simp at h'
  · injection h' with h3 h4 h5
    injection h3 with h3
    injection h3 with h3
    subst h3 h5
    refine ⟨⟨hw'.flat, .inr ⟨g, cap, cur, by rw [hkl], hb, hg, by omega, hcm, hcs, ?_⟩⟩, hw'⟩
    have e1 : es.flatten.take (q * sz) = (es.take q).flatten := by
      have : es.flatten = (es.take q).flatten ++ (es.drop q).flatten := by rw [← List.flatten_append, List.take_append_drop]
      rw [this]
      exact List.take_left' (by rw [hw'.flat, hkl])
    rw [hkl, ← e1, ← hsame, ← ht, List.take_take, Nat.min_eq_left (by omega)]
theorem chg_zero : ∀ i z, Try.prog.info? 40 = some i → i.zero = some z → ∀ u ∈ z.cells.toList, u.oneCell' = true := by
  intro i z hi hz
  have h := show (Try.prog.info? 40).map (fun i => i.zero) = some (some (.agg #[.int .i64 0, .int .i64 0, .int .i64 0, .bool false])) by kernel_rfl
  rw [hi] at h
  simp only [Option.map_some, Option.some.injEq] at h
  rw [h] at hz
  injection hz with hz
  subst hz
  intro u hu
  have : u = .int .i64 0 ∨ u = .bool false := by simpa [Value.cells] using hu
  rcases this with rfl | rfl <;> rfl
/-- the first loop: no two neighbours of the first i are equal -/
def CpO (w : World) (base E g n cap : Nat) (l : List Chg) (i : Value) (wr : World) : Prop :=
  ∃ j : Nat, j + 1 ≤ l.length ∧ i = .int .i64 (j + 1 : Nat) ∧ Own wr base E 4 (.slice (some ⟨g, 0, none⟩) n cap) (chgs l) ∧ Below base w wr ∧ Hid (cpt (l.take (j + 1)) = l.take (j + 1))
/-- the second loop: m is what lies there -/
def CpI (w : World) (base E g n cap p : Nat) (l : List Chg) (i k : Value) (wr : World) : Prop :=
  ∃ (q t : Nat) (m : List Chg), p + t + 1 ≤ l.length ∧ k = .int .i64 (t + 1 : Nat) ∧ i = .int .i64 (q : Nat) ∧ q ≤ p + t ∧ m.length = l.length ∧ Own wr base E 4 (.slice (some ⟨g, 0, none⟩) n cap) (chgs m) ∧ Below base w wr ∧
    Hid (m.take q = cpt (l.take (p + t + 1)) ∧ ∀ j, p + t ≤ j → m[j]? = l[j]?)

set_option maxRecDepth 100000 in
set_option maxHeartbeats 1600000 in
theorem compactCh_any (v : Value) (l : List Chg) (base : Nat) (w : World) (hown : Own w base 40 4 v (chgs l)) (_hb : base ≤ w.heap.size) (hl : l.length ≤ 4096) :
    Calls Try.prog 25 #[v] w fun e w' => ∃ x, e = .returned x ∧ Own w' base 40 4 x (chgs (cpt l)) ∧ Below base w w' := by
  have hq := hown.form
  rw [chgs_len] at hq
  obtain ⟨A, cap, rfl⟩ := hq
  by_cases h2 : l.length < 2
  · have HO := Lib.hid hown
    clear hown
    go_enter Try.func25, Try.ntmps25
    go_wp2
    go_ret
    rw [cpt_short h2]
    exact ⟨_, rfl, HO.out, Below.refl _ _⟩
  · obtain ⟨g, rfl, hcap, hgb, hgs⟩ : ∃ g, A = some ⟨g, 0, none⟩ ∧ l.length ≤ cap ∧ base ≤ g ∧ g < w.heap.size := by
      rcases hown.1.2 with ⟨h', h3⟩ | ⟨g', cap', cur, h', hb', hg', hnc, _⟩
      · rw [chgs_len] at h3; omega
      · injection h' with h3 h4 h5; subst h5; rw [chgs_len] at hnc
        refine ⟨g', h3, hnc, hb', ?_⟩
        rcases Nat.lt_or_ge g' w.heap.size with hlt | hge
        · exact hlt
        · rw [Array.getElem?_eq_none hge] at hg'; cases hg'
    go_enter Try.func25, Try.ntmps25
    go_wp2
    go_loopw [3] (fun i wr => CpO w base 40 g l.length cap l i wr) (fun i _ => l.length - (intOf i).toNat)
    case atStart => exact ⟨0, by omega, rfl, hown, Below.refl _ _, cpt_short (by rw [List.length_take]; omega)⟩
    case round =>
      clear hown
      obtain ⟨j, hj, rfl, hown, hbl, HC⟩ := hrel
      have hbs := hbl.size
      by_cases hlt : j + 1 < l.length
      · obtain ⟨c0, c1, c2, c3⟩ := hown.chgE hlt
        obtain ⟨d0, d1, d2, d3⟩ := hown.chgE (show j < l.length by omega)
        have HT := Lib.hid (cpt_step hlt)
        have HO := Lib.hid hown
        clear hown
        by_cases heq : l[j + 1] = l[j]
        · have E := fun w => eqC (l[j + 1]) (l[j]) w
          rw [decide_eq_true heq] at E
          rw [if_pos heq] at HT
          have HO2 : ∀ k, Own (wr.drewN k) base 40 4 (.slice (some ⟨g, 0, none⟩) l.length cap) (chgs l) := fun k => HO.out.kept (Below.draws (Below.refl _ _) _)
          have HB2 : ∀ k, Below base w (wr.drewN k) := fun k => Below.draws hbl _
          have HH := Lib.hid (And.intro HO2 HB2)
          have HTC : Hid (cpt (l.take (j + 1 + 1)) = l.take (j + 1)) := HT.out.trans HC.out
          clear HO2 HB2 HO HT HC heq hbl
          have hcj : ¬ (j + 1 = cap) := by omega
          go_wp2
          go_quiet (fail)
          go_wp2
          clear c0 c1 c2 c3 d0 d1 d2 d3 E
          go_loopw [3, 5] (fun i k wr => CpI w base 40 g l.length cap (j + 1) l i k wr) (fun _ k _ => l.length - (intOf k).toNat)
          case atStart => exact ⟨j + 1, 0, l, by omega, rfl, rfl, by omega, rfl, HH.out.1 _, HH.out.2 _, HTC.out.symm, fun _ _ => rfl⟩
          case round =>
            obtain ⟨q, t, m, ht, rfl, rfl, hq, hml, hown, hbl, HM⟩ := hrel
            clear HH HTC
            obtain ⟨wo, rfl⟩ : ∃ wo : World, wo = wr := ⟨_, rfl⟩
            have hbs2 := hbl.size
            by_cases hlt2 : j + 1 + t + 1 < l.length
            · obtain ⟨x, hx⟩ : ∃ x, l[j + 1 + t + 1] = x := ⟨_, rfl⟩
              obtain ⟨y, hy⟩ : ∃ y, l[j + 1 + t] = y := ⟨_, rfl⟩
              have ex : m[j + 1 + t + 1]'(by omega) = x := by
                have h8 := HM.out.2 (j + 1 + t + 1) (by omega)
                rw [List.getElem?_eq_getElem (by omega), List.getElem?_eq_getElem hlt2] at h8
                rw [← hx]; exact Option.some.inj h8
              have ey : m[j + 1 + t]'(by omega) = y := by
                have h8 := HM.out.2 (j + 1 + t) (by omega)
                rw [List.getElem?_eq_getElem (by omega), List.getElem?_eq_getElem (show j + 1 + t < l.length by omega)] at h8
                rw [← hy]; exact Option.some.inj h8
              obtain ⟨c0, c1, c2, c3⟩ := hown.chgE (show j + 1 + t + 1 < m.length by omega)
              obtain ⟨d0, d1, d2, d3⟩ := hown.chgE (show j + 1 + t < m.length by omega)
              rw [ex, show (j + 1 + t + 1) * 4 = (j + 1) * 4 + (t + 1) * 4 by omega] at c0 c1 c2 c3
              rw [ey, show (j + 1 + t) * 4 = (j + 1) * 4 + t * 4 by omega] at d0 d1 d2 d3
              have HT := Lib.hid (cpt_step hlt2)
              rw [hx, hy] at HT
              have HO := Lib.hid hown
              have hql : q < m.length := by omega
              clear hx hy ex ey
              by_cases heq : x = y
              · have E := fun w => neC x y w
                rw [decide_eq_true heq] at E
                rw [if_pos heq] at HT
                clear hown heq
                go_wp2
                go_quiet (fail)
                go_wp2
                go_roundw
                case rel => exact ⟨q, t + 1, m, by omega, by go_num, rfl, by omega, hml, HO.out.kept (Below.draws (Below.refl _ _) _), Below.draws hbl _, HM.out.1.trans HT.out.symm, fun j' hj' => HM.out.2 j' (by omega)⟩
                case measure => simp [intOf]; omega
              · have E := fun w => neC x y w
                rw [decide_eq_false heq] at E
                rw [if_neg heq] at HT
                obtain ⟨b0, b1, b2, b3⟩ := hown.chgE hql
                have f0 := hown.frozenE (q * 4)
                have f1 := hown.frozenE (q * 4 + 1)
                have f2 := hown.frozenE (q * 4 + 2)
                have f3 := hown.frozenE (q * 4 + 3)
                have HS : Hid (∀ k, Own (storeRun (wo.drewN k) g (q * 4) x.vals) base 40 4 (.slice (some ⟨g, 0, none⟩) l.length cap) (chgs (m.set q x)) ∧ Below base w (storeRun (wo.drewN k) g (q * 4) x.vals)) := fun k => by
                  have hst := (HO.out.kept (Below.draws (Below.refl _ _) k)).store (by omega) q (by rw [chgs_len]; omega) x.vals rfl (by simp [Chg.vals, Value.oneCell'])
                  rw [chgs_set] at hst
                  exact ⟨hst.1, (Below.draws hbl k).grown hst.2 (show base ≤ wo.heap.size by omega) (fun k hk => by injection hk; omega)⟩
                have HN : Hid ((m.set q x).take (q + 1) = cpt (l.take (j + 1 + (t + 1) + 1)) ∧ ∀ j', j + 1 + (t + 1) ≤ j' → (m.set q x)[j']? = l[j']?) := by
                  refine ⟨?_, fun j' hj' => ?_⟩
                  · rw [show j + 1 + (t + 1) + 1 = j + 1 + t + 2 by omega, HT.out, ← HM.out.1, List.take_succ_eq_append_getElem (by rw [List.length_set]; omega), List.take_set_of_le (Nat.le_refl _), List.getElem_set_self]
                  · rw [List.getElem?_set_ne (by omega)]; exact HM.out.2 j' (by omega)
                clear hown heq HT HM HO
                go_wp2
                go_quiet (fail)
                go_wp2
                go_roundw
                case rel => exact ⟨q + 1, t + 1, m.set q x, by omega, by go_num, by go_num, by omega, by rw [List.length_set]; exact hml, (HS.out _).1, (HS.out _).2, HN⟩
                case measure => simp [intOf]; omega
            · have hqc : ¬ (q = cap) := by omega
              have HN : Hid (m.take q = cpt l) := by
                have h8 := HM.out.1
                rwa [show j + 1 + t + 1 = l.length by omega, List.take_length] at h8
              clear HM
              obtain ⟨w3, hrun, hown3, hg3⟩ := run_clear_own rowChg chg_zero base g l.length cap (cap - q) q 0 _ hown (by omega)
              have hb3 := hbl.grown hg3 (by omega) (fun k hk => by injection hk; omega)
              rw [chgs_take, HN.out] at hown3
              go_wp2
              go_ret
              exact ⟨_, rfl, hown3, hb3⟩
        · have E := fun w => eqC (l[j + 1]) (l[j]) w
          rw [decide_eq_false heq] at E
          rw [if_neg heq] at HT
          go_wp2
          go_quiet (fail)
          go_wp2
          go_roundw
          case rel => exact ⟨j + 1, by omega, by go_num, HO.out.kept (Below.draws (Below.refl _ _) _), Below.draws hbl _, by rw [Hid, HT.out, HC.out]; exact (List.take_succ_eq_append_getElem hlt).symm⟩
          case measure => simp [intOf]; omega
      · go_wp2
        go_ret
        have hjl : j + 1 = l.length := by omega
        have h9 := HC.out
        rw [hjl, List.take_length] at h9
        exact ⟨_, rfl, by rw [h9]; exact hown, hbl⟩
end Go.Proofs.Ytnmbaeahnfbfiaa
