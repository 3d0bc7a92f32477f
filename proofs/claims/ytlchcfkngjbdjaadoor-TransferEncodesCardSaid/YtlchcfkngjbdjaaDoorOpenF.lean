/- Opening a law's arguments: files of payments. -/
import Derived.Test.YtlchcfkngjbdjaaDoorOpenS
import Derived.Test.YtlchcfkngjbdjaaDoorTPay
namespace Go.Proofs.YtlchcfkngjbdjaaDoor
open Go.ChangeShapes Go.WideShapes Go.ChangeAt Go.RowKit Go.Deep

section
variable {H : Type} {enc : TypeId × Value → H} {P : Program} {w : World} {base b0 : Nat} {spare : Nat → Bool} {held : Bool} {r : Reach}
/-- a slice whose elements open as f x, read off its one cell -/
theorem open_slc {α : Type} [Inhabited α] (f : α → List Value) {t e : TypeId} {sz fuel : Nat} {cs : List Value} {x : DataW H × List MemPlace} (ht : P.underlying t = some (.slice e)) (hc : P.cellsOf e = sz) (hsz : 0 < sz)
    (hd : DataW.trod enc P w base spare held fuel t cs = some x) (hf : ∀ n cs y, DataW.trod enc P w base spare held n e cs = some y → ∃ x, cs = f x) :
    ∃ v, ∃ l : List α, cs = [v] ∧ Sl w sz v (l.map f) := by
  rcases open_slice ht hd with ⟨rfl, _⟩ | ⟨a, len, cap, m, n, D, Pl, rfl, hb, hl, hm, hmm, _, hx⟩
  · exact ⟨_, [], rfl, Sl.nil _ _⟩
  · have hlm : len ≤ m := by rw [hmm]; split <;> omega
    obtain ⟨V, hV⟩ := choose_lt (α := α) (n := len) (p := fun i x => w.cells? base (a.add (i * sz)) sz = some (f x)) (fun i hi => by
      obtain ⟨cs', h1, h2⟩ := hx i (by omega)
      obtain ⟨x, rfl⟩ := hf _ _ _ h2
      rw [hc] at h1
      exact ⟨x, h1⟩)
    refine ⟨_, (List.range len).map V, rfl, some a, cap, by simp, by simpa using hl, hm, (fun h => by cases h), ?_⟩
    by_cases hz : len = 0
    · left; subst hz; rfl
    · right
      have g0 := hV 0 (by omega)
      obtain ⟨_, hl0, hc0⟩ := World.cells?_some g0
      have h00 := hc0 0 hsz
      obtain ⟨u0, hu0⟩ : ∃ u, (f (V 0))[0]? = some u := ⟨_, List.getElem?_eq_getElem (by omega)⟩
      rw [hu0] at h00
      obtain ⟨b, off, spot⟩ := a
      have hspot : spot = none := by simpa [Addr.add] using World.cell?_spot h00
      subst hspot
      refine ⟨b, off, rfl, ?_, fun i x hi j u hj => ?_⟩
      · rcases Nat.lt_or_ge b w.heap.size with hlt | hge
        · exact hlt
        · simp [Addr.add, World.cell?, Array.getElem?_eq_none hge] at h00
      · simp only [List.getElem?_map, Option.map_eq_some_iff] at hi
        obtain ⟨y, ⟨k, hk, rfl⟩, rfl⟩ := hi
        obtain ⟨hi1, hi2⟩ := List.getElem?_eq_some_iff.1 hk
        simp only [List.length_range, List.getElem_range] at hi1 hi2
        subst hi2
        obtain ⟨_, hl1, hc1⟩ := World.cells?_some (hV i hi1)
        have hj1 : j < sz := by have := (List.getElem?_eq_some_iff.1 hj).1; omega
        have := hc1 j hj1
        rw [hj] at this
        rw [← this]
        congr 1
        by_cases q1 : i * sz = 0 <;> by_cases q2 : j = 0 <;> simp [Addr.add, q1, q2] <;> omega
end
section
variable {H : Type} {enc : TypeId × Value → H} {w : World} {base b0 : Nat} {spare : Nat → Bool} {held : Bool} {r : Reach}
instance : Inhabited Pay := ⟨⟨0, 0⟩⟩
set_option maxRecDepth 100000 in
theorem open_pay {n : Nat} {cs : List Value} {y : DataW H × List MemPlace} (h : DataW.trod enc Tryd.prog w base spare held n 27 cs = some y) : ∃ p : Pay, cs = p.vals := by
  obtain ⟨xs, m, _, _, hl, hlen, hf⟩ := DataW.trod_struct Tryd.underlying27 h
  have hc2 : Tryd.prog.cellsOf 27 = 2 := by kernel_rfl
  have hl' : cs.length = 2 := hl.trans hc2
  match cs, hl' with
  | [c0, c1], _ =>
    obtain ⟨y0, h0⟩ := field_ofL hlen hf 0 3 0 1 rfl cellsInt
    obtain ⟨y1, h1⟩ := field_ofL hlen hf 1 3 1 1 rfl cellsInt
    obtain ⟨a, e0, _⟩ := DataW.trod_int Tryd.underlying3 h0
    obtain ⟨b, e1, _⟩ := DataW.trod_int Tryd.underlying3 h1
    simp at e0 e1
    subst e0 e1
    exact ⟨⟨a, b⟩, rfl⟩
set_option maxRecDepth 100000 in
theorem open_file {v : Value} {d : DataW H} {ps : List MemPlace} (hval : Value.okWide Tryd.prog w r b0 25 v) (hd : DataW.Trod enc Tryd.prog w base spare held 25 v d ps) :
    ∃ f : Fil, ∃ u, v = .agg (f.vals u) ∧ Sl w 2 u (pays f.l) := by
  obtain ⟨cs, rfl, hsz⟩ := okWide_struct Tryd.underlying25 hval
  obtain ⟨n, h⟩ := hd
  obtain ⟨xs, m, _, _, hl, hlen, hf⟩ := DataW.trod_struct Tryd.underlying25 h
  have hc3 : Tryd.prog.cellsOf 25 = 3 := by kernel_rfl
  have hcS : Tryd.prog.cellsOf 23 = 1 := by kernel_rfl
  have hc2 : Tryd.prog.cellsOf 27 = 2 := by kernel_rfl
  obtain ⟨l⟩ := cs
  have hl' : l.length = 3 := hl.trans hc3
  match l, hl' with
  | [c0, c1, c2], _ =>
    obtain ⟨y0, h0⟩ := field_ofL hlen hf 0 3 0 1 rfl cellsInt
    obtain ⟨y1, h1⟩ := field_ofL hlen hf 1 3 1 1 rfl cellsInt
    obtain ⟨y2, h2⟩ := field_ofL hlen hf 2 23 2 1 rfl hcS
    obtain ⟨a, e0, _⟩ := DataW.trod_int Tryd.underlying3 h0
    obtain ⟨b, e1, _⟩ := DataW.trod_int Tryd.underlying3 h1
    obtain ⟨u, q, e2, hs⟩ := open_slc Pay.vals Tryd.underlying23 hc2 (by omega) h2 fun n cs y h => open_pay h
    simp [Value.cells] at e0 e1 e2
    subst e0 e1 e2
    exact ⟨⟨a, b, q⟩, c2, rfl, hs⟩
end
end Go.Proofs.YtlchcfkngjbdjaaDoor
