/- Opening a law's arguments: slices, numbers. -/
import Derived.Test.YtaafihdegnaokaaGreatDoorGb
import Derived.Deep.Slices
import Derived.ProofKit
import Derived.Test.YtaafihdegnaokaaGreatDoorProg
namespace Go.Proofs.YtaafihdegnaokaaGreatDoor
open Go.ChangeShapes Go.WideShapes Go.ChangeAt Go.RowKit Go.Deep

section
variable {H : Type} {enc : TypeId × Value → H} {P : Program} {w : World} {base b0 : Nat} {spare : Nat → Bool} {held : Bool} {r : Reach}
/-- a slice whose elements open as f x -/
theorem open_sl {α : Type} [Inhabited α] (f : α → List Value) {t e : TypeId} {sz : Nat} {v : Value} {d : DataW H} {ps : List MemPlace} (ht : P.underlying t = some (.slice e)) (hc : P.cellsOf e = sz) (hsz : 0 < sz)
    (hval : Value.okWide P w r b0 t v) (hd : DataW.Trod enc P w base spare held t v d ps) (hf : ∀ n cs y, DataW.trod enc P w base spare held n e cs = some y → ∃ x, cs = f x) :
    ∃ l : List α, Sl w sz v (l.map f) := by
  obtain ⟨A, len, cap, rfl⟩ := okWide_slice ht hval
  obtain ⟨fuel, hd⟩ := hd
  rcases open_slice ht hd with ⟨h0, _⟩ | ⟨a, len', cap', m, n, D, Pl, h0, hb, hl, hm, hmm, _, hx⟩
  · simp [Value.cells] at h0
    obtain ⟨rfl, rfl, rfl⟩ := h0
    exact ⟨[], Sl.nil _ _⟩
  · simp [Value.cells] at h0
    obtain ⟨rfl, rfl, rfl⟩ := h0
    have hlm : len ≤ m := by rw [hmm]; split <;> omega
    obtain ⟨V, hV⟩ := choose_lt (α := α) (n := len) (p := fun i x => w.cells? base (a.add (i * sz)) sz = some (f x)) (fun i hi => by
      obtain ⟨cs', h1, h2⟩ := hx i (by omega)
      obtain ⟨x, rfl⟩ := hf _ _ _ h2
      rw [hc] at h1
      exact ⟨x, h1⟩)
    refine ⟨(List.range len).map V, some a, cap, by simp, by simpa using hl, hm, (fun h => by cases h), ?_⟩
    by_cases hz : len = 0
    · left; subst hz; rfl
    · right
      have g0 := hV 0 (by omega)
      obtain ⟨_, hl0, hc0⟩ := World.cells?_some g0
      have h00 := hc0 0 hsz
      obtain ⟨u0, hu0⟩ : ∃ u, (f (V 0))[0]? = some u := ⟨_, List.getElem?_eq_getElem (by omega)⟩
      rw [hu0] at h00
      obtain ⟨b, off, spot⟩ := a
      have hspot : spot = none := by simpa [Addr.add] using World.cell?_spot h00
      subst hspot
      refine ⟨b, off, rfl, ?_, fun i x hi j u hj => ?_⟩
      · rcases Nat.lt_or_ge b w.heap.size with hlt | hge
        · exact hlt
        · simp [Addr.add, World.cell?, Array.getElem?_eq_none hge] at h00
      · simp only [List.getElem?_map, Option.map_eq_some_iff] at hi
        obtain ⟨y, ⟨k, hk, rfl⟩, rfl⟩ := hi
        obtain ⟨hi1, hi2⟩ := List.getElem?_eq_some_iff.1 hk
        simp only [List.length_range, List.getElem_range] at hi1 hi2
        subst hi2
        obtain ⟨_, hl1, hc1⟩ := World.cells?_some (hV i hi1)
        have hj1 : j < sz := by have := (List.getElem?_eq_some_iff.1 hj).1; omega
        have := hc1 j hj1
        rw [hj] at this
        rw [← this]
        congr 1
        by_cases q1 : i * sz = 0 <;> by_cases q2 : j = 0 <;> simp [Addr.add, q1, q2] <;> omega
end
section
variable {H : Type} {enc : TypeId × Value → H} {w : World} {base b0 : Nat} {spare : Nat → Bool} {held : Bool} {r : Reach}
set_option maxRecDepth 100000 in
theorem cellsInt : Tryz.prog.cellsOf 3 = 1 := by kernel_rfl
set_option maxRecDepth 100000 in
theorem open_intsL {v : Value} {d : DataW H} {ps : List MemPlace} (hval : Value.okWide Tryz.prog w r b0 22 v) (hd : DataW.Trod enc Tryz.prog w base spare held 22 v d ps) :
    ∃ zs : List Int, Sl w 1 v (ints zs) := by
  refine open_sl (fun z : Int => [.int .i64 z]) Tryz.underlying22 cellsInt (by omega) hval hd fun n cs y h => ?_
  obtain ⟨z, rfl, _⟩ := DataW.trod_int Tryz.underlying3 h
  exact ⟨z, rfl⟩
/-- one field of a struct -/
theorem field_ofL {fs : Array Field} {xs : List (DataW H × List MemPlace)} {m : Nat} {cs : List Value} (hlen : xs.length = fs.size) (hf : ∀ (i : Nat) (f : Field), fs[i]? = some f → DataW.trod enc Tryz.prog w base spare held m f.type ((cs.drop f.offset).take (Tryz.prog.cellsOf f.type)) = xs[i]?)
    (i : Nat) (t : TypeId) (off c : Nat) (h : (fs[i]?).map (fun f => (f.type, f.offset)) = some (t, off)) (hc : Tryz.prog.cellsOf t = c) : ∃ y, DataW.trod enc Tryz.prog w base spare held m t ((cs.drop off).take c) = some y := by
  obtain ⟨f, hi, he⟩ := Option.map_eq_some_iff.1 h
  injection he with h1 h2
  subst h1 h2 hc
  have hl : i < xs.length := by rw [hlen]; exact (Array.getElem?_eq_some_iff.1 hi).1
  exact ⟨xs[i], by rw [hf i f hi, List.getElem?_eq_getElem hl]⟩
end
theorem wf_in {n : Int} (h : (Lit.int .i64 n).wf = true) : -9223372036854775808 ≤ n ∧ n ≤ 9223372036854775807 := by
  simp only [Lit.wf, Bool.and_eq_true, decide_eq_true_eq] at h
  have e1 : IntKind.i64.min = -9223372036854775808 := rfl
  have e2 : IntKind.i64.max = 9223372036854775807 := rfl
  omega
end Go.Proofs.YtaafihdegnaokaaGreatDoor
