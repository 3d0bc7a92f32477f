/- Proved: the tied card on BankCopies: whatever the arguments (a slice of numbers), where the listed package variables hold what the program's text lays, the law returns true, and each argument reads as before. -/
import Derived.Test.YtlchcfkngjbdjaaGreatDoorTFile
import Derived.Test.YtlchcfkngjbdjaaGreatDoorTEnc
import Derived.Maps.Views
import Derived.Maps.Own
import Derived.Lib.SlKeysI
import Derived.Test.YtlchcfkngjbdjaaGreatDoorMapG
import Derived.Test.YtlchcfkngjbdjaaGreatDoorTBank
import Derived.Test.YtlchcfkngjbdjaaGreatDoorExt
import Derived.Test.YtlchcfkngjbdjaaGreatDoorStp
import Derived.Test.YtlchcfkngjbdjaaGreatDoorTxt
import Derived.Test.YtlchcfkngjbdjaaGreatDoorTParS
import Derived.Test.YtlchcfkngjbdjaaGreatDoorProg
import Derived.Lib.SplitLaws
import Derived.LoopTactic
import Derived.Deep.CutBlock
import Derived.Deep.DeepCutAuto
import Derived.Test.YtlchcfkngjbdjaaGreatDoorSpl
import Derived.Test.YtlchcfkngjbdjaaGreatDoorSet1
import Derived.Test.YtlchcfkngjbdjaaGreatDoorTDec
import Derived.Test.YtlchcfkngjbdjaaGreatDoorTRf2
import Derived.Test.YtlchcfkngjbdjaaGreatDoorTAwk
import Derived.Deep.QuietTactic
import Derived.BigQuiet
import Derived.Test.YtlchcfkngjbdjaaGreatDoorTPaid
import Derived.Deep.RegionHeld3
import Derived.Test.YtlchcfkngjbdjaaGreatDoorIter
import Derived.Shelf.SlIterI.Nil
import Derived.Shelf.SortM.Plain
import Derived.Shelf.SortM.SortNone
import Derived.Test.YtlchcfkngjbdjaaGreatDoorGb
import Derived.Test.YtlchcfkngjbdjaaGreatDoorTSm
import Derived.Test.YtlchcfkngjbdjaaGreatDoorTDmg
import Derived.Test.YtlchcfkngjbdjaaGreatDoorGen1
import Derived.Test.YtlchcfkngjbdjaaGreatDoorTRf3
import Derived.HandedShaped
import Derived.Test.YtlchcfkngjbdjaaGreatDoorOpenS
import Derived.Test.YtlchcfkngjbdjaaGreatDoorDoorT
import Derived.Test.YtlchcfkngjbdjaaGreatDoorLaw
import Derived.Test.YtlchcfkngjbdjaaGreatDoorCards
import Derived.SevenTiedAt
/- The text of a drawn file. -/
namespace Go.Proofs.YtlchcfkngjbdjaaGreatDoor
open Go.RowKit Go.Shelf

theorem FlG.text {f : Fil} (h : FlG f) : (encT f).length ≤ 4000 ∧ decE (encT f) = 0 ∧ decF (encT f) = f ∧ encE f = 0 := by
  have hv := h.1
  have he := filB_of hv
  have hb := sum_bounds he.2.2.2.2.2.1
  have hl : f.l.length ≤ 4 := h.2.2.1
  have h2 : (fileT f (ofC f.l)).length ≤ 4000 := by
    rw [fileT_eq, he.2.2.2.2.2.2.2]
    have a1 := headL_len (n := f.n) (d := f.d) (by omega) (by omega)
    have a2 := paysT_len he.2.2.2.2.2.1
    have a3 := totL_len (c := ⟨f.l.length, sumA f.l, sumE f.l⟩) (by simp only; omega) (by simp only; omega) (by simp only; omega)
    have a4 : (wEnd ++ [10]).length = 4 := rfl
    simp only [List.length_append] at a1 a3 a4 ⊢
    omega
  have := decF_of hv (by omega)
  exact ⟨by rw [encT, hv]; exact h2, this.1, this.2, by rw [encE, hv]; rfl⟩
theorem dec_back {s : List UInt8} (h : decE s = 0) : encT (decF s) = s ∧ encE (decF s) = 0 := by
  obtain ⟨-, f, h1, h2, h3⟩ := decE_ok.1 h
  rw [h3, encT, encE, h2]
  exact ⟨h1.symm, rfl⟩

end Go.Proofs.YtlchcfkngjbdjaaGreatDoor
/- Sets of numbers: ascending lists without repetition; the keys of a map that was filled with them. -/
namespace Go.Proofs.YtlchcfkngjbdjaaGreatDoor

/-- strictly ascending -/
def Asc (l : List Int) : Prop := l.Pairwise (· < ·)
/-- a number is put into an ascending list, once -/
def insI (n : Int) : List Int → List Int
  | [] => [n]
  | a :: r => if a < n then a :: insI n r else if a = n then a :: r else n :: a :: r
def asI (l : List Int) : List Int := l.foldl (fun acc x => insI x acc) []
theorem mem_insI {n x : Int} {l : List Int} : x ∈ insI n l ↔ x = n ∨ x ∈ l := by
  induction l with
  | nil => simp [insI]
  | cons a r ih =>
    simp only [insI]
    by_cases h1 : a < n
    · rw [if_pos h1, List.mem_cons, ih, List.mem_cons]
      constructor
      · rintro (h | h | h) <;> simp [h]
      · rintro (h | h | h) <;> simp [h]
    · rw [if_neg h1]
      by_cases h2 : a = n
      · rw [if_pos h2]; subst h2; simp
      · rw [if_neg h2]; simp
theorem Asc.ins {n : Int} {l : List Int} (h : Asc l) : Asc (insI n l) := by
  induction l with
  | nil => simp [insI, Asc]
  | cons a r ih =>
    have h' := List.pairwise_cons.1 h
    simp only [insI]
    by_cases h1 : a < n
    · rw [if_pos h1]
      refine List.pairwise_cons.2 ⟨fun y hy => ?_, ih h'.2⟩
      rcases mem_insI.1 hy with rfl | hy
      · exact h1
      · exact h'.1 y hy
    · rw [if_neg h1]
      by_cases h2 : a = n
      · rw [if_pos h2]; exact h
      · rw [if_neg h2]
        refine List.pairwise_cons.2 ⟨fun y hy => ?_, h⟩
        rcases List.mem_cons.1 hy with rfl | hy
        · omega
        · have := h'.1 y hy; omega
theorem asI_fold (l acc : List Int) (h : Asc acc) : Asc (l.foldl (fun acc x => insI x acc) acc) ∧ ∀ x, x ∈ l.foldl (fun acc x => insI x acc) acc ↔ x ∈ acc ∨ x ∈ l := by
  induction l generalizing acc with
  | nil => exact ⟨h, by simp⟩
  | cons a r ih =>
    obtain ⟨h1, h2⟩ := ih (insI a acc) h.ins
    refine ⟨h1, fun x => ?_⟩
    rw [List.foldl_cons, h2, mem_insI, List.mem_cons]
    constructor
    · rintro ((h | h) | h) <;> simp [h]
    · rintro (h | h | h) <;> simp [h]
theorem asI_asc (l : List Int) : Asc (asI l) := (asI_fold l [] List.Pairwise.nil).1
theorem mem_asI {l : List Int} {x : Int} : x ∈ asI l ↔ x ∈ l := by rw [asI, (asI_fold l [] List.Pairwise.nil).2]; simp
theorem asI_snoc (l : List Int) (x : Int) : asI (l ++ [x]) = insI x (asI l) := by simp [asI, List.foldl_append]
theorem Asc.unique {a b : List Int} (ha : Asc a) (hb : Asc b) (h : ∀ x, x ∈ a ↔ x ∈ b) : a = b := by
  induction a generalizing b with
  | nil =>
    cases b with
    | nil => rfl
    | cons y r => exact absurd ((h y).2 (by simp)) (by simp)
  | cons x r ih =>
    cases b with
    | nil => exact absurd ((h x).1 (by simp)) (by simp)
    | cons y s =>
      have ha' := List.pairwise_cons.1 ha
      have hb' := List.pairwise_cons.1 hb
      have e : x = y := by
        rcases List.mem_cons.1 ((h x).1 (by simp)) with e | h1
        · exact e
        · rcases List.mem_cons.1 ((h y).2 (by simp)) with e | h2
          · exact e.symm
          · have := hb'.1 x h1; have := ha'.1 y h2; omega
      subst e
      rw [ih ha'.2 hb'.2 fun z => ?_]
      constructor
      · intro hz
        rcases List.mem_cons.1 ((h z).1 (by simp [hz])) with e | h1
        · subst e; have := ha'.1 z hz; omega
        · exact h1
      · intro hz
        rcases List.mem_cons.1 ((h z).2 (by simp [hz])) with e | h1
        · subst e; have := hb'.1 z hz; omega
        · exact h1
theorem asI_len (l : List Int) : (asI l).length ≤ l.length := by
  have ins : ∀ (n : Int) (l : List Int), (insI n l).length ≤ l.length + 1 := by
    intro n l
    induction l with
    | nil => simp [insI]
    | cons a r ih =>
      simp only [insI]
      split
      · simp only [List.length_cons]; omega
      · split <;> simp
  have key : ∀ (l acc : List Int), (l.foldl (fun acc x => insI x acc) acc).length ≤ acc.length + l.length := by
    intro l
    induction l with
    | nil => intro acc; simp
    | cons a r ih =>
      intro acc
      have := ih (insI a acc)
      have := ins a acc
      simp only [List.foldl_cons, List.length_cons]
      omega
  have := key l []
  simpa [asI] using this

/-- a map whose keys are these numbers -/
def KeysAre (D : DataW Unit) (l : List Int) : Prop := ∃ es : List (Lit × DataW Unit), D = .map es ∧ (∀ p ∈ es, ∃ z, p.1 = Lit.int .i64 z) ∧ es.Pairwise (fun p q => p.1 ≠ q.1) ∧ ∀ z, (∃ p ∈ es, p.1 = Lit.int .i64 z) ↔ z ∈ l
theorem KeysAre.nil : KeysAre (.map []) [] := ⟨[], rfl, (fun _ h => by cases h), List.Pairwise.nil, fun z => by simp⟩
theorem mem_insert {x y : Lit × DataW Unit} {l : List (Lit × DataW Unit)} : y ∈ DataW.insert x l ↔ y = x ∨ y ∈ l := by
  induction l with
  | nil => simp [DataW.insert]
  | cons a r ih =>
    simp only [DataW.insert]
    split
    · simp
    · rw [List.mem_cons, ih, List.mem_cons]
      constructor
      · rintro (h | h | h) <;> simp [h]
      · rintro (h | h | h) <;> simp [h]
theorem pair_insert {x : Lit × DataW Unit} {l : List (Lit × DataW Unit)} (h : l.Pairwise (fun p q => p.1 ≠ q.1)) (hx : ∀ y ∈ l, x.1 ≠ y.1) : (DataW.insert x l).Pairwise (fun p q => p.1 ≠ q.1) := by
  induction l with
  | nil => simp [DataW.insert]
  | cons a r ih =>
    have h' := List.pairwise_cons.1 h
    simp only [DataW.insert]
    split
    · exact List.pairwise_cons.2 ⟨hx, h⟩
    · refine List.pairwise_cons.2 ⟨fun y hy => ?_, ih h'.2 fun y hy => hx y (by simp [hy])⟩
      rcases mem_insert.1 hy with rfl | hy
      · exact fun e => hx a (by simp) e.symm
      · exact h'.1 y hy
theorem KeysAre.put {D : DataW Unit} {l : List Int} (h : KeysAre D l) (z : Int) (d : DataW Unit) : KeysAre (D.put (.int .i64 z) d) (l ++ [z]) := by
  obtain ⟨es, rfl, h1, h2, h3⟩ := h
  refine ⟨DataW.insert (.int .i64 z, d) (es.filter fun p => !p.1.sameKey (.int .i64 z)), rfl, fun p hp => ?_, ?_, fun x => ?_⟩
  · rcases mem_insert.1 hp with rfl | hp
    · exact ⟨z, rfl⟩
    · exact h1 p (List.mem_filter.1 hp).1
  · refine pair_insert (List.Pairwise.filter _ h2) fun y hy => ?_
    obtain ⟨hy1, hy2⟩ := List.mem_filter.1 hy
    obtain ⟨u, hu⟩ := h1 y hy1
    simp only [hu, Lit.sameKey, Bool.not_eq_true', decide_eq_false_iff_not, true_and] at hy2
    simp only [hu]
    intro e
    injection e with _ e
    exact hy2 e.symm
  · rw [List.mem_append, List.mem_singleton]
    constructor
    · rintro ⟨p, hp, hx⟩
      rcases mem_insert.1 hp with rfl | hp
      · simp only at hx; injection hx with _ hx; exact .inr hx.symm
      · exact .inl ((h3 x).1 ⟨p, (List.mem_filter.1 hp).1, hx⟩)
    · rintro (hx | rfl)
      · by_cases hxz : x = z
        · subst hxz; exact ⟨_, mem_insert.2 (.inl rfl), rfl⟩
        · obtain ⟨p, hp, hpx⟩ := (h3 x).2 hx
          refine ⟨p, mem_insert.2 (.inr (List.mem_filter.2 ⟨hp, ?_⟩)), hpx⟩
          simp [hpx, Lit.sameKey, hxz]
      · exact ⟨_, mem_insert.2 (.inl rfl), rfl⟩
theorem KeysAre.keys {D : DataW Unit} {l : List Int} (h : KeysAre D l) : (Go.intKeys D).Nodup ∧ ∀ x, x ∈ Go.intKeys D ↔ x ∈ l := by
  obtain ⟨es, rfl, h1, h2, h3⟩ := h
  constructor
  · show (es.map fun p => Go.intOf p.1).Nodup
    rw [List.nodup_iff_pairwise_ne, List.pairwise_map]
    refine List.Pairwise.imp_of_mem ?_ h2
    intro p q hp hq hne e
    obtain ⟨a, ha⟩ := h1 p hp
    obtain ⟨b, hb⟩ := h1 q hq
    rw [ha, hb] at e hne
    exact hne (by rw [show a = b from e])
  · intro x
    show x ∈ (es.map fun p => Go.intOf p.1) ↔ _
    rw [← h3, List.mem_map]
    constructor
    · rintro ⟨p, hp, rfl⟩
      obtain ⟨a, ha⟩ := h1 p hp
      exact ⟨p, hp, by rw [ha]; rfl⟩
    · rintro ⟨p, hp, hx⟩
      exact ⟨p, hp, by rw [hx]; rfl⟩
theorem KeysAre.size {D : DataW Unit} {l : List Int} (h : KeysAre D l) : Go.Maps.size D = (Go.intKeys D).length := by
  obtain ⟨es, rfl, _⟩ := h
  show es.length = (es.map _).length
  rw [List.length_map]
/-- the keys, sorted -/
theorem KeysAre.sorted {D : DataW Unit} {l ss : List Int} (h : KeysAre D l) (hp : ss.Perm (Go.intKeys D)) : ss.mergeSort (fun x y => decide (x ≤ y)) = asI l := by
  obtain ⟨h1, h2⟩ := h.keys
  have hs : (ss.mergeSort (fun x y => decide (x ≤ y))).Pairwise (fun a b => decide (a ≤ b) = true) := List.pairwise_mergeSort (fun a b c => by simp; omega) (fun a b => by simp; omega) ss
  have hperm : (ss.mergeSort (fun x y => decide (x ≤ y))).Perm (Go.intKeys D) := (List.mergeSort_perm ss _).trans hp
  have hnd : (ss.mergeSort (fun x y => decide (x ≤ y))).Nodup := hperm.nodup_iff.2 h1
  refine Asc.unique ?_ (asI_asc l) fun x => ?_
  · refine List.Pairwise.imp₂ ?_ hs hnd
    intro a b hab hne
    have := of_decide_eq_true hab
    omega
  · rw [hperm.mem_iff, h2, mem_asI]
end Go.Proofs.YtlchcfkngjbdjaaGreatDoor
/- A map with whole numbers as keys, entry by entry, as the shelf's contracts of maps.Keys want it. -/
namespace Go.Proofs.YtlchcfkngjbdjaaGreatDoor
open Go.RowKit Go.Maps Go.MapKept Go.WideElems Go.ChangeMaps

/-- how a value reads that nobody looks at -/
def anyElem (_ : Value) : Option (DataW Unit × List MemPlace) := some (.nil, [])
theorem keysAre_fold (l : List (Lit × DataW Unit)) (h1 : ∀ p ∈ l, ∃ z, p.1 = Lit.int .i64 z) (h2 : l.Pairwise (fun p q => p.1 ≠ q.1)) (ks : List Int) (hk : ∀ z, (∃ p ∈ l, p.1 = Lit.int .i64 z) ↔ z ∈ ks) : KeysAre (.map (l.foldr DataW.insert [])) ks := by
  have key : ∀ l : List (Lit × DataW Unit), l.Pairwise (fun p q => p.1 ≠ q.1) → (∀ y, y ∈ l.foldr DataW.insert [] ↔ y ∈ l) ∧ (l.foldr DataW.insert []).Pairwise (fun p q => p.1 ≠ q.1) := by
    intro l
    induction l with
    | nil => intro _; exact ⟨fun y => by simp, by simp⟩
    | cons a r ih =>
      intro h
      obtain ⟨ha, hr⟩ := List.pairwise_cons.1 h
      obtain ⟨i1, i2⟩ := ih hr
      refine ⟨fun y => ?_, ?_⟩
      · rw [List.foldr_cons, mem_insert, i1, List.mem_cons]
      · rw [List.foldr_cons]
        exact pair_insert i2 fun y hy => ha y ((i1 y).1 hy)
  obtain ⟨k1, k2⟩ := key l h2
  refine ⟨_, rfl, fun p hp => h1 p ((k1 p).1 hp), k2, fun z => ?_⟩
  rw [← hk z]
  constructor
  · rintro ⟨p, hp, hz⟩; exact ⟨p, (k1 p).1 hp, hz⟩
  · rintro ⟨p, hp, hz⟩; exact ⟨p, (k1 p).2 hp, hz⟩
theorem iEnts_mem {j : Nat} {es : List (Int × Value)} {x : MapEntry} (h : x ∈ iEnts j es) : ∃ i p, es[i]? = some p ∧ x = iEnt (j + i) p := by
  obtain ⟨i, hi⟩ := List.getElem?_of_mem h
  rw [iEnts_get] at hi
  obtain ⟨p, hp, he⟩ := Option.map_eq_some_iff.1 hi
  exact ⟨i, p, hp, he.symm⟩
set_option maxRecDepth 100000 in
theorem iObj_owns {w : World} {b : Nat} {es : List (Int × Value)} (hb : w.heap[b]? = some (iObj es)) (hn : (es.map (·.1)).Nodup) (hw : ∀ p ∈ es, -9223372036854775808 ≤ p.1 ∧ p.1 ≤ 9223372036854775807) (hl : es.length ≤ 1000000) :
    ∃ D : DataW Unit, w.ownsMap Tryz.prog 3 anyElem b es.length D ∧ KeysAre D (es.map (·.1)) := by
  have hwf : ∀ p ∈ es, (Lit.int .i64 p.1).wf = true := fun p hp => by
    have := hw p hp
    have e1 : IntKind.i64.min = -9223372036854775808 := rfl
    have e2 : IntKind.i64.max = 9223372036854775807 := rfl
    simp only [Lit.wf, Bool.and_eq_true, decide_eq_true_eq]; omega
  have hrd : ∀ x ∈ iEnts 0 es, ∃ p ∈ es, x.key = .int .i64 p.1 ∧ WideElems.rd Tryz.prog 3 anyElem x = some (Lit.int .i64 p.1, .nil) := fun x hx => by
    obtain ⟨i, p, hp, rfl⟩ := iEnts_mem hx
    have hm := List.mem_of_getElem? hp
    exact ⟨p, hm, rfl, Go.WideElems.rd_mk (key := .int .i64 p.1) (val := p.2) (yv := ((DataW.nil : DataW Unit), [])) (keyOf_int_mk Tryz.underlying3 (hwf p hm)) rfl⟩
  have hlen : (iEnts 0 es).length = es.length := iEnts_len 0 es
  have hkeys : ∀ (j : Nat) (es : List (Int × Value)), (iEnts j es).map (·.key) = es.map fun p => Value.int .i64 p.1 := by
    intro j es
    apply List.ext_getElem?
    intro i
    rw [List.getElem?_map, iEnts_get, List.getElem?_map]
    cases es[i]? <;> rfl
  have hborn : (iEnts 0 es).map (·.born) = List.range es.length := by
    apply List.ext_getElem?
    intro i
    rw [List.getElem?_map, iEnts_get]
    by_cases hi : i < es.length
    · rw [List.getElem?_eq_getElem hi]
      simp [iEnt, hi]
    · rw [List.getElem?_eq_none (by omega), List.getElem?_eq_none (by simp; omega)]; rfl
  refine ⟨_, ⟨(iEnts 0 es).toArray, es.length, hb, ⟨by rw [List.size_toArray, hlen]; unfold maxLen; omega, ⟨fun x hx => ?_, ?_, ?_⟩, fun x hx => ?_⟩, by rw [List.size_toArray, hlen]; exact Nat.le_refl _, rfl⟩, ?_⟩
  · obtain ⟨i, p, hp, rfl⟩ := iEnts_mem (by simpa using hx)
    have := (List.getElem?_eq_some_iff.1 hp).1
    simp [iEnt]; exact this
  · rw [hborn]; exact List.nodup_range
  · rw [hkeys, List.nodup_iff_pairwise_ne, List.pairwise_map]
    rw [List.nodup_iff_pairwise_ne, List.pairwise_map] at hn
    exact hn.imp fun h e => h (by injection e)
  · obtain ⟨p, _, _, h⟩ := hrd x (by simpa using hx)
    exact ⟨_, h⟩
  · have hrg : ∀ x ∈ iEnts 0 es, ∃ p ∈ es, x.key = .int .i64 p.1 ∧ WideElems.rg Tryz.prog 3 anyElem x = (Lit.int .i64 p.1, .nil) := fun x hx => by
      obtain ⟨p, h1, h2, h3⟩ := hrd x hx
      exact ⟨p, h1, h2, by rw [WideElems.rg, h3]; rfl⟩
    have hmap : (iEnts 0 es).map (WideElems.rg Tryz.prog 3 anyElem) = es.map fun p => (Lit.int .i64 p.1, DataW.nil) := by
      apply List.ext_getElem?
      intro i
      rw [List.getElem?_map, List.getElem?_map, iEnts_get]
      cases hp : es[i]? with
      | none => rfl
      | some p =>
        have hm : iEnt i p ∈ iEnts 0 es := List.mem_of_getElem? (i := i) (by rw [iEnts_get, hp]; simp)
        obtain ⟨q, _, h2, h3⟩ := hrg _ hm
        simp only [iEnt, Value.int.injEq, true_and] at h2
        simp only [Option.map_some, Nat.zero_add, h3, h2]
    rw [hmap]
    refine keysAre_fold _ (fun p hp => ?_) ?_ _ (fun z => ?_)
    · obtain ⟨q, _, rfl⟩ := List.mem_map.1 hp; exact ⟨_, rfl⟩
    · rw [List.pairwise_map]
      rw [List.nodup_iff_pairwise_ne, List.pairwise_map] at hn
      exact hn.imp fun h e => h (by injection e)
    · constructor
      · rintro ⟨p, hp, hz⟩
        obtain ⟨q, hq, rfl⟩ := List.mem_map.1 hp
        simp only [Lit.int.injEq, true_and] at hz
        exact List.mem_map.2 ⟨q, hq, hz⟩
      · intro hz
        obtain ⟨q, hq, rfl⟩ := List.mem_map.1 hz
        exact ⟨_, List.mem_map.2 ⟨q, hq, rfl⟩, rfl⟩
end Go.Proofs.YtlchcfkngjbdjaaGreatDoor
/- slices.Clone at payments; transfer.copyFile. -/
namespace Go.Proofs.YtlchcfkngjbdjaaGreatDoor
open Go.RowKit Go.Shelf

theorem own_lit0 (w : World) (e : TypeId) (sz base : Nat) (hb : base ≤ w.heap.size) : Own (w.alloc (.cells #[] e)) base e sz (.slice (some ⟨w.heap.size, 0, none⟩) 0 0) [] :=
  ⟨⟨by simp, .inr ⟨_, 0, #[], rfl, hb, heap_alloc_new w _, Nat.le_refl _, Nat.zero_le _, by simp, by simp⟩⟩, Wide.nil sz⟩
theorem payNil_none (w : World) : (binOp .eql 35 (.slice none 0 0) (.slice none 0 0)).run Tryz.prog w = .ok (.bool true) w := by
  kernel_rfl
theorem payNil_some (a : Addr) (n c : Nat) (w : World) : (binOp .eql 35 (.slice (some a) n c) (.slice none 0 0)).run Tryz.prog w = .ok (.bool false) w := by
  kernel_rfl
set_option maxRecDepth 10000 in
theorem clonePay_any (l : List Pay) (v : Value) (w : World) (hsl : Sl w 2 v (pays l)) (hl : l.length ≤ 4096) :
    Calls Tryz.prog 51 #[v] w (RetOwn w 46 2 (pays l)) := by
  have H := Lib.hid hsl
  obtain ⟨A, cap, rfl, h1, h2, h0, h3⟩ := hsl
  rw [pays_len] at h1
  cases A with
  | none =>
    have hl0 : l = [] := List.eq_nil_of_length_eq_zero (by have := h0 rfl; omega)
    subst hl0
    obtain rfl := h0 rfl
    clear h3 h0 h1 h2 hl
    show Calls _ _ #[.slice none 0 0] _ _
    have E := payNil_none w
    go_enter Tryz.func51, Tryz.ntmps51
    go_wp2
    go_ret
    exact ⟨_, rfl, Own.nil _ _ _ _, Below.refl _ _⟩
  | some a =>
    clear h0 h3
    obtain ⟨b, o, k⟩ := a
    rw [pays_len] at H ⊢
    have E := payNil_some ⟨b, o, k⟩ l.length cap w
    have hb1 : Below w.heap.size w (w.alloc (.cells #[] 46)) := (Below.refl _ _).alloc (Nat.le_refl _) _
    go_enter Tryz.func51, Tryz.ntmps51
    go_wp2_with (at_builtin; (refine wpList_append_sl rfl (.tmp 5) (.tmp 6) rfl rowPay w.heap.size _ _ [] (pays l) rfl (own_lit0 w _ 2 _ (Nat.le_refl _)) rfl (H.out.below hb1) (pays_wide l) (by rw [pays_len]; unfold maxLen; simp; omega) (by rw [pays_len]; simp; omega) hb1.size ?_); intro v4 w4 hown4 hg4 _; have hb4 := Own.grown (own_lit0 w _ 2 _ (Nat.le_refl _)) hb1 hg4 hb1.size)
    go_ret
    exact ⟨_, rfl, hown4, hb4⟩
/-- the call returns a file like this one, with payments of its own -/
def RetCopy (f : Fil) (w : World) (e : Ending) (w' : World) : Prop := ∃ v, e = .returned (.agg (f.vals v)) ∧ Own w' w.heap.size 46 2 v (pays f.l) ∧ Below w.heap.size w w'
set_option maxRecDepth 100000 in
set_option maxHeartbeats 1000000 in
theorem copyFile_any (f : Fil) (v : Value) (w : World) (hsl : Sl w 2 v (pays f.l)) (hl : f.l.length ≤ 4096) :
    Calls Tryz.prog 35 #[.agg (f.vals v)] w (RetCopy f w) := by
  have H := Lib.hid hsl
  obtain ⟨A, cap, rfl, -⟩ := hsl
  rw [pays_len] at H ⊢
  have HVL : Hid (f.vals (.slice A f.l.length cap) = #[.int .i64 f.n, .int .i64 f.d, .slice A f.l.length cap]) := rfl
  rw [HVL.out]
  obtain ⟨hx1, hx2, hx3⟩ := row_new2 w 37 37 #[.int .i64 f.n, .int .i64 f.d, .slice A f.l.length cap] #[.int .i64 0, .int .i64 0, .slice none 0 0]
  go_enter Tryz.func35, Tryz.ntmps35
  go_wp2_with fail
  obtain ⟨w1, hw1⟩ : ∃ w1, (w.alloc (.cells #[.int .i64 f.n, .int .i64 f.d, .slice A f.l.length cap] 37)).alloc (.cells #[.int .i64 0, .int .i64 0, .slice none 0 0] 37) = w1 := ⟨_, rfl⟩
  rw [hw1] at hx1 hx2 hx3 ⊢
  obtain ⟨b, hb⟩ : ∃ b, w.heap.size = b := ⟨_, rfl⟩
  obtain ⟨q, hq⟩ : ∃ q, w.heap.size + 1 = q := ⟨_, rfl⟩
  have hbq : b ≠ q := by omega
  have hbw : w.heap.size ≤ b := by omega
  have hqw : w.heap.size ≤ q := by omega
  rw [hq] at hx2 ⊢
  rw [hb] at hx1 ⊢
  clear hw1 hb hq
  refine (clonePay_any f.l _ w1 (H.out.below hx3) hl).mono ?_
  rintro e w2 ⟨u, rfl, hown, hb2⟩
  have hB2 := below_after hx3 hb2 hx3.size
  have hy1 := hx1.below hb2 hx1.lt
  have hy2 := hx2.below hb2 hx2.lt
  have hb1l := hx1.lt
  have hq1l := hx2.lt
  obtain ⟨Au, cu, rfl⟩ := hown.form
  rw [pays_len] at hown ⊢
  have r1 := hy1.set 2 (.slice Au f.l.length cu)
  have r2 := hy2.far (p := ⟨b, 2, none⟩) (show q ≠ b from hbq.symm) (.slice Au f.l.length cu)
  have r3 := Lib.hid (row3 (r2.set3 (.int .i64 f.n) (.int .i64 f.d) (.slice Au f.l.length cu))).1
  have HBF := Lib.hid (Below.set3 (hB2.setCell (p := ⟨b, 2, none⟩) hbw (.slice Au f.l.length cu)) hqw (.int .i64 f.n) (.int .i64 f.d) (.slice Au f.l.length cu))
  have hz := hx3.size
  have HOF := Lib.hid ((own3 (own_set hown hb1l 2 (.slice Au f.l.length cu)) hq1l (.int .i64 f.n) (.int .i64 f.d) (.slice Au f.l.length cu)).more hz)
  obtain ⟨⟨a0, a1, a2, al⟩, ⟨f0, f1, f2⟩⟩ := row3 hy1
  obtain ⟨⟨c0, c1, c2, cl⟩, ⟨g0, g1, g2⟩⟩ := row3 hy2
  clear hx1 hx2 hx3 hb2 hB2 hy1 hy2 r1 r2 hown hz
  go_wp2
  obtain ⟨z0, z1, z2, -⟩ := r3.out
  refine bodyPost_ret (v := .agg #[.int .i64 f.n, .int .i64 f.d, .slice Au f.l.length cu]) (by simp only [results, Tryz.results35, go_sem]; simp [z0, z1, z2, go_sem]) rfl ?_
  exact ⟨_, rfl, HOF.out, HBF.out⟩
end Go.Proofs.YtlchcfkngjbdjaaGreatDoor
/- Canonical decimals of at most 18 digits, or 10^18: no program in sight. -/
namespace Go.Proofs.YtlchcfkngjbdjaaGreatDoor

/-- the number of a text that is its decimal: from -10^18 to 10^18 -/
def numZ (l : List UInt8) : Option Int := match Lib.atoiAll l with
  | .ok v => if -1000000000000000000 ≤ v ∧ v ≤ 1000000000000000000 ∧ Lib.itoa v = l then some v else none
  | _ => none
theorem numZ_iff {l : List UInt8} {n : Int} : numZ l = some n ↔ l = Lib.itoa n ∧ -1000000000000000000 ≤ n ∧ n ≤ 1000000000000000000 := by
  constructor
  · intro h
    unfold numZ at h
    split at h
    · split at h
      · rename_i hc; injection h with h; subst h; exact ⟨hc.2.2.symm, hc.1, hc.2.1⟩
      · cases h
    · cases h
  · rintro ⟨rfl, h0, h1⟩
    rw [numZ, atoi_itoa n (by omega) (by omega)]
    exact if_pos ⟨h0, h1, rfl⟩
/-- the value of digits behind a number -/
def vD (n : Nat) (l : List UInt8) : Nat := l.foldl (fun a c => a * 10 + (c.toNat - 48)) n
theorem vD_snoc (n : Nat) (l : List UInt8) (c : UInt8) : vD n (l ++ [c]) = vD n l * 10 + (c.toNat - 48) := by
  simp [vD, List.foldl_append]
def isD (c : UInt8) : Prop := 48 ≤ c.toNat ∧ c.toNat ≤ 57
theorem vD_lt : ∀ (k : Nat) (l : List UInt8), l.length = k → (∀ c ∈ l, isD c) → vD 0 l < 10 ^ k
  | 0, l, h, _ => by
    obtain rfl := List.eq_nil_of_length_eq_zero h
    simp [vD]
  | k + 1, l, h, hd => by
    have hne : l ≠ [] := fun e => by rw [e] at h; simp at h
    have e := List.dropLast_concat_getLast hne
    have ih := vD_lt k l.dropLast (by simp; omega) (fun c hc => hd c (List.dropLast_subset _ hc))
    have hc := hd _ (List.getLast_mem hne)
    rw [← e, vD_snoc, Nat.pow_succ]
    unfold isD at hc
    omega
theorem dec_head : ∀ (u : Nat), 0 < u → (Lib.decDigits u).head? ≠ some 48 := by
  intro u
  induction u using Nat.strongRecOn with
  | ind u ih =>
    intro h0
    by_cases hu : u < 10
    · rw [dec_small u hu]
      intro e
      simp only [List.head?_cons, Option.some.injEq] at e
      have := congrArg UInt8.toNat e
      rw [digit_nat hu] at this
      have h48 : (48 : UInt8).toNat = 48 := rfl
      omega
    · have := ih (u / 10) (by omega) (by omega)
      rw [dec_big u (by omega), List.head?_append]
      cases hh : (Lib.decDigits (u / 10)).head? with
      | none => rw [List.head?_eq_none_iff] at hh; exact absurd hh (dec_ne _)
      | some x => rw [hh] at this; simpa using this
/-- canonical digits are the decimal of their value -/
theorem dec_vD : ∀ (k : Nat) (l : List UInt8), l.length = k → l ≠ [] → (∀ c ∈ l, isD c) → (l.head? = some 48 → l.length = 1) → Lib.decDigits (vD 0 l) = l := by
  intro k
  induction k with
  | zero => intro l h hne; exact absurd (List.eq_nil_of_length_eq_zero h) hne
  | succ k ih =>
    intro l h hne hd hh
    have e := List.dropLast_concat_getLast hne
    obtain ⟨r, hr⟩ : ∃ r, l.dropLast = r := ⟨_, rfl⟩
    obtain ⟨c, hc⟩ : ∃ c, l.getLast hne = c := ⟨_, rfl⟩
    have hcd := hd _ (List.getLast_mem hne)
    have hrl : r.length = k := by rw [← hr]; simp; omega
    have hrd : ∀ c ∈ r, isD c := fun x hx => hd x (by rw [← hr] at hx; exact List.dropLast_subset _ hx)
    rw [hr, hc] at e
    rw [hc] at hcd
    unfold isD at hcd
    clear hr hc
    subst e
    rw [vD_snoc]
    have hof : UInt8.ofNat (48 + (c.toNat - 48)) = c := by
      apply UInt8.toNat_inj.1
      rw [UInt8.toNat_ofNat']; omega
    by_cases hrn : r = []
    · subst hrn
      have : vD 0 [] = 0 := rfl
      rw [this, Nat.zero_mul, Nat.zero_add, dec_small _ (by omega), hof]; rfl
    · have hr48 : r.head? ≠ some 48 := fun e => by
        have := hh (by rw [List.head?_append, e]; rfl)
        rw [List.length_append, List.length_singleton] at this
        have := List.length_pos_iff.2 hrn
        omega
      have hv := ih r hrl hrn hrd (fun e => absurd e hr48)
      have hpos : 0 < vD 0 r := by
        rcases Nat.eq_zero_or_pos (vD 0 r) with h0 | h0
        · rw [h0] at hv
          have : Lib.decDigits 0 = [48] := by rw [dec_small 0 (by omega)]; rfl
          rw [this] at hv
          rw [← hv] at hr48
          exact absurd rfl hr48
        · exact h0
      rw [dec_big _ (by omega)]
      have e1 : (vD 0 r * 10 + (c.toNat - 48)) / 10 = vD 0 r := by omega
      have e2 : (vD 0 r * 10 + (c.toNat - 48)) % 10 = c.toNat - 48 := by omega
      rw [e1, e2, hv, hof]
/-- 10^18 -/
def topD : List UInt8 := [49, 48, 48, 48, 48, 48, 48, 48, 48, 48, 48, 48, 48, 48, 48, 48, 48, 48, 48]
theorem dec_top : Lib.decDigits 1000000000000000000 = topD := dec_vD 19 topD rfl (by decide) (by unfold isD; decide) (by decide)
theorem dec_short (u : Nat) (k : Nat) (h : u < 10 ^ (k + 1)) : (Lib.decDigits u).length ≤ k + 1 := by
  induction k generalizing u with
  | zero => simp at h; rw [dec_small u h]; simp
  | succ k ih =>
    by_cases hu : u < 10
    · rw [dec_small u hu]; simp
    · rw [dec_big u (by omega), List.length_append, List.length_singleton]
      have := ih (u / 10) (by rw [Nat.pow_succ] at h; omega)
      omega
/-- the sign and the digits of a text -/
def ngB (l : List UInt8) : Bool := decide (1 < l.length) && decide (l.head? = some 45)
def dgL (l : List UInt8) : List UInt8 := if ngB l then l.tail else l
structure NumOk (l : List UInt8) : Prop where
  ne : dgL l ≠ []
  le : (dgL l).length ≤ 19
  top : (dgL l).length = 19 → dgL l = topD
  lead : (dgL l).head? = some 48 → (dgL l).length = 1 ∧ ngB l = false
  dig : ∀ c ∈ dgL l, isD c
theorem dec_dig (u : Nat) : ∀ c ∈ Lib.decDigits u, isD c := dec_digits u
theorem dec_ok (u : Nat) (h : u ≤ 1000000000000000000) : (Lib.decDigits u).length ≤ 19 ∧ ((Lib.decDigits u).length = 19 → Lib.decDigits u = topD) := by
  by_cases hu : u = 1000000000000000000
  · subst hu; rw [dec_top]; exact ⟨by decide, fun _ => rfl⟩
  · have := dec_short u 17 (by omega)
    exact ⟨by omega, fun h => by omega⟩
theorem num_ok {l : List UInt8} {n : Int} (h : numZ l = some n) : NumOk l ∧ ngB l = decide (n < 0) ∧ dgL l = Lib.decDigits n.natAbs := by
  obtain ⟨rfl, h0, h1⟩ := numZ_iff.1 h
  by_cases hn : n < 0
  · have e := itoa_neg' n hn
    have hd : 0 < (Lib.decDigits n.natAbs).length := List.length_pos_iff.2 (dec_ne _)
    have hng : ngB (Lib.itoa n) = true := by rw [e, ngB]; simp; exact hd
    have hdg : dgL (Lib.itoa n) = Lib.decDigits n.natAbs := by rw [dgL, hng, if_pos rfl, e]; rfl
    have hk := dec_ok n.natAbs (by omega)
    refine ⟨⟨by rw [hdg]; exact dec_ne _, by rw [hdg]; exact hk.1, by rw [hdg]; exact hk.2, fun hh => ?_, by rw [hdg]; exact dec_dig _⟩, by rw [hng]; simpa using hn, hdg⟩
    rw [hdg] at hh
    exact absurd hh (dec_head _ (by omega))
  · have e := itoa_pos' n (by omega)
    have hng : ngB (Lib.itoa n) = false := by
      rw [ngB, Bool.and_eq_false_iff]
      right
      rw [decide_eq_false_iff_not, e]
      intro hh
      have := dec_digits n.natAbs 45 (List.mem_of_mem_head? hh)
      have h45 : (45 : UInt8).toNat = 45 := rfl
      omega
    have hdg : dgL (Lib.itoa n) = Lib.decDigits n.natAbs := by rw [dgL, hng, if_neg (by simp), e]
    have hk := dec_ok n.natAbs (by omega)
    refine ⟨⟨by rw [hdg]; exact dec_ne _, by rw [hdg]; exact hk.1, by rw [hdg]; exact hk.2, fun hh => ?_, by rw [hdg]; exact dec_dig _⟩, by rw [hng]; simp; omega, hdg⟩
    rw [hdg] at hh
    rcases Nat.eq_zero_or_pos n.natAbs with h0 | h0
    · rw [hdg, h0, dec_small 0 (by omega)]; exact ⟨rfl, hng⟩
    · exact absurd hh (dec_head _ h0)
theorem top_take : ∀ i, i ≤ 19 → vD 0 (topD.take i) ≤ 1000000000000000000 := by decide
theorem NumOk.small {l : List UInt8} (h : NumOk l) (i : Nat) (hi : i ≤ (dgL l).length) : vD 0 ((dgL l).take i) ≤ 1000000000000000000 := by
  by_cases h19 : (dgL l).length = 19
  · rw [h.top h19]; exact top_take i (by omega)
  · have h1 := vD_lt i ((dgL l).take i) (by rw [List.length_take]; omega) (fun c hc => h.dig c (List.mem_of_mem_take hc))
    have h2 : 10 ^ i ≤ 10 ^ 18 := Nat.pow_le_pow_right (by omega) (by have := h.le; omega)
    omega
theorem NumOk.val {l : List UInt8} (h : NumOk l) : vD 0 (dgL l) ≤ 1000000000000000000 := by
  have := h.small (dgL l).length (Nat.le_refl _)
  rwa [List.take_length] at this
theorem num_val {l : List UInt8} (h : NumOk l) : numZ l = some (if ngB l then -(vD 0 (dgL l) : Int) else (vD 0 (dgL l) : Int)) := by
  have hv := h.val
  have hd := dec_vD _ (dgL l) rfl h.ne h.dig (fun e => (h.lead e).1)
  rw [numZ_iff]
  cases hg : ngB l
  · simp only [Bool.false_eq_true, if_false]
    refine ⟨?_, by omega, by omega⟩
    have e : dgL l = l := by rw [dgL, hg]; rfl
    rw [itoa_pos' _ (by omega), Int.natAbs_natCast, hd, e]
  · simp only [if_true]
    refine ⟨?_, by omega, by omega⟩
    have hpos : 0 < vD 0 (dgL l) := by
      rcases Nat.eq_zero_or_pos (vD 0 (dgL l)) with h0 | h0
      · rw [h0, dec_small 0 (by omega)] at hd
        have := (h.lead (by rw [← hd]; rfl)).2
        rw [hg] at this; cases this
      · exact h0
    have e : dgL l = l.tail := by rw [dgL, hg]; rfl
    have hl : l = 45 :: l.tail := by
      rw [ngB, Bool.and_eq_true, decide_eq_true_eq, decide_eq_true_eq] at hg
      cases l with
      | nil => simp at hg
      | cons a r => simp at hg; rw [hg.2]; rfl
    rw [itoa_neg' _ (by omega), Int.natAbs_neg, Int.natAbs_natCast, hd, e]
    exact hl
theorem num_bad {l : List UInt8} (h : ¬ NumOk l) : numZ l = none := by
  cases hz : numZ l with
  | none => rfl
  | some n => exact absurd (num_ok hz).1 h
end Go.Proofs.YtlchcfkngjbdjaaGreatDoor
/- How ref42.Decode reads a text: no program in sight. -/
namespace Go.Proofs.YtlchcfkngjbdjaaGreatDoor

theorem numT_numZ (l : List UInt8) : numT l = match numZ l with
    | some n => if 0 ≤ n then some n else none
    | none => none := by
  cases hz : numZ l with
  | none =>
    simp only
    cases ht : numT l with
    | none => rfl
    | some n =>
      obtain ⟨h1, h2, h3⟩ := numT_iff.1 ht
      rw [numZ_iff.2 ⟨h1, by omega, h3⟩] at hz; cases hz
  | some n =>
    obtain ⟨h1, h2, h3⟩ := numZ_iff.1 hz
    simp only
    by_cases h0 : 0 ≤ n
    · rw [if_pos h0]; exact numT_iff.2 ⟨h1, h0, h3⟩
    · rw [if_neg h0]
      cases ht : numT l with
      | none => rfl
      | some m =>
        obtain ⟨k1, k2, k3⟩ := numT_iff.1 ht
        have := itoa_inj (n := n) (m := m) (by omega) (by omega) (by omega) (by omega) (h1.symm.trans k1)
        omega
theorem split_snoc (c : UInt8) : ∀ b : List UInt8, splitBy c (b ++ [c]) = splitBy c b ++ [[]]
  | [] => by rw [List.nil_append]; unfold splitBy; rw [if_pos rfl]; rfl
  | x :: r => by
    have ih := split_snoc c r
    rw [List.cons_append]
    conv => lhs; unfold splitBy
    conv => rhs; unfold splitBy
    by_cases hx : x = c
    · rw [if_pos hx, if_pos hx, ih]; rfl
    · rw [if_neg hx, if_neg hx, ih]
      cases hr : splitBy c r with
      | nil => exact absurd hr (splitBy_ne c r)
      | cons h t => rfl
theorem join_nil_snoc (c : UInt8) : ∀ ls : List (List UInt8), ls ≠ [] → joinBy c (ls ++ [[]]) = joinBy c ls ++ [c]
  | [], h => absurd rfl h
  | [a], _ => by simp [joinBy]
  | a :: b :: r, _ => by
    have ih := join_nil_snoc c (b :: r) (by simp)
    rw [List.cons_append, join_cons (l := (b :: r) ++ [[]]) (by simp), ih, join_cons (l := b :: r) (by simp), List.append_assoc]
    rfl
theorem parse_lines {l : List UInt8} {ls : List (List UInt8)} {rest : List UInt8} (h : splitBy 10 l = ls ++ [rest]) : parseF l = if rest = [] then parseL ls else none := by
  rw [parseF_lines]
  by_cases hs : Lib.hasSuffix l [10] = true
  · obtain ⟨b, rfl⟩ := suffix_iff.1 hs
    rw [split_snoc] at h
    obtain ⟨h1, h2⟩ := List.append_inj' h rfl
    simp only [List.cons.injEq, and_true] at h2
    rw [if_pos hs, trim_app, h1, if_pos h2.symm]
  · rw [if_neg hs]
    by_cases hr : rest = []
    · subst hr
      rw [if_pos rfl]
      by_cases hl : ls = []
      · subst hl; rfl
      · exfalso
        apply hs
        refine suffix_iff.2 ⟨joinBy 10 ls, ?_⟩
        rw [← join_split 10 l, h, join_nil_snoc 10 ls hl]
    · rw [if_neg hr]
theorem readP_len : ∀ {ps ws : List (List UInt8)}, ¬ ws.length = ps.length → readP ps ws = none
  | [], [], h => absurd rfl h
  | [], _ :: _, _ => rfl
  | _ :: _, [], _ => rfl
  | p :: ps, w :: ws, h => by
    have ih := readP_len (ps := ps) (ws := ws) (by simpa using h)
    unfold readP
    rw [ih]
    split
    · split <;> rfl
    · split <;> rfl
theorem hd_len {l : List UInt8} (h : ¬ (splitBy 32 l).length = 4) : readL pHead l = none := readP_len h
theorem py_len {l : List UInt8} (h : ¬ (splitBy 32 l).length = 3) : readL pPay l = none := readP_len h
theorem tt_len {l : List UInt8} (h : ¬ (splitBy 32 l).length = 4) : readL pTotal l = none := readP_len h
theorem hd_four {l a b c d : List UInt8} (h : splitBy 32 l = [a, b, c, d]) : readL pHead l = if a = wFile ∧ c = wDay then (match numT b with
    | some n => (match numT d with | some m => some [n, m] | none => none)
    | none => none) else none := by
  rw [readL, h]
  unfold pHead
  simp only [readP, show ¬ wFile = [] by decide, show ¬ wDay = [] by decide, if_false, if_true]
  by_cases ha : a = wFile
  · by_cases hc : c = wDay
    · rw [if_pos ha, if_pos hc, if_pos ⟨ha, hc⟩]
      cases numT b <;> cases numT d <;> rfl
    · rw [if_pos ha, if_neg hc, if_neg (fun h => hc h.2)]
      cases numT b <;> rfl
  · rw [if_neg ha, if_neg (fun h => ha h.1)]
theorem py_three {l a b c : List UInt8} (h : splitBy 32 l = [a, b, c]) : readL pPay l = if a = wPay then (match numT b with
    | some n => (match numT c with | some m => some [n, m] | none => none)
    | none => none) else none := by
  rw [readL, h]
  unfold pPay
  simp only [readP, show ¬ wPay = [] by decide, if_false, if_true]
  by_cases ha : a = wPay
  · rw [if_pos ha, if_pos ha]
    cases numT b <;> cases numT c <;> rfl
  · rw [if_neg ha, if_neg ha]
theorem tt_four {l a b c d : List UInt8} (h : splitBy 32 l = [a, b, c, d]) : readL pTotal l = if a = wTotal then (match numT b with
    | some x => (match numT c with
      | some y => (match numT d with | some z => some [x, y, z] | none => none)
      | none => none)
    | none => none) else none := by
  rw [readL, h]
  unfold pTotal
  simp only [readP, show ¬ wTotal = [] by decide, if_false, if_true]
  by_cases ha : a = wTotal
  · rw [if_pos ha, if_pos ha]
    cases numT b <;> cases numT c <;> cases numT d <;> rfl
  · rw [if_neg ha, if_neg ha]
/-- the payments do not read, whatever the control totals -/
theorem pl_some_pays {ls : List (List UInt8)} {n d : Int} (h : 3 ≤ ls.length ∧ ls[ls.length - 1]? = some wEnd) (h1 : readL pHead (ls.getD 0 []) = some [n, d]) (h3 : readPays ((ls.drop 1).take (ls.length - 3)) = none) : parseL ls = none := by
  cases h2 : readL pTotal (ls.getD (ls.length - 2) []) with
  | none => exact pl_total h h1 h2
  | some ns =>
    obtain ⟨c, t, y, rfl, -⟩ := readL_total.1 h2
    exact pl_pays h h1 h2 h3
/-- the file is invalid, whatever the control totals -/
theorem dec_bad {s : List UInt8} {ls : List (List UInt8)} (hp : parseF s = parseL ls) (hl : ¬ 262144 < s.length) {n d : Int} {l : List Pay} (h : 3 ≤ ls.length ∧ ls[ls.length - 1]? = some wEnd) (h1 : readL pHead (ls.getD 0 []) = some [n, d])
    (h3 : readPays ((ls.drop 1).take (ls.length - 3)) = some l) (hf : filB ⟨n, d, l⟩ = false) : decE s = 6 := by
  rw [decE, if_neg hl, hp]
  cases h2 : readL pTotal (ls.getD (ls.length - 2) []) with
  | none => rw [pl_total h h1 h2]
  | some ns =>
    obtain ⟨c, t, y, rfl, -⟩ := readL_total.1 h2
    rw [pl_ok h h1 h2 h3]
    simp only [hf, Bool.false_eq_true, if_false]
theorem dec_none {s : List UInt8} (h : parseF s = none) (hl : ¬ 262144 < s.length) : decE s = 6 := by rw [decE, if_neg hl, h]
theorem dec_some {s : List UInt8} {f : Fil} {c : Ctl} (h : parseF s = some (f, c)) (hl : ¬ 262144 < s.length) (hf : filB f = true) : decE s = (if ofC f.l = c then 0 else 17) ∧ (ofC f.l = c → decF s = f) := by
  have h0 : decE s = (if ofC f.l = c then 0 else 17) := by
    rw [decE, if_neg hl, h]
    simp only [hf, if_true]
    rw [checkE, (filB_of hf).2.2.2.2.2.2.1, if_pos rfl]
  refine ⟨h0, fun hc => ?_⟩
  rw [if_pos hc] at h0
  rw [decF, if_pos h0, h]
end Go.Proofs.YtlchcfkngjbdjaaGreatDoor
/- Contract of ref34.Number. -/
namespace Go.Proofs.YtlchcfkngjbdjaaGreatDoor
open Go.RowKit

theorem head_bytes (s : ByteArray) (h : 0 < s.size) : s.data.toList = s[0] :: (s.extract 1 s.size).data.toList := by
  have e : (s.extract 1 s.size).data.toList = s.data.toList.drop 1 := Lib.extract_to_end s 1
  rw [e]
  have hl : 0 < s.data.toList.length := by simpa using h
  have := List.drop_eq_getElem_cons hl
  rw [List.drop_zero] at this
  rw [this]; rfl
theorem ng_short {s : ByteArray} (h : s.size ≤ 1) : ngB s.data.toList = false := by
  have : s.data.toList.length = s.size := by simp
  rw [ngB, Bool.and_eq_false_iff]; left; rw [decide_eq_false_iff_not]; omega
theorem ng_long {s : ByteArray} (h : 0 < s.size) (h1 : 1 < s.size) : ngB s.data.toList = (((s[0].toNat : Int)) == 45) := by
  have hl : s.data.toList.length = s.size := by simp
  rw [ngB, decide_eq_true (by omega), Bool.true_and, head_bytes s h]
  rw [Bool.eq_iff_iff]
  simp only [List.head?_cons, Option.some.injEq, decide_eq_true_eq, beq_iff_eq]
  constructor
  · intro e; rw [e]; rfl
  · intro e; apply UInt8.toNat_inj.1; have : (45 : UInt8).toNat = 45 := rfl; omega
/-- the digits' text -/
def dgS (s : ByteArray) : ByteArray := if ngB s.data.toList then s.extract 1 s.size else s
theorem dgS_list (s : ByteArray) : (dgS s).data.toList = dgL s.data.toList := by
  unfold dgS dgL
  cases ngB s.data.toList
  · rfl
  · have e : (s.extract 1 s.size).data.toList = s.data.toList.drop 1 := Lib.extract_to_end s 1
    simp only [if_true]
    rw [e, List.drop_one]
theorem dgS_size (s : ByteArray) : (dgS s).size ≤ s.size := by
  unfold dgS; split
  · rw [ByteArray.size_extract]; omega
  · omega
theorem take_bytes (s : ByteArray) (k : Nat) (h : k < s.size) : s.data.toList.take (k + 1) = s.data.toList.take k ++ [s[k]] := by
  rw [List.take_succ_eq_append_getElem (by simpa using h)]; rfl
theorem mem_bytes (s : ByteArray) (k : Nat) (h : k < s.size) : s[k] ∈ s.data.toList := by
  have : s.data.toList[k]'(by simpa using h) = s[k] := rfl
  rw [← this]; exact List.getElem_mem _
set_option maxRecDepth 100000 in
set_option maxHeartbeats 2000000 in
theorem Number_any (s : ByteArray) (w : World) (hs : s.size ≤ 1000000000) :
    Calls Tryz.prog 56 #[.string s] w fun e w' => e = .returned (.tuple #[.int .i64 ((numZ s.data.toList).getD 0), .bool (numZ s.data.toList).isSome]) ∧ w = w' := by
  obtain ⟨ng, hng⟩ : ∃ ng, ngB s.data.toList = ng := ⟨_, rfl⟩
  have HNG := Lib.hid hng
  go_enter Tryz.func56, Tryz.ntmps56
  clear hng
  go_upto_region 1 with (fail)
  go_cut [4] (fun a wx => a = .bool ng ∧ w = wx)
  case first =>
    by_cases h1 : s.size ≤ 1
    · have hd : decide ((1 : Int) < (s.size : Int)) = false := by simp; omega
      obtain rfl : ng = false := HNG.out.symm.trans (ng_short h1)
      go_wp2
      go_meet
      exact ⟨rfl, rfl⟩
    · have h0 : 0 < s.size := by omega
      have hd : decide ((1 : Int) < (s.size : Int)) = true := by simp; omega
      have HQ : Hid (((s[0].toNat : Int) == 45) = ng) := (ng_long h0 (by omega)).symm.trans HNG.out
      cases hq : ((s[0].toNat : Int) == 45)
      · obtain rfl : ng = false := HQ.out.symm.trans hq
        go_wp2
        go_meet
        exact ⟨rfl, rfl⟩
      · obtain rfl : ng = true := HQ.out.symm.trans hq
        go_wp2
        go_meet
        exact ⟨rfl, rfl⟩
  case rest =>
    obtain ⟨rfl, rfl⟩ := hcut
    have HDL := Lib.hid (dgS_list s)
    have HDE : Hid (dgS s = if ng then s.extract 1 s.size else s) := by rw [Hid, dgS, HNG.out]
    have hdz := dgS_size s
    obtain ⟨d, hd⟩ : ∃ d, dgS s = d := ⟨_, rfl⟩
    rw [hd] at HDL HDE hdz
    clear hd
    go_upto_if 17 with (fail)
    go_cut [5] (fun b wx => b = .string d ∧ w = wx)
    case first =>
      cases ng
      · have hE : s = d := HDE.out.symm
        have HE := Lib.hid hE
        clear hE
        go_wp2
        go_meet
        exact ⟨by rw [HE.out], rfl⟩
      · have hE : s.extract 1 s.size = d := HDE.out.symm
        have HE := Lib.hid hE
        have h1 : 1 < s.size := by
          have := HNG.out
          rw [ngB, Bool.and_eq_true, decide_eq_true_eq] at this
          have hl : s.data.toList.length = s.size := by simp
          omega
        clear hE
        go_wp2
        go_meet
        exact ⟨by rw [HE.out], rfl⟩
    case rest =>
      obtain ⟨rfl, rfl⟩ := hcut
      have hdl : (dgL s.data.toList).length = d.size := by rw [← HDL.out]; simp
      have HLN := Lib.hid hdl
      clear hdl HDE
      have HQ0 : Hid (0 < d.size → (dgL s.data.toList).head? = (d.data.toList).head?) := fun _ => by rw [HDL.out]
      obtain ⟨bd, hbd⟩ : ∃ bd : Bool, decide (d.size = 0 ∨ 19 < d.size ∨ (d.size = 19 ∧ ¬ d.data.toList = topD) ∨ (d.data.toList.head? = some 48 ∧ (1 < d.size ∨ ng = true))) = bd := ⟨_, rfl⟩
      have HBD := Lib.hid hbd
      clear hbd
      go_upto_region 5 with (fail)
      go_cut [48] (fun c wx => c = .bool bd ∧ w = wx)
      case first =>
        have HT : Hid ((d.size = 0 ∨ 19 < d.size ∨ (d.size = 19 ∧ ¬ d.data.toList = topD) ∨ (d.data.toList.head? = some 48 ∧ (1 < d.size ∨ ng = true))) → bd = true) := fun h => by rw [← HBD.out]; exact decide_eq_true h
        have HF : Hid (¬ (d.size = 0 ∨ 19 < d.size ∨ (d.size = 19 ∧ ¬ d.data.toList = topD) ∨ (d.data.toList.head? = some 48 ∧ (1 < d.size ∨ ng = true))) → bd = false) := fun h => by rw [← HBD.out]; exact decide_eq_false h
        clear HBD
        by_cases h0 : d.size = 0
        · obtain rfl : bd = true := HT.out (.inl h0)
          obtain rfl := size_zero h0
          clear h0
          go_wp2
          go_meet
          exact ⟨rfl, rfl⟩
        have hpos : 0 < d.size := by omega
        have t1 := notEmpty hpos
        have t2 := notNil hpos
        have HH := Lib.hid (show d.data.toList.head? = some d[0] by rw [head_bytes d hpos]; rfl)
        by_cases h19 : 19 < d.size
        · obtain rfl : bd = true := HT.out (.inr (.inl h19))
          have hd1 : decide ((19 : Int) < (d.size : Int)) = true := by simp; omega
          clear h0 h19
          go_wp2
          go_meet
          exact ⟨rfl, rfl⟩
        have hd1 : decide ((19 : Int) < (d.size : Int)) = false := by simp; omega
        have HR : Hid (¬ (d.size = 19 ∧ ¬ d.data.toList = topD) → bd = decide (d[0] = 48 ∧ (1 < d.size ∨ ng = true))) := fun hn => by
          by_cases hc : d[0] = 48 ∧ (1 < d.size ∨ ng = true)
          · rw [decide_eq_true hc]; exact HT.out (.inr (.inr (.inr ⟨by rw [HH.out, hc.1], hc.2⟩)))
          · rw [decide_eq_false hc]
            refine HF.out ?_
            rintro (h | h | h | h)
            · exact h0 h
            · exact h19 h
            · exact hn h
            · refine hc ⟨?_, h.2⟩
              have := h.1
              rw [HH.out] at this
              exact Option.some.inj this
        by_cases hs19 : d.size = 19
        · have i19 : (((d.size : Int)) == 19) = true := by simp; omega
          have hd2 : decide ((1 : Int) < (d.size : Int)) = true := by simp; omega
          by_cases htop : d.data.toList = topD
          · have t3 : (d.toList == [49, 48, 48, 48, 48, 48, 48, 48, 48, 48, 48, 48, 48, 48, 48, 48, 48, 48, 48]) = true := by rw [ByteArray.toList_eq, htop]; rfl
            have t4 : d.toList = [49, 48, 48, 48, 48, 48, 48, 48, 48, 48, 48, 48, 48, 48, 48, 48, 48, 48, 48] := by simpa using t3
            have e0 : d[0] = 49 := by
              have := HH.out
              rw [htop] at this
              exact (Option.some.inj this).symm
            have z0 : (((d[0]).toNat : Int) == 48) = false := by rw [e0]; rfl
            obtain rfl : bd = false := by rw [HR.out (fun h => h.2 htop), e0]; simp
            clear htop h0 h19 hs19 e0
            go_wp2
            go_meet
            exact ⟨rfl, rfl⟩
          · have t3 : (d.toList == [49, 48, 48, 48, 48, 48, 48, 48, 48, 48, 48, 48, 48, 48, 48, 48, 48, 48, 48]) = false := by
              rw [ByteArray.toList_eq]
              have : ¬ d.data.toList = [49, 48, 48, 48, 48, 48, 48, 48, 48, 48, 48, 48, 48, 48, 48, 48, 48, 48, 48] := htop
              simpa using this
            have t4 : ¬ d.toList = [49, 48, 48, 48, 48, 48, 48, 48, 48, 48, 48, 48, 48, 48, 48, 48, 48, 48, 48] := by simpa using t3
            obtain rfl : bd = true := HT.out (.inr (.inr (.inl ⟨hs19, htop⟩)))
            clear htop h0 h19 hs19
            go_wp2
            go_meet
            exact ⟨rfl, rfl⟩
        have i19 : (((d.size : Int)) == 19) = false := by simp; omega
        have HR2 := Lib.hid (HR.out (fun h => hs19 h.1))
        cases z0 : (((d[0]).toNat : Int) == 48)
        · obtain rfl : bd = false := by
            rw [HR2.out, decide_eq_false]
            rintro ⟨e, -⟩
            rw [e] at z0; cases z0
          clear h0 h19 hs19
          go_wp2
          go_meet
          exact ⟨rfl, rfl⟩
        · have e48 : d[0] = 48 := by
            apply UInt8.toNat_inj.1
            have h48 : (48 : UInt8).toNat = 48 := rfl
            simp only [beq_iff_eq] at z0
            omega
          have HE := Lib.hid e48
          clear e48
          by_cases hd2 : 1 < d.size
          · have hd3 : decide ((1 : Int) < (d.size : Int)) = true := by simp; omega
            obtain rfl : bd = true := by rw [HR2.out, decide_eq_true ⟨HE.out, .inl hd2⟩]
            clear h0 h19 hs19
            go_wp2
            go_meet
            exact ⟨rfl, rfl⟩
          · have hd3 : decide ((1 : Int) < (d.size : Int)) = false := by simp; omega
            obtain rfl : bd = ng := by
              rw [HR2.out]
              cases ng
              · rw [decide_eq_false]; rintro ⟨-, h | h⟩
                · exact hd2 h
                · cases h
              · rw [decide_eq_true ⟨HE.out, .inr rfl⟩]
            clear h0 h19 hs19
            cases bd
            all_goals
              go_wp2
              go_meet
              exact ⟨rfl, rfl⟩
      case rest =>
        obtain ⟨rfl, rfl⟩ := hcut
        cases bd
        rotate_left
        · have hb := of_decide_eq_true HBD.out
          have HN : Hid (numZ s.data.toList = none) := num_bad fun h => by
            have hL := HLN.out
            rcases hb with h0 | h0 | ⟨h0, h1⟩ | ⟨h0, h1⟩
            · exact h.ne (List.eq_nil_of_length_eq_zero (by omega))
            · have := h.le; omega
            · exact h1 (by rw [HDL.out]; exact h.top (by omega))
            · have := h.lead (by rw [← HDL.out]; exact h0)
              rw [HNG.out] at this
              rcases h1 with h1 | h1
              · omega
              · rw [h1] at this; cases this.2
          clear hb
          go_wp2
          go_ret2
          exact ⟨by rw [HN.out]; rfl, rfl⟩
        · have hb := of_decide_eq_false HBD.out
          have HOK : Hid ((∀ c ∈ d.data.toList, isD c) → NumOk s.data.toList) := fun hd => by
            have hL := HLN.out
            refine ⟨fun e => hb (.inl (by rw [e] at hL; simpa using hL.symm)), by rw [hL]; rcases Nat.lt_or_ge 19 d.size with h | h; exact absurd (.inr (.inl h)) hb; exact h, fun h => ?_, fun h => ?_, by rw [← HDL.out]; exact hd⟩
            · rw [← HDL.out]
              exact Classical.byContradiction fun hn => hb (.inr (.inr (.inl ⟨by omega, hn⟩)))
            · have h48 : d.data.toList.head? = some 48 := by rw [HDL.out]; exact h
              have hno : ¬ (1 < d.size ∨ ng = true) := fun hh => hb (.inr (.inr (.inr ⟨h48, hh⟩)))
              have hz : ¬ d.size = 0 := fun hh => hb (.inl hh)
              refine ⟨by rw [hL]; have := fun h => hno (.inl h); omega, ?_⟩
              rw [HNG.out]
              cases ng
              · rfl
              · exact absurd (.inr rfl) hno
          have hz : ¬ d.size = 0 := fun hh => hb (.inl hh)
          have hz19 : d.size ≤ 19 := by rcases Nat.lt_or_ge 19 d.size with h | h; exact absurd (.inr (.inl h)) hb; exact h
          have HSM : Hid (∀ i, i ≤ d.size → (∀ c ∈ d.data.toList.take i, isD c) → vD 0 (d.data.toList.take i) ≤ 1000000000000000000) := fun i hi hd => by
            by_cases h19 : d.size = 19
            · have : d.data.toList = topD := Classical.byContradiction fun hn => hb (.inr (.inr (.inl ⟨h19, hn⟩)))
              rw [this]; exact top_take i (by omega)
            · have hl : d.data.toList.length = d.size := by simp
              have h1 := vD_lt i (d.data.toList.take i) (by rw [List.length_take]; omega) hd
              have h2 : 10 ^ i ≤ 10 ^ 18 := Nat.pow_le_pow_right (by omega) (by omega)
              omega
          clear hb HBD
          go_wp2_with fail
          go_loop [6, 7] (fun n i => ∃ k : Nat, k ≤ d.size ∧ i = .int .i64 k ∧ n = .int .i64 (vD 0 (d.data.toList.take k) : Nat) ∧ Hid (∀ c ∈ d.data.toList.take k, isD c)) (fun _ i => d.size - (intOf i).toNat)
          case atStart => exact ⟨0, by omega, rfl, rfl, fun c hc => by simp at hc⟩
          case round =>
            obtain ⟨k, hk, rfl, rfl, HD⟩ := hrel
            by_cases hlt : k < d.size
            · by_cases hd : 48 ≤ d[k].toNat ∧ d[k].toNat ≤ 57
              · have z1 : decide (((d[k]).toNat : Int) < 48) = false := by simp; omega
                have z2 : decide ((57 : Int) < ((d[k]).toNat : Int)) = false := by simp; omega
                have HD2 : Hid (∀ c ∈ d.data.toList.take (k + 1), isD c) := fun c hc => by
                  rw [take_bytes d k hlt] at hc
                  rcases List.mem_append.1 hc with hc | hc
                  · exact HD.out c hc
                  · rw [List.mem_singleton.1 hc]; exact hd
                have HV : Hid (vD 0 (d.data.toList.take (k + 1)) = vD 0 (d.data.toList.take k) * 10 + ((d[k]).toNat - 48)) := by rw [Hid, take_bytes d k hlt, vD_snoc]
                have hv2 := HSM.out (k + 1) hlt HD2.out
                rw [HV.out] at hv2
                obtain ⟨x, hx⟩ : ∃ x, vD 0 (d.data.toList.take k) = x := ⟨_, rfl⟩
                rw [hx] at hv2 HV ⊢
                obtain ⟨c, hc⟩ : ∃ c, d[k].toNat = c := ⟨_, rfl⟩
                clear hx
                go_wp2
                go_round
                case rel => exact ⟨k + 1, by omega, by go_num, by rw [HV.out]; congr 1; omega, HD2⟩
                case measure => simp [intOf]; omega
              · have HN : Hid (numZ s.data.toList = none) := num_bad fun h => hd (h.dig _ (by rw [← HDL.out]; exact mem_bytes d k hlt))
                by_cases z1 : ((d[k]).toNat : Int) < 48
                · have z1' : decide (((d[k]).toNat : Int) < 48) = true := decide_eq_true z1
                  clear z1
                  go_wp2
                  go_ret2
                  exact ⟨by rw [HN.out]; rfl, rfl⟩
                · have z1' : decide (((d[k]).toNat : Int) < 48) = false := decide_eq_false z1
                  have z2' : decide ((57 : Int) < ((d[k]).toNat : Int)) = true := by simp; omega
                  clear z1
                  go_wp2
                  go_ret2
                  exact ⟨by rw [HN.out]; rfl, rfl⟩
            · obtain rfl : k = d.size := by omega
              have hall : d.data.toList.take d.size = d.data.toList := List.take_of_length_le (by simp)
              rw [hall] at HD ⊢
              have HNO := Lib.hid (HOK.out HD.out)
              have HVL : Hid (numZ s.data.toList = some (if ng then -(vD 0 d.data.toList : Int) else (vD 0 d.data.toList : Int))) := by
                rw [Hid, num_val HNO.out, HNG.out, HDL.out]
              have hv := HNO.out.val
              rw [← HDL.out] at hv
              obtain ⟨x, hx⟩ : ∃ x, vD 0 d.data.toList = x := ⟨_, rfl⟩
              rw [hx] at hv HVL ⊢
              clear hx hall
              cases ng
              · go_wp2
                go_ret2
                exact ⟨by rw [HVL.out]; rfl, rfl⟩
              · go_wp2
                go_ret2
                exact ⟨by rw [HVL.out]; rfl, rfl⟩
end Go.Proofs.YtlchcfkngjbdjaaGreatDoor
/- Contracts of ref34.Lines and ref34.Words. -/
namespace Go.Proofs.YtlchcfkngjbdjaaGreatDoor
open Go.RowKit Go.Shelf

theorem rowTxt : RowTy Tryz.prog 44 9 1 16 := by
  obtain ⟨i, hi, hz, hs, hb⟩ := info_parts (show (Tryz.prog.info? 9).map (fun i => (i.zero, i.size, i.bytes)) = some (some (.string ⟨#[]⟩), 1, 16) by kernel_rfl)
  exact ⟨Tryz.underlying44, ⟨i, _, hi, hz, hs, hb, rfl⟩, by omega⟩
theorem txt_wide (s : ByteArray) : Wide 1 [[.string s]] := fun x hx => by
  obtain rfl := List.mem_singleton.1 hx
  exact ⟨rfl, by simp [Value.oneCell']⟩
theorem extract_list (s : ByteArray) (f k : Nat) : (s.extract f k).data.toList = (s.data.toList.drop f).take (k - f) := by
  simp [ByteArray.data_extract]
/-- where the search for pieces stands: P are done, the next begins at f, k bytes are seen -/
def SpI (c : UInt8) (s : ByteArray) (P : List ByteArray) (f k : Nat) : Prop :=
  f ≤ k ∧ splitBy c s.data.toList = P.map (·.data.toList) ++ splitBy c (s.data.toList.drop f) ∧ c ∉ (s.data.toList.drop f).take (k - f)
theorem spI_start (c : UInt8) (s : ByteArray) : SpI c s [] 0 0 := ⟨Nat.le_refl _, by simp, by simp⟩
theorem take_more {s : ByteArray} {f k : Nat} (hf : f ≤ k) (hk : k < s.size) : (s.data.toList.drop f).take (k + 1 - f) = (s.data.toList.drop f).take (k - f) ++ [s[k]] := by
  rw [show k + 1 - f = (k - f) + 1 by omega, List.take_succ_eq_append_getElem (by simp; omega)]
  congr 1
  simp only [List.getElem_drop, List.cons.injEq, and_true]
  have : f + (k - f) = k := by omega
  simp only [this]; rfl
theorem SpI.no {c : UInt8} {s : ByteArray} {P : List ByteArray} {f k : Nat} (h : SpI c s P f k) (hk : k < s.size) (hc : ¬ s[k] = c) : SpI c s P f (k + 1) := by
  obtain ⟨h1, h2, h3⟩ := h
  refine ⟨by omega, h2, ?_⟩
  rw [take_more h1 hk]
  intro hm
  rcases List.mem_append.1 hm with hm | hm
  · exact h3 hm
  · exact hc (List.mem_singleton.1 hm).symm
theorem SpI.yes {c : UInt8} {s : ByteArray} {P : List ByteArray} {f k : Nat} (h : SpI c s P f k) (hk : k < s.size) (hc : s[k] = c) : SpI c s (P ++ [s.extract f k]) (k + 1) (k + 1) := by
  obtain ⟨h1, h2, h3⟩ := h
  refine ⟨Nat.le_refl _, ?_, by simp⟩
  have e : s.data.toList.drop f = (s.data.toList.drop f).take (k - f) ++ c :: s.data.toList.drop (k + 1) := by
    conv => lhs; rw [← List.take_append_drop (k - f) (s.data.toList.drop f)]
    congr 1
    rw [List.drop_drop, show f + (k - f) = k by omega, List.drop_eq_getElem_cons (by simpa using hk)]
    congr 1
  rw [h2]
  conv => lhs; rw [e]
  rw [split_app _ h3]
  simp
theorem SpI.last {c : UInt8} {s : ByteArray} {P : List ByteArray} {f : Nat} (h : SpI c s P f s.size) : splitBy c s.data.toList = P.map (·.data.toList) ++ [s.data.toList.drop f] := by
  obtain ⟨h1, h2, h3⟩ := h
  rw [List.take_of_length_le (by simp)] at h3
  rw [h2, split_free h3]
/-- the call returns the ended pieces of a text, and whether nothing is left -/
def RetLin (s : ByteArray) (w : World) (e : Ending) (w' : World) : Prop :=
  ∃ P : List ByteArray, ∃ A cap, ∃ rest : List UInt8, e = .returned (.tuple #[.slice A P.length cap, .bool (decide (rest = []))]) ∧ splitBy 10 s.data.toList = P.map (·.data.toList) ++ [rest] ∧ (∀ p ∈ P, p.size ≤ s.size) ∧ P.length ≤ s.size ∧ Sl w' 1 (.slice A P.length cap) (txts P) ∧ Below w.heap.size w w'
theorem piece_le {P : List ByteArray} {s : ByteArray} (h : ∀ p ∈ P, p.size ≤ s.size) (f k : Nat) : ∀ p ∈ P ++ [s.extract f k], p.size ≤ s.size := fun p hp => by
  rcases List.mem_append.1 hp with hp | hp
  · exact h p hp
  · rw [List.mem_singleton.1 hp, ByteArray.size_extract]; omega
theorem byte_ne {x : UInt8} {n : Nat} (hn : n < 256) (h : ¬ (x.toNat : Int) = n) : ¬ x = UInt8.ofNat n := fun e => h (by rw [e, UInt8.toNat_ofNat']; omega)
def LinS (w : World) (c : UInt8) (s : ByteArray) (k f : Nat) (P : List ByteArray) (x : Value) (wr : World) : Prop :=
  SpI c s P f k ∧ (∀ p ∈ P, p.size ≤ s.size) ∧ Own wr w.heap.size 9 1 x (txts P) ∧ Below w.heap.size w wr
set_option maxRecDepth 100000 in
set_option maxHeartbeats 2000000 in
theorem Lines_any (s : ByteArray) (w : World) (hs : s.size ≤ 1000000000) :
    Calls Tryz.prog 42 #[.string s] w (RetLin s w) := by
  go_enter Tryz.func42, Tryz.ntmps42
  go_wp2_with fail
  go_loopw [4, 5, 6] (fun x y z wr => ∃ P : List ByteArray, ∃ f k : Nat, y = .int .i64 f ∧ z = .int .i64 k ∧ f ≤ k ∧ k ≤ s.size ∧ P.length ≤ k ∧ Hid (LinS w 10 s k f P x wr)) (fun _ _ z _ => s.size - (intOf z).toNat)
  case atStart => exact ⟨[], 0, 0, rfl, rfl, by omega, by omega, by simp, spI_start _ _, (fun p hp => by cases hp), Own.nil _ _ _ _, Below.refl _ _⟩
  case round =>
    obtain ⟨P, f, k, rfl, rfl, hf, hk, hP, HS⟩ := hrel
    obtain ⟨wo, rfl⟩ : ∃ wo : World, wo = wr := ⟨_, rfl⟩
    by_cases hlt : k < s.size
    · cases hc : ((s[k].toNat : Int) == 10)
      · have HS2 : Hid (LinS w 10 s (k + 1) f P _ wo) := ⟨HS.out.1.no hlt (fun e => by rw [e] at hc; cases hc), HS.out.2⟩
        go_wp2
        go_roundw
        case rel => exact ⟨P, f, k + 1, rfl, by go_num, by omega, by omega, by omega, HS2⟩
        case measure => simp [intOf]; omega
      · have hb := HS.out.2.2.2.size
        have HI : Hid (SpI 10 s (P ++ [s.extract f k]) (k + 1) (k + 1)) := HS.out.1.yes hlt (by
          apply UInt8.toNat_inj.1
          have h10 : (10 : UInt8).toNat = 10 := rfl
          simp only [beq_iff_eq] at hc
          omega)
        have HZ := Lib.hid (piece_le HS.out.2.1 f k)
        obtain ⟨q, hq⟩ : ∃ q, s.extract f k = q := ⟨_, rfl⟩
        rw [hq] at HI HZ
        go_wp2_with (at_builtin; (refine wpList_append_sl rfl (.tmp 17) (.tmp 22) rfl rowTxt w.heap.size _ _ (txts P) [[.string q]] rfl (HS.out.2.2.1.alloc _) rfl (Sl.one rfl rfl) (txt_wide _) (by rw [txts_len]; simp only [List.length_cons, List.length_nil]; unfold maxLen; omega) (by rw [txts_len]; simp only [List.length_cons, List.length_nil]; omega) (by simp only [World.size_alloc]; omega) ?_); intro v7 w7 hown7 hg7 _; have hb7 := Own.grown (HS.out.2.2.1.alloc _) (HS.out.2.2.2.alloc hb _) hg7 (by simp only [World.size_alloc]; omega); rw [show txts P ++ [[.string q]] = txts (P ++ [q]) by rw [txts_append]; rfl] at hown7; have HN := Lib.hid (And.intro hown7 hb7); clear hown7 hb7 hg7)
        go_roundw
        case rel => exact ⟨P ++ [q], k + 1, k + 1, by go_num, by go_num, by omega, by omega, by rw [List.length_append]; simp only [List.length_cons, List.length_nil]; omega, HI.out, HZ.out, HN.out⟩
        case measure => simp [intOf]; omega
    · obtain rfl : k = s.size := by omega
      have HL := Lib.hid HS.out.1.last
      obtain ⟨A, cap, rfl⟩ := HS.out.2.2.1.form
      rw [txts_len] at HS ⊢
      have HD : Hid ((((f : Int)) == (s.size : Int)) = decide (s.data.toList.drop f = [])) := by
        rw [Hid, Bool.eq_iff_iff]
        simp only [beq_iff_eq, decide_eq_true_eq, List.drop_eq_nil_iff]
        have hl : s.data.toList.length = s.size := by simp
        omega
      go_wp2
      go_ret2
      exact ⟨P, A, cap, _, by rw [← HD.out]; rfl, HL.out, HS.out.2.1, hP, HS.out.2.2.1.sl (by omega), HS.out.2.2.2⟩
set_option maxRecDepth 100000 in
set_option maxHeartbeats 2000000 in
theorem Words_any (s : ByteArray) (w : World) (hs : s.size ≤ 1000000000) :
    Calls Tryz.prog 43 #[.string s] w (RetSpl 32 s w) := by
  go_enter Tryz.func43, Tryz.ntmps43
  go_wp2_with fail
  go_loopw [3, 4, 5] (fun x y z wr => ∃ P : List ByteArray, ∃ f k : Nat, y = .int .i64 f ∧ z = .int .i64 k ∧ k ≤ s.size + 1 ∧ P.length ≤ k ∧ (∀ p ∈ P, p.size ≤ s.size) ∧ Hid (Own wr w.heap.size 9 1 x (txts P) ∧ Below w.heap.size w wr) ∧ ((f ≤ k ∧ k ≤ s.size ∧ Hid (SpI 32 s P f k)) ∨ (k = s.size + 1 ∧ Hid (splitBy 32 s.data.toList = P.map (·.data.toList))))) (fun _ _ z _ => s.size + 1 - (intOf z).toNat)
  case atStart => exact ⟨[], 0, 0, rfl, rfl, by omega, by simp, (fun p hp => by cases hp), ⟨Own.nil _ _ _ _, Below.refl _ _⟩, .inl ⟨by omega, by omega, spI_start _ _⟩⟩
  case round =>
    obtain ⟨P, f, k, rfl, rfl, hk1, hP, hPz, HS, hor⟩ := hrel
    obtain ⟨wo, rfl⟩ : ∃ wo : World, wo = wr := ⟨_, rfl⟩
    have HPZ := Lib.hid hPz
    clear hPz
    rcases hor with ⟨hf, hk, HI⟩ | ⟨hk, HE⟩
    · have hb := HS.out.2.size
      by_cases hlt : k < s.size
      · have he : ((k : Int) == (s.size : Int)) = false := by simp; omega
        cases hc : ((s[k].toNat : Int) == 32)
        · have HI2 : Hid (SpI 32 s P f (k + 1)) := HI.out.no hlt (fun e => by rw [e] at hc; cases hc)
          go_wp2
          go_roundw
          case rel => exact ⟨P, f, k + 1, rfl, by go_num, by omega, by omega, HPZ.out, HS, .inl ⟨by omega, by omega, HI2⟩⟩
          case measure => simp [intOf]; omega
        · have HI2 : Hid (SpI 32 s (P ++ [s.extract f k]) (k + 1) (k + 1)) := HI.out.yes hlt (by
            apply UInt8.toNat_inj.1
            have h32 : (32 : UInt8).toNat = 32 := rfl
            simp only [beq_iff_eq] at hc
            omega)
          have HZ := Lib.hid (piece_le HPZ.out f k)
          obtain ⟨q, hq⟩ : ∃ q, s.extract f k = q := ⟨_, rfl⟩
          rw [hq] at HI2 HZ
          go_wp2_with (at_builtin; (refine wpList_append_sl rfl (.tmp 22) (.tmp 27) rfl rowTxt w.heap.size _ _ (txts P) [[.string q]] rfl (HS.out.1.alloc _) rfl (Sl.one rfl rfl) (txt_wide _) (by rw [txts_len]; simp only [List.length_cons, List.length_nil]; unfold maxLen; omega) (by rw [txts_len]; simp only [List.length_cons, List.length_nil]; omega) (by simp only [World.size_alloc]; omega) ?_); intro v7 w7 hown7 hg7 _; have hb7 := Own.grown (HS.out.1.alloc _) (HS.out.2.alloc hb _) hg7 (by simp only [World.size_alloc]; omega); rw [show txts P ++ [[.string q]] = txts (P ++ [q]) by rw [txts_append]; rfl] at hown7; have HN := Lib.hid (And.intro hown7 hb7); clear hown7 hb7 hg7)
          go_roundw
          case rel => exact ⟨P ++ [q], k + 1, k + 1, by go_num, by go_num, by omega, by rw [List.length_append]; simp only [List.length_cons, List.length_nil]; omega, HZ.out, HN.out, .inl ⟨by omega, by omega, HI2⟩⟩
          case measure => simp [intOf]; omega
      · obtain rfl : k = s.size := by omega
        have HL : Hid (splitBy 32 s.data.toList = (P ++ [s.extract f s.size]).map (·.data.toList)) := by
          rw [Hid, HI.out.last]; simp only [List.map_append, List.map_cons, List.map_nil, Lib.extract_to_end]
        have HZ := Lib.hid (piece_le HPZ.out f s.size)
        obtain ⟨q, hq⟩ : ∃ q, s.extract f s.size = q := ⟨_, rfl⟩
        rw [hq] at HL HZ
        go_wp2_with (at_builtin; (refine wpList_append_sl rfl (.tmp 22) (.tmp 27) rfl rowTxt w.heap.size _ _ (txts P) [[.string q]] rfl (HS.out.1.alloc _) rfl (Sl.one rfl rfl) (txt_wide _) (by rw [txts_len]; simp only [List.length_cons, List.length_nil]; unfold maxLen; omega) (by rw [txts_len]; simp only [List.length_cons, List.length_nil]; omega) (by simp only [World.size_alloc]; omega) ?_); intro v7 w7 hown7 hg7 _; have hb7 := Own.grown (HS.out.1.alloc _) (HS.out.2.alloc hb _) hg7 (by simp only [World.size_alloc]; omega); rw [show txts P ++ [[.string q]] = txts (P ++ [q]) by rw [txts_append]; rfl] at hown7; have HN := Lib.hid (And.intro hown7 hb7); clear hown7 hb7 hg7)
        go_roundw
        case rel => exact ⟨P ++ [q], s.size + 1, s.size + 1, by go_num, by go_num, by omega, by rw [List.length_append]; simp only [List.length_cons, List.length_nil]; omega, HZ.out, HN.out, .inr ⟨rfl, HL⟩⟩
        case measure => simp [intOf]
    · subst hk
      obtain ⟨A, cap, rfl⟩ := HS.out.1.form
      rw [txts_len] at HS ⊢
      go_wp2
      go_ret
      exact ⟨P, A, cap, rfl, HE.out.symm, HPZ.out, hP, HS.out.1.sl (by omega), HS.out.2⟩
end Go.Proofs.YtlchcfkngjbdjaaGreatDoor
/- Contract of ref42.Decode. Written by gen_rfdec.py. -/
namespace Go.Proofs.YtlchcfkngjbdjaaGreatDoor
open Go.RowKit Go.Shelf

/-- the number of a word, if it is one and not negative -/
def NumP (l : List UInt8) (w : World) (e : Ending) (w' : World) : Prop :=
  ∃ x b, e = .returned (.tuple #[.int .i64 x, .bool b]) ∧ Hid ((b = true ∧ numT l = some x) ∨ (b = false ∧ numT l = none)) ∧ w = w'
set_option maxRecDepth 100000 in
theorem number_any (s : ByteArray) (w : World) (hs : s.size ≤ 1000000000) : Calls Tryz.prog 44 #[.string s] w (NumP s.data.toList w) := by
  have HT := Lib.hid (numT_numZ s.data.toList)
  have HN := Lib.hid (Number_any s w hs)
  obtain ⟨o, ho⟩ : ∃ o, numZ s.data.toList = o := ⟨_, rfl⟩
  rw [ho] at HT HN
  clear ho
  go_enter Tryz.func44, Tryz.ntmps44
  go_wp2_with fail
  refine HN.out.mono ?_
  rintro e w' ⟨rfl, rfl⟩
  cases o with
  | none =>
    simp only [Option.getD_none, Option.isSome_none]
    go_wp2
    go_ret2
    exact ⟨_, _, rfl, .inr ⟨rfl, HT.out⟩, rfl⟩
  | some n =>
    simp only [Option.getD_some, Option.isSome_some]
    by_cases h0 : 0 ≤ n
    · have HT2 : Hid (numT s.data.toList = some n) := by rw [Hid, HT.out]; simp [h0]
      clear HT
      go_wp2
      go_ret2
      exact ⟨_, _, rfl, .inl ⟨rfl, HT2.out⟩, rfl⟩
    · have HT2 : Hid (numT s.data.toList = none) := by rw [Hid, HT.out]; simp [h0]
      clear HT
      have hd : decide (0 ≤ n) = false := decide_eq_false h0
      go_wp2
      go_ret2
      exact ⟨_, _, rfl, .inr ⟨rfl, HT2.out⟩, rfl⟩
/-- the result lies as at the start; nothing below has turned -/
structure RdS (w : World) (r : Nat) (wx : World) : Prop where
  res : Row wx r 37 #[.int .i64 0, .int .i64 0, .slice none 0 0]
  below : Below w.heap.size w wx
theorem RdS.same {w wx w' : World} {r : Nat} (h : RdS w r wx) (hb : Below wx.heap.size wx w') : RdS w r w' := ⟨h.res.below hb h.res.lt, below_after h.below hb h.below.size⟩
theorem words4 {w : World} {A : Option Addr} {cp : Nat} {W : List ByteArray} (h : Sl w 1 (.slice A W.length cp) (txts W)) (hl : W.length = 4) :
    ∃ a b c d bk off, W = [a, b, c, d] ∧ A = some ⟨bk, off, none⟩ ∧ 4 ≤ cp ∧ bk < w.heap.size ∧ w.cell? ⟨bk, off, none⟩ = some (.string a) ∧ w.cell? ⟨bk, off + 1, none⟩ = some (.string b) ∧ w.cell? ⟨bk, off + 2, none⟩ = some (.string c) ∧ w.cell? ⟨bk, off + 3, none⟩ = some (.string d) := by
  match W, hl with
  | [a, b, c, d], _ =>
    have hcp : 4 ≤ cp := by
      obtain ⟨A', cap', hv, k1, _⟩ := h
      injection hv with e1 e2 e3
      subst e3
      simpa [txts] using k1
    obtain ⟨bk, off, rfl, hc⟩ := h.cells (by simp [txts])
    exact ⟨a, b, c, d, bk, off, rfl, rfl, hcp, hc.1, hc.txt (k := 0) (by simp), hc.txt (k := 1) (by simp), hc.txt (k := 2) (by simp), hc.txt (k := 3) (by simp)⟩
theorem words3 {w : World} {A : Option Addr} {cp : Nat} {W : List ByteArray} (h : Sl w 1 (.slice A W.length cp) (txts W)) (hl : W.length = 3) :
    ∃ a b c bk off, W = [a, b, c] ∧ A = some ⟨bk, off, none⟩ ∧ 3 ≤ cp ∧ bk < w.heap.size ∧ w.cell? ⟨bk, off, none⟩ = some (.string a) ∧ w.cell? ⟨bk, off + 1, none⟩ = some (.string b) ∧ w.cell? ⟨bk, off + 2, none⟩ = some (.string c) := by
  match W, hl with
  | [a, b, c], _ =>
    have hcp : 3 ≤ cp := by
      obtain ⟨A', cap', hv, k1, _⟩ := h
      injection hv with e1 e2 e3
      subst e3
      simpa [txts] using k1
    obtain ⟨bk, off, rfl, hc⟩ := h.cells (by simp [txts])
    exact ⟨a, b, c, bk, off, rfl, rfl, hcp, hc.1, hc.txt (k := 0) (by simp), hc.txt (k := 1) (by simp), hc.txt (k := 2) (by simp)⟩
/-- a payment appended, without a draw -/
theorem PrS.app1 {wL w5 : World} {m : Nat} {n d : Int} {acc : List Pay} {v : Value} (h : PrS wL m n d acc v w5) (p : Pay) {v7 : Value} {w7 : World}
    (hown7 : Own w7 wL.heap.size 46 2 v7 (pays acc ++ [p.vals])) (hg7 : (w5.alloc (.cells #[.int .i64 p.e, .int .i64 p.a] 46)).grownBy w7 v.ownBlock)
    (hv7 : v7.ownBlock = v.ownBlock ∨ v7.ownBlock = some (w5.alloc (.cells #[.int .i64 p.e, .int .i64 p.a] 46)).heap.size) :
    PrS wL m n d (acc ++ [p]) v7 (w7.setCell ⟨m, 2, none⟩ v7) ∧ Row w7 m 37 #[.int .i64 n, .int .i64 d, v] := by
  have hW := ((Below.refl w5.heap.size w5).alloc (Nat.le_refl _) (.cells #[.int .i64 p.e, .int .i64 p.a] 46))
  have h5 := h.same hW
  have hml := h.box.lt
  have hr7 := h5.box.keep hg7 (fun e => h.apart e.symm)
  have hne : v7.ownBlock ≠ some m := by
    rcases hv7 with e | e
    · rw [e]; exact h.apart
    · rw [e]; intro hh; injection hh with hh; have := hW.size; simp only [World.size_alloc] at hh; omega
  refine ⟨⟨(Own.grown h5.own h5.below hg7 h5.below.size).setCell (p := ⟨m, 2, none⟩) h.high _, hr7.set 2 _, ?_, hne, h.high⟩, hr7⟩
  rw [pays_append]
  exact hown7.keepG (grown_set w7 m 2 v7) (.inr hne)
theorem str_yes {q : ByteArray} {l : List UInt8} (h : q.data.toList = l) : (q.toList == l) = true ∧ q.toList = l := by
  rw [ByteArray.toList_eq, h]; simp
theorem str_no {q : ByteArray} {l : List UInt8} (h : ¬ q.data.toList = l) : (q.toList == l) = false ∧ ¬ q.toList = l := by
  rw [ByteArray.toList_eq]; exact ⟨by simpa using h, h⟩

set_option maxRecDepth 100000 in
set_option maxHeartbeats 16000000 in
theorem refDecode_any (s : ByteArray) (w : World) (hs0 : s.size ≤ 1000000000) :
    Calls Tryz.prog 30 #[.string s] w (RetFil (decF s.data.toList) (decE s.data.toList) w) := by
  have hsz : s.data.toList.length = s.size := by simp
  have hr0 := Row.new w 37 #[.int .i64 0, .int .i64 0, .slice none 0 0]
  have hB0 := (Below.refl w.heap.size w).alloc (Nat.le_refl _) (.cells #[.int .i64 0, .int .i64 0, .slice none 0 0] 37)
  by_cases hl : 262144 < s.size
  · have HD : Hid (decE s.data.toList = 3) := by rw [Hid, decE, if_pos (by omega)]
    have HD2 := Lib.hid (decF_no (s := s.data.toList) (by rw [HD.out]; decide))
    clear hsz
    go_enter Tryz.func30, Tryz.ntmps30
    go_wp2
    refine bodyPost_ret (v := .tuple #[.agg #[.int .i64 0, .int .i64 0, .slice none 0 0], .int .i64 3]) (by simp [results, Tryz.results30, go_sem]) rfl ?_
    rw [HD.out]
    exact RetFil.no HD2.out hB0
  have HLE : Hid (¬ 262144 < s.data.toList.length) := by rw [Hid, hsz]; exact hl
  clear hsz
  go_enter Tryz.func30, Tryz.ntmps30
  go_wp2_with fail
  obtain ⟨w0, hw0⟩ : ∃ w0, w.alloc (.cells #[.int .i64 0, .int .i64 0, .slice none 0 0] 37) = w0 := ⟨_, rfl⟩
  rw [hw0] at hr0 hB0 ⊢
  obtain ⟨r, hr⟩ : ∃ r, w.heap.size = r := ⟨_, rfl⟩
  rw [hr] at hr0 ⊢
  have hwr : w.heap.size ≤ r := by omega
  have hS0 : RdS w r w0 := ⟨hr0, hB0⟩
  clear hw0 hr hr0 hB0
  have HNO : Hid (∀ W er, Below w.heap.size w W → decE s.data.toList = er → er ≠ 0 → RetFil (decF s.data.toList) (decE s.data.toList) w (.returned (.tuple #[.agg #[.int .i64 0, .int .i64 0, .slice none 0 0], .int .i64 er])) W) := fun W er hb he hn => by
    rw [he]; exact RetFil.no (decF_no (by rw [he]; exact hn)) hb
  refine (Lines_any s w0 (by omega)).mono ?_
  rintro e w1 ⟨P, A1, cap1, rest, rfl, hP, hPs, hPl, hsl1, hb1⟩
  have HPF := Lib.hid (parse_lines hP)
  have HPS := Lib.hid hPs
  have HS1 := Lib.hid hsl1
  have hS1 := hS0.same hb1
  have hcm : cap1 ≤ maxLen ∧ P.length ≤ cap1 := by
    obtain ⟨A', cap', hv, k1, k2, _, _⟩ := hsl1
    injection hv with e1 e2 e3
    subst e1 e3
    rw [txts_len] at k1
    exact ⟨k2, k1⟩
  obtain ⟨hcm, hcl⟩ := hcm
  unfold maxLen at hcm
  clear hP hPs hsl1 hb1 hS0
  by_cases hre : rest = []
  rotate_left
  · have hPN : parseF s.data.toList = none := by rw [HPF.out, if_neg hre]
    rw [decide_eq_false hre]
    clear hre
    have HE : Hid (decE s.data.toList = 6) := (dec_none hPN HLE.out)
    have HQ := Lib.hid (Below.set3 hS1.below hwr (.int .i64 0) (.int .i64 0) (.slice none 0 0))
    have HR := Lib.hid (row3 (Row.set3 hS1.res (.int .i64 0) (.int .i64 0) (.slice none 0 0))).1
    obtain ⟨⟨a0, a1, a2, al⟩, ⟨b0, b1, b2⟩⟩ := row3 hS1.res
    clear hPN
    go_wp2
    obtain ⟨z0, z1, z2, -⟩ := HR.out
    refine bodyPost_ret (v := .tuple #[.agg #[.int .i64 0, .int .i64 0, .slice none 0 0], .int .i64 6]) (by simp only [results, Tryz.results30, go_sem]; simp [z0, z1, z2, go_sem]) rfl ?_
    exact HNO.out _ 6 HQ.out HE.out (by decide)
  have HPL : Hid (parseF s.data.toList = parseL (P.map (·.data.toList))) := by rw [Hid, HPF.out, if_pos hre]
  rw [decide_eq_true hre]
  clear hre HPF
  by_cases hL3 : 3 ≤ P.length
  rotate_left
  · have hPN : parseF s.data.toList = none := by rw [HPL.out]; exact pl_short (fun h => hL3 (by simpa using h.1))
    have i1 : decide ((P.length : Int) < 3) = true := by simp; omega
    have HE : Hid (decE s.data.toList = 6) := (dec_none hPN HLE.out)
    have HQ := Lib.hid (Below.set3 hS1.below hwr (.int .i64 0) (.int .i64 0) (.slice none 0 0))
    have HR := Lib.hid (row3 (Row.set3 hS1.res (.int .i64 0) (.int .i64 0) (.slice none 0 0))).1
    obtain ⟨⟨a0, a1, a2, al⟩, ⟨b0, b1, b2⟩⟩ := row3 hS1.res
    clear hPN
    go_wp2
    obtain ⟨z0, z1, z2, -⟩ := HR.out
    refine bodyPost_ret (v := .tuple #[.agg #[.int .i64 0, .int .i64 0, .slice none 0 0], .int .i64 6]) (by simp only [results, Tryz.results30, go_sem]; simp [z0, z1, z2, go_sem]) rfl ?_
    exact HNO.out _ 6 HQ.out HE.out (by decide)
  have i1 : decide ((P.length : Int) < 3) = false := by simp; omega
  have i2 : ((P.length : Int) - 1) < (P.length : Int) := by omega
  have i3 : (0 : Int) ≤ ((P.length : Int) - 1) := by omega
  have i4 : ((P.length : Int) - 1).toNat = P.length - 1 := by omega
  obtain ⟨bp, op, rfl, hc⟩ := HS1.out.cells (by rw [txts_len]; omega)
  have q1 := hc.txt (k := P.length - 1) (by omega)
  have hbl := hc.1
  have HEE := Lib.hid (show (P.map (·.data.toList))[(P.map (·.data.toList)).length - 1]? = some (P[P.length - 1]).data.toList by
    rw [List.length_map, List.getElem?_map, List.getElem?_eq_getElem (show P.length - 1 < P.length by omega)]; rfl)
  obtain ⟨pe, hpe⟩ : ∃ pe, P[P.length - 1] = pe := ⟨_, rfl⟩
  rw [hpe] at q1 HEE
  clear hpe
  by_cases hend : pe.data.toList = wEnd
  rotate_left
  · have hPN : parseF s.data.toList = none := by
      rw [HPL.out]; exact pl_short (fun h => hend (by have := h.2; rw [HEE.out] at this; exact Option.some.inj this))
    obtain ⟨t3, t4⟩ := str_no (l := [101, 110, 100]) hend
    clear hend
    have HE : Hid (decE s.data.toList = 6) := (dec_none hPN HLE.out)
    have HQ := Lib.hid (Below.set3 hS1.below hwr (.int .i64 0) (.int .i64 0) (.slice none 0 0))
    have HR := Lib.hid (row3 (Row.set3 hS1.res (.int .i64 0) (.int .i64 0) (.slice none 0 0))).1
    obtain ⟨⟨a0, a1, a2, al⟩, ⟨b0, b1, b2⟩⟩ := row3 hS1.res
    clear hPN
    go_wp2
    obtain ⟨z0, z1, z2, -⟩ := HR.out
    refine bodyPost_ret (v := .tuple #[.agg #[.int .i64 0, .int .i64 0, .slice none 0 0], .int .i64 6]) (by simp only [results, Tryz.results30, go_sem]; simp [z0, z1, z2, go_sem]) rfl ?_
    exact HNO.out _ 6 HQ.out HE.out (by decide)
  obtain ⟨t3, t4⟩ := str_yes (l := [101, 110, 100]) hend
  have HCO : Hid (3 ≤ (P.map (·.data.toList)).length ∧ (P.map (·.data.toList))[(P.map (·.data.toList)).length - 1]? = some wEnd) := ⟨by simpa using hL3, by rw [HEE.out, hend]⟩
  have HC1 := Lib.hid hc
  have q0 := hc.txt (k := 0) (by omega)
  rw [Nat.add_zero] at q0
  have HP0 := Lib.hid (show (P.map (·.data.toList)).getD 0 [] = (P[0]).data.toList by simp [List.getD, List.getElem?_eq_getElem (show 0 < P.length by omega)])
  have z0 := HPS.out _ (List.getElem_mem (show 0 < P.length by omega))
  obtain ⟨p0, hp0⟩ : ∃ x, P[0] = x := ⟨_, rfl⟩
  rw [hp0] at q0 HP0 z0
  clear hp0 hend HEE hc
  -- the file's box and the first line
  have hal := (Below.refl w1.heap.size w1).alloc (Nat.le_refl _) (.cells #[.int .i64 0, .int .i64 0, .slice none 0 0] 37)
  have hm2 := Row.new w1 37 #[.int .i64 0, .int .i64 0, .slice none 0 0]
  have k0 : 0 < P.length := by omega
  have hq0' := (hal.cell (p := ⟨bp, op, none⟩) hbl).trans q0
  go_wp2_with fail
  obtain ⟨w2, hw2⟩ : ∃ w2, w1.alloc (.cells #[.int .i64 0, .int .i64 0, .slice none 0 0] 37) = w2 := ⟨_, rfl⟩
  obtain ⟨m, hm⟩ : ∃ m, w1.heap.size = m := ⟨_, rfl⟩
  rw [hw2, hm] at hm2
  rw [hw2] at hal hq0' ⊢
  rw [hm]
  have hm1 : w1.heap.size ≤ m := by omega
  clear hw2 hm q1 t3 t4 i2 i3 i4 q0 hq0'
  refine (Words_any p0 w2 (by omega)).mono ?_
  rintro e w3 ⟨W, A3, c3, rfl, hW, hWs, -, hsl3, hb3⟩
  have hb13 := below_after hal hb3 hal.size
  have hm3 := hm2.below hb3 hm2.lt
  have hS3 := hS1.same hb13
  have HW := Lib.hid hW
  have HWS := Lib.hid hWs
  have HSL := Lib.hid hsl3
  clear hb3 hal hm2 hW hWs hsl3
  by_cases hl4 : W.length = 4
  rotate_left
  · have hPN : parseF s.data.toList = none := by
      rw [HPL.out]; exact pl_head HCO.out (by rw [HP0.out]; exact hd_len (by rw [← HW.out, List.length_map]; exact hl4))
    have hne : ((W.length : Int) != 4) = true := by simp; omega
    clear hl4
    have HE : Hid (decE s.data.toList = 6) := (dec_none hPN HLE.out)
    have HQ := Lib.hid (Below.set3 hS3.below hwr (.int .i64 0) (.int .i64 0) (.slice none 0 0))
    have HR := Lib.hid (row3 (Row.set3 hS3.res (.int .i64 0) (.int .i64 0) (.slice none 0 0))).1
    obtain ⟨⟨a0, a1, a2, al⟩, ⟨b0, b1, b2⟩⟩ := row3 hS3.res
    clear hPN
    go_wp2
    obtain ⟨z0, z1, z2, -⟩ := HR.out
    refine bodyPost_ret (v := .tuple #[.agg #[.int .i64 0, .int .i64 0, .slice none 0 0], .int .i64 6]) (by simp only [results, Tryz.results30, go_sem]; simp [z0, z1, z2, go_sem]) rfl ?_
    exact HNO.out _ 6 HQ.out HE.out (by decide)
  obtain ⟨xa, xb, xc, xd, bk, off, hWe, rfl, hc3, hk3, ga, gb, gc, gd⟩ := words4 HSL.out hl4
  rw [hl4]
  rw [hWe] at HW
  have zb : xb.size ≤ 262144 := by have := HWS.out xb (by rw [hWe]; simp); omega
  have zd : xd.size ≤ 262144 := by have := HWS.out xd (by rw [hWe]; simp); omega
  have HH4 : Hid (readL pHead p0.data.toList = if xa.data.toList = wFile ∧ xc.data.toList = wDay then (match numT xb.data.toList with
    | some n => (match numT xd.data.toList with | some m => some [n, m] | none => none)
    | none => none) else none) := hd_four HW.out.symm
  clear hl4 hWe HWS HSL HW
  by_cases ha : xa.data.toList = wFile
  rotate_left
  · have hPN : parseF s.data.toList = none := by
      rw [HPL.out]; exact pl_head HCO.out (by rw [HP0.out, HH4.out]; exact if_neg (fun h => ha h.1))
    obtain ⟨t3, t4⟩ := str_no (l := [102, 105, 108, 101]) ha
    clear ha
    have HE : Hid (decE s.data.toList = 6) := (dec_none hPN HLE.out)
    have HQ := Lib.hid (Below.set3 hS3.below hwr (.int .i64 0) (.int .i64 0) (.slice none 0 0))
    have HR := Lib.hid (row3 (Row.set3 hS3.res (.int .i64 0) (.int .i64 0) (.slice none 0 0))).1
    obtain ⟨⟨a0, a1, a2, al⟩, ⟨b0, b1, b2⟩⟩ := row3 hS3.res
    clear hPN
    go_wp2
    obtain ⟨z0, z1, z2, -⟩ := HR.out
    refine bodyPost_ret (v := .tuple #[.agg #[.int .i64 0, .int .i64 0, .slice none 0 0], .int .i64 6]) (by simp only [results, Tryz.results30, go_sem]; simp [z0, z1, z2, go_sem]) rfl ?_
    exact HNO.out _ 6 HQ.out HE.out (by decide)
  obtain ⟨t3, t4⟩ := str_yes (l := [102, 105, 108, 101]) ha
  by_cases hcd : xc.data.toList = wDay
  rotate_left
  · have hPN : parseF s.data.toList = none := by
      rw [HPL.out]; exact pl_head HCO.out (by rw [HP0.out, HH4.out]; exact if_neg (fun h => hcd h.2))
    obtain ⟨t5, t6⟩ := str_no (l := [100, 97, 121]) hcd
    clear ha hcd
    have HE : Hid (decE s.data.toList = 6) := (dec_none hPN HLE.out)
    have HQ := Lib.hid (Below.set3 hS3.below hwr (.int .i64 0) (.int .i64 0) (.slice none 0 0))
    have HR := Lib.hid (row3 (Row.set3 hS3.res (.int .i64 0) (.int .i64 0) (.slice none 0 0))).1
    obtain ⟨⟨a0, a1, a2, al⟩, ⟨b0, b1, b2⟩⟩ := row3 hS3.res
    clear hPN
    go_wp2
    obtain ⟨z0, z1, z2, -⟩ := HR.out
    refine bodyPost_ret (v := .tuple #[.agg #[.int .i64 0, .int .i64 0, .slice none 0 0], .int .i64 6]) (by simp only [results, Tryz.results30, go_sem]; simp [z0, z1, z2, go_sem]) rfl ?_
    exact HNO.out _ 6 HQ.out HE.out (by decide)
  obtain ⟨t5, t6⟩ := str_yes (l := [100, 97, 121]) hcd
  have HH5 : Hid (readL pHead p0.data.toList = match numT xb.data.toList with
    | some n => (match numT xd.data.toList with | some m => some [n, m] | none => none)
    | none => none) := by rw [Hid, HH4.out, if_pos ⟨ha, hcd⟩]
  clear ha hcd HH4
  go_wp2_with fail
  refine (number_any xb w3 (by omega)).mono ?_
  rintro e w3' ⟨n, ok1, rfl, HN1, rfl⟩
  clear t3 t4 t5 t6 ga gb gc
  go_wp2_with fail
  refine (number_any xd w3 (by omega)).mono ?_
  rintro e w3' ⟨d, ok2, rfl, HN2, rfl⟩
  clear gd
  cases ok1
  · have hPN : parseF s.data.toList = none := by
      rcases HN1.out with h | h
      · exact absurd h.1 (by simp)
      · rw [HPL.out]; exact pl_head HCO.out (by rw [HP0.out, HH5.out, h.2])
    have HE : Hid (decE s.data.toList = 6) := (dec_none hPN HLE.out)
    have HQ := Lib.hid (Below.set3 hS3.below hwr (.int .i64 0) (.int .i64 0) (.slice none 0 0))
    have HR := Lib.hid (row3 (Row.set3 hS3.res (.int .i64 0) (.int .i64 0) (.slice none 0 0))).1
    obtain ⟨⟨a0, a1, a2, al⟩, ⟨b0, b1, b2⟩⟩ := row3 hS3.res
    clear hPN
    go_wp2
    obtain ⟨z0, z1, z2, -⟩ := HR.out
    refine bodyPost_ret (v := .tuple #[.agg #[.int .i64 0, .int .i64 0, .slice none 0 0], .int .i64 6]) (by simp only [results, Tryz.results30, go_sem]; simp [z0, z1, z2, go_sem]) rfl ?_
    exact HNO.out _ 6 HQ.out HE.out (by decide)
  cases ok2
  · have hPN : parseF s.data.toList = none := by
      rcases HN2.out with h | h
      · exact absurd h.1 (by simp)
      · rw [HPL.out]; exact pl_head HCO.out (by rw [HP0.out, HH5.out, h.2]; cases numT xb.data.toList <;> rfl)
    have HE : Hid (decE s.data.toList = 6) := (dec_none hPN HLE.out)
    have HQ := Lib.hid (Below.set3 hS3.below hwr (.int .i64 0) (.int .i64 0) (.slice none 0 0))
    have HR := Lib.hid (row3 (Row.set3 hS3.res (.int .i64 0) (.int .i64 0) (.slice none 0 0))).1
    obtain ⟨⟨a0, a1, a2, al⟩, ⟨b0, b1, b2⟩⟩ := row3 hS3.res
    clear hPN
    go_wp2
    obtain ⟨z0, z1, z2, -⟩ := HR.out
    refine bodyPost_ret (v := .tuple #[.agg #[.int .i64 0, .int .i64 0, .slice none 0 0], .int .i64 6]) (by simp only [results, Tryz.results30, go_sem]; simp [z0, z1, z2, go_sem]) rfl ?_
    exact HNO.out _ 6 HQ.out HE.out (by decide)
  have HN1' : Hid (numT xb.data.toList = some n) := by rcases HN1.out with h | h; exact h.2; exact absurd h.1 (by simp)
  have HN2' : Hid (numT xd.data.toList = some d) := by rcases HN2.out with h | h; exact h.2; exact absurd h.1 (by simp)
  have HH : Hid (readL pHead ((P.map (·.data.toList)).getD 0 []) = some [n, d]) := by rw [Hid, HP0.out, HH5.out, HN1'.out, HN2'.out]
  clear HN1 HN2 HN1' HN2' HH5 HP0
  obtain ⟨⟨e0, e1, e2, el⟩, ⟨f0, f1, f2⟩⟩ := row3 hm3
  have hR4 : Row ((w3.setCell ⟨m, 0, none⟩ (.int .i64 n)).setCell ⟨m, 1, none⟩ (.int .i64 d)) m 37 #[.int .i64 n, .int .i64 d, .slice none 0 0] := (hm3.set 0 (.int .i64 n)).set 1 (.int .i64 d)
  have hB4 : Below w1.heap.size w1 ((w3.setCell ⟨m, 0, none⟩ (.int .i64 n)).setCell ⟨m, 1, none⟩ (.int .i64 d)) := (hb13.setCell (p := ⟨m, 0, none⟩) hm1 _).setCell (p := ⟨m, 1, none⟩) hm1 _
  have HX4 : Hid (PrS w1 m n d [] (.slice none 0 0) ((w3.setCell ⟨m, 0, none⟩ (.int .i64 n)).setCell ⟨m, 1, none⟩ (.int .i64 d))) := ⟨hB4, hR4, Own.nil _ _ _ _, by simp [Value.ownBlock], hm1⟩
  obtain ⟨mid, hmid⟩ : ∃ mid, ((P.map (·.data.toList)).drop 1).take ((P.map (·.data.toList)).length - 3) = mid := ⟨_, rfl⟩
  have hml : mid.length = P.length - 3 := by rw [← hmid]; simp; omega
  have HMD : Hid (∀ j (h : j - 1 < mid.length) (h1 : 1 ≤ j) (h' : j < P.length), mid[j - 1] = (P[j]).data.toList) := fun j h h1 h' => by
    subst hmid
    have e : 1 + (j - 1) = j := by omega
    simp only [List.getElem_take, List.getElem_drop, List.getElem_map, e]
  have HMI := Lib.hid hmid
  have hm5 : mid.length ≤ P.length - 3 := by omega
  have hm6 : P.length - 3 ≤ mid.length := by omega
  clear hmid hml hR4 hB4
  go_wp2_with fail
  clear e0 e1 e2 el f0 f1 f2 i1 hS3 hm3 hb13
  go_loopw [12] (fun i wr => ∃ j : Nat, ∃ acc : List Pay, ∃ v, 1 ≤ j ∧ j ≤ P.length - 2 ∧ i = .int .i64 j ∧ acc.length ≤ j ∧ Hid (PyI mid (j - 1) acc) ∧ Hid (PrS w1 m n d acc v wr)) (fun i _ => P.length - (intOf i).toNat)
  case atStart => exact ⟨1, [], _, by omega, by omega, rfl, by simp, pyI_start mid, HX4.out⟩
  case round =>
    clear HX4
    obtain ⟨j, acc, v, hj1, hj2, rfl, hacc, HI, HS⟩ := hrel
    obtain ⟨wo, rfl⟩ : ∃ wo : World, wo = wr := ⟨_, rfl⟩
    have hSo := hS1.same HS.out.below
    have hco := HC1.out.below HS.out.below HC1.out.1
    have hblo := hco.1
    have hjP : j < P.length := by omega
    have q0 := hco.txt hjP
    have hpz := HPS.out _ (List.getElem_mem hjP)
    by_cases hlt : j < P.length - 2
    · have hji : (j : Int) < (P.length : Int) - 2 := by omega
      have hjm : j - 1 < mid.length := by omega
      have HMK := Lib.hid (HMD.out j hjm hj1 hjP)
      obtain ⟨px, hpx⟩ : ∃ x, P[j] = x := ⟨_, rfl⟩
      rw [hpx] at q0 hpz HMK
      clear hpx hco
      go_wp2_with fail
      refine (Words_any px wo (by omega)).mono ?_
      rintro e w5 ⟨W, A3, c3, rfl, hW, hWs, -, hsl3, hb5⟩
      have hS5 := hSo.same hb5
      have HS5 := Lib.hid (HS.out.same hb5)
      have HW := Lib.hid hW
      have HWS := Lib.hid hWs
      have HSL := Lib.hid hsl3
      clear hb5 hSo q0 hblo hW hWs hsl3 HS
      have HNP : Hid (readL pPay px.data.toList = none → parseF s.data.toList = none) := fun h => by
        rw [HPL.out]
        refine pl_some_pays HCO.out HH.out ?_
        rw [HMI.out]
        exact pyI_no HI.out hjm (by rw [HMK.out]; exact h)
      by_cases hl4 : W.length = 3
      rotate_left
      · have hPN : parseF s.data.toList = none := HNP.out (py_len (by rw [← HW.out, List.length_map]; exact hl4))
        have hne : ((W.length : Int) != 3) = true := by simp; omega
        clear hl4
        have HE : Hid (decE s.data.toList = 6) := (dec_none hPN HLE.out)
        have HQ := Lib.hid (Below.set3 hS5.below hwr (.int .i64 0) (.int .i64 0) (.slice none 0 0))
        have HR := Lib.hid (row3 (Row.set3 hS5.res (.int .i64 0) (.int .i64 0) (.slice none 0 0))).1
        obtain ⟨⟨a0, a1, a2, al⟩, ⟨b0, b1, b2⟩⟩ := row3 hS5.res
        clear hPN
        go_wp2
        obtain ⟨z0, z1, z2, -⟩ := HR.out
        refine bodyPost_ret (v := .tuple #[.agg #[.int .i64 0, .int .i64 0, .slice none 0 0], .int .i64 6]) (by simp only [results, Tryz.results30, go_sem]; simp [z0, z1, z2, go_sem]) rfl ?_
        exact HNO.out _ 6 HQ.out HE.out (by decide)
      obtain ⟨xa, xb, xc, bk, off, hWe, rfl, hc3, hk3, ga, gb, gc⟩ := words3 HSL.out hl4
      rw [hl4]
      rw [hWe] at HW
      have zb : xb.size ≤ 262144 := by have := HWS.out xb (by rw [hWe]; simp); omega
      have zc : xc.size ≤ 262144 := by have := HWS.out xc (by rw [hWe]; simp); omega
      have HH4 : Hid (readL pPay px.data.toList = if xa.data.toList = wPay then (match numT xb.data.toList with
        | some n => (match numT xc.data.toList with | some m => some [n, m] | none => none)
        | none => none) else none) := py_three HW.out.symm
      clear hl4 hWe HWS HSL HW
      by_cases ha : xa.data.toList = wPay
      rotate_left
      · have hPN : parseF s.data.toList = none := HNP.out (by rw [HH4.out]; exact if_neg ha)
        obtain ⟨t3, t4⟩ := str_no (l := [112, 97, 121]) ha
        clear ha
        have HE : Hid (decE s.data.toList = 6) := (dec_none hPN HLE.out)
        have HQ := Lib.hid (Below.set3 hS5.below hwr (.int .i64 0) (.int .i64 0) (.slice none 0 0))
        have HR := Lib.hid (row3 (Row.set3 hS5.res (.int .i64 0) (.int .i64 0) (.slice none 0 0))).1
        obtain ⟨⟨a0, a1, a2, al⟩, ⟨b0, b1, b2⟩⟩ := row3 hS5.res
        clear hPN
        go_wp2
        obtain ⟨z0, z1, z2, -⟩ := HR.out
        refine bodyPost_ret (v := .tuple #[.agg #[.int .i64 0, .int .i64 0, .slice none 0 0], .int .i64 6]) (by simp only [results, Tryz.results30, go_sem]; simp [z0, z1, z2, go_sem]) rfl ?_
        exact HNO.out _ 6 HQ.out HE.out (by decide)
      obtain ⟨t3, t4⟩ := str_yes (l := [112, 97, 121]) ha
      have HH5 : Hid (readL pPay px.data.toList = match numT xb.data.toList with
        | some n => (match numT xc.data.toList with | some m => some [n, m] | none => none)
        | none => none) := by rw [Hid, HH4.out, if_pos ha]
      clear ha HH4
      go_wp2_with fail
      refine (number_any xb w5 (by omega)).mono ?_
      rintro e w5' ⟨ye, ok1, rfl, HN1, rfl⟩
      clear t3 t4 ga gb
      go_wp2_with fail
      refine (number_any xc w5 (by omega)).mono ?_
      rintro e w5' ⟨ya, ok2, rfl, HN2, rfl⟩
      clear gc
      cases ok1
      · have hPN : parseF s.data.toList = none := by
          rcases HN1.out with h | h
          · exact absurd h.1 (by simp)
          · exact HNP.out (by rw [HH5.out, h.2])
        have HE : Hid (decE s.data.toList = 6) := (dec_none hPN HLE.out)
        have HQ := Lib.hid (Below.set3 hS5.below hwr (.int .i64 0) (.int .i64 0) (.slice none 0 0))
        have HR := Lib.hid (row3 (Row.set3 hS5.res (.int .i64 0) (.int .i64 0) (.slice none 0 0))).1
        obtain ⟨⟨a0, a1, a2, al⟩, ⟨b0, b1, b2⟩⟩ := row3 hS5.res
        clear hPN
        go_wp2
        obtain ⟨z0, z1, z2, -⟩ := HR.out
        refine bodyPost_ret (v := .tuple #[.agg #[.int .i64 0, .int .i64 0, .slice none 0 0], .int .i64 6]) (by simp only [results, Tryz.results30, go_sem]; simp [z0, z1, z2, go_sem]) rfl ?_
        exact HNO.out _ 6 HQ.out HE.out (by decide)
      cases ok2
      · have hPN : parseF s.data.toList = none := by
          rcases HN2.out with h | h
          · exact absurd h.1 (by simp)
          · exact HNP.out (by rw [HH5.out, h.2]; cases numT xb.data.toList <;> rfl)
        have HE : Hid (decE s.data.toList = 6) := (dec_none hPN HLE.out)
        have HQ := Lib.hid (Below.set3 hS5.below hwr (.int .i64 0) (.int .i64 0) (.slice none 0 0))
        have HR := Lib.hid (row3 (Row.set3 hS5.res (.int .i64 0) (.int .i64 0) (.slice none 0 0))).1
        obtain ⟨⟨a0, a1, a2, al⟩, ⟨b0, b1, b2⟩⟩ := row3 hS5.res
        clear hPN
        go_wp2
        obtain ⟨z0, z1, z2, -⟩ := HR.out
        refine bodyPost_ret (v := .tuple #[.agg #[.int .i64 0, .int .i64 0, .slice none 0 0], .int .i64 6]) (by simp only [results, Tryz.results30, go_sem]; simp [z0, z1, z2, go_sem]) rfl ?_
        exact HNO.out _ 6 HQ.out HE.out (by decide)
      have HN1' : Hid (numT xb.data.toList = some ye) := by rcases HN1.out with h | h; exact h.2; exact absurd h.1 (by simp)
      have HN2' : Hid (numT xc.data.toList = some ya) := by rcases HN2.out with h | h; exact h.2; exact absurd h.1 (by simp)
      have HI2 := Lib.hid (pyI_next HI.out hjm (e := ye) (a := ya) (by rw [HMK.out, HH5.out, HN1'.out, HN2'.out]))
      clear HN1 HN2 HN1' HN2' HH5 HI HNP HMK hS5
      have hjs : j - 1 + 1 = j + 1 - 1 := by omega
      rw [hjs] at HI2
      clear hjs
      obtain ⟨⟨e0, e1, e2, el⟩, ⟨f0, f1, f2⟩⟩ := row3 HS5.out.box
      have hsw := HS5.out.below.size
      go_wp2_with (at_builtin; (refine wpList_append_sl rfl (.tmp 135) (.tmp 139) rfl rowPay w1.heap.size _ _ (pays acc) [Pay.vals ⟨ye, ya⟩] rfl (HS5.out.own.alloc _) rfl (Sl.one rfl rfl) (pay_wide _) (by simp only [pays_len, List.length_cons, List.length_nil]; unfold maxLen; omega) (by simp only [pays_len, List.length_cons, List.length_nil]; omega) (by simp only [World.size_alloc]; omega) ?_); intro v7 w7 hown7 hg7 hv7; obtain ⟨g7, c7, rfl, hc7⟩ := hown7.form1 (by simp); simp only [List.length_append, pays_len, List.length_cons, List.length_nil, Nat.zero_add] at hown7 hg7 hv7 hc7 ⊢; have H7 := Lib.hid (HS5.out.app1 ⟨ye, ya⟩ hown7 hg7 hv7); have y2 := (row3 H7.out.2).1.2.2.1; have y3 := (row3 H7.out.2).2.2.2; have y4 := H7.out.2.lt; clear hown7 hg7 hv7 e0 e1 e2 el f0 f1 f2)
      have R := Lib.hid H7.out.1
      clear y2 y3 y4
      go_roundw
      case rel => exact ⟨j + 1, acc ++ [⟨ye, ya⟩], _, by omega, by omega, by go_num, by simp only [List.length_append, List.length_cons, List.length_nil]; omega, HI2, R⟩
      case measure => simp only [intOf]; omega
    · obtain rfl : j = P.length - 2 := by omega
      have hji : ¬ ((P.length - 2 : Nat) : Int) < (P.length : Int) - 2 := by omega
      have hmm : mid.length = P.length - 2 - 1 := by omega
      rw [← hmm] at HI
      have HPY := Lib.hid (pyI_end HI.out)
      clear HI hmm hlt
      have i2 : ((P.length : Int) - 2) < (P.length : Int) := by omega
      have i3 : (0 : Int) ≤ ((P.length : Int) - 2) := by omega
      have i4 : ((P.length : Int) - 2).toNat = P.length - 2 := by omega
      have HP2 := Lib.hid (show (P.map (·.data.toList)).getD ((P.map (·.data.toList)).length - 2) [] = (P[P.length - 2]).data.toList by simp [List.getD, List.getElem?_eq_getElem (show P.length - 2 < P.length by omega)])
      obtain ⟨p2, hp2⟩ : ∃ x, P[P.length - 2] = x := ⟨_, rfl⟩
      rw [hp2] at q0 hpz HP2
      clear hp2 hco
      go_wp2_with fail
      refine (Words_any p2 wo (by omega)).mono ?_
      rintro e w5 ⟨W, A3, c3, rfl, hW, hWs, -, hsl3, hb5⟩
      have hS5 := hSo.same hb5
      have HS5 := Lib.hid (HS.out.same hb5)
      have HW := Lib.hid hW
      have HWS := Lib.hid hWs
      have HSL := Lib.hid hsl3
      clear hb5 hSo q0 hblo hW hWs hsl3 HS i2 i3 i4
      have HNP : Hid (readL pTotal p2.data.toList = none → parseF s.data.toList = none) := fun h => by
        rw [HPL.out]
        exact pl_total HCO.out HH.out (by rw [HP2.out]; exact h)
      by_cases hl4 : W.length = 4
      rotate_left
      · have hPN : parseF s.data.toList = none := HNP.out (tt_len (by rw [← HW.out, List.length_map]; exact hl4))
        have hne : ((W.length : Int) != 4) = true := by simp; omega
        clear hl4
        have HE : Hid (decE s.data.toList = 6) := (dec_none hPN HLE.out)
        have HQ := Lib.hid (Below.set3 hS5.below hwr (.int .i64 0) (.int .i64 0) (.slice none 0 0))
        have HR := Lib.hid (row3 (Row.set3 hS5.res (.int .i64 0) (.int .i64 0) (.slice none 0 0))).1
        obtain ⟨⟨a0, a1, a2, al⟩, ⟨b0, b1, b2⟩⟩ := row3 hS5.res
        clear hPN
        go_wp2
        obtain ⟨z0, z1, z2, -⟩ := HR.out
        refine bodyPost_ret (v := .tuple #[.agg #[.int .i64 0, .int .i64 0, .slice none 0 0], .int .i64 6]) (by simp only [results, Tryz.results30, go_sem]; simp [z0, z1, z2, go_sem]) rfl ?_
        exact HNO.out _ 6 HQ.out HE.out (by decide)
      obtain ⟨xa, xb, xc, xd, bk, off, hWe, rfl, hc3, hk3, ga, gb, gc, gd⟩ := words4 HSL.out hl4
      rw [hl4]
      rw [hWe] at HW
      have zb : xb.size ≤ 262144 := by have := HWS.out xb (by rw [hWe]; simp); omega
      have zc : xc.size ≤ 262144 := by have := HWS.out xc (by rw [hWe]; simp); omega
      have zd : xd.size ≤ 262144 := by have := HWS.out xd (by rw [hWe]; simp); omega
      have HH4 : Hid (readL pTotal p2.data.toList = if xa.data.toList = wTotal then (match numT xb.data.toList with
        | some x => (match numT xc.data.toList with
          | some y => (match numT xd.data.toList with | some z => some [x, y, z] | none => none)
          | none => none)
        | none => none) else none) := tt_four HW.out.symm
      clear hl4 hWe HWS HSL HW
      by_cases ha : xa.data.toList = wTotal
      rotate_left
      · have hPN : parseF s.data.toList = none := HNP.out (by rw [HH4.out]; exact if_neg ha)
        obtain ⟨t3, t4⟩ := str_no (l := [116, 111, 116, 97, 108]) ha
        clear ha
        have HE : Hid (decE s.data.toList = 6) := (dec_none hPN HLE.out)
        have HQ := Lib.hid (Below.set3 hS5.below hwr (.int .i64 0) (.int .i64 0) (.slice none 0 0))
        have HR := Lib.hid (row3 (Row.set3 hS5.res (.int .i64 0) (.int .i64 0) (.slice none 0 0))).1
        obtain ⟨⟨a0, a1, a2, al⟩, ⟨b0, b1, b2⟩⟩ := row3 hS5.res
        clear hPN
        go_wp2
        obtain ⟨z0, z1, z2, -⟩ := HR.out
        refine bodyPost_ret (v := .tuple #[.agg #[.int .i64 0, .int .i64 0, .slice none 0 0], .int .i64 6]) (by simp only [results, Tryz.results30, go_sem]; simp [z0, z1, z2, go_sem]) rfl ?_
        exact HNO.out _ 6 HQ.out HE.out (by decide)
      obtain ⟨t3, t4⟩ := str_yes (l := [116, 111, 116, 97, 108]) ha
      have HH5 : Hid (readL pTotal p2.data.toList = match numT xb.data.toList with
        | some x => (match numT xc.data.toList with
          | some y => (match numT xd.data.toList with | some z => some [x, y, z] | none => none)
          | none => none)
        | none => none) := by rw [Hid, HH4.out, if_pos ha]
      clear ha HH4
      obtain ⟨Av, cv, rfl⟩ := HS5.out.own.form
      rw [pays_len] at HS5
      obtain ⟨⟨e0, e1, e2, el⟩, ⟨f0, f1, f2⟩⟩ := row3 HS5.out.box
      have HSLP := Lib.hid (HS5.out.own.sl (by omega))
      have HVA : Hid (Calls Tryz.prog 24 #[.agg #[.int .i64 n, .int .i64 d, .slice Av acc.length cv]] w5 fun e w' => e = .returned (.bool (filB ⟨n, d, acc⟩)) ∧ Below w5.heap.size w5 w') := refValidF_any ⟨n, d, acc⟩ _ w5 HSLP.out
      go_wp2_with fail
      refine HVA.out.mono ?_
      rintro e w6 ⟨rfl, hb6⟩
      have hS6 := hS5.same hb6
      have HS6 := Lib.hid (HS5.out.same hb6)
      have HSL6 := Lib.hid (HSLP.out.below hb6)
      have gb6 := (hb6.cell (p := ⟨bk, off + 1, none⟩) hk3).trans gb
      have gc6 := (hb6.cell (p := ⟨bk, off + 2, none⟩) hk3).trans gc
      have gd6 := (hb6.cell (p := ⟨bk, off + 3, none⟩) hk3).trans gd
      have hk6 := Nat.lt_of_lt_of_le hk3 hb6.size
      clear hb6 hS5 HS5 HSLP HVA ga gb gc gd e0 e1 e2 el f0 f1 f2 hk3 t3 t4
      cases hF : filB ⟨n, d, acc⟩
      · have hPN := dec_bad HPL.out HLE.out HCO.out HH.out (by rw [HMI.out]; exact HPY.out) hF
        clear hF
        have HE : Hid (decE s.data.toList = 6) := (hPN)
        have HQ := Lib.hid (Below.set3 hS6.below hwr (.int .i64 0) (.int .i64 0) (.slice none 0 0))
        have HR := Lib.hid (row3 (Row.set3 hS6.res (.int .i64 0) (.int .i64 0) (.slice none 0 0))).1
        obtain ⟨⟨a0, a1, a2, al⟩, ⟨b0, b1, b2⟩⟩ := row3 hS6.res
        clear hPN
        go_wp2
        obtain ⟨z0, z1, z2, -⟩ := HR.out
        refine bodyPost_ret (v := .tuple #[.agg #[.int .i64 0, .int .i64 0, .slice none 0 0], .int .i64 6]) (by simp only [results, Tryz.results30, go_sem]; simp [z0, z1, z2, go_sem]) rfl ?_
        exact HNO.out _ 6 HQ.out HE.out (by decide)
      have HF := Lib.hid hF
      clear hF
      have halc := (Below.refl w6.heap.size w6).alloc (Nat.le_refl _) (.cells #[.int .i64 0, .int .i64 0, .int .i64 0] 61)
      have hS7 := hS6.same halc
      have HS7 := Lib.hid (HS6.out.same halc)
      have HSL7 := Lib.hid (HSL6.out.below halc)
      have hmc := Row.new w6 61 #[.int .i64 0, .int .i64 0, .int .i64 0]
      have gb7 := (halc.cell (p := ⟨bk, off + 1, none⟩) hk6).trans gb6
      have gc7 := (halc.cell (p := ⟨bk, off + 2, none⟩) hk6).trans gc6
      have gd7 := (halc.cell (p := ⟨bk, off + 3, none⟩) hk6).trans gd6
      have HIN := Lib.hid (And.intro hS6 (And.intro HS6.out HSL6.out))
      clear hS6 HS6 HSL6
      go_wp2_with fail
      refine (number_any xb _ (by omega)).mono ?_
      rintro e w5' ⟨x, ok1, rfl, HN1, rfl⟩
      go_wp2_with fail
      refine (number_any xc _ (by omega)).mono ?_
      rintro e w5' ⟨y, ok2, rfl, HN2, rfl⟩
      go_wp2_with fail
      refine (number_any xd _ (by omega)).mono ?_
      rintro e w5' ⟨z, ok3, rfl, HN3, rfl⟩
      clear gb7 gc7 gd7 gb6 gc6 gd6 halc
      cases ok1
      · have hPN : parseF s.data.toList = none := by
          rcases HN1.out with h | h
          · exact absurd h.1 (by simp)
          · exact HNP.out (by rw [HH5.out, h.2])
        have HE : Hid (decE s.data.toList = 6) := (dec_none hPN HLE.out)
        have HQ := Lib.hid (Below.set3 hS7.below hwr (.int .i64 0) (.int .i64 0) (.slice none 0 0))
        have HR := Lib.hid (row3 (Row.set3 hS7.res (.int .i64 0) (.int .i64 0) (.slice none 0 0))).1
        obtain ⟨⟨a0, a1, a2, al⟩, ⟨b0, b1, b2⟩⟩ := row3 hS7.res
        clear hPN
        go_wp2
        obtain ⟨z0, z1, z2, -⟩ := HR.out
        refine bodyPost_ret (v := .tuple #[.agg #[.int .i64 0, .int .i64 0, .slice none 0 0], .int .i64 6]) (by simp only [results, Tryz.results30, go_sem]; simp [z0, z1, z2, go_sem]) rfl ?_
        exact HNO.out _ 6 HQ.out HE.out (by decide)
      cases ok2
      · have hPN : parseF s.data.toList = none := by
          rcases HN2.out with h | h
          · exact absurd h.1 (by simp)
          · exact HNP.out (by rw [HH5.out, h.2]; cases numT xb.data.toList <;> rfl)
        have HE : Hid (decE s.data.toList = 6) := (dec_none hPN HLE.out)
        have HQ := Lib.hid (Below.set3 hS7.below hwr (.int .i64 0) (.int .i64 0) (.slice none 0 0))
        have HR := Lib.hid (row3 (Row.set3 hS7.res (.int .i64 0) (.int .i64 0) (.slice none 0 0))).1
        obtain ⟨⟨a0, a1, a2, al⟩, ⟨b0, b1, b2⟩⟩ := row3 hS7.res
        clear hPN
        go_wp2
        obtain ⟨z0, z1, z2, -⟩ := HR.out
        refine bodyPost_ret (v := .tuple #[.agg #[.int .i64 0, .int .i64 0, .slice none 0 0], .int .i64 6]) (by simp only [results, Tryz.results30, go_sem]; simp [z0, z1, z2, go_sem]) rfl ?_
        exact HNO.out _ 6 HQ.out HE.out (by decide)
      cases ok3
      · have hPN : parseF s.data.toList = none := by
          rcases HN3.out with h | h
          · exact absurd h.1 (by simp)
          · exact HNP.out (by rw [HH5.out, h.2]; cases numT xb.data.toList <;> cases numT xc.data.toList <;> rfl)
        have HE : Hid (decE s.data.toList = 6) := (dec_none hPN HLE.out)
        have HQ := Lib.hid (Below.set3 hS7.below hwr (.int .i64 0) (.int .i64 0) (.slice none 0 0))
        have HR := Lib.hid (row3 (Row.set3 hS7.res (.int .i64 0) (.int .i64 0) (.slice none 0 0))).1
        obtain ⟨⟨a0, a1, a2, al⟩, ⟨b0, b1, b2⟩⟩ := row3 hS7.res
        clear hPN
        go_wp2
        obtain ⟨z0, z1, z2, -⟩ := HR.out
        refine bodyPost_ret (v := .tuple #[.agg #[.int .i64 0, .int .i64 0, .slice none 0 0], .int .i64 6]) (by simp only [results, Tryz.results30, go_sem]; simp [z0, z1, z2, go_sem]) rfl ?_
        exact HNO.out _ 6 HQ.out HE.out (by decide)
      have HN1' : Hid (numT xb.data.toList = some x) := by rcases HN1.out with h | h; exact h.2; exact absurd h.1 (by simp)
      have HN2' : Hid (numT xc.data.toList = some y) := by rcases HN2.out with h | h; exact h.2; exact absurd h.1 (by simp)
      have HN3' : Hid (numT xd.data.toList = some z) := by rcases HN3.out with h | h; exact h.2; exact absurd h.1 (by simp)
      have HFF : Hid (parseF s.data.toList = some (⟨n, d, acc⟩, ⟨x, y, z⟩)) := by
        rw [Hid, HPL.out]
        exact pl_ok HCO.out HH.out (by rw [HP2.out, HH5.out, HN1'.out, HN2'.out, HN3'.out]) (by rw [HMI.out]; exact HPY.out)
      have HDE := Lib.hid (dec_some HFF.out HLE.out HF.out)
      clear HN1 HN2 HN3 HN1' HN2' HN3' HH5 HNP HP2 HPY HFF
      obtain ⟨hS6, HS6, HSL6⟩ := HIN.out
      have halc := (Below.refl w6.heap.size w6).alloc (Nat.le_refl _) (.cells #[.int .i64 x, .int .i64 y, .int .i64 z] 61)
      have hS8 := hS6.same halc
      have HS8 := Lib.hid (HS6.same halc)
      have HSL8 := Lib.hid (HSL6.below halc)
      have hmc8 := Row.new w6 61 #[.int .i64 x, .int .i64 y, .int .i64 z]
      obtain ⟨⟨e0, e1, e2, el⟩, ⟨f0, f1, f2⟩⟩ := row3 HS8.out.box
      obtain ⟨o, ho⟩ : ∃ o, ofC acc = o := ⟨_, rfl⟩
      have HO := Lib.hid ho
      have HOF := Lib.hid (refOf_any _ acc _ HSL8.out)
      rw [ho] at HOF
      have HOV : Hid (o.vals = #[.int .i64 o.c, .int .i64 o.s, .int .i64 o.h]) := rfl
      have HNE := Lib.hid (neCtl ⟨x, y, z⟩ o)
      have HXV : Hid ((⟨x, y, z⟩ : Ctl).vals = #[.int .i64 x, .int .i64 y, .int .i64 z]) := rfl
      rw [HOV.out, HXV.out] at HNE
      rw [ho] at HDE
      obtain ⟨oe, hoe⟩ : ∃ oe, ofE acc = oe := ⟨_, rfl⟩
      rw [hoe] at HOF
      clear ho hoe halc hS6 HS6 HSL6 HIN hS7 HS7 HSL7 hmc
      go_wp2_with fail
      refine HOF.out.mono ?_
      rintro e w9 ⟨rfl, hb9⟩
      rw [HOV.out]
      have hS9 := hS8.same hb9
      have HS9 := Lib.hid (HS8.out.same hb9)
      have hmc9 := hmc8.below hb9 hmc8.lt
      clear hS8 HS8 HSL8 hmc8 e0 e1 e2 el f0 f1 f2 hb9 HOF
      obtain ⟨g, hg⟩ : ∃ g, w6.heap.size = g := ⟨_, rfl⟩
      rw [hg] at hmc9 ⊢
      clear hg
      have hald := (Below.refl w9.heap.size w9).alloc (Nat.le_refl _) (.cells #[.int .i64 o.c, .int .i64 o.s, .int .i64 o.h] 61)
      have hSA := hS9.same hald
      have HSA := Lib.hid (HS9.out.same hald)
      have hmcA := hmc9.below hald hmc9.lt
      obtain ⟨⟨k1, k2, k3, kl⟩, -⟩ := row3 hmcA
      by_cases hxo : (⟨x, y, z⟩ : Ctl) = o
      rotate_left
      · have n1 := fun W => HNE.out W
        rw [decide_eq_false hxo] at n1
        have HE : Hid (decE s.data.toList = 17) := by rw [Hid, HDE.out.1]; exact if_neg (fun h => hxo h.symm)
        have HQ := Lib.hid (Below.set3 hSA.below hwr (.int .i64 0) (.int .i64 0) (.slice none 0 0))
        have HR := Lib.hid (row3 (Row.set3 hSA.res (.int .i64 0) (.int .i64 0) (.slice none 0 0))).1
        obtain ⟨⟨a0, a1, a2, al⟩, ⟨b0, b1, b2⟩⟩ := row3 hSA.res
        clear hxo hmc9 hS9 HS9 hald
        go_wp2
        obtain ⟨z0, z1, z2, -⟩ := HR.out
        refine bodyPost_ret (v := .tuple #[.agg #[.int .i64 0, .int .i64 0, .slice none 0 0], .int .i64 17]) (by simp only [results, Tryz.results30, go_sem]; simp [z0, z1, z2, go_sem]) rfl ?_
        exact HNO.out _ 17 HQ.out HE.out (by decide)
      · have n1 := fun W => HNE.out W
        rw [decide_eq_true hxo] at n1
        have HE : Hid (decE s.data.toList = 0 ∧ decF s.data.toList = ⟨n, d, acc⟩) := ⟨by rw [HDE.out.1]; exact if_pos hxo.symm, HDE.out.2 hxo.symm⟩
        have HQ := Lib.hid (Below.set3 hSA.below hwr (.int .i64 n) (.int .i64 d) (.slice Av acc.length cv))
        have HR := Lib.hid (row3 (Row.set3 hSA.res (.int .i64 n) (.int .i64 d) (.slice Av acc.length cv))).1
        have hr1 := hS1.res.lt
        have HON := Lib.hid (own3 HSA.out.own (r := r) hr1 (.int .i64 n) (.int .i64 d) (.slice Av acc.length cv))
        have hw1 := hS1.below.size
        obtain ⟨⟨a0, a1, a2, al⟩, ⟨b0, b1, b2⟩⟩ := row3 hSA.res
        obtain ⟨⟨e0, e1, e2, el⟩, -⟩ := row3 HSA.out.box
        clear hxo hmc9 hS9 HS9 hald
        go_wp2
        obtain ⟨z0, z1, z2, -⟩ := HR.out
        refine bodyPost_ret (v := .tuple #[.agg #[.int .i64 n, .int .i64 d, .slice Av acc.length cv], .int .i64 0]) (by simp only [results, Tryz.results30, go_sem]; simp [z0, z1, z2, go_sem]) rfl ?_
        rw [HE.out.1, HE.out.2]
        exact ⟨_, rfl, HON.out.more hw1, HQ.out⟩
end Go.Proofs.YtlchcfkngjbdjaaGreatDoor
/- Lists of files in memory; ref42.Bank.Submit. -/
namespace Go.Proofs.YtlchcfkngjbdjaaGreatDoor
open Go.RowKit Go.Shelf

/-- files as cells -/
def fils (ps : List (Fil × Value)) : List (List Value) := ps.map fun p => (p.1.vals p.2).toList
theorem fils_len (ps : List (Fil × Value)) : (fils ps).length = ps.length := by simp [fils]
theorem fils_append (a b : List (Fil × Value)) : fils (a ++ b) = fils a ++ fils b := by simp [fils]
theorem fils_at {ps : List (Fil × Value)} {k : Nat} (h : k < ps.length) : (fils ps)[k]? = some ((ps[k]).1.vals (ps[k]).2).toList := by simp [fils, h]
theorem CellsAt.fil {w : World} {b off : Nat} {ps : List (Fil × Value)} (h : CellsAt w 3 b off (fils ps)) {k : Nat} (hk : k < ps.length) :
    w.cell? ⟨b, off + k * 3, none⟩ = some (.int .i64 (ps[k]).1.n) ∧ w.cell? ⟨b, off + k * 3 + 1, none⟩ = some (.int .i64 (ps[k]).1.d) ∧ w.cell? ⟨b, off + k * 3 + 2, none⟩ = some (ps[k]).2 :=
  ⟨h.2 k _ (fils_at hk) 0 _ rfl, h.2 k _ (fils_at hk) 1 _ rfl, h.2 k _ (fils_at hk) 2 _ rfl⟩
theorem rowFil : RowTy Tryz.prog 28 37 3 40 := by
  obtain ⟨i, hi, hz, hs, hb⟩ := info_parts (show (Tryz.prog.info? 37).map (fun i => (i.zero, i.size, i.bytes)) = some (some (.agg #[.int .i64 0, .int .i64 0, .slice none 0 0]), 3, 40) by kernel_rfl)
  exact ⟨Tryz.underlying28, ⟨i, _, hi, hz, hs, hb, rfl⟩, by omega⟩
/-- a slice of files -/
structure FilsAt (w : World) (v : Value) (ps : List (Fil × Value)) : Prop where
  sl : Sl w 3 v (fils ps)
  pay : ∀ p ∈ ps, Sl w 2 p.2 (pays p.1.l)
theorem FilsAt.below {w w' : World} {v : Value} {ps : List (Fil × Value)} (h : FilsAt w v ps) (hb : Below w.heap.size w w') : FilsAt w' v ps := ⟨h.sl.below hb, fun p hp => (h.pay p hp).below hb⟩
theorem fils_wide {ps : List (Fil × Value)} (h : ∀ p ∈ ps, ∃ A n c, p.2 = .slice A n c) : Wide 3 (fils ps) := fun x hx => by
  obtain ⟨p, hp, rfl⟩ := List.mem_map.1 hx
  obtain ⟨A, n, c, e⟩ := h p hp
  refine ⟨rfl, fun u hu => ?_⟩
  simp only [Fil.vals, List.mem_cons, List.not_mem_nil, or_false] at hu
  rcases hu with rfl | rfl | rfl
  · rfl
  · rfl
  · rw [e]; rfl
theorem FilsAt.wide {w : World} {v : Value} {ps : List (Fil × Value)} (h : FilsAt w v ps) : Wide 3 (fils ps) := fils_wide fun p hp => (h.pay p hp).is
/-- strictly ascending by number -/
def AscF (l : List Fil) : Prop := l.Pairwise fun a b => a.n < b.n
theorem ins_asc {l : List Fil} {f : Fil} {k : Nat} (ha : AscF l) (hk : k ≤ l.length) (h1 : ∀ i (h : i < k) (h' : i < l.length), (l[i]).n < f.n) (h2 : ∀ h : k < l.length, f.n < (l[k]).n) :
    AscF (l.take k ++ f :: l.drop k) ∧ l.any (fun g => decide (g.n = f.n)) = false ∧ (l.take k ++ f :: l.drop k).Perm (l ++ [f]) := by
  have hT : ∀ a ∈ l.take k, a.n < f.n := fun a hm => by
    obtain ⟨i, hi, rfl⟩ := List.getElem_of_mem hm
    rw [List.length_take] at hi
    rw [List.getElem_take]
    exact h1 i (by omega) (by omega)
  have hD : ∀ a ∈ l.drop k, f.n < a.n := fun a hm => by
    obtain ⟨i, hi, rfl⟩ := List.getElem_of_mem hm
    rw [List.length_drop] at hi
    rw [List.getElem_drop]
    have h0 := h2 (by omega)
    by_cases e : i = 0
    · subst e; simpa using h0
    · have := (List.pairwise_iff_getElem.1 ha) k (k + i) (by omega) (by omega) (by omega)
      omega
  refine ⟨?_, ?_, ?_⟩
  · unfold AscF at ha ⊢
    rw [List.pairwise_append]
    refine ⟨ha.sublist (List.take_sublist k l), List.pairwise_cons.2 ⟨hD, ha.sublist (List.drop_sublist k l)⟩, fun a h b hb => ?_⟩
    rcases List.mem_cons.1 hb with rfl | hb
    · exact hT a h
    · exact Int.lt_trans (hT a h) (hD b hb)
  · rw [List.any_eq_false]
    intro a h
    rw [← List.take_append_drop k l] at h
    simp only [decide_eq_true_eq]
    rcases List.mem_append.1 h with h | h
    · have := hT a h; omega
    · have := hD a h; omega
  · have : (l.take k ++ f :: l.drop k).Perm (l.take k ++ (l.drop k ++ [f])) := List.Perm.append_left _ (List.perm_append_comm (l₁ := [f]) (l₂ := l.drop k))
    rwa [← List.append_assoc, List.take_append_drop] at this
/-- the reference's bank in block R: its files in ascending order -/
structure RefS (w : World) (R : Nat) (ps : List (Fil × Value)) : Prop where
  ex : ∃ v, Row w R 30 #[v] ∧ FilsAt w v ps
  val : ∀ p ∈ ps, filB p.1 = true
  asc : AscF (ps.map (·.1))
theorem RefS.below {w w' : World} {R : Nat} {ps : List (Fil × Value)} (h : RefS w R ps) (hb : Below w.heap.size w w') : RefS w' R ps := by
  obtain ⟨⟨v, h1, h2⟩, h3, h4⟩ := h
  exact ⟨⟨v, h1.below hb h1.lt, h2.below hb⟩, h3, h4⟩
theorem Sl.head {w : World} {sz n cap : Nat} {A : Option Addr} {es : List (List Value)} (h : Sl w sz (.slice A n cap) es) (k : Nat) (hk : k ≤ n) : Sl w sz (.slice A k cap) (es.take k) := by
  obtain ⟨A', cap', hv, h1, h2, h0, h3⟩ := h
  injection hv with hv1 hv2 hv3
  subst hv1 hv2 hv3
  have hl : (es.take k).length = k := by rw [List.length_take]; omega
  refine ⟨_, cap, by rw [hl], by omega, h2, h0, ?_⟩
  rcases h3 with rfl | ⟨b', off', hA, hcell⟩
  · exact .inl (by simp)
  · refine .inr ⟨b', off', hA, hcell.1, fun i e hi => hcell.2 i e ?_⟩
    rw [List.getElem?_take] at hi
    split at hi
    · exact hi
    · cases hi
theorem Sl.from {w : World} {sz n cap : Nat} {A : Option Addr} {es : List (List Value)} (h : Sl w sz (.slice A n cap) es) (j : Nat) (hj : j ≤ n) :
    Sl w sz (.slice (if cap = j then A else A.map (·.add (j * sz))) (n - j) (cap - j)) (es.drop j) := by
  obtain ⟨A', cap', he, h1, h2, h3, h4⟩ := h
  injection he with e1 e2 e3
  subst e1 e2 e3
  refine ⟨_, cap - j, by rw [List.length_drop], by rw [List.length_drop]; omega, by omega, fun hA => ?_, ?_⟩
  · cases A with
    | none => have := h3 rfl; omega
    | some a =>
      exfalso
      by_cases hc : cap = j
      · rw [if_pos hc] at hA; cases hA
      · rw [if_neg hc] at hA; cases hA
  · rcases h4 with rfl | ⟨b, off, rfl, h5, h6⟩
    · exact .inl (by simp)
    · by_cases hc : cap = j
      · left; rw [List.drop_of_length_le (by omega)]
      · right
        refine ⟨b, off + j * sz, ?_, h5, fun i e hi k u hk => ?_⟩
        · rw [if_neg hc]
          simp only [Option.map_some, Addr.add]
          by_cases h0 : j * sz = 0
          · rw [if_pos h0, h0]; rfl
          · rw [if_neg h0]
        · rw [List.getElem?_drop] at hi
          have := h6 (j + i) e hi k u hk
          rw [Nat.add_mul] at this
          rw [← this]
          congr 2
          omega
/-- no two numbers lie side by side in block X: no payment lies there -/
def NoPay (w : World) (X : Nat) : Prop := ∀ off x y, ¬ (w.cell? ⟨X, off, none⟩ = some (.int .i64 x) ∧ w.cell? ⟨X, off + 1, none⟩ = some (.int .i64 y))
theorem Sl.pay_far {w w' : World} {X : Nat} {v : Value} {l : List Pay} (h : Sl w 2 v (pays l)) (hg : w.grownBy w' (some X)) (hx : NoPay w X) : Sl w' 2 v (pays l) := by
  obtain ⟨A, cap, rfl, h1, h2, h0, h3⟩ := h
  refine ⟨A, cap, rfl, h1, h2, h0, ?_⟩
  rcases h3 with h3 | ⟨b, off, rfl, hc⟩
  · exact .inl h3
  · cases l with
    | nil => exact .inl rfl
    | cons p r =>
      have hbX : b ≠ X := fun e => by
        have h0 := hc.2 0 p.vals rfl 0 _ rfl
        have h1 := hc.2 0 p.vals rfl 1 _ rfl
        rw [e] at h0 h1
        exact hx (off + 0 * 2) _ _ ⟨h0, h1⟩
      exact .inr ⟨b, off, rfl, Nat.lt_of_lt_of_le hc.1 hg.size, fun i x hi j u hu => (World.cell?_of_block (w := w) (a := ⟨b, _, none⟩) (hg.block b hc.1 (fun e => hbX (Option.some.inj e)))).trans (hc.2 i x hi j u hu)⟩
theorem noPay_row1 {w : World} {X : Nat} {t : TypeId} {v : Value} (h : Row w X t #[v]) : NoPay w X := fun off x y hh => by
  rw [h.cell, h.cell] at hh
  have := hh.2
  simp at this
theorem Row.set1 {w : World} {g : Nat} {t : TypeId} {a : Value} (h : Row w g t #[a]) (x : Value) : Row (w.setCell ⟨g, 0, none⟩ x) g t #[x] := h.set 0 x
end Go.Proofs.YtlchcfkngjbdjaaGreatDoor
/- transfer.Bank.Copy. -/
namespace Go.Proofs.YtlchcfkngjbdjaaGreatDoor
open Go.RowKit Go.Shelf

theorem noPay_map {w : World} {X n : Nat} {a : Array MapEntry} (h : w.heap[X]? = some (.map a n)) : NoPay w X := fun off x y hh => by simp [World.cell?, h] at hh
theorem noPay_iter {w : World} {X m n : Nat} {seen : List Nat} (h : w.heap[X]? = some (itObj m n seen)) : NoPay w X := fun off x y hh => by simp [World.cell?, h, itObj] at hh
/-- a bank where another block has turned -/
theorem BankS.grown {w w' : World} {B M X : Nat} {es : List (Fil × Value)} (h : BankS w B M es) (hg : w.grownBy w' (some X)) (hB : B ≠ X) (hM : M ≠ X) (hx : NoPay w X) : BankS w' B M es :=
  ⟨h.box.keep hg (fun e => hB (Option.some.inj e)), (hg.block M (lt_of_some h.map) (fun e => hM (Option.some.inj e))).trans h.map, fun p hp => (h.pay p hp).pay_far hg hx, h.val⟩
/-- all numbers differ -/
def NdF (fs : List Fil) : Prop := (fs.map (·.n)).Nodup
theorem ndF_sub {fs : List Fil} (h : NdF fs) (s : List UInt8) : NdF (subF fs s) := by
  unfold subF
  split
  · rename_i h0
    unfold subE at h0
    split at h0
    · split at h0
      · cases h0
      · rename_i hn
        unfold NdF at h ⊢
        rw [List.map_append, List.nodup_append]
        refine ⟨h, by simp, fun a ha b hb => ?_⟩
        simp only [List.map_cons, List.map_nil, List.mem_singleton] at hb
        subst hb
        intro e
        apply hn
        obtain ⟨f, hf, hfn⟩ := List.mem_map.1 ha
        exact List.any_eq_true.2 ⟨f, hf, by simpa using hfn.trans e⟩
    · rename_i hd; exact absurd h0 hd
  · exact h
theorem ndF_perm {a b : List Fil} (h : NdF a) (p : a.Perm b) : NdF b := (p.map fun f : Fil => f.n).nodup_iff.1 h
/-- a file more in a bank's map -/
theorem BankS.put {w : World} {B M : Nat} {es : List (Fil × Value)} (h : BankS w B M es) {f : Fil} {u : Value} (hs : Sl w 2 u (pays f.l)) (hf : filB f = true) (hne : B ≠ M) : BankS (setB w M (iObj ((es ++ [(f, u)]).map entB))) B M (es ++ [(f, u)]) := by
  have hg : w.grownBy (setB w M (iObj ((es ++ [(f, u)]).map entB))) (some M) := setB_grown
  refine ⟨h.box.keep hg (fun e => hne (Option.some.inj e)), setB_at (lt_of_some h.map), fun p hp => ?_, fun p hp => ?_⟩
  · rcases List.mem_append.1 hp with hp | hp
    · exact (h.pay p hp).map_far hg h.map
    · rw [List.mem_singleton.1 hp]; exact hs.map_far hg h.map
  · rcases List.mem_append.1 hp with hp | hp
    · exact h.val p hp
    · rw [List.mem_singleton.1 hp]; exact hf
def atF (fs : List Fil) (i : Nat) : Fil := fs.getD i ⟨0, 0, []⟩
/-- the call returns a bank of its own with the same files -/
def RetBank (fs : List Fil) (w : World) (e : Ending) (w' : World) : Prop :=
  ∃ B2 M2 es', e = .returned (.pointer (some ⟨B2, 0, none⟩)) ∧ BankS w' B2 M2 es' ∧ (es'.map (·.1)).Perm fs ∧ w.heap.size ≤ M2 ∧ w.heap.size ≤ B2 ∧ Below w.heap.size w w'
/-- where the loop stands -/
structure CpS (w w1 : World) (M B2 M2 : Nat) (es : List (Fil × Value)) (seen : List Nat) (wr : World) : Prop where
  it : wr.heap[w1.heap.size]? = some (itObj M es.length seen)
  nodup : seen.Nodup
  lt : ∀ i ∈ seen, i < es.length
  below : Below w.heap.size w wr
  big : w1.heap.size < wr.heap.size
  bank : ∃ es', BankS wr B2 M2 es' ∧ es'.map (·.1) = seen.map (atF (es.map (·.1)))
theorem seen_perm {fs : List Fil} {seen : List Nat} (hn : seen.Nodup) (hl : ∀ i ∈ seen, i < fs.length) (ha : ∀ i, i < fs.length → i ∈ seen) : (seen.map (atF fs)).Perm fs := by
  have hp : seen.Perm (List.range fs.length) := (List.perm_ext_iff_of_nodup hn List.nodup_range).2 fun i => ⟨fun h => List.mem_range.2 (hl i h), fun h => ha i (List.mem_range.1 h)⟩
  refine (hp.map _).trans ?_
  have : (List.range fs.length).map (atF fs) = fs := by
    apply List.ext_getElem (by simp)
    intro i h1 h2
    simp [atF, List.getD, h2]
  rw [this]
theorem findI_fresh {es' : List (Fil × Value)} {k : Int} (h : ∀ f ∈ es'.map (·.1), f.n ≠ k) (j : Nat) : findI k j (es'.map entB) = none := by
  induction es' generalizing j with
  | nil => rfl
  | cons p r ih =>
    simp only [List.map_cons, findI, entB]
    rw [if_neg (fun e => h p.1 (by simp) e.symm)]
    exact ih (fun f hf => h f (by simp at hf ⊢; exact .inr hf)) (j + 1)
set_option maxRecDepth 100000 in
set_option maxHeartbeats 4000000 in
theorem Copy_any (B M : Nat) (es : List (Fil × Value)) (w : World) (hb : BankS w B M es) (hnd : NdF (es.map (·.1))) :
    Calls Tryz.prog 23 #[.pointer (some ⟨B, 0, none⟩)] w (RetBank (es.map (·.1)) w) := by
  have HB := Lib.hid hb
  have HND := Lib.hid hnd
  have hq := eq_nil_bank B
  clear hb hnd
  go_enter Tryz.func23, Tryz.ntmps23
  go_wp2_with fail
  refine (New_any w).mono ?_
  rintro e w1 ⟨B2, M2, rfl, hbk, hb1, hM2, hMB⟩
  have hB1 := HB.out.below hb1
  have c0 := hB1.box.cell 0
  have cl := hB1.box.lt
  simp only [List.getElem?_toArray, List.getElem?_cons_zero] at c0
  have hR := run_range_i hB1.map
  rw [List.length_map] at hR
  have hml := lt_of_some HB.out.map
  have hbl := HB.out.box.lt
  have hs1 := hb1.size
  have hM2l := lt_of_some hbk.map
  have hB2l := hbk.box.lt
  have hal := (Below.refl w1.heap.size w1).alloc (Nat.le_refl _) (itObj M es.length [])
  have HQB := Lib.hid (hbk.below hal)
  have h00 : CpS w w1 M B2 M2 es [] (w1.alloc (itObj M es.length [])) := ⟨heap_alloc_new w1 _, List.nodup_nil, (fun i hi => absurd hi (by simp)), below_after hb1 hal hb1.size, by simp, [], HQB.out, rfl⟩
  clear hbk hal hB1
  go_wp2_with fail
  clear hR hq c0 cl HQB
  go_loopw [] (fun wr => ∃ seen : List Nat, Hid (CpS w w1 M B2 M2 es seen wr)) (fun wr => itLeft wr w1.heap.size)
  case atStart => exact ⟨[], h00⟩
  case round =>
    clear h00
    obtain ⟨seen, HS⟩ := hrel
    obtain ⟨wo, rfl⟩ : ∃ wo : World, wo = wr := ⟨_, rfl⟩
    have hbs := HS.out.below.size
    have hbig := HS.out.big
    have hBo := HB.out.below HS.out.below
    have hi0 := HS.out.it
    rw [show es.length = (es.map entB).length by simp] at hi0
    rcases run_next_i hi0 hBo.map 0 with ⟨i, l, W1, hl1, hni, hW1, hN⟩ | ⟨W1, hall, hW1, hN⟩
    · rw [List.getElem?_map] at hl1
      obtain ⟨⟨f, v⟩, hfv, rfl⟩ := Option.map_eq_some_iff.1 hl1
      have hil : i < es.length := (List.getElem?_eq_some_iff.1 hfv).1
      have hr1 : W1.heap[w1.heap.size]? = some (itObj M (es.map entB).length seen) := by rcases hW1 with rfl | rfl <;> exact hi0
      have hg0 : wo.grownBy (setB W1 w1.heap.size (itObj M (es.map entB).length (seen ++ [i]))) (some w1.heap.size) := (drew_grown hW1 _).trans setB_grown
      have hA : (setB W1 w1.heap.size (itObj M (es.map entB).length (seen ++ [i]))).heap[w1.heap.size]? = some (itObj M (es.map entB).length (seen ++ [i])) := setB_at (lt_of_some hr1)
      generalize setB W1 w1.heap.size (itObj M (es.map entB).length (seen ++ [i])) = W2 at hN hg0 hA
      have hb2 : Below w.heap.size w W2 := HS.out.below.grown hg0 hbs (fun k hk => by injection hk; omega)
      have hB2 := HB.out.below hb2
      have hE := run_entry_i hA hB2.map (by rw [List.getElem?_map, hfv]; rfl : (es.map entB)[i]? = some (entB (f, v)))
      obtain ⟨Av, cv, hv⟩ : ∃ A c, v = .slice A f.l.length c := by
        obtain ⟨A, c, h, _⟩ := hB2.pay (f, v) (List.mem_of_getElem? hfv)
        rw [pays_len] at h; exact ⟨A, c, h⟩
      subst hv
      have hent : entB (f, Value.slice Av f.l.length cv) = (f.n, .agg #[.int .i64 f.n, .int .i64 f.d, .slice Av f.l.length cv]) := rfl
      rw [hent] at hN hE
      have hN' : ∀ ty, (Instr.next (.pointer (some ⟨w1.heap.size, 0, none⟩)) false ty).run Tryz.prog wo = .ok (.tuple #[.bool true, .int .i64 f.n, .agg #[.int .i64 f.n, .int .i64 f.d, .slice Av f.l.length cv]]) W2 := fun _ => hN
      have HSL := Lib.hid (hB2.pay (f, .slice Av f.l.length cv) (List.mem_of_getElem? hfv))
      have HFL := Lib.hid (HB.out.val _ (List.mem_of_getElem? hfv))
      have hlt := left_less hil hni
      rw [List.length_map] at hA
      obtain ⟨es', hbk', hes'⟩ := HS.out.bank
      have hQ2 := hbk'.grown hg0 (by omega) (by omega) (noPay_iter hi0)
      have hfi : atF (es.map (·.1)) i = f := by simp [atF, List.getD, List.getElem?_map, hfv]
      have HFR : Hid (∀ g ∈ es'.map (·.1), g.n ≠ f.n) := fun g hg => by
        rw [hes'] at hg
        obtain ⟨j, hj, rfl⟩ := List.mem_map.1 hg
        have hjl := HS.out.lt j hj
        have hne : j ≠ i := fun e => hni (e ▸ hj)
        have hnd := HND.out
        unfold NdF at hnd
        rw [List.nodup_iff_pairwise_ne, List.pairwise_iff_getElem] at hnd
        have e1 : ((es.map (·.1)).map (·.n))[j]'(by simpa using hjl) = (atF (es.map (·.1)) j).n := by simp [atF, List.getD, hjl]
        have e2 : ((es.map (·.1)).map (·.n))[i]'(by simpa using hil) = f.n := by rw [← hfi]; simp [atF, List.getD, hil]
        rcases Nat.lt_or_gt_of_ne hne with h | h
        · have := hnd j i (by simpa using hjl) (by simpa using hil) h
          rw [e1, e2] at this; exact this
        · have := hnd i j (by simpa using hil) (by simpa using hjl) h
          rw [e1, e2] at this; exact fun e => this e.symm
      have HPU : Hid (∀ v', putI f.n (.agg #[.int .i64 f.n, .int .i64 f.d, v']) (es'.map entB) = (es' ++ [(f, v')]).map entB) := fun v' => by
        rw [findI_none (j := 0) (findI_fresh HFR.out 0)]
        simp [entB, Fil.vals]
      have HES := Lib.hid hes'
      have HFI := Lib.hid hfi
      have HNS := Lib.hid hni
      have HLT := Lib.hid hlt
      have HVB := Lib.hid hbk'.val
      have hz2 := hg0.size
      clear hN hr1 hW1 hB2 hlt hfv hni hent hl1 hg0 hi0 hbk' hes' hfi
      have hal := (Below.refl W2.heap.size W2).alloc (Nat.le_refl _) (.cells #[.int .i64 f.n, .int .i64 f.d, .slice Av f.l.length cv] 37)
      have hx3 := Row.new W2 37 #[.int .i64 f.n, .int .i64 f.d, .slice Av f.l.length cv]
      go_wp2_with fail
      obtain ⟨W3, hW3⟩ : ∃ W3, W2.alloc (.cells #[.int .i64 f.n, .int .i64 f.d, .slice Av f.l.length cv] 37) = W3 := ⟨_, rfl⟩
      rw [hW3] at hal hx3 ⊢
      obtain ⟨g, hg⟩ : ∃ g, W2.heap.size = g := ⟨_, rfl⟩
      rw [hg] at hx3 ⊢
      have hgM : M2 < g := by omega
      have hit3 := (hal.block _ (lt_of_some hA)).trans hA
      have hQ3 := hQ2.below hal
      have HSL3 := Lib.hid (HSL.out.below hal)
      have hb3 := below_after hb2 hal hb2.size
      have c0 := hQ3.box.cell 0
      have cl := hQ3.box.lt
      have cf := hQ3.box.frozen 0
      simp only [List.getElem?_toArray, List.getElem?_cons_zero] at c0
      obtain ⟨⟨d0, d1, d2, dl⟩, -⟩ := row3 hx3
      have HQ3 := Lib.hid hQ3
      have HI3 := Lib.hid hit3
      have HB3 := Lib.hid hb3
      have hz3 := hal.size
      clear hW3 hg hE hN' hA hQ2 hal hx3 hit3 hQ3 hb3 hb2 HSL
      have HC : Hid (∀ W, Below W3.heap.size W3 W → Calls Tryz.prog 35 #[.agg #[.int .i64 f.n, .int .i64 f.d, .slice Av f.l.length cv]] W (RetCopy f W)) := fun W hb => copyFile_any f _ W (HSL3.out.below hb) (filB_of HFL.out).2.2.2.2.1
      have hMr : M2 ≠ w1.heap.size := by omega
      have hN7 : (seen ++ [i]).Nodup := by
        rw [List.nodup_append]
        exact ⟨HS.out.nodup, by simp, by simpa using fun a ha (e : a = i) => HNS.out (e ▸ ha)⟩
      have hL7 : ∀ j ∈ seen ++ [i], j < es.length := fun j hj => by
        rcases List.mem_append.1 hj with hj | hj
        · exact HS.out.lt j hj
        · rw [List.mem_singleton.1 hj]; exact hil
      have HN7 := Lib.hid hN7
      have HL7 := Lib.hid hL7
      clear hN7 hL7
      go_region_held3 (fun w' => w'.cell? ⟨B2, 0, none⟩ = some (.map (some M2)) ∧ w'.cell? ⟨g, 0, none⟩ = some (.int .i64 f.n) ∧ w'.cell? ⟨g, 1, none⟩ = some (.int .i64 f.d) ∧ w'.cell? ⟨g, 2, none⟩ = some (.slice Av f.l.length cv)) (go_keep) ((go_at_call 35; refine (HC.out _ ((Below.refl _ _).drew)).mono ?_; rintro e w8 ⟨u, rfl, hown8, hb8⟩; obtain ⟨Au, cu, rfl⟩ := hown8.form; rw [pays_len] at hown8 ⊢; have hvl : f.vals (.slice Au f.l.length cu) = #[.int .i64 f.n, .int .i64 f.d, .slice Au f.l.length cu] := rfl; rw [hvl]; clear hvl; have hb8' : Below W3.heap.size W3 w8 := below_after ((Below.refl _ _).drew) hb8 (Nat.le_refl _); have k0 := (hb8'.cell (p := ⟨B2, 0, none⟩) cl).trans c0; have k1 := (hb8'.cell (p := ⟨g, 0, none⟩) dl).trans d0; have k2 := (hb8'.cell (p := ⟨g, 1, none⟩) dl).trans d1; have k3 := (hb8'.cell (p := ⟨g, 2, none⟩) dl).trans d2; have hQ8 := HQ3.out.below hb8'; have E3 := run_update_i bank_ty hQ8.map f.n (.agg #[.int .i64 f.n, .int .i64 f.d, .slice Au f.l.length cu]); rw [HPU.out] at E3; have H8 : Hid (CpS w w1 M B2 M2 es (seen ++ [i]) (setB w8 M2 (iObj ((es' ++ [(f, Value.slice Au f.l.length cu)]).map entB)))) := ⟨(setB_grown.block _ (lt_of_some ((hb8'.block _ (lt_of_some HI3.out)).trans HI3.out)) (fun e => hMr (Option.some.inj e.symm))).trans ((hb8'.block _ (lt_of_some HI3.out)).trans HI3.out), HN7.out, HL7.out, (below_after HB3.out hb8' HB3.out.size).grown setB_grown (below_after HB3.out hb8' HB3.out.size).size (fun k hk => by injection hk; omega), Nat.lt_of_lt_of_le (Nat.lt_of_lt_of_le hbig (Nat.le_trans hz2 (Nat.le_trans hz3 hb8'.size))) (by simp [setB]), _, hQ8.put (hown8.sl (by omega)) HFL.out (by omega), by rw [List.map_append, List.map_append, HES.out]; simp [HFI.out]⟩; have hg9 : w8.grownBy (setB w8 M2 (iObj ((es' ++ [(f, Value.slice Au f.l.length cu)]).map entB))) (some M2) := setB_grown; obtain ⟨w9, hw9⟩ : ∃ w9, setB w8 M2 (iObj ((es' ++ [(f, Value.slice Au f.l.length cu)]).map entB)) = w9 := ⟨_, rfl⟩; rw [hw9] at E3 H8 hg9; have hz8 := hb8'.size; have j0 := (World.cell?_of_block (w := w8) (a := ⟨B2, 0, none⟩) (hg9.block B2 (by omega) (fun e => by injection e; omega))).trans k0; have j1 := (World.cell?_of_block (w := w8) (a := ⟨g, 0, none⟩) (hg9.block g (by omega) (fun e => by injection e; omega))).trans k1; have j2 := (World.cell?_of_block (w := w8) (a := ⟨g, 1, none⟩) (hg9.block g (by omega) (fun e => by injection e; omega))).trans k2; have j3 := (World.cell?_of_block (w := w8) (a := ⟨g, 2, none⟩) (hg9.block g (by omega) (fun e => by injection e; omega))).trans k3; clear hown8 hb8 hb8' hQ8 hg9 hw9))
      clear k0 k1 k2 k3 j0 j1 j2 j3 E3 c0 cf d0 d1 d2
      go_wp2
      go_roundw
      case rel => exact ⟨seen ++ [i], H8⟩
      case measure => rw [itLeft_at HS.out.it, itLeft_at H8.out.it]; exact HLT.out
    · have hb1' : Below w.heap.size w W1 := by rcases hW1 with rfl | rfl <;> exact ⟨HS.out.below.os, HS.out.below.tape, HS.out.below.output, HS.out.below.size, HS.out.below.block⟩
      have hN' : ∀ ty, (Instr.next (.pointer (some ⟨w1.heap.size, 0, none⟩)) false ty).run Tryz.prog wo = .ok (.tuple #[.bool false]) W1 := fun _ => hN
      obtain ⟨es', hbk', hes'⟩ := HS.out.bank
      have HBK : Hid (BankS W1 B2 M2 es') := by rcases hW1 with rfl | rfl; exact hbk'; exact hbk'.below (Below.refl _ _).drew
      have HP : Hid ((es'.map (·.1)).Perm (es.map (·.1))) := by
        rw [Hid, hes']
        exact seen_perm HS.out.nodup (by rw [List.length_map]; exact HS.out.lt) (by rw [List.length_map] at hall ⊢; exact hall)
      have HB1 := Lib.hid hb1'
      clear hN hall hW1 hb1' hbk' hes'
      go_wp2
      go_ret
      exact ⟨B2, M2, es', rfl, HBK.out, HP.out, hM2, by omega, HB1.out⟩
end Go.Proofs.YtlchcfkngjbdjaaGreatDoor
/- maps.Keys and slices.Sorted at a map of files; transfer.Bank.Files. -/
namespace Go.Proofs.YtlchcfkngjbdjaaGreatDoor
open Go.RowKit Go.Maps Go.Sort Go.Shelf

/-- the two contracts of slices.Sort at this dump -/
theorem sortsA (m : Nat) : AnyZI.SortsIn Tryz.prog Tryz.sortedA_ren Fence.wide m :=
  ⟨fun blk off cap ss W hH hblk hsz => callsIn_wide.2 (AnyM.slices_Sort_int Tryz.sortA blk off cap ss W hH hblk hsz),
   fun p cap W => callsIn_wide.2 (AnyM.slices_Sort_int_none Tryz.sortA p cap W)⟩
theorem keys_any (mb : Option Nat) (w : World) : Calls Tryz.prog 34 #[.map mb] w fun e w' => e = .returned (.func (.func 50) #[] #[.pointer (some ⟨w.heap.size, 0, none⟩)]) ∧ w' = w.alloc (.cells #[.map mb] 55) :=
  (callsIn_wide (n := 5)).1 (AnyZI.keys_in Tryz.keysA Fence.wide 5 trivial rfl mb w)
theorem length_insert (x : Lit × DataW Unit) (l : List (Lit × DataW Unit)) : (DataW.insert x l).length = l.length + 1 := by
  induction l with
  | nil => rfl
  | cons a r ih =>
    simp only [DataW.insert]
    split
    · rfl
    · simp [ih]
theorem owns_size {w : World} {k : TypeId} {R : Value → Option (DataW Unit × List MemPlace)} {b n : Nat} {D : DataW Unit} (h : w.ownsMap Tryz.prog k R b n D) : Maps.size D ≤ n := by
  obtain ⟨es, clock, _, _, hs, rfl⟩ := h
  have key : ∀ l : List (Lit × DataW Unit), (l.foldr DataW.insert []).length = l.length := by
    intro l
    induction l with
    | nil => rfl
    | cons a r ih => rw [List.foldr_cons, length_insert, ih]; rfl
  rw [Maps.size_eq, key, List.length_map]
  simpa using hs
set_option maxHeartbeats 1000000 in
theorem sortedKeys (b nn : Nat) (D : DataW Unit) (l : List Int) (R : Value → Option (DataW Unit × List MemPlace)) (w : World) (hown : w.ownsMap Tryz.prog 3 R b nn D) (hk : KeysAre D l) (hn : nn ≤ 1000000) :
    Calls Tryz.prog 33 #[.func (.func 50) #[] #[.pointer (some ⟨w.heap.size, 0, none⟩)]] (w.alloc (.cells #[.map (some b)] 55)) (RetOwn (w.alloc (.cells #[.map (some b)] 55)) 3 1 (ints (asI l))) := by
  have hsz := owns_size hown
  have hbl := hown.lt
  refine (callsIn_wide (n := 5)).1 ?_
  have hseq : SeqGives Fence.wide 2 Tryz.prog 50 #[.pointer (some ⟨w.heap.size, 0, none⟩)] encZ (fun ss => ss.Perm (intKeys D)) (Maps.size D) (w.alloc (.cells #[.map (some b)] 55)) :=
    AnyZI.keys_gives (ρ := Tryz.keysA_ren) { Tryz.keysA with } Fence.wide _ trivial rfl (by omega) w.heap.size b nn D _ (by simp) (by simp) (by
      obtain ⟨es, clock, hb, Ft, hs, hD⟩ := hown
      exact ⟨es, clock, (Below.heap_alloc _ _ b hbl).trans hb, Ft, hs, hD⟩)
  have cS := AnyZI.sorted_in Tryz.sortedA Fence.wide 5 trivial trivial trivial trivial rfl (by omega) (sortsA _) (enters_of Tryz.func49 (by kernel_rfl) rfl) 50 #[.pointer (some ⟨w.heap.size, 0, none⟩)] trivial (enters_of Tryz.func50 (by kernel_rfl) rfl) _ _ (by unfold maxLen; omega) (by omega) _ hseq
  refine cS.mono ?_
  rintro e w' ⟨v, ss, rfl, hS, hrow, _, hb⟩
  refine ⟨v, rfl, ⟨?_, fun x hx => ?_⟩, hb⟩
  · rw [hk.sorted hS] at hrow
    have hl : ss.length = (ints (asI l)).length := by
      have := congrArg List.length (hk.sorted hS)
      rw [List.length_mergeSort] at this
      rw [ints_len, this]
    have hf : (ints (asI l)).flatten = (asI l).map encZ := by
      rw [ints]
      induction asI l with
      | nil => rfl
      | cons a r ih => simp [ih]
    rw [← hl, hf]; exact hrow
  · obtain ⟨z, _, rfl⟩ := List.mem_map.1 hx
    exact ⟨rfl, by simp [Value.oneCell']⟩
/-- the file with a number -/
def byN (fs : List Fil) (n : Int) : Fil := (fs.find? fun f => decide (f.n = n)).getD ⟨0, 0, []⟩
theorem byN_mem {fs : List Fil} {n : Int} (h : n ∈ fs.map (·.n)) : byN fs n ∈ fs ∧ (byN fs n).n = n := by
  obtain ⟨f, hf, rfl⟩ := List.mem_map.1 h
  unfold byN
  cases hh : fs.find? fun g => decide (g.n = f.n) with
  | none =>
    have := List.find?_eq_none.1 hh f hf
    simp at this
  | some g =>
    have h1 := List.mem_of_find?_eq_some hh
    have h2 := List.find?_some hh
    exact ⟨h1, by simpa using h2⟩
theorem ndF_inj {fs : List Fil} (h : NdF fs) : ∀ {f g : Fil}, f ∈ fs → g ∈ fs → f.n = g.n → f = g := by
  induction fs with
  | nil => intro f g hf; cases hf
  | cons a r ih =>
    intro f g hf hg e
    unfold NdF at h ih
    rw [List.map_cons, List.nodup_cons] at h
    rcases List.mem_cons.1 hf with rfl | hf'
    · rcases List.mem_cons.1 hg with rfl | hg'
      · rfl
      · exact absurd (show f.n ∈ r.map (fun x => x.n) from List.mem_map.2 ⟨g, hg', e.symm⟩) h.1
    · rcases List.mem_cons.1 hg with rfl | hg'
      · exact absurd (show g.n ∈ r.map (fun x => x.n) from List.mem_map.2 ⟨f, hf', e⟩) h.1
      · exact ih h.2 hf' hg' e
theorem ndF_nodup {fs : List Fil} (h : NdF fs) : fs.Nodup := by
  unfold NdF at h
  rw [List.nodup_iff_pairwise_ne, List.pairwise_map] at h
  rw [List.nodup_iff_pairwise_ne]
  exact h.imp fun hn e => hn (by rw [e])
/-- the files by ascending numbers -/
def srtF (fs : List Fil) : List Fil := (asI (fs.map (·.n))).map (byN fs)
theorem srtF_asc (fs : List Fil) : AscF (srtF fs) := by
  unfold AscF srtF
  rw [List.pairwise_map]
  have h := asI_asc (fs.map (·.n))
  unfold Asc at h
  refine List.Pairwise.imp_of_mem ?_ h
  intro a b ha hb hab
  rw [(byN_mem (mem_asI.1 ha)).2, (byN_mem (mem_asI.1 hb)).2]; exact hab
theorem ascF_nd {fs : List Fil} (h : AscF fs) : NdF fs := by
  unfold AscF at h
  unfold NdF
  rw [List.nodup_iff_pairwise_ne, List.pairwise_map]
  exact h.imp fun h => by omega
theorem srtF_perm {fs : List Fil} (h : NdF fs) : (srtF fs).Perm fs := by
  refine (List.perm_ext_iff_of_nodup (ndF_nodup (ascF_nd (srtF_asc fs))) (ndF_nodup h)).2 fun f => ?_
  unfold srtF
  rw [List.mem_map]
  constructor
  · rintro ⟨n, hn, rfl⟩; exact (byN_mem (mem_asI.1 hn)).1
  · intro hf
    have hm : f.n ∈ fs.map (·.n) := List.mem_map.2 ⟨f, hf, rfl⟩
    exact ⟨f.n, mem_asI.2 hm, ndF_inj h (byN_mem hm).1 hf (byN_mem hm).2⟩
/-- one order alone is ascending -/
theorem ascF_unique {a b : List Fil} (ha : AscF a) (hb : AscF b) (h : a.Perm b) : a = b := by
  induction a generalizing b with
  | nil => rw [h.symm.eq_nil]
  | cons x r ih =>
    cases b with
    | nil => exact absurd h.eq_nil (by simp)
    | cons y s =>
      unfold AscF at ha hb ih
      have ha' := List.pairwise_cons.1 ha
      have hb' := List.pairwise_cons.1 hb
      have e : x = y := by
        have h1 := h.mem_iff.1 (List.mem_cons_self (a := x) (l := r))
        have h2 := h.mem_iff.2 (List.mem_cons_self (a := y) (l := s))
        rcases List.mem_cons.1 h1 with e | h1
        · exact e
        · rcases List.mem_cons.1 h2 with e | h2
          · exact e.symm
          · have := hb'.1 x h1; have := ha'.1 y h2; omega
      subst e
      rw [ih ha'.2 hb'.2 ((List.perm_cons _).1 h)]
theorem getI_by {es : List (Fil × Value)} (hnd : NdF (es.map (·.1))) {n : Int} (hn : n ∈ (es.map (·.1)).map (·.n)) : ∃ v, (byN (es.map (·.1)) n, v) ∈ es ∧ getI (es.map entB) n = some (.agg ((byN (es.map (·.1)) n).vals v)) := by
  have hk := get_known (es := es) (k := n)
  have hany : (es.map (·.1)).any (fun f => decide (f.n = n)) = true := by
    obtain ⟨f, hf, rfl⟩ := List.mem_map.1 hn
    exact List.any_eq_true.2 ⟨f, hf, by simp⟩
  rw [hany] at hk
  unfold getI at hk ⊢
  cases hf : findI n 0 (es.map entB) with
  | none => rw [hf] at hk; cases hk
  | some p =>
    obtain ⟨j, a⟩ := p
    obtain ⟨_, h2, _⟩ := findI_some hf
    rw [Nat.sub_zero, List.getElem?_map] at h2
    cases hp : es[j]? with
    | none => rw [hp] at h2; cases h2
    | some q =>
      rw [hp] at h2
      simp only [Option.map_some, Option.some.injEq, entB, Prod.mk.injEq] at h2
      have hq := List.mem_of_getElem? hp
      have hm := byN_mem hn
      have e : byN (es.map (·.1)) n = q.1 := ndF_inj hnd hm.1 (List.mem_map.2 ⟨q, hq, rfl⟩) (by rw [hm.2, h2.1])
      exact ⟨q.2, by rw [e]; exact hq, by simp only [Option.map_some]; rw [← h2.2, e]⟩
theorem own_types {w : World} {b1 b2 e1 e2 s1 s2 : Nat} {v u : Value} {a b : List (List Value)} (h : Own w b1 e1 s1 v a) (k : Own w b2 e2 s2 u b) (hne : e1 ≠ e2) : v.ownBlock = none ∨ v.ownBlock ≠ u.ownBlock := by
  cases hv : v.ownBlock with
  | none => exact .inl rfl
  | some g =>
    refine .inr fun e => hne ?_
    rcases h.1.2 with ⟨rfl, _⟩ | ⟨g1, c1, cur1, rfl, _, hg1, _⟩
    · simp [Value.ownBlock] at hv
    · rcases k.1.2 with ⟨rfl, _⟩ | ⟨g2, c2, cur2, rfl, _, hg2, _⟩
      · simp [Value.ownBlock] at e
      · simp only [Value.ownBlock, Option.some.injEq] at hv e
        rw [hv] at hg1
        rw [← e, hg1] at hg2
        simp only [Option.some.injEq, Obj.cells.injEq] at hg2
        exact hg2.2.1
/-- a slice of files of the call's own, their payments too -/
structure OwnF (w : World) (base : Nat) (v : Value) (ps : List (Fil × Value)) : Prop where
  own : Own w base 37 3 v (fils ps)
  pay : ∀ p ∈ ps, Own w base 46 2 p.2 (pays p.1.l)
theorem OwnF.kept {w w' : World} {base : Nat} {v : Value} {ps : List (Fil × Value)} (h : OwnF w base v ps) (hb : Below w.heap.size w w') : OwnF w' base v ps := ⟨h.own.kept hb, fun p hp => (h.pay p hp).kept hb⟩
theorem OwnF.at {w : World} {base : Nat} {v : Value} {ps : List (Fil × Value)} (h : OwnF w base v ps) : FilsAt w v ps := ⟨h.own.sl (by omega), fun p hp => (h.pay p hp).sl (by omega)⟩
theorem OwnF.more {w : World} {base base' : Nat} {v : Value} {ps : List (Fil × Value)} (h : OwnF w base v ps) (hb : base' ≤ base) : OwnF w base' v ps := ⟨h.own.more hb, fun p hp => (h.pay p hp).more hb⟩
theorem ty_ne : 46 ≠ 37 := by decide
/-- a file appended -/
theorem OwnF.app {w w' : World} {base : Nat} {v v' u : Value} {ps : List (Fil × Value)} {f : Fil} (h : OwnF w base v ps) (hu : Own w base 46 2 u (pays f.l)) (hown : Own w' base 37 3 v' (fils ps ++ [(f.vals u).toList])) (hg : w.grownBy w' v.ownBlock) : OwnF w' base v' (ps ++ [(f, u)]) := by
  refine ⟨by rw [fils_append]; exact hown, fun p hp => ?_⟩
  rcases List.mem_append.1 hp with hp | hp
  · exact (h.pay p hp).keepG hg (own_types (h.pay p hp) h.own ty_ne)
  · rw [List.mem_singleton.1 hp]; exact hu.keepG hg (own_types hu h.own ty_ne)
/-- the call returns the files by ascending numbers, in new memory -/
def RetFls (fs : List Fil) (w : World) (e : Ending) (w' : World) : Prop := ∃ x ps, e = .returned x ∧ OwnF w' w.heap.size x ps ∧ ps.map (·.1) = srtF fs ∧ Below w.heap.size w w'
set_option maxRecDepth 100000 in
set_option maxHeartbeats 2000000 in
theorem Files_any (B M : Nat) (es : List (Fil × Value)) (w : World) (hb : BankS w B M es) (hnd : NdF (es.map (·.1))) (hl : es.length ≤ 1000) :
    Calls Tryz.prog 20 #[.pointer (some ⟨B, 0, none⟩)] w (RetFls (es.map (·.1)) w) := by
  have HB := Lib.hid hb
  have HND := Lib.hid hnd
  have hq := eq_nil_bank B
  have c0 := hb.box.cell 0
  have cl := hb.box.lt
  simp only [List.getElem?_toArray, List.getElem?_cons_zero] at c0
  obtain ⟨D, hD, hKA⟩ := iObj_owns hb.map (by
    have : (es.map entB).map (·.1) = (es.map (·.1)).map (·.n) := by simp [entB]
    rw [this]; exact hnd) (fun p hp => by
    obtain ⟨q, hq, rfl⟩ := List.mem_map.1 hp
    have := filB_of (hb.val q hq)
    simp only [entB]; omega) (by simp; omega)
  have hke : (es.map entB).map (·.1) = (es.map (·.1)).map (·.n) := by simp [entB]
  rw [hke] at hKA
  have HSK := Lib.hid (sortedKeys M _ D _ anyElem w hD hKA (by simp; omega))
  obtain ⟨ns, hns⟩ : ∃ ns, asI ((es.map (·.1)).map (·.n)) = ns := ⟨_, rfl⟩
  have HNS := Lib.hid hns
  rw [hns] at HSK
  have hnl : ns.length ≤ 1000 := by
    have := asI_len ((es.map (·.1)).map (·.n))
    rw [hns] at this
    simp at this; omega
  clear hb hnd hD hKA hke hns
  go_enter Tryz.func20, Tryz.ntmps20
  go_wp2_with fail
  refine (keys_any (some M) w).mono ?_
  rintro e w0 ⟨rfl, rfl⟩
  have hal := (Below.refl w.heap.size w).alloc (Nat.le_refl _) (.cells #[.map (some M)] 55)
  go_wp2_with fail
  refine HSK.out.mono ?_
  rintro e w1 ⟨x, rfl, hown, hb1⟩
  have hB1 := below_after hal hb1 hal.size
  have HSL := Lib.hid (hown.sl (by omega))
  obtain ⟨Ax, cx, rfl⟩ := hown.form
  rw [ints_len] at HSL ⊢
  have hs1 := hB1.size
  clear hal hb1 hown c0 cl hq HSK
  go_wp2_with fail
  go_loopw [3, 15] (fun t i wr => ∃ k : Nat, ∃ v, ∃ ps : List (Fil × Value), k ≤ ns.length ∧ i = .int .i64 k ∧ t = v ∧ ps.length = k ∧ Hid (OwnF wr w1.heap.size v ps ∧ Below w1.heap.size w1 wr ∧ ps.map (·.1) = (ns.take k).map (byN (es.map (·.1))))) (fun _ i _ => ns.length - (intOf i).toNat)
  case atStart => exact ⟨0, _, [], by omega, rfl, rfl, rfl, ⟨Own.nil _ _ _ _, fun p hp => by cases hp⟩, Below.refl _ _, by simp⟩
  case round =>
    obtain ⟨k, v, ps, hk, rfl, rfl, hpl, HI⟩ := hrel
    obtain ⟨wo, rfl⟩ : ∃ wo : World, wo = wr := ⟨_, rfl⟩
    have hbz := HI.out.2.1.size
    by_cases hlt : k < ns.length
    · have hBo := hB1.trans (HI.out.2.1.mono hs1)
      have hbk := HB.out.below hBo
      obtain ⟨bk, off, rfl, hc⟩ := (HSL.out.below HI.out.2.1).cells (by rw [ints_len]; omega)
      have d0 := hc.2 k [.int .i64 ns[k]] (by simp [ints, hlt]) 0 _ rfl
      rw [Nat.mul_one, Nat.add_zero] at d0
      have i1 : (k : Int) < (ns.length : Int) := by omega
      have hall : ∀ x ∈ ns, x ∈ (es.map (·.1)).map (·.n) := fun x hx => by
        rw [← HNS.out] at hx; exact mem_asI.1 hx
      have hmem : ns[k] ∈ (es.map (·.1)).map (·.n) := hall _ (List.getElem_mem hlt)
      clear hall
      obtain ⟨u, hu, hget⟩ := getI_by HND.out hmem
      have HTK : Hid ((ns.take (k + 1)).map (byN (es.map (·.1))) = (ns.take k).map (byN (es.map (·.1))) ++ [byN (es.map (·.1)) ns[k]]) := by
        rw [Hid, List.take_succ_eq_append_getElem hlt, List.map_append]; rfl
      have E1 := (run_lookup_i bank_ty (zero_file wo) hbk.map ns[k]).2
      rw [hget] at E1
      have hsl := hbk.pay _ hu
      have hfv := hbk.val _ hu
      obtain ⟨n, hn⟩ : ∃ n, ns[k] = n := ⟨_, rfl⟩
      rw [hn] at d0 E1 HTK hsl hfv
      obtain ⟨f, hf⟩ : ∃ f, byN (es.map (·.1)) n = f := ⟨_, rfl⟩
      rw [hf] at E1 HTK hsl hfv
      obtain ⟨Au, cu, rfl⟩ : ∃ A c, u = .slice A f.l.length c := by
        obtain ⟨A, c, h, _⟩ := hsl
        rw [pays_len] at h; exact ⟨A, c, h⟩
      have hvl : f.vals (.slice Au f.l.length cu) = #[.int .i64 f.n, .int .i64 f.d, .slice Au f.l.length cu] := rfl
      rw [Option.getD_some, hvl] at E1
      have HCF : Hid (Calls Tryz.prog 35 #[.agg #[.int .i64 f.n, .int .i64 f.d, .slice Au f.l.length cu]] wo (RetCopy f wo)) := copyFile_any f _ wo hsl (filB_of hfv).2.2.2.2.1
      have c0 := hbk.box.cell 0
      have cl := hbk.box.lt
      simp only [List.getElem?_toArray, List.getElem?_cons_zero] at c0
      clear hc hmem hget hu hn hf hvl hsl hfv hbk
      go_wp2_with fail
      refine HCF.out.mono ?_
      rintro e w5 ⟨u5, rfl, hown5, hb5⟩
      obtain ⟨A5, c5, rfl⟩ := hown5.form
      rw [pays_len] at hown5 ⊢
      have hvl : f.vals (.slice A5 f.l.length c5) = #[.int .i64 f.n, .int .i64 f.d, .slice A5 f.l.length c5] := rfl
      rw [hvl]
      have HO5 := Lib.hid (HI.out.1.kept hb5)
      have HU5 := Lib.hid (hown5.more hbz)
      have hB5 := below_after HI.out.2.1 hb5 hbz
      have hz5 := hB5.size
      have HPE := Lib.hid HI.out.2.2
      have HW3 : Hid (Wide 3 [[.int .i64 f.n, .int .i64 f.d, .slice A5 f.l.length c5]]) := fun x hx => by
        obtain rfl := List.mem_singleton.1 hx
        exact ⟨rfl, by simp [Value.oneCell']⟩
      clear hvl hown5 hb5 E1 c0 cl d0 HCF HI
      go_wp2_with (at_builtin; (refine wpList_append_sl rfl (.tmp 19) (.tmp 27) rfl rowFil w1.heap.size _ _ (fils ps) [[.int .i64 f.n, .int .i64 f.d, .slice A5 f.l.length c5]] rfl (HO5.out.own.alloc _) rfl (Sl.one rfl rfl) HW3.out (by rw [fils_len]; unfold maxLen; simp; omega) (by rw [fils_len]; simp; omega) (by simp only [World.size_alloc]; omega) ?_); intro v7 w7 hown7 hg7 _; have HF7 := Lib.hid ((HO5.out.kept ((Below.refl _ _).alloc (Nat.le_refl _) (.cells #[.int .i64 f.n, .int .i64 f.d, .slice A5 f.l.length c5] 37))).app (HU5.out.alloc _) hown7 hg7); have HB7 := Lib.hid ((hB5.alloc hz5 _).grown hg7 (by simp only [World.size_alloc]; omega) (fun g hg => (HO5.out.own.1.lt g hg).1)); clear hown7 hg7)
      go_roundw
      case rel => exact ⟨k + 1, _, ps ++ [(f, .slice A5 f.l.length c5)], by omega, by go_num, rfl, by simp; omega, HF7.out, HB7.out, by rw [List.map_append, HPE.out, HTK.out]; rfl⟩
      case measure => simp [intOf]; omega
    · obtain rfl : k = ns.length := by omega
      have HE : Hid (ps.map (·.1) = srtF (es.map (·.1))) := by
        rw [Hid, HI.out.2.2, List.take_length, srtF, HNS.out]
      have HBE := Lib.hid (hB1.trans (HI.out.2.1.mono hs1))
      have HOE := Lib.hid (HI.out.1.more hs1)
      clear HI
      go_wp2
      go_ret
      exact ⟨_, ps, rfl, HOE.out, HE.out, HBE.out⟩
end Go.Proofs.YtlchcfkngjbdjaaGreatDoor
/- transfer.Bank.Total: a sum over a map, in whatever order. Written by gen_ttot.py. -/
namespace Go.Proofs.YtlchcfkngjbdjaaGreatDoor
open Go.RowKit Go.Shelf

def totB (fs : List Fil) : Int := (fs.map fun f => sumA f.l).sum
theorem sumA_bounds {l : List Pay} (h : ∀ p ∈ l, payV p) : 0 ≤ sumA l ∧ sumA l ≤ l.length * 1000000000000 := by
  have := sum_bounds h; omega
def totSeen (fs : List Fil) (seen : List Nat) : Int := (seen.map fun i => sumA (fs.getD i ⟨0, 0, []⟩).l).sum
theorem tot_all {fs : List Fil} {seen : List Nat} (hn : seen.Nodup) (hl : ∀ i ∈ seen, i < fs.length) (ha : ∀ i, i < fs.length → i ∈ seen) : totSeen fs seen = totB fs := by
  have hp : seen.Perm (List.range fs.length) := (List.perm_ext_iff_of_nodup hn List.nodup_range).2 fun i => ⟨fun h => List.mem_range.2 (hl i h), fun h => ha i (List.mem_range.1 h)⟩
  unfold totSeen totB
  rw [sum_perm (hp.map _)]
  congr 1
  apply List.ext_getElem (by simp)
  intro i h1 h2
  simp only [List.length_map, List.length_range] at h1
  simp [List.getD, h1]
theorem tot_bounds {fs : List Fil} (hv : ∀ f ∈ fs, filB f = true) : ∀ {seen : List Nat}, 0 ≤ totSeen fs seen ∧ totSeen fs seen ≤ seen.length * 4096000000000000
  | [] => by simp [totSeen]
  | i :: r => by
    have ih := tot_bounds hv (seen := r)
    have hb : 0 ≤ sumA (fs.getD i ⟨0, 0, []⟩).l ∧ sumA (fs.getD i ⟨0, 0, []⟩).l ≤ 4096000000000000 := by
      rw [List.getD]
      cases hf : fs[i]? with
      | none => simp [sumA]
      | some f =>
        have h := filB_of (hv f (List.mem_of_getElem? hf))
        have hp := sumA_bounds h.2.2.2.2.2.1
        simp only [Option.getD_some]
        omega
    simp only [totSeen, List.map_cons, List.sum_cons, List.length_cons] at ih ⊢
    omega
theorem totSeen_snoc {fs : List Fil} {seen : List Nat} {i : Nat} {f : Fil} (h : fs[i]? = some f) : totSeen fs (seen ++ [i]) = totSeen fs seen + sumA f.l := by
  simp [totSeen, List.getD, h]
set_option maxRecDepth 100000 in
set_option maxHeartbeats 2000000 in
theorem Total_any (B M : Nat) (es : List (Fil × Value)) (w : World) (hb : BankS w B M es) (hl : es.length ≤ 1000) :
    Calls Tryz.prog 19 #[.pointer (some ⟨B, 0, none⟩)] w fun e w' => e = .returned (.int .i64 (totB (es.map (·.1)))) ∧ Below w.heap.size w w' := by
  have HB := Lib.hid hb
  have hq := eq_nil_bank B
  have c0 := hb.box.cell 0
  simp only [List.getElem?_toArray, List.getElem?_cons_zero] at c0
  have hR := run_range_i hb.map
  rw [List.length_map] at hR
  have hml := lt_of_some hb.map
  have hval : ∀ f ∈ es.map (·.1), filB f = true := fun f hf => by
    obtain ⟨p, hp, rfl⟩ := List.mem_map.1 hf
    exact hb.val p hp
  have HVAL := Lib.hid hval
  have h00 : PdS w M es [] (w.alloc (itObj M es.length [])) := ⟨heap_alloc_new w _, List.nodup_nil, (fun i hi => absurd hi (by simp)), by rw [left_start]; simp, (Below.refl _ _).alloc (Nat.le_refl _) _⟩
  clear hb hval
  go_enter Tryz.func19, Tryz.ntmps19
  go_wp2_with fail
  clear hR hq c0
  go_loopw [3] (fun t wr => ∃ seen : List Nat, t = .int .i64 (totSeen (es.map (·.1)) seen) ∧ Hid (PdS w M es seen wr)) (fun _ wr => itLeft wr w.heap.size)
  case atStart => exact ⟨[], rfl, h00⟩
  case round =>
    clear h00
    obtain ⟨seen, rfl, HS⟩ := hrel
    obtain ⟨wo, rfl⟩ : ∃ wo : World, wo = wr := ⟨_, rfl⟩
    have hbs := HS.out.below.size
    have hBo := HB.out.below HS.out.below
    have HSB := tot_bounds HVAL.out (seen := seen)
    have hcn := HS.out.cnt
    have hi0 := HS.out.it
    rw [show es.length = (es.map entB).length by simp] at hi0
    rcases run_next_i hi0 hBo.map 0 with ⟨i, l, W1, hl1, hni, hW1, hN⟩ | ⟨W1, hall, hW1, hN⟩
    · rw [List.getElem?_map] at hl1
      obtain ⟨⟨f, v⟩, hfv, rfl⟩ := Option.map_eq_some_iff.1 hl1
      have hil : i < es.length := (List.getElem?_eq_some_iff.1 hfv).1
      have hr1 : W1.heap[w.heap.size]? = some (itObj M (es.map entB).length seen) := by rcases hW1 with rfl | rfl <;> exact hi0
      have hg0 : wo.grownBy (setB W1 w.heap.size (itObj M (es.map entB).length (seen ++ [i]))) (some w.heap.size) := (drew_grown hW1 _).trans setB_grown
      have hA : (setB W1 w.heap.size (itObj M (es.map entB).length (seen ++ [i]))).heap[w.heap.size]? = some (itObj M (es.map entB).length (seen ++ [i])) := setB_at (lt_of_some hr1)
      generalize setB W1 w.heap.size (itObj M (es.map entB).length (seen ++ [i])) = W2 at hN hg0 hA
      have hb2 : Below w.heap.size w W2 := HS.out.below.grown hg0 hbs (fun k hk => by injection hk; omega)
      have hB2 := HB.out.below hb2
      have hE := run_entry_i hA hB2.map (by rw [List.getElem?_map, hfv]; rfl : (es.map entB)[i]? = some (entB (f, v)))
      obtain ⟨Av, cv, hv⟩ : ∃ A c, v = .slice A f.l.length c := by
        obtain ⟨A, c, h, _⟩ := hB2.pay (f, v) (List.mem_of_getElem? hfv)
        rw [pays_len] at h; exact ⟨A, c, h⟩
      subst hv
      have hent : entB (f, Value.slice Av f.l.length cv) = (f.n, .agg #[.int .i64 f.n, .int .i64 f.d, .slice Av f.l.length cv]) := rfl
      rw [hent] at hN hE
      have hN' : ∀ ty, (Instr.next (.pointer (some ⟨w.heap.size, 0, none⟩)) false ty).run Tryz.prog wo = .ok (.tuple #[.bool true, .int .i64 f.n, .agg #[.int .i64 f.n, .int .i64 f.d, .slice Av f.l.length cv]]) W2 := fun _ => hN
      have HSL := Lib.hid (hB2.pay (f, .slice Av f.l.length cv) (List.mem_of_getElem? hfv))
      have HFL := Lib.hid (filB_of (HVAL.out f (List.mem_map.2 ⟨_, List.mem_of_getElem? hfv, rfl⟩)))
      have hl4 := HFL.out.2.2.2.2.1
      have hpv := HFL.out.2.2.2.2.2.1
      have HPV := Lib.hid hpv
      have hlt := left_less hil hni
      rw [List.length_map] at hA
      have HPD : Hid (PdS w M es (seen ++ [i]) W2) := by
        refine ⟨hA, ?_, fun j hj => ?_, ?_, hb2⟩
        · rw [List.nodup_append]
          exact ⟨HS.out.nodup, by simp, by simpa using fun a ha (e : a = i) => hni (e ▸ ha)⟩
        · rcases List.mem_append.1 hj with hj | hj
          · exact HS.out.lt j hj
          · rw [List.mem_singleton.1 hj]; exact hil
        · rw [List.length_append]; simp only [List.length_singleton]; omega
      have HSN := Lib.hid (totSeen_snoc (seen := seen) (show (es.map (·.1))[i]? = some f by rw [List.getElem?_map, hfv]; rfl))
      have HLT := Lib.hid hlt
      have hb22 := hb2.size
      clear hN hr1 hW1 hA hB2 hlt hfv hni hent hl1 hg0 hi0 hpv
      have hal := (Below.refl W2.heap.size W2).alloc (Nat.le_refl _) (.cells #[.int .i64 f.n, .int .i64 f.d, .slice Av f.l.length cv] 37)
      go_wp2_with fail
      obtain ⟨W3, hW3⟩ : ∃ W3, W2.alloc (.cells #[.int .i64 f.n, .int .i64 f.d, .slice Av f.l.length cv] 37) = W3 := ⟨_, rfl⟩
      rw [hW3] at hal ⊢
      have HPD3 := Lib.hid (HPD.out.same hal)
      have HSL3 := Lib.hid (HSL.out.below hal)
      clear hW3 hal hE hN'
      obtain ⟨sm, hsm⟩ : ∃ sm, totSeen (es.map (·.1)) seen = sm := ⟨_, rfl⟩
      rw [hsm] at HSN HSB ⊢
      clear hsm
      go_loopw [3, 22] (fun t j wr => ∃ j' : Nat, j' ≤ f.l.length ∧ j = .int .i64 j' ∧ t = .int .i64 (sm + sumA (f.l.take j')) ∧ Hid (Below W3.heap.size W3 wr)) (fun _ j _ => f.l.length - (intOf j).toNat)
      case atStart => exact ⟨0, by omega, rfl, by simp [sumA], Below.refl _ _⟩
      case round =>
        obtain ⟨j, hj, rfl, rfl, HBW⟩ := hrel
        obtain ⟨wi, rfl⟩ : ∃ wi : World, wi = wr := ⟨_, rfl⟩
        have hbi := HBW.out.size
        have hpb := sumA_bounds (l := f.l.take j) fun p hp => HPV.out p (List.mem_of_mem_take hp)
        rw [List.length_take, Nat.min_eq_left hj] at hpb
        by_cases hjl : j < f.l.length
        · obtain ⟨bk, off, rfl, hc⟩ := (HSL3.out.below HBW.out).cells (by rw [pays_len]; omega)
          obtain ⟨d0, d1⟩ := hc.pay hjl
          have HPS := Lib.hid (sum_snoc hjl).1
          have hpj := HPV.out _ (List.getElem_mem hjl)
          unfold payV at hpj
          obtain ⟨x, hx⟩ : ∃ x, f.l[j] = x := ⟨_, rfl⟩
          rw [hx] at d0 d1 HPS hpj
          clear hx hc
          have HB3 : Hid (Below W3.heap.size W3 (wi.alloc (.cells #[.int .i64 x.e, .int .i64 x.a] 46))) := HBW.out.alloc hbi _
          obtain ⟨pp, hpp⟩ : ∃ pp, sumA (f.l.take j) = pp := ⟨_, rfl⟩
          rw [hpp] at HPS hpb ⊢
          clear hpp
          go_wp2
          go_roundw
          case rel => exact ⟨j + 1, by omega, by go_num, by rw [HPS.out]; congr 1; omega, HB3⟩
          case measure => simp [intOf]; omega
        · obtain rfl : j = f.l.length := by omega
          rw [List.take_length]
          have HE2 := Lib.hid (HPD3.out.same HBW.out)
          go_wp2
          go_roundw
          case rel => exact ⟨seen ++ [i], by rw [HSN.out], HE2⟩
          case measure => rw [itLeft_at HS.out.it, itLeft_at HE2.out.it]; exact HLT.out
    · have hb1 : Below w.heap.size w W1 := by rcases hW1 with rfl | rfl <;> exact ⟨HS.out.below.os, HS.out.below.tape, HS.out.below.output, HS.out.below.size, HS.out.below.block⟩
      have hN' : ∀ ty, (Instr.next (.pointer (some ⟨w.heap.size, 0, none⟩)) false ty).run Tryz.prog wo = .ok (.tuple #[.bool false]) W1 := fun _ => hN
      have HALL := Lib.hid (tot_all (fs := es.map (·.1)) HS.out.nodup (by rw [List.length_map]; exact HS.out.lt) (by rw [List.length_map] at hall ⊢; exact hall))
      have HB1 := Lib.hid hb1
      clear hN hall hW1 hb1
      go_wp2
      go_ret
      exact ⟨ret_int HALL.out, HB1.out⟩
end Go.Proofs.YtlchcfkngjbdjaaGreatDoor
/- Contract of ref42.Bank.Submit. Written by gen_rfsub.py. -/
namespace Go.Proofs.YtlchcfkngjbdjaaGreatDoor
open Go.RowKit Go.Shelf

theorem subE_perm {a b : List Fil} (h : a.Perm b) (s : List UInt8) : subE a s = subE b s := by
  unfold subE
  have : a.any (fun f => decide (f.n = (decF s).n)) = b.any (fun f => decide (f.n = (decF s).n)) := by
    rw [Bool.eq_iff_iff, List.any_eq_true, List.any_eq_true]
    constructor
    · rintro ⟨x, hx, hh⟩; exact ⟨x, h.mem_iff.1 hx, hh⟩
    · rintro ⟨x, hx, hh⟩; exact ⟨x, h.mem_iff.2 hx, hh⟩
  rw [this]
theorem grown_none {w w' : World} (h : w.grownBy w' (Value.slice none 0 0).ownBlock) : Below w.heap.size w w' := ⟨h.os, h.tape, h.output, h.size, fun i hi => h.block i hi (by simp [Value.ownBlock])⟩
/-- what the reference's Submit leaves -/
def SubR (w : World) (R : Nat) (ps : List (Fil × Value)) (s : List UInt8) (e : Ending) (w' : World) : Prop :=
  ∃ ps', e = .returned (.int .i64 (subE (ps.map (·.1)) s)) ∧ RefS w' R ps' ∧ (ps'.map (·.1)).Perm (subF (ps.map (·.1)) s) ∧ w.grownBy w' (some R)
theorem apart_ge {w : World} {base e sz : Nat} {v u : Value} {es : List (List Value)} (h : Own w base e sz v es) (hu : ∀ g, u.ownBlock = some g → w.heap.size ≤ g) : v.ownBlock = none ∨ v.ownBlock ≠ u.ownBlock := by
  cases hv : v.ownBlock with
  | none => exact .inl rfl
  | some g =>
    refine .inr fun e => ?_
    have h1 := (h.1.lt g hv).2
    have h2 := hu g e.symm
    omega
theorem own_low {v : Value} {n : Nat} (h : v.ownBlock = none ∨ v.ownBlock = some n) : ∀ g, v.ownBlock = some g → n ≤ g := fun g hg => by
  rcases h with h | h
  · rw [h] at hg; cases hg
  · rw [h] at hg; injection hg with hg; omega
theorem own_low2 {v u : Value} {n m : Nat} (h : v.ownBlock = u.ownBlock ∨ v.ownBlock = some n) (hu : ∀ g, u.ownBlock = some g → m ≤ g) (hm : m ≤ n) : ∀ g, v.ownBlock = some g → m ≤ g := fun g hg => by
  rcases h with h | h
  · rw [h] at hg; exact hu g hg
  · rw [h] at hg; injection hg with hg; omega
theorem Own.slc {w : World} {base e sz : Nat} {v : Value} {es : List (List Value)} (h : Own w base e sz v es) : ∃ A n c, v = .slice A n c := by
  obtain ⟨A, c, h⟩ := h.form
  exact ⟨A, _, c, h⟩
theorem sub_fin {w w6 : World} {R k cap cv : Nat} {A Av : Option Addr} {ps : List (Fil × Value)} {f : Fil} {v6 : Value} {s : List UInt8} (hF0 : FilsAt w (.slice A ps.length cap) ps) (hR6 : Row w6 R 30 #[.slice A ps.length cap])
    (hown : Own w6 w.heap.size 37 3 v6 ((fils ps).take k ++ [[.int .i64 f.n, .int .i64 f.d, .slice Av f.l.length cv]] ++ (fils ps).drop k)) (hO : Own w6 w.heap.size 46 2 (.slice Av f.l.length cv) (pays f.l))
    (hV : ∀ p ∈ ps, filB p.1 = true) (hf : filB f = true)
    (hIN : AscF ((ps.map (·.1)).take k ++ f :: (ps.map (·.1)).drop k) ∧ (ps.map (·.1)).any (fun g => decide (g.n = f.n)) = false ∧ ((ps.map (·.1)).take k ++ f :: (ps.map (·.1)).drop k).Perm (ps.map (·.1) ++ [f]))
    (hB6 : Below w.heap.size w w6) (hRl : R < w.heap.size) (hS : subE (ps.map (·.1)) s = 0) (hF : subF (ps.map (·.1)) s = ps.map (·.1) ++ [f]) : SubR w R ps s (.returned (.int .i64 0)) (w6.setCell ⟨R, 0, none⟩ v6) := by
  have hg := grown_set w6 R 0 v6
  have hlow : ∀ {v : Value} {e sz : Nat} {es : List (List Value)}, Own w6 w.heap.size e sz v es → v.ownBlock = none ∨ v.ownBlock ≠ some R := fun {v _ _ _} h => by
    cases hv : v.ownBlock with
    | none => exact .inl rfl
    | some g =>
      refine .inr fun e => ?_
      have h1 := (h.1.lt g hv).1
      injection e; omega
  have hmap : (ps.take k ++ (f, Value.slice Av f.l.length cv) :: ps.drop k).map (·.1) = (ps.map (·.1)).take k ++ f :: (ps.map (·.1)).drop k := by
    simp [List.map_take, List.map_drop]
  refine ⟨ps.take k ++ (f, .slice Av f.l.length cv) :: ps.drop k, by rw [hS], ⟨⟨v6, hR6.set1 v6, ?_, fun p hp => ?_⟩, fun p hp => ?_, ?_⟩, ?_, gb_set (grownBy_of_below hB6) (.inl rfl) v6⟩
  · have := (hown.keepG hg (hlow hown)).sl (by omega)
    have e : fils (ps.take k ++ (f, Value.slice Av f.l.length cv) :: ps.drop k) = (fils ps).take k ++ [[.int .i64 f.n, .int .i64 f.d, .slice Av f.l.length cv]] ++ (fils ps).drop k := by
      simp [fils, List.map_take, List.map_drop, Fil.vals]
    rw [e]; exact this
  · rcases List.mem_append.1 hp with hp | hp
    · exact ((hF0.below hB6).pay p (List.mem_of_mem_take hp)).pay_far hg (noPay_row1 hR6)
    · rcases List.mem_cons.1 hp with rfl | hp
      · exact (hO.keepG hg (hlow hO)).sl (by omega)
      · exact ((hF0.below hB6).pay p (List.mem_of_mem_drop hp)).pay_far hg (noPay_row1 hR6)
  · rcases List.mem_append.1 hp with hp | hp
    · exact hV p (List.mem_of_mem_take hp)
    · rcases List.mem_cons.1 hp with rfl | hp
      · exact hf
      · exact hV p (List.mem_of_mem_drop hp)
  · rw [hmap]; exact hIN.1
  · rw [hmap, hF]; exact hIN.2.2
set_option maxRecDepth 100000 in
set_option maxHeartbeats 8000000 in
theorem refSubmit_any (R : Nat) (ps : List (Fil × Value)) (s : ByteArray) (w : World) (hR : RefS w R ps) (hl : ps.length ≤ 1000) (hs0 : s.size ≤ 1000000000) :
    Calls Tryz.prog 15 #[.pointer (some ⟨R, 0, none⟩), .string s] w (SubR w R ps s.data.toList) := by
  have HS : Hid (subE (ps.map (·.1)) s.data.toList = if decE s.data.toList = 0 then (if (ps.map (·.1)).any (fun f => decide (f.n = (decF s.data.toList).n)) then 8 else 0) else decE s.data.toList) := rfl
  have HF : Hid (subF (ps.map (·.1)) s.data.toList = if subE (ps.map (·.1)) s.data.toList = 0 then (ps.map (·.1)) ++ [decF s.data.toList] else (ps.map (·.1))) := rfl
  have HR := Lib.hid hR
  obtain ⟨⟨vR, hRr0, hRf0⟩, -, -⟩ := hR
  obtain ⟨A, cap, rfl, hc1, hc2, -, -⟩ := hRf0.sl
  rw [fils_len] at hc1 hRr0 hRf0
  unfold maxLen at hc2
  have HRR0 := Lib.hid hRr0
  have HRF0 := Lib.hid hRf0
  have hRlt := hRr0.lt
  clear hRr0 hRf0
  have HD := Lib.hid (refDecode_any s w hs0)
  obtain ⟨f, hf⟩ : ∃ f, decF s.data.toList = f := ⟨_, rfl⟩
  obtain ⟨er, her⟩ : ∃ er, decE s.data.toList = er := ⟨_, rfl⟩
  rw [hf, her] at HD
  rw [hf, her] at HS
  rw [hf] at HF
  have HFV : Hid (er = 0 → filB f = true) := fun h => by
    obtain ⟨_, g, _, hg, hgf⟩ := decE_ok.1 (her.trans h)
    rw [← hf, hgf]; exact hg
  clear hf her
  go_enter Tryz.func15, Tryz.ntmps15
  go_wp2_with fail
  refine HD.out.mono ?_
  rintro e w1 ⟨v, rfl, hown, hb1⟩
  have hvl : f.vals v = #[.int .i64 f.n, .int .i64 f.d, v] := rfl
  rw [hvl]
  clear hvl HD
  have hR1 := HR.out.below hb1
  obtain ⟨Av, cv, rfl⟩ := hown.form
  rw [pays_len] at hown ⊢
  have hs1 := hb1.size
  by_cases h0 : er = 0
  rotate_left
  · have hne : (er != 0) = true := by simpa using h0
    have HS2 : Hid (subE (ps.map (·.1)) s.data.toList = er) := by rw [Hid, HS.out, if_neg h0]
    have HF2 : Hid (subF (ps.map (·.1)) s.data.toList = ps.map (·.1)) := by rw [Hid, HF.out, HS2.out, if_neg h0]
    have HRN := Lib.hid (hR1.below ((Below.refl w1.heap.size w1).alloc (Nat.le_refl _) (.cells #[.int .i64 f.n, .int .i64 f.d, .slice Av f.l.length cv] 37)))
    have HG : Hid (w.grownBy (w1.alloc (.cells #[.int .i64 f.n, .int .i64 f.d, .slice Av f.l.length cv] 37)) (some R)) := grownBy_of_below (hb1.alloc hs1 _)
    clear h0 hR1 hown
    go_wp2
    go_ret
    exact ⟨ps, by rw [HS2.out]; rfl, HRN.out, by rw [HF2.out], HG.out⟩
  · subst h0
    have HFV2 := Lib.hid (HFV.out rfl)
    have hx := Row.new w1 37 #[.int .i64 f.n, .int .i64 f.d, .slice Av f.l.length cv]
    have hal := (Below.refl w1.heap.size w1).alloc (Nat.le_refl _) (.cells #[.int .i64 f.n, .int .i64 f.d, .slice Av f.l.length cv] 37)
    have hR2 := hR1.below hal
    have hb2 := below_after hb1 hal hs1
    have hO2 := Lib.hid (hown.kept hal)
    go_upto_block 0 with (fail)
    obtain ⟨w2, hw2⟩ : ∃ w2, w1.alloc (.cells #[.int .i64 f.n, .int .i64 f.d, .slice Av f.l.length cv] 37) = w2 := ⟨_, rfl⟩
    rw [hw2] at hx hal hR2 hb2 hO2 ⊢
    obtain ⟨b, hbb⟩ : ∃ b, w1.heap.size = b := ⟨_, rfl⟩
    rw [hbb] at hx ⊢
    have hbR : R ≠ b := by omega
    clear hw2 hR1 hown hal hbb HR HFV
    obtain ⟨-, hval, hasc⟩ := hR2
    have HV := Lib.hid hval
    have HASC := Lib.hid hasc
    have HRF := Lib.hid (HRF0.out.below hb2)
    have HRR := Lib.hid (HRR0.out.below hb2 hRlt)
    have hX := hx
    clear hval hasc hx
    go_cut [7] (fun x wx => ∃ k : Nat, k ≤ ps.length ∧ x = .int .i64 k ∧ Hid (∀ i (h : i < k) (h' : i < ps.length), (ps[i]).1.n < f.n) ∧ Hid (∀ h : k < ps.length, ¬ (ps[k]).1.n < f.n) ∧ Hid (Below w2.heap.size w2 wx))
    case first =>
      go_wp2_with fail
      go_loopw [7] (fun x wr => ∃ k : Nat, k ≤ ps.length ∧ x = .int .i64 k ∧ Hid (∀ i (h : i < k) (h' : i < ps.length), (ps[i]).1.n < f.n) ∧ Hid (Below w2.heap.size w2 wr)) (fun x _ => ps.length - (intOf x).toNat)
      case atStart => exact ⟨0, by omega, rfl, (fun i h => by omega), Below.refl _ _⟩
      case round =>
        obtain ⟨k, hk, rfl, HI, HB⟩ := hrel
        obtain ⟨wo, rfl⟩ : ∃ wo : World, wo = wr := ⟨_, rfl⟩
        have hbl := HB.out.size
        have c0 := (HRR.out.below HB.out HRR.out.lt).cell 0
        have cl := Nat.lt_of_lt_of_le HRR.out.lt hbl
        simp only [List.getElem?_toArray, List.getElem?_cons_zero] at c0
        obtain ⟨⟨d0, d1, d2, dl⟩, -⟩ := row3 (hX.below HB.out hX.lt)
        by_cases hlt : k < ps.length
        · obtain ⟨bk, off, rfl, hc⟩ := (HRF.out.below HB.out).sl.cells (by rw [fils_len]; omega)
          obtain ⟨k0, k1, k2⟩ := hc.fil hlt
          have i1 : (k : Int) < (ps.length : Int) := by omega
          have i2 : decide ((k : Int) < (ps.length : Int)) = true := decide_eq_true i1
          have i3 : decide (k < ps.length) = true := decide_eq_true hlt
          obtain ⟨x, hx⟩ : ∃ x, (ps[k]).1.n = x := ⟨_, rfl⟩
          have HX := Lib.hid hx
          rw [hx] at k0
          clear hx hc
          by_cases hxf : x < f.n
          · have j1 : decide (x < f.n) = true := decide_eq_true hxf
            have HI2 : Hid (∀ i (h : i < k + 1) (h' : i < ps.length), (ps[i]).1.n < f.n) := fun i hi hil => by
              by_cases e : i = k
              · subst e; rw [HX.out]; exact hxf
              · exact HI.out i (by omega) hil
            clear hxf
            go_wp2_with fail
            go_quiet (fail)
            go_wp2
            go_roundw
            case rel => exact ⟨k + 1, by omega, by go_num, HI2, Below.draws HB.out _⟩
            case measure => simp [intOf]; omega
          · have j1 : decide (x < f.n) = false := decide_eq_false hxf
            have HI3 : Hid (∀ h : k < ps.length, ¬ (ps[k]).1.n < f.n) := fun h => by rw [HX.out]; exact hxf
            go_wp2_with fail
            go_quiet (fail)
            go_wp2_with fail
            go_meet
            exact ⟨k, hk, rfl, HI, HI3, Below.draws HB.out _⟩
        · have i2 : decide ((k : Int) < (ps.length : Int)) = false := by simp; omega
          have i3 : decide (k < ps.length) = false := decide_eq_false hlt
          have HI3 : Hid (∀ h : k < ps.length, ¬ (ps[k]).1.n < f.n) := fun h => absurd h hlt
          go_wp2_with fail
          go_quiet (fail)
          go_wp2_with fail
          go_meet
          exact ⟨k, hk, rfl, HI, HI3, Below.draws HB.out _⟩
    case rest =>
      obtain ⟨k, hk, rfl, HI, HI3, HB⟩ := hcut
      obtain ⟨wo, hwo⟩ : ∃ wo : World, wo = wc := ⟨_, rfl⟩
      subst hwo
      obtain ⟨kn, hkn⟩ : ∃ kn : Bool, (match ps[k]? with | some p => p.1.n == f.n | none => false) = kn := ⟨_, rfl⟩
      go_upto_region 7 with (fail)
      go_cut [58] (fun c wx => c = .bool kn ∧ Below wo.heap.size wo wx)
      case first =>
        have hbl := HB.out.size
        have c0 := (HRR.out.below HB.out HRR.out.lt).cell 0
        have cl := Nat.lt_of_lt_of_le HRR.out.lt hbl
        simp only [List.getElem?_toArray, List.getElem?_cons_zero] at c0
        obtain ⟨⟨d0, d1, d2, dl⟩, -⟩ := row3 (hX.below HB.out hX.lt)
        by_cases hlt : k < ps.length
        · obtain ⟨bk, off, rfl, hc⟩ := (HRF.out.below HB.out).sl.cells (by rw [fils_len]; omega)
          obtain ⟨k0, k1, k2⟩ := hc.fil hlt
          have i1 : (k : Int) < (ps.length : Int) := by omega
          have i2 : decide ((k : Int) < (ps.length : Int)) = true := decide_eq_true i1
          have i3 : decide (k < ps.length) = true := decide_eq_true hlt
          rw [List.getElem?_eq_getElem hlt] at hkn
          simp only at hkn
          obtain ⟨x, hx⟩ : ∃ x, (ps[k]).1.n = x := ⟨_, rfl⟩
          rw [hx] at k0 hkn
          clear hx hc
          cases hxf : (x == f.n)
          · rw [hxf] at hkn
            subst hkn
            go_quiet (fail)
            go_wp2_with fail
            go_meet
            exact ⟨rfl, Below.draws (Below.refl _ _) _⟩
          · rw [hxf] at hkn
            subst hkn
            go_quiet (fail)
            go_wp2_with fail
            go_meet
            exact ⟨rfl, Below.draws (Below.refl _ _) _⟩
        · have i2 : decide ((k : Int) < (ps.length : Int)) = false := by simp; omega
          have i3 : decide (k < ps.length) = false := decide_eq_false hlt
          rw [List.getElem?_eq_none (by omega)] at hkn
          simp only at hkn
          subst hkn
          go_quiet (fail)
          go_wp2_with fail
          go_meet
          exact ⟨rfl, Below.draws (Below.refl _ _) _⟩
      case rest =>
        obtain ⟨rfl, hb3⟩ := hcut
        obtain ⟨w3, hw3⟩ : ∃ w3 : World, w3 = wc := ⟨_, rfl⟩
        subst hw3
        have hB3 : Below w2.heap.size w2 w3 := HB.out.trans (hb3.mono HB.out.size)
        have hbw := below_after hb2 hB3 hb2.size
        have hl23 := hB3.size
        have hw2 := hb2.size
        cases kn
        rotate_left
        · have HK : Hid ((ps.map (·.1)).any (fun g => decide (g.n = f.n)) = true) := by
            rw [Hid, List.any_eq_true]
            cases hp : ps[k]? with
            | none => rw [hp] at hkn; cases hkn
            | some p =>
              rw [hp] at hkn
              exact ⟨p.1, List.mem_map.2 ⟨p, List.mem_of_getElem? hp, rfl⟩, by simpa using hkn⟩
          have HS2 : Hid (subE (ps.map (·.1)) s.data.toList = 8) := by rw [Hid, HS.out, HK.out]; simp
          have HF2 : Hid (subF (ps.map (·.1)) s.data.toList = ps.map (·.1)) := by rw [Hid, HF.out, HS2.out, if_neg (by decide)]
          have HRN : Hid (RefS w3 R ps) := ⟨⟨_, HRR.out.below hB3 HRR.out.lt, HRF.out.below hB3⟩, HV.out, HASC.out⟩
          have HG : Hid (w.grownBy w3 (some R)) := grownBy_of_below hbw
          clear hkn
          go_wp2
          go_ret
          exact ⟨ps, by rw [HS2.out]; rfl, HRN.out, by rw [HF2.out], HG.out⟩
        · have HIN := Lib.hid (ins_asc (l := ps.map (·.1)) (f := f) (k := k) HASC.out (by simpa using hk) (fun i hi hil => by
            have := HI.out i hi (by simpa using hil)
            simpa using this) (fun h => by
            have h' : k < ps.length := by simpa using h
            have h1 := HI3.out h'
            rw [List.getElem?_eq_getElem h'] at hkn
            simp only [beq_eq_false_iff_ne, ne_eq] at hkn
            have e : ((ps.map (fun p : Fil × Value => p.1))[k]'h).n = (ps[k]).1.n := by simp
            rw [e]; omega))
          have HS2 : Hid (subE (ps.map (·.1)) s.data.toList = 0) := by rw [Hid, HS.out, HIN.out.2.1]; simp
          have HF2 : Hid (subF (ps.map (·.1)) s.data.toList = ps.map (·.1) ++ [f]) := by rw [Hid, HF.out, HS2.out, if_pos rfl]
          clear hkn HI HI3
          have HLK : Hid (((fils ps).take k).length = k) := by rw [Hid, List.length_take, fils_len]; omega
          have HLD : Hid (((fils ps).drop k).length = ps.length - k) := by rw [Hid, List.length_drop, fils_len]
          have HWI := Lib.hid HRF0.out.wide
          have HW1 : Hid (Wide 3 ((fils ps).take k)) := fun z hz => HWI.out z (List.mem_of_mem_take hz)
          have HW2 : Hid (Wide 3 ((fils ps).drop k)) := fun z hz => HWI.out z (List.mem_of_mem_drop hz)
          have HW3 : Hid (Wide 3 [[.int .i64 f.n, .int .i64 f.d, .slice Av f.l.length cv]]) := fun x hx => by
            obtain rfl := List.mem_singleton.1 hx
            exact ⟨rfl, by simp [Value.oneCell']⟩
          have hX3 := hX.below hB3 hX.lt
          have hO3 := Lib.hid (hO2.out.kept hB3)
          have HHD := Lib.hid ((HRF0.out.below hbw).sl.head k (by omega))
          have HTL : Hid (∀ wx, Below w.heap.size w wx → Sl wx 3 (.slice (if cap = k then A else A.map (·.add (k * 3))) (ps.length - k) (cap - k)) ((fils ps).drop k)) := fun wx hb => (HRF0.out.below hb).sl.from k (by omega)
          have c0 := (HRR0.out.below hbw hRlt).cell 0
          have cl := Nat.lt_of_lt_of_le hRlt hbw.size
          simp only [List.getElem?_toArray, List.getElem?_cons_zero] at c0
          obtain ⟨⟨d0, d1, d2, dl⟩, -⟩ := row3 hX3
          clear hX3
          by_cases hc0 : cap = 0
          · obtain rfl : k = 0 := by omega
            have hpl : ps.length = 0 := by omega
            have HPL := Lib.hid hpl
            subst hc0
            rw [if_pos rfl] at HTL
            rw [hpl] at c0 HTL
            clear hpl
            go_wp2_with (first
              | (at_builtin; (refine wpList_append_sl rfl (.tmp 59) (.tmp 65) rfl rowFil w.heap.size _ _ [] ((fils ps).take 0) rfl (Own.nil _ _ _ _) rfl (by have hq := HHD.out; first | exact hq | simpa using hq) HW1.out (by rw [HLK.out]; unfold maxLen; simp <;> omega) (by rw [HLK.out]; simp <;> omega) (by omega) ?_); intro v4 w4 hown4 hg4 hv4; have hb4 : Below w3.heap.size w3 w4 := grown_none hg4; have hs4 := hb4.size; rw [List.nil_append] at hown4; have e0 := (hb4.cell (p := ⟨b, 0, none⟩) dl).trans d0; have e1 := (hb4.cell (p := ⟨b, 1, none⟩) dl).trans d1; have e2 := (hb4.cell (p := ⟨b, 2, none⟩) dl).trans d2; have dl4 := Nat.lt_of_lt_of_le dl hs4; have hv4' : v4.ownBlock = none ∨ v4.ownBlock = some w3.heap.size := hv4; have HL4 : Hid (∀ g, v4.ownBlock = some g → w3.heap.size ≤ g) := own_low hv4'; have HO4 := Lib.hid (hO3.out.kept hb4); have hB4 := below_after hbw hb4 hbw.size; clear hg4 hv4 hv4' d0 d1 d2 hb4)
              | (at_builtin; (refine wpList_append_sl rfl (.tmp 67) (.tmp 69) rfl rowFil w.heap.size _ _ ((fils ps).take 0) [[.int .i64 f.n, .int .i64 f.d, .slice Av f.l.length cv]] rfl (hown4.alloc _) rfl (Sl.one rfl rfl) HW3.out (by rw [HLK.out]; unfold maxLen; simp <;> omega) (by rw [HLK.out]; simp <;> omega) (by simp; omega) ?_); intro v5 w5 hown5 hg5 hv5; have hB5 : Below w.heap.size w w5 := (hB4.alloc hB4.size _).grown hg5 (by simp; omega) (fun g hg => by have := HL4.out g hg; omega); have HO5 := Lib.hid ((HO4.out.alloc _).keepG hg5 (apart_ge hO3.out HL4.out)); have hv5' : v5.ownBlock = v4.ownBlock ∨ v5.ownBlock = some (w4.alloc (.cells #[.int .i64 f.n, .int .i64 f.d, .slice Av f.l.length cv] 37)).heap.size := hv5; have HL5 : Hid (∀ g, v5.ownBlock = some g → w3.heap.size ≤ g) := own_low2 hv5' HL4.out (by simp only [World.size_alloc]; omega); have e5 := (HRR0.out.below hB5 hRlt).cell 0; have l5 := Nat.lt_of_lt_of_le hRlt hB5.size; simp only [List.getElem?_toArray, List.getElem?_cons_zero] at e5; rw [HPL.out] at e5; clear hg5 hv5 hv5' e0 e1 e2 dl4)
              | (at_builtin; (refine wpList_append_sl rfl (.tmp 72) (.tmp 78) rfl rowFil w.heap.size _ _ ((fils ps).take 0 ++ [[Value.int .i64 f.n, Value.int .i64 f.d, Value.slice Av f.l.length cv]]) ((fils ps).drop 0) rfl hown5 rfl (by have hq := HTL.out _ hB5; first | exact hq | simpa using hq) HW2.out (by rw [HLD.out, List.length_append, HLK.out]; unfold maxLen; simp <;> omega) (by rw [HLD.out, List.length_append, HLK.out]; simp <;> omega) hB5.size ?_); intro v6 w6 hown6 hg6 hv6; obtain ⟨A7, n7, c7, rfl⟩ := hown6.slc; have hB6 : Below w.heap.size w w6 := hB5.grown hg6 hB5.size (fun g hg => by have := HL5.out g hg; omega); have HO6 := Lib.hid (HO5.out.keepG hg6 (apart_ge hO3.out HL5.out)); have HR6 := Lib.hid (HRR0.out.below hB6 hRlt); have HO6S := Lib.hid hown6; have y2 := HR6.out.cell 0; have y3 := HR6.out.frozen 0; have y4 := HR6.out.lt; simp only [List.getElem?_toArray, List.getElem?_cons_zero] at y2; clear hown6 hg6 hv6))
            go_ret
            exact sub_fin HRF0.out HR6.out HO6S.out HO6.out HV.out HFV2.out HIN.out hB6 hRlt HS2.out HF2.out
          by_cases hc : cap = k
          · have hkl : k = ps.length := by omega
            subst hc
            have hz : ps.length - cap = 0 := by omega
            rw [if_pos rfl, Nat.sub_self, hz] at HTL
            clear hkl hz
            go_wp2_with (first
              | (at_builtin; (refine wpList_append_sl rfl (.tmp 59) (.tmp 65) rfl rowFil w.heap.size _ _ [] ((fils ps).take cap) rfl (Own.nil _ _ _ _) rfl (by have hq := HHD.out; first | exact hq | simpa using hq) HW1.out (by rw [HLK.out]; unfold maxLen; simp <;> omega) (by rw [HLK.out]; simp <;> omega) (by omega) ?_); intro v4 w4 hown4 hg4 hv4; have hb4 : Below w3.heap.size w3 w4 := grown_none hg4; have hs4 := hb4.size; rw [List.nil_append] at hown4; have e0 := (hb4.cell (p := ⟨b, 0, none⟩) dl).trans d0; have e1 := (hb4.cell (p := ⟨b, 1, none⟩) dl).trans d1; have e2 := (hb4.cell (p := ⟨b, 2, none⟩) dl).trans d2; have dl4 := Nat.lt_of_lt_of_le dl hs4; have hv4' : v4.ownBlock = none ∨ v4.ownBlock = some w3.heap.size := hv4; have HL4 : Hid (∀ g, v4.ownBlock = some g → w3.heap.size ≤ g) := own_low hv4'; have HO4 := Lib.hid (hO3.out.kept hb4); have hB4 := below_after hbw hb4 hbw.size; clear hg4 hv4 hv4' d0 d1 d2 hb4)
              | (at_builtin; (refine wpList_append_sl rfl (.tmp 67) (.tmp 69) rfl rowFil w.heap.size _ _ ((fils ps).take cap) [[.int .i64 f.n, .int .i64 f.d, .slice Av f.l.length cv]] rfl (hown4.alloc _) rfl (Sl.one rfl rfl) HW3.out (by rw [HLK.out]; unfold maxLen; simp <;> omega) (by rw [HLK.out]; simp <;> omega) (by simp; omega) ?_); intro v5 w5 hown5 hg5 hv5; have hB5 : Below w.heap.size w w5 := (hB4.alloc hB4.size _).grown hg5 (by simp; omega) (fun g hg => by have := HL4.out g hg; omega); have HO5 := Lib.hid ((HO4.out.alloc _).keepG hg5 (apart_ge hO3.out HL4.out)); have hv5' : v5.ownBlock = v4.ownBlock ∨ v5.ownBlock = some (w4.alloc (.cells #[.int .i64 f.n, .int .i64 f.d, .slice Av f.l.length cv] 37)).heap.size := hv5; have HL5 : Hid (∀ g, v5.ownBlock = some g → w3.heap.size ≤ g) := own_low2 hv5' HL4.out (by simp only [World.size_alloc]; omega); have e5 := (HRR0.out.below hB5 hRlt).cell 0; have l5 := Nat.lt_of_lt_of_le hRlt hB5.size; simp only [List.getElem?_toArray, List.getElem?_cons_zero] at e5; clear hg5 hv5 hv5' e0 e1 e2 dl4)
              | (at_builtin; (refine wpList_append_sl rfl (.tmp 72) (.tmp 78) rfl rowFil w.heap.size _ _ ((fils ps).take cap ++ [[Value.int .i64 f.n, Value.int .i64 f.d, Value.slice Av f.l.length cv]]) ((fils ps).drop cap) rfl hown5 rfl (by have hq := HTL.out _ hB5; first | exact hq | simpa using hq) HW2.out (by rw [HLD.out, List.length_append, HLK.out]; unfold maxLen; simp <;> omega) (by rw [HLD.out, List.length_append, HLK.out]; simp <;> omega) hB5.size ?_); intro v6 w6 hown6 hg6 hv6; obtain ⟨A7, n7, c7, rfl⟩ := hown6.slc; have hB6 : Below w.heap.size w w6 := hB5.grown hg6 hB5.size (fun g hg => by have := HL5.out g hg; omega); have HO6 := Lib.hid (HO5.out.keepG hg6 (apart_ge hO3.out HL5.out)); have HR6 := Lib.hid (HRR0.out.below hB6 hRlt); have HO6S := Lib.hid hown6; have y2 := HR6.out.cell 0; have y3 := HR6.out.frozen 0; have y4 := HR6.out.lt; simp only [List.getElem?_toArray, List.getElem?_cons_zero] at y2; clear hown6 hg6 hv6))
            go_ret
            exact sub_fin HRF0.out HR6.out HO6S.out HO6.out HV.out HFV2.out HIN.out hB6 hRlt HS2.out HF2.out
          · rw [if_neg hc] at HTL
            go_wp2_with (first
              | (at_builtin; (refine wpList_append_sl rfl (.tmp 59) (.tmp 65) rfl rowFil w.heap.size _ _ [] ((fils ps).take k) rfl (Own.nil _ _ _ _) rfl (by have hq := HHD.out; first | exact hq | simpa using hq) HW1.out (by rw [HLK.out]; unfold maxLen; simp <;> omega) (by rw [HLK.out]; simp <;> omega) (by omega) ?_); intro v4 w4 hown4 hg4 hv4; have hb4 : Below w3.heap.size w3 w4 := grown_none hg4; have hs4 := hb4.size; rw [List.nil_append] at hown4; have e0 := (hb4.cell (p := ⟨b, 0, none⟩) dl).trans d0; have e1 := (hb4.cell (p := ⟨b, 1, none⟩) dl).trans d1; have e2 := (hb4.cell (p := ⟨b, 2, none⟩) dl).trans d2; have dl4 := Nat.lt_of_lt_of_le dl hs4; have hv4' : v4.ownBlock = none ∨ v4.ownBlock = some w3.heap.size := hv4; have HL4 : Hid (∀ g, v4.ownBlock = some g → w3.heap.size ≤ g) := own_low hv4'; have HO4 := Lib.hid (hO3.out.kept hb4); have hB4 := below_after hbw hb4 hbw.size; clear hg4 hv4 hv4' d0 d1 d2 hb4)
              | (at_builtin; (refine wpList_append_sl rfl (.tmp 67) (.tmp 69) rfl rowFil w.heap.size _ _ ((fils ps).take k) [[.int .i64 f.n, .int .i64 f.d, .slice Av f.l.length cv]] rfl (hown4.alloc _) rfl (Sl.one rfl rfl) HW3.out (by rw [HLK.out]; unfold maxLen; simp <;> omega) (by rw [HLK.out]; simp <;> omega) (by simp; omega) ?_); intro v5 w5 hown5 hg5 hv5; have hB5 : Below w.heap.size w w5 := (hB4.alloc hB4.size _).grown hg5 (by simp; omega) (fun g hg => by have := HL4.out g hg; omega); have HO5 := Lib.hid ((HO4.out.alloc _).keepG hg5 (apart_ge hO3.out HL4.out)); have hv5' : v5.ownBlock = v4.ownBlock ∨ v5.ownBlock = some (w4.alloc (.cells #[.int .i64 f.n, .int .i64 f.d, .slice Av f.l.length cv] 37)).heap.size := hv5; have HL5 : Hid (∀ g, v5.ownBlock = some g → w3.heap.size ≤ g) := own_low2 hv5' HL4.out (by simp only [World.size_alloc]; omega); have e5 := (HRR0.out.below hB5 hRlt).cell 0; have l5 := Nat.lt_of_lt_of_le hRlt hB5.size; simp only [List.getElem?_toArray, List.getElem?_cons_zero] at e5; clear hg5 hv5 hv5' e0 e1 e2 dl4)
              | (at_builtin; (refine wpList_append_sl rfl (.tmp 72) (.tmp 78) rfl rowFil w.heap.size _ _ ((fils ps).take k ++ [[Value.int .i64 f.n, Value.int .i64 f.d, Value.slice Av f.l.length cv]]) ((fils ps).drop k) rfl hown5 rfl (by have hq := HTL.out _ hB5; first | exact hq | simpa using hq) HW2.out (by rw [HLD.out, List.length_append, HLK.out]; unfold maxLen; simp <;> omega) (by rw [HLD.out, List.length_append, HLK.out]; simp <;> omega) hB5.size ?_); intro v6 w6 hown6 hg6 hv6; obtain ⟨A7, n7, c7, rfl⟩ := hown6.slc; have hB6 : Below w.heap.size w w6 := hB5.grown hg6 hB5.size (fun g hg => by have := HL5.out g hg; omega); have HO6 := Lib.hid (HO5.out.keepG hg6 (apart_ge hO3.out HL5.out)); have HR6 := Lib.hid (HRR0.out.below hB6 hRlt); have HO6S := Lib.hid hown6; have y2 := HR6.out.cell 0; have y3 := HR6.out.frozen 0; have y4 := HR6.out.lt; simp only [List.getElem?_toArray, List.getElem?_cons_zero] at y2; clear hown6 hg6 hv6))
            go_ret
            exact sub_fin HRF0.out HR6.out HO6S.out HO6.out HV.out HFV2.out HIN.out hB6 hRlt HS2.out HF2.out
end Go.Proofs.YtlchcfkngjbdjaaGreatDoor
/- ref42.Bank.Paid, ref42.SameList; agree. -/
namespace Go.Proofs.YtlchcfkngjbdjaaGreatDoor
open Go.RowKit Go.Shelf

def payR (k : Int) (l : List Pay) : Int := ((l.filter fun p => decide (k = 0 ∨ p.e = k)).map (·.a)).sum
def paidR (k : Int) (fs : List Fil) : Int := (fs.map fun f => payR k f.l).sum
theorem payR_zero (l : List Pay) : payR 0 l = sumA l := by
  unfold payR sumA
  rw [List.filter_eq_self.2 (by simp)]
theorem payR_some {k : Int} (h : k ≠ 0) (l : List Pay) : payR k l = payOf k l := by
  unfold payR payOf
  have : (fun p : Pay => decide (k = 0 ∨ p.e = k)) = fun p => decide (p.e = k) := by funext p; simp [h]
  rw [this]
theorem paidR_zero (fs : List Fil) : paidR 0 fs = totB fs := by
  unfold paidR totB; simp only [payR_zero]
theorem paidR_some {k : Int} (h : k ≠ 0) (fs : List Fil) : paidR k fs = paidB k fs := by
  unfold paidR paidB; simp [payR_some h]
theorem totB_perm {a b : List Fil} (h : a.Perm b) : totB a = totB b := sum_perm (h.map _)
theorem paidB_perm {k : Int} {a b : List Fil} (h : a.Perm b) : paidB k a = paidB k b := sum_perm (h.map _)
theorem payR_snoc {k : Int} {l : List Pay} {j : Nat} (h : j < l.length) : payR k (l.take (j + 1)) = payR k (l.take j) + (if k = 0 ∨ (l[j]).e = k then (l[j]).a else 0) := by
  unfold payR
  rw [List.take_succ_eq_append_getElem h, List.filter_append, List.map_append, List.sum_append]
  by_cases hk : k = 0 ∨ (l[j]).e = k
  · simp [hk]
  · simp [hk]
theorem payR_bounds {k : Int} : ∀ {l : List Pay}, (∀ p ∈ l, payV p) → 0 ≤ payR k l ∧ payR k l ≤ l.length * 1000000000000
  | [], _ => by simp [payR]
  | p :: r, h => by
    have ih := payR_bounds (k := k) (l := r) fun q hq => h q (by simp [hq])
    have hp := h p (by simp)
    unfold payV at hp
    unfold payR at ih ⊢
    by_cases hk : k = 0 ∨ p.e = k
    · simp only [List.filter_cons, hk, decide_true, if_true, List.map_cons, List.sum_cons, List.length_cons]; omega
    · simp only [List.filter_cons, hk, decide_false, Bool.false_eq_true, if_false, List.length_cons]; omega
theorem paidR_snoc {k : Int} {ps : List (Fil × Value)} {j : Nat} (h : j < ps.length) : paidR k ((ps.take (j + 1)).map (·.1)) = paidR k ((ps.take j).map (·.1)) + payR k (ps[j]).1.l := by
  unfold paidR
  rw [List.take_succ_eq_append_getElem h, List.map_append, List.map_append, List.sum_append]
  simp only [List.map_cons, List.map_nil, List.sum_cons, List.sum_nil, Int.add_zero]
theorem paidR_bounds {k : Int} : ∀ {fs : List Fil}, (∀ f ∈ fs, filB f = true) → 0 ≤ paidR k fs ∧ paidR k fs ≤ fs.length * 4096000000000000
  | [], _ => by simp [paidR]
  | f :: r, h => by
    have ih := paidR_bounds (k := k) (fs := r) fun q hq => h q (by simp [hq])
    have hf := filB_of (h f (by simp))
    have hp := payR_bounds (k := k) hf.2.2.2.2.2.1
    simp only [paidR, List.map_cons, List.sum_cons, List.length_cons] at ih ⊢
    omega
set_option maxRecDepth 100000 in
set_option maxHeartbeats 4000000 in
theorem refPaid_any (R : Nat) (ps : List (Fil × Value)) (k : Int) (w : World) (hR : RefS w R ps) (hl : ps.length ≤ 1000) :
    Calls Tryz.prog 31 #[.pointer (some ⟨R, 0, none⟩), .int .i64 k] w fun e w' => e = .returned (.int .i64 (paidR k (ps.map (·.1)))) ∧ Below w.heap.size w w' := by
  obtain ⟨⟨v, hRr, hRf⟩, hval, -⟩ := hR
  obtain ⟨A, cap, rfl, -⟩ := hRf.sl
  rw [fils_len] at hRr hRf
  have HRR := Lib.hid hRr
  have HRF := Lib.hid hRf
  have HV := Lib.hid hval
  clear hRr hRf hval
  go_enter Tryz.func31, Tryz.ntmps31
  go_wp2_with fail
  go_loopw [5, 6] (fun t i wr => ∃ j : Nat, j ≤ ps.length ∧ i = .int .i64 j ∧ t = .int .i64 (paidR k ((ps.take j).map (·.1))) ∧ Hid (Below w.heap.size w wr)) (fun _ i _ => ps.length - (intOf i).toNat)
  case atStart => exact ⟨0, by omega, rfl, rfl, Below.refl _ _⟩
  case round =>
    obtain ⟨j, hj, rfl, rfl, HB⟩ := hrel
    obtain ⟨wo, rfl⟩ : ∃ wo : World, wo = wr := ⟨_, rfl⟩
    have c0 := (HRR.out.below HB.out HRR.out.lt).cell 0
    have cl := Nat.lt_of_lt_of_le HRR.out.lt HB.out.size
    simp only [List.getElem?_toArray, List.getElem?_cons_zero] at c0
    by_cases hlt : j < ps.length
    · have HRF1 := Lib.hid (HRF.out.below HB.out)
      obtain ⟨bk, off, rfl, hc⟩ := HRF1.out.sl.cells (by rw [fils_len]; omega)
      obtain ⟨k0, k1, k2⟩ := hc.fil hlt
      have i1 : (j : Int) < (ps.length : Int) := by omega
      have hsn := paidR_snoc (k := k) hlt
      have hmem := List.getElem_mem hlt
      have hfv := filB_of (HV.out _ hmem)
      have hsl := HRF1.out.pay _ hmem
      have hbd := paidR_bounds (k := k) (fs := (ps.take j).map (·.1)) (fun f hf => by
        obtain ⟨p, hp, rfl⟩ := List.mem_map.1 hf
        exact HV.out p (List.mem_of_mem_take hp))
      rw [List.length_map, List.length_take, Nat.min_eq_left hj] at hbd
      obtain ⟨p, hp⟩ : ∃ p, ps[j] = p := ⟨_, rfl⟩
      rw [hp] at k0 k1 k2 hsn hfv hsl
      obtain ⟨f, u⟩ := p
      simp only at k0 k1 k2 hsn hfv hsl
      obtain ⟨Au, cu, rfl⟩ : ∃ A c, u = .slice A f.l.length c := by
        obtain ⟨A, c, h, _⟩ := hsl
        rw [pays_len] at h; exact ⟨A, c, h⟩
      have HSN := Lib.hid hsn
      have HSL := Lib.hid hsl
      have hbk := hc.1
      have hl4 := hfv.2.2.2.2.1
      have HPV := Lib.hid hfv.2.2.2.2.2.1
      obtain ⟨sm, hsm⟩ : ∃ sm, paidR k ((ps.take j).map (·.1)) = sm := ⟨_, rfl⟩
      rw [hsm] at HSN hbd ⊢
      clear hc hsn hmem hfv hsl hp hsm
      go_wp2_with fail
      go_loopw [5, 7] (fun t i wr => ∃ q : Nat, q ≤ f.l.length ∧ i = .int .i64 q ∧ t = .int .i64 (sm + payR k (f.l.take q)) ∧ Hid (Below wo.heap.size wo wr)) (fun _ i _ => f.l.length - (intOf i).toNat)
      case atStart => exact ⟨0, by omega, rfl, by simp [payR], Below.refl _ _⟩
      case round =>
        obtain ⟨q, hq, rfl, rfl, HBW⟩ := hrel
        obtain ⟨wi, rfl⟩ : ∃ wi : World, wi = wr := ⟨_, rfl⟩
        have hbi := HBW.out.size
        have d0 := (HBW.out.cell (p := ⟨R, 0, none⟩) cl).trans c0
        have d2 := (HBW.out.cell (p := ⟨bk, off + j * 3 + 2, none⟩) hbk).trans k2
        have dl := Nat.lt_of_lt_of_le cl hbi
        have hpb := payR_bounds (k := k) (l := f.l.take q) fun p hp => HPV.out p (List.mem_of_mem_take hp)
        rw [List.length_take, Nat.min_eq_left hq] at hpb
        by_cases hql : q < f.l.length
        · obtain ⟨b2, o2, rfl, hc⟩ := (HSL.out.below HBW.out).cells (by rw [pays_len]; omega)
          obtain ⟨e0, e1⟩ := hc.pay hql
          have i2 : (q : Int) < (f.l.length : Int) := by omega
          have HPS := Lib.hid (payR_snoc (k := k) hql)
          have hpj := HPV.out _ (List.getElem_mem hql)
          unfold payV at hpj
          obtain ⟨x, hx⟩ : ∃ x, f.l[q] = x := ⟨_, rfl⟩
          rw [hx] at e0 e1 HPS hpj
          clear hx hc c0 k0 k1 k2
          have HB3 : Hid (Below wo.heap.size wo (wi.alloc (.cells #[.int .i64 x.e, .int .i64 x.a] 46))) := HBW.out.alloc hbi _
          obtain ⟨pp, hpp⟩ : ∃ pp, payR k (f.l.take q) = pp := ⟨_, rfl⟩
          rw [hpp] at HPS hpb ⊢
          clear hpp
          cases hk0 : (k == 0)
          · have hkn : ¬ k = 0 := by simpa using hk0
            cases hxk : (x.e == k)
            · have HPS2 : Hid (payR k (f.l.take (q + 1)) = pp) := by rw [Hid, HPS.out, if_neg (by rintro (h | h); exact hkn h; rw [h] at hxk; simp at hxk)]; omega
              clear hkn
              go_wp2
              go_roundw
              case rel => exact ⟨q + 1, by omega, by go_num, by rw [HPS2.out], HB3⟩
              case measure => simp [intOf]; omega
            · have HPS2 : Hid (payR k (f.l.take (q + 1)) = pp + x.a) := by rw [Hid, HPS.out, if_pos (.inr (by simpa using hxk))]
              clear hkn
              go_wp2
              go_roundw
              case rel => exact ⟨q + 1, by omega, by go_num, by rw [HPS2.out]; congr 1; omega, HB3⟩
              case measure => simp [intOf]; omega
          · have HPS2 : Hid (payR k (f.l.take (q + 1)) = pp + x.a) := by rw [Hid, HPS.out, if_pos (.inl (by simpa using hk0))]
            go_wp2
            go_roundw
            case rel => exact ⟨q + 1, by omega, by go_num, by rw [HPS2.out]; congr 1; omega, HB3⟩
            case measure => simp [intOf]; omega
        · obtain rfl : q = f.l.length := by omega
          rw [List.take_length]
          have HE2 := Lib.hid (below_after HB.out HBW.out HB.out.size)
          clear c0 k0 k1 k2
          go_wp2
          go_roundw
          case rel => exact ⟨j + 1, by omega, by go_num, by rw [HSN.out], HE2⟩
          case measure => simp [intOf]; omega
    · obtain rfl : j = ps.length := by omega
      rw [List.take_length]
      go_wp2
      go_ret
      exact ⟨rfl, HB.out⟩
set_option maxRecDepth 100000 in
set_option maxHeartbeats 2000000 in
theorem SameList_yes (va vb : Value) (xs ys : List (Fil × Value)) (w : World) (ha : FilsAt w va xs) (hb : FilsAt w vb ys) (he : xs.map (·.1) = ys.map (·.1)) (hl : xs.length ≤ 1000) (hv : ∀ p ∈ ys, filB p.1 = true) :
    Calls Tryz.prog 21 #[va, vb] w (SameP w true) := by
  have hll : xs.length = ys.length := by have := congrArg List.length he; simpa using this
  have HA := Lib.hid ha
  have HB := Lib.hid hb
  have HE := Lib.hid he
  have HV := Lib.hid hv
  obtain ⟨A1, c1, rfl, -⟩ := ha.sl
  obtain ⟨A2, c2, rfl, -⟩ := hb.sl
  rw [fils_len] at HA HB ⊢
  rw [fils_len]
  have hne : ((xs.length : Int) != (ys.length : Int)) = false := by simp; omega
  have hl1 : xs.length ≤ ys.length := by omega
  have hl2 : ys.length ≤ xs.length := by omega
  clear ha hb he hv hll
  go_enter Tryz.func21, Tryz.ntmps21
  go_wp2_with fail
  clear hne
  go_loopw [5] (fun i wr => ∃ j : Nat, j ≤ xs.length ∧ i = .int .i64 j ∧ Hid (Below w.heap.size w wr)) (fun i _ => xs.length - (intOf i).toNat)
  case atStart => exact ⟨0, by omega, rfl, Below.refl _ _⟩
  case round =>
    obtain ⟨j, hj, rfl, HBL⟩ := hrel
    obtain ⟨wo, rfl⟩ : ∃ wo : World, wo = wr := ⟨_, rfl⟩
    by_cases hlt : j < xs.length
    · have hlt' : j < ys.length := by omega
      have HA1 := Lib.hid (HA.out.below HBL.out)
      have HB1 := Lib.hid (HB.out.below HBL.out)
      obtain ⟨p, po, rfl, hp⟩ := HA1.out.sl.cells (by rw [fils_len]; omega)
      obtain ⟨q, qo, rfl, hq⟩ := HB1.out.sl.cells (by rw [fils_len]; omega)
      obtain ⟨p0, p1, p2⟩ := hp.fil hlt
      obtain ⟨q0, q1, q2⟩ := hq.fil hlt'
      have i1 : (j : Int) < (xs.length : Int) := by omega
      have i2 : (j : Int) < (ys.length : Int) := by omega
      have hfe : (xs[j]).1 = (ys[j]).1 := by
        have h1 : (xs.map (·.1))[j]? = some (xs[j]).1 := by simp [hlt]
        rw [HE.out] at h1
        simp [hlt'] at h1
        exact h1.symm
      have hs1 := HA1.out.pay _ (List.getElem_mem hlt)
      have hs2 := HB1.out.pay _ (List.getElem_mem hlt')
      have hfv := filB_of (HV.out _ (List.getElem_mem hlt'))
      obtain ⟨x, hx⟩ : ∃ x, xs[j] = x := ⟨_, rfl⟩
      obtain ⟨y, hy⟩ : ∃ y, ys[j] = y := ⟨_, rfl⟩
      rw [hx] at p0 p1 p2 hs1 hfe
      rw [hy] at q0 q1 q2 hs2 hfe hfv
      obtain ⟨f, u1⟩ := x
      obtain ⟨g, u2⟩ := y
      simp only at p0 p1 p2 q0 q1 q2 hs1 hs2 hfe hfv
      subst hfe
      have hpl := hp.1
      have hql := hq.1
      have HC : Hid (∀ y : Ext wo, Calls Tryz.prog 36 #[.agg #[.int .i64 f.n, .int .i64 f.d, u1], .agg #[.int .i64 f.n, .int .i64 f.d, u2]] y.val fun e w' => e = .returned (.bool true) ∧ Below y.val.heap.size y.val w') := fun y => by
        have := Same_any f f u1 u2 y.val (hs1.below y.property) (hs2.below y.property) hfv.2.2.2.2.1 hfv.2.2.2.2.1
        rw [decide_eq_true (rfl : f = f)] at this
        exact this
      have g0 := ext_cell hpl p0
      have g1 := ext_cell hpl p1
      have g2 := ext_cell hpl p2
      have k0 := ext_cell hql q0
      have k1 := ext_cell hql q1
      have k2 := ext_cell hql q2
      clear hp hq hx hy hs1 hs2 hfv p0 p1 p2 q0 q1 q2
      go_wp2_with fail
      refine region_ext (by kernel_rfl) (by kernel_rfl) ?_
      repeat (go_big_quiet_step ((go_at_call 36; exact ext_call (HC.out _))))
      refine wpQuiet_nil ?_
      rintro _ ⟨y, rfl⟩
      have HB9 := Lib.hid (below_after HBL.out y.property HBL.out.size)
      go_wp2
      go_roundw
      case rel => exact ⟨j + 1, by omega, by go_num, HB9⟩
      case measure => simp [intOf]; omega
    · obtain rfl : j = xs.length := by omega
      go_wp2
      go_ret
      exact ⟨rfl, HBL.out⟩
end Go.Proofs.YtlchcfkngjbdjaaGreatDoor
/- agree: a bank in the state of the reference. -/
namespace Go.Proofs.YtlchcfkngjbdjaaGreatDoor
open Go.RowKit Go.Shelf

def Lies (w w' : World) : Prop := Below w.heap.size w w'
theorem Lies.next {w w' w'' : World} (h : Lies w w') (hb : Below w'.heap.size w' w'') : Lies w w'' := Below.trans h (hb.mono (Below.size h))
theorem Lies.cell {w w' : World} {a : Addr} {v : Value} (h : Lies w w') (hb : a.block < w.heap.size) (hc : w.cell? a = some v) : w'.cell? a = some v := (Below.cell h hb).trans hc
theorem keep1 {w w' : World} {a : Addr} {x : Value} (h1 : w.cell? a = some x) (g1 : a.block < w.heap.size) (h : Lies w w') : w'.cell? a = some x ∧ Lies w w' := ⟨h.cell g1 h1, h⟩
/-- a bank and the reference's bank have the same files -/
structure AgrS (w : World) (B M R : Nat) (es ps : List (Fil × Value)) : Prop where
  bank : BankS w B M es
  ref : RefS w R ps
  perm : (es.map (·.1)).Perm (ps.map (·.1))
theorem AgrS.below {w w' : World} {B M R : Nat} {es ps : List (Fil × Value)} (h : AgrS w B M R es ps) (hb : Below w.heap.size w w') : AgrS w' B M R es ps := ⟨h.bank.below hb, h.ref.below hb, h.perm⟩
theorem AgrS.nd {w : World} {B M R : Nat} {es ps : List (Fil × Value)} (h : AgrS w B M R es ps) : NdF (es.map (·.1)) := ndF_perm (ascF_nd h.ref.asc) h.perm.symm
theorem AgrS.srt {w : World} {B M R : Nat} {es ps : List (Fil × Value)} (h : AgrS w B M R es ps) : srtF (es.map (·.1)) = ps.map (·.1) := ascF_unique (srtF_asc _) h.ref.asc ((srtF_perm h.nd).trans h.perm)
theorem AgrS.len {w : World} {B M R : Nat} {es ps : List (Fil × Value)} (h : AgrS w B M R es ps) : ps.length = es.length := by
  have := h.perm.length_eq
  simpa using this.symm
set_option maxRecDepth 100000 in
set_option maxHeartbeats 4000000 in
theorem agree_any (B M R : Nat) (es ps : List (Fil × Value)) (w : World) (h : AgrS w B M R es ps) (hl : es.length ≤ 1000) :
    Calls Tryz.prog 16 #[.pointer (some ⟨B, 0, none⟩), .pointer (some ⟨R, 0, none⟩)] w (SameP w true) := by
  have HA := Lib.hid h
  have hpl : ps.length ≤ 1000 := by rw [h.len]; exact hl
  obtain ⟨T, hT⟩ : ∃ T, totB (es.map (·.1)) = T := ⟨_, rfl⟩
  have HT := Lib.hid hT
  have HT2 : Hid (paidR 0 (ps.map (·.1)) = T) := by rw [Hid, paidR_zero, ← totB_perm h.perm, hT]
  have HC1 : Hid (∀ W, Lies w W → Calls Tryz.prog 20 #[.pointer (some ⟨B, 0, none⟩)] W (RetFls (es.map (·.1)) W)) := fun W hb => Files_any B M es W (h.bank.below hb) h.nd hl
  have HC2 : Hid (∀ W, Lies w W → Calls Tryz.prog 19 #[.pointer (some ⟨B, 0, none⟩)] W fun e w' => e = .returned (.int .i64 T) ∧ Below W.heap.size W w') := fun W hb => by
    have := Total_any B M es W (h.bank.below hb) hl
    rwa [HT.out] at this
  have HC3 : Hid (∀ W, Lies w W → Calls Tryz.prog 31 #[.pointer (some ⟨R, 0, none⟩), .int .i64 0] W fun e w' => e = .returned (.int .i64 T) ∧ Below W.heap.size W w') := fun W hb => by
    have := refPaid_any R ps 0 W (h.ref.below hb) hpl
    rwa [HT2.out] at this
  have HS := Lib.hid h.srt
  have HV := Lib.hid h.ref.val
  obtain ⟨vR, hRr, hRf⟩ := h.ref.ex
  have HRF := Lib.hid hRf
  have hlen := hRf.sl
  have c0 := hRr.cell 0
  have cl := hRr.lt
  simp only [List.getElem?_toArray, List.getElem?_cons_zero] at c0
  have hq := eq_nil_bank B
  clear h hT hRr hRf hlen
  go_enter Tryz.func16, Tryz.ntmps16
  go_wp2_with fail
  go_region_held3 (fun w' => w'.cell? ⟨R, 0, none⟩ = some vR ∧ Lies w w') (exact keep1 c0 cl (by first | assumption | exact (Below.refl _ _).drew))
    (first
      | (go_at_call 20; have hS0 := ‹_ ∧ Lies w _›; refine (HC1.out _ hS0.2).mono ?_; rintro e wa ⟨xa, qs, rfl, howna, hqs, hba⟩; have hla := Lies.next hS0.2 hba; have HQS := Lib.hid hqs; have HOA := Lib.hid howna.at; clear hS0 hqs howna hba)
      | (go_at_call 21; have hS0 := ‹_ ∧ Lies w _›; refine (SameList_yes _ _ qs ps _ HOA.out (HRF.out.below hS0.2) (HQS.out.trans HS.out) (by have := congrArg List.length (HQS.out.trans HS.out); simp at this; omega) HV.out).mono ?_; rintro e wb ⟨rfl, hbb⟩; have hlb := Lies.next hS0.2 hbb; clear hS0 hbb)
      | (go_at_call 19; have hS0 := ‹_ ∧ Lies w _›; refine (HC2.out _ hS0.2).mono ?_; rintro e wc ⟨rfl, hbc⟩; have hlc := Lies.next hS0.2 hbc; clear hS0 hbc)
      | (go_at_call 31; have hS0 := ‹_ ∧ Lies w _›; refine (HC3.out _ hS0.2).mono ?_; rintro e wd ⟨rfl, hbd⟩; have hld := Lies.next hS0.2 hbd; clear hS0 hbd))
  have HD := Lib.hid hld
  clear hla hlb hlc hld c0 hq HC1 HC2 HC3 HQS HOA HS
  go_wp2_with fail
  go_loopw [5] (fun i wr => ∃ k : Nat, 1 ≤ k ∧ k ≤ 13 ∧ i = .int .i64 k ∧ Hid (Lies w wr)) (fun i _ => 13 - (intOf i).toNat)
  case atStart => exact ⟨1, by omega, by omega, rfl, HD⟩
  case round =>
    obtain ⟨k, hk1, hk2, rfl, HL⟩ := hrel
    obtain ⟨wo, rfl⟩ : ∃ wo : World, wo = wr := ⟨_, rfl⟩
    by_cases hlt : k ≤ 12
    · obtain ⟨P, hP⟩ : ∃ P, paidB (k : Int) (es.map (·.1)) = P := ⟨_, rfl⟩
      have HP1 : Hid (Calls Tryz.prog 22 #[.pointer (some ⟨B, 0, none⟩), .int .i64 k] wo fun e w' => e = .returned (.int .i64 P) ∧ Below wo.heap.size wo w') := by
        have := Paid_any B M es k wo (HA.out.bank.below HL.out) hl
        rwa [hP] at this
      have HP2 : Hid (∀ W, Lies w W → Calls Tryz.prog 31 #[.pointer (some ⟨R, 0, none⟩), .int .i64 k] W fun e w' => e = .returned (.int .i64 P) ∧ Below W.heap.size W w') := fun W hb => by
        have := refPaid_any R ps k W (HA.out.ref.below hb) hpl
        rw [paidR_some (by omega), ← paidB_perm HA.out.perm, hP] at this
        exact this
      clear hP
      go_wp2_with fail
      refine HP1.out.mono ?_
      rintro e wa ⟨rfl, hba⟩
      have hla := Lies.next HL.out hba
      clear hba HP1
      go_wp2_with fail
      refine (HP2.out _ hla).mono ?_
      rintro e wb ⟨rfl, hbb⟩
      have HLB := Lib.hid (Lies.next hla hbb)
      clear hla hbb HP2
      go_wp2
      go_roundw
      case rel => exact ⟨k + 1, by omega, by omega, by go_num, HLB⟩
      case measure => simp [intOf]; omega
    · go_wp2
      go_ret
      exact ⟨rfl, HL.out⟩
end Go.Proofs.YtlchcfkngjbdjaaGreatDoor
/- What the laws on banks need. -/
namespace Go.Proofs.YtlchcfkngjbdjaaGreatDoor
open Go.RowKit Go.Shelf

theorem noPay_deck {w : World} {D dr : Nat} (h : Deck w D dr) : NoPay w D := fun off x y hh => by
  obtain ⟨A, m, c, zs, hh', _⟩ := h
  have e := fun i => cell_of_row w D i _ _ _ hh'
  rw [e, e] at hh
  match off, hh with
  | 0, hh => simp at hh
  | 1, hh => simp at hh
  | n + 2, hh => simp at hh
theorem Sl.fil_far {w w' : World} {X : Nat} {v : Value} {ps : List (Fil × Value)} (h : Sl w 3 v (fils ps)) (hg : w.grownBy w' (some X)) (hx : NoPay w X) : Sl w' 3 v (fils ps) := by
  obtain ⟨A, cap, rfl, h1, h2, h0, h3⟩ := h
  refine ⟨A, cap, rfl, h1, h2, h0, ?_⟩
  rcases h3 with h3 | ⟨b, off, rfl, hc⟩
  · exact .inl h3
  · cases ps with
    | nil => exact .inl rfl
    | cons p r =>
      have hbX : b ≠ X := fun e => by
        have h0 := hc.2 0 (p.1.vals p.2).toList rfl 0 _ rfl
        have h1 := hc.2 0 (p.1.vals p.2).toList rfl 1 _ rfl
        rw [e] at h0 h1
        exact hx (off + 0 * 3) _ _ ⟨h0, h1⟩
      exact .inr ⟨b, off, rfl, Nat.lt_of_lt_of_le hc.1 hg.size, fun i x hi j u hu => (World.cell?_of_block (w := w) (a := ⟨b, _, none⟩) (hg.block b hc.1 (fun e => hbX (Option.some.inj e)))).trans (hc.2 i x hi j u hu)⟩
theorem RefS.grown {w w' : World} {R X : Nat} {ps : List (Fil × Value)} (h : RefS w R ps) (hg : w.grownBy w' (some X)) (hR : R ≠ X) (hx : NoPay w X) : RefS w' R ps := by
  obtain ⟨⟨v, h1, h2⟩, h3, h4⟩ := h
  exact ⟨⟨v, h1.keep hg (fun e => hR (Option.some.inj e)), h2.sl.fil_far hg hx, fun p hp => (h2.pay p hp).pay_far hg hx⟩, h3, h4⟩
theorem AgrS.grown {w w' : World} {B M R X : Nat} {es ps : List (Fil × Value)} (h : AgrS w B M R es ps) (hg : w.grownBy w' (some X)) (hB : B ≠ X) (hM : M ≠ X) (hR : R ≠ X) (hx : NoPay w X) : AgrS w' B M R es ps :=
  ⟨h.bank.grown hg hB hM hx, h.ref.grown hg hR hx, h.perm⟩
theorem subF_perm {a b : List Fil} (h : a.Perm b) (s : List UInt8) : (subF a s).Perm (subF b s) := by
  unfold subF
  rw [subE_perm h]
  split
  · exact h.append_right _
  · exact h
theorem subF_len (a : List Fil) (s : List UInt8) : (subF a s).length ≤ a.length + 1 := by
  unfold subF; split <;> simp
set_option maxRecDepth 10000 in
theorem Left_any (D dr : Nat) (w : World) (hd : Deck w D dr) (hdr : dr ≤ 1099511627776) :
    Calls Tryz.prog 9 #[.pointer (some ⟨D, 0, none⟩)] w fun e w' => ∃ b, e = .returned (.bool b) ∧ Below w.heap.size w w' := by
  obtain ⟨A, m, c, zs, hh, h1, h2, h3⟩ := hd
  have c0 : w.cell? ⟨D, 0, none⟩ = some (.slice A m c) := cell_of_row w D 0 _ _ _ hh
  have c1 : w.cell? ⟨D, 1, none⟩ = some (.int .i64 dr) := cell_of_row w D 1 _ _ _ hh
  have cl := lt_of_some hh
  clear hh h1 h2 h3
  go_enter Tryz.func9, Tryz.ntmps9
  go_wp2_with fail
  go_quiet (fail)
  go_wp2
  go_ret
  exact ⟨_, rfl, Below.draws (Below.refl _ _) _⟩
end Go.Proofs.YtlchcfkngjbdjaaGreatDoor
/- The law BankCopies: it returns true. -/
namespace Go.Proofs.YtlchcfkngjbdjaaGreatDoor
open Go.RowKit Go.Shelf

/-- a deck beside two banks without files -/
structure BcD (w : World) (D dr B M R : Nat) (wr : World) : Prop where
  deck : Deck wr D dr
  agr : AgrS wr B M R [] []
  below : Below w.heap.size w wr
  ord : D < M ∧ M < B ∧ B < R ∧ R < wr.heap.size
  low : w.heap.size ≤ D
theorem BcD.same {w wr w' : World} {D dr B M R : Nat} (h : BcD w D dr B M R wr) (hb : Below wr.heap.size wr w') : BcD w D dr B M R w' := by
  obtain ⟨h1, h2, h3, h4⟩ := h.ord
  have := hb.size
  exact ⟨h.deck.below hb, h.agr.below hb, below_after h.below hb h.below.size, ⟨h1, h2, h3, by omega⟩, h.low⟩
theorem BcD.draw {w wr w' : World} {D dr dr' B M R : Nat} (h : BcD w D dr B M R wr) (hd : Deck w' D dr') (hg : wr.grownBy w' (some D)) : BcD w D dr' B M R w' := by
  obtain ⟨h1, h2, h3, h4⟩ := h.ord
  have := hg.size
  exact ⟨hd, h.agr.grown hg (by omega) (by omega) (by omega) (noPay_deck h.deck), below_map h.below hg h.low, ⟨h1, h2, h3, by omega⟩, h.low⟩
/-- a bank and the reference's -/
structure BcA (w : World) (B M R : Nat) (es ps : List (Fil × Value)) (wr : World) : Prop where
  agr : AgrS wr B M R es ps
  below : Below w.heap.size w wr
  ord : w.heap.size ≤ M ∧ M < B ∧ B < R ∧ R < wr.heap.size
theorem BcA.same {w wr w' : World} {B M R : Nat} {es ps : List (Fil × Value)} (h : BcA w B M R es ps wr) (hb : Below wr.heap.size wr w') : BcA w B M R es ps w' := by
  obtain ⟨h1, h2, h3, h4⟩ := h.ord
  have := hb.size
  exact ⟨h.agr.below hb, below_after h.below hb h.below.size, h1, h2, h3, by omega⟩
theorem BcA.submit {w wr w1 w2 : World} {B M R : Nat} {es ps es' ps' : List (Fil × Value)} {s : List UInt8} (h : BcA w B M R es ps wr) (hb : BankS w1 B M es') (he : es'.map (·.1) = subF (es.map (·.1)) s) (hg1 : wr.grownBy w1 (some M))
    (hr : RefS w2 R ps') (hp : (ps'.map (·.1)).Perm (subF (ps.map (·.1)) s)) (hg2 : w1.grownBy w2 (some R)) : BcA w B M R es' ps' w2 := by
  obtain ⟨h1, h2, h3, h4⟩ := h.ord
  have := hg1.size
  have := hg2.size
  have r1 := h.agr.ref.grown hg1 (by omega) (noPay_map h.agr.bank.map)
  obtain ⟨v, hv, -⟩ := r1.ex
  refine ⟨⟨hb.grown hg2 (by omega) (by omega) (noPay_row1 hv), hr, ?_⟩, below_map (below_map h.below hg1 (by omega)) hg2 (by omega), h1, h2, h3, by omega⟩
  rw [he]
  exact (subF_perm h.agr.perm s).trans hp.symm
/-- the copies, above -/
structure BcC (R B2 M2 Q : Nat) (es ps : List (Fil × Value)) (wr : World) : Prop where
  agr : AgrS wr B2 M2 Q es ps
  ord : R < M2 ∧ R < B2 ∧ R < Q
theorem BcC.same {wr w' : World} {R B2 M2 Q : Nat} {es ps : List (Fil × Value)} (h : BcC R B2 M2 Q es ps wr) (hb : Below wr.heap.size wr w') : BcC R B2 M2 Q es ps w' := ⟨h.agr.below hb, h.ord⟩
theorem BcC.submit {w wr w1 w2 : World} {B M R B2 M2 Q : Nat} {es ps ec pc : List (Fil × Value)} (h : BcC R B2 M2 Q ec pc wr) (hA : BcA w B M R es ps wr) (hg1 : wr.grownBy w1 (some M)) (hg2 : w1.grownBy w2 (some R)) : BcC R B2 M2 Q ec pc w2 := by
  obtain ⟨h1, h2, h3, h4⟩ := hA.ord
  obtain ⟨k1, k2, k3⟩ := h.ord
  have r1 := hA.agr.ref.grown hg1 (by omega) (noPay_map hA.agr.bank.map)
  obtain ⟨v, hv, -⟩ := r1.ex
  exact ⟨(h.agr.grown hg1 (by omega) (by omega) (by omega) (noPay_map hA.agr.bank.map)).grown hg2 (by omega) (by omega) (by omega) (noPay_row1 hv), h.ord⟩
/-- the amount of each payment of a slice lies in a block from base on, other than g -/
def Amts (w : World) (base g : Nat) (u : Value) (n : Nat) : Prop := ∃ A c, u = .slice A n c ∧ ∀ k, k < n → ∃ b o, A = some ⟨b, o, none⟩ ∧ base ≤ b ∧ b ≠ g ∧ b < w.heap.size ∧ (∀ j, w.frozen? ⟨b, j, none⟩ = false) ∧ ∃ a, w.cell? ⟨b, o + k * 2 + 1, none⟩ = some (.int .i64 a)
theorem Amts.set {w : World} {base g n : Nat} {u : Value} (h : Amts w base g u n) (p : Addr) (x : Int) : Amts (w.setCell p (.int .i64 x)) base g u n := by
  obtain ⟨A, c, rfl, h⟩ := h
  refine ⟨A, c, rfl, fun k hk => ?_⟩
  obtain ⟨b, o, hA, h1, h2, h3, hf, h4⟩ := h k hk
  exact ⟨b, o, hA, h1, h2, by rw [World.size_setCell]; exact h3, fun j => (World.frozen?_setCell _ _ _ _).trans (hf j), someInt_setCell h4 p x⟩
/-- the files that the bank gave out -/
structure BcI (w7 : World) (g : Nat) (ps : List (Fil × Value)) (wr : World) : Prop where
  below : Below w7.heap.size w7 wr
  lt : g < wr.heap.size
  cell : ∀ i (h : i < ps.length), wr.cell? ⟨g, 0 + i * 3 + 2, none⟩ = some (ps[i]).2
  amt : ∀ i (h : i < ps.length), Amts wr w7.heap.size g (ps[i]).2 (ps[i]).1.l.length
theorem BcI.set {w7 wr : World} {g b j : Nat} {ps : List (Fil × Value)} (h : BcI w7 g ps wr) (hb : w7.heap.size ≤ b) (hg : b ≠ g) (x : Int) : BcI w7 g ps (wr.setCell ⟨b, j, none⟩ (.int .i64 x)) := by
  refine ⟨below_map h.below (grown_set wr b j _) hb, by rw [World.size_setCell]; exact h.lt, fun i hi => ?_, fun i hi => (h.amt i hi).set _ x⟩
  rw [World.cell?_setCell_far _ _ _ _ (by exact hg)]
  exact h.cell i hi
theorem ownF_inc {w7 w : World} {x : Value} {ps : List (Fil × Value)} (h : OwnF w w7.heap.size x ps) (hb : Below w7.heap.size w7 w) : ∃ g A c, x = .slice A ps.length c ∧ (0 < ps.length → A = some ⟨g, 0, none⟩) ∧ (0 < ps.length → BcI w7 g ps w) := by
  rcases h.own.1.2 with ⟨rfl, h0⟩ | ⟨g, cap, cur, rfl, hbg, hg, hrest⟩
  · have h0' : ps.length = 0 := by rw [← fils_len]; exact h0
    exact ⟨0, none, 0, by rw [h0'], fun hp => by omega, fun hp => by omega⟩
  · rw [fils_len]
    refine ⟨g, _, cap, rfl, fun _ => rfl, fun hp => ⟨hb, lt_of_some hg, fun i hi => ?_, fun i hi => ?_⟩⟩
    · obtain ⟨b, off, hA, hc⟩ := (h.own.sl (by omega)).cells (by rw [fils_len]; omega)
      injection hA with hA
      injection hA with e1 e2
      subst e1 e2
      exact (hc.fil hi).2.2
    · have hp := h.pay ps[i] (List.getElem_mem hi)
      obtain ⟨A, c, hA⟩ := hp.form
      rw [pays_len] at hA
      refine ⟨A, c, hA, fun k hk => ?_⟩
      have hs := hp.sl (by omega)
      rw [hA] at hs
      obtain ⟨b, off, rfl, hc⟩ := hs.cells (by rw [pays_len]; omega)
      have hne : b ≠ g := by
        rcases own_types hp h.own ty_ne with e | e
        · rw [hA] at e; cases e
        · rw [hA] at e; intro e2; subst e2; exact e rfl
      have hlow : w7.heap.size ≤ b := (hp.1.lt b (by rw [hA]; rfl)).1
      have hfz : ∀ j, w.frozen? ⟨b, j, none⟩ = false := fun j => by
        rcases hp.1.2 with ⟨e, _⟩ | ⟨g1, c1, cur1, e, _⟩
        · rw [hA] at e; cases e
        · have hpe := hp
          rw [e] at hpe
          rw [hA] at e
          injection e with e1
          injection e1 with e1
          injection e1 with e1
          rw [e1]
          exact hpe.frozenE j
      refine ⟨b, off, rfl, hlow, hne, hc.1, hfz, ?_⟩
      exact ⟨_, hc.2 k _ (by simp [pays, hk]; rfl) 1 _ rfl⟩
set_option maxRecDepth 100000 in
set_option maxHeartbeats 8000000 in
theorem BankCopies_any (v : Value) (zs : List Int) (w : World) (hT : Tabs w) (hE : Errs w) (hv : Sl w 1 v (ints zs)) :
    Calls Tryz.prog 6 #[v] w fun e w' => e = .returned (.bool true) ∧ Below w.heap.size w w' := by
  have HT := Lib.hid hT
  have HER := Lib.hid hE
  have HN := Lib.hid (new_any v zs w hv)
  obtain ⟨A0, c0, rfl, -⟩ := hv
  clear hT hE
  go_enter Tryz.func6, Tryz.ntmps6
  go_wp2_with fail
  refine HN.out.mono ?_
  rintro e w1 ⟨rfl, hd1, hb1⟩
  clear HN
  go_wp2_with fail
  refine (New_any w1).mono ?_
  rintro e w2 ⟨B, M, rfl, hbk2, hb2, hM2, hMB⟩
  have hB2 := below_after hb1 hb2 hb1.size
  have hd2 := hd1.below hb2
  have hR2 := Row.new w2 30 #[.slice none 0 0]
  have hal := (Below.refl w2.heap.size w2).alloc (Nat.le_refl _) (.cells #[.slice none 0 0] 30)
  have hdl := hd1.lt
  have hBl := hbk2.box.lt
  have h0 : Hid (BcD w w.heap.size 0 B M w2.heap.size (w2.alloc (.cells #[.slice none 0 0] 30))) :=
    ⟨hd2.below hal, ⟨hbk2.below hal, ⟨⟨_, hR2, Sl.nil _ _, fun p hp => by cases hp⟩, (fun p hp => by cases hp), List.Pairwise.nil⟩, List.Perm.refl _⟩, below_after hB2 hal hB2.size, ⟨by omega, hMB, hBl, hR2.lt⟩, Nat.le_refl _⟩
  clear hd1 hb1 hbk2 hb2 hB2 hd2 hR2 hal
  go_wp2_with fail
  obtain ⟨D, hD⟩ : ∃ D, w.heap.size = D := ⟨_, rfl⟩
  obtain ⟨R, hRe⟩ : ∃ R, w2.heap.size = R := ⟨_, rfl⟩
  rw [hD, hRe] at h0
  rw [hRe]
  obtain ⟨w3, hw3⟩ : ∃ w3, w2.alloc (.cells #[.slice none 0 0] 30) = w3 := ⟨_, rfl⟩
  rw [hw3] at h0 ⊢
  rw [hD]
  have HD := Lib.hid hD
  clear hD hRe hw3
  refine (File_any D 0 w3 h0.out.deck (by omega)).mono ?_
  rintro e w4 ⟨f, v4, rfl, hG, hown4, dr4, hdr4, hd4, hg4⟩
  have HS4 := Lib.hid (h0.out.draw hd4 hg4)
  have HG := Lib.hid hG.text
  have htl := HG.out.1
  have HENC := Lib.hid (refEncode_any f v4 w4 (hown4.sl (by omega)))
  obtain ⟨s, hs⟩ : ∃ s, bsOf (encT f) = s := ⟨_, rfl⟩
  have hsl : s.size ≤ 4000 := by rw [← hs, bsOf_size]; exact htl
  obtain ⟨er, her⟩ : ∃ er, encE f = er := ⟨_, rfl⟩
  rw [hs, her] at HENC
  clear hG hown4 hd4 hg4 h0 hs her htl HG
  go_wp2_with fail
  refine HENC.out.mono ?_
  rintro e w5 ⟨rfl, hb5⟩
  have HS5 := Lib.hid (HS4.out.same hb5)
  clear hb5 HS4 HENC
  go_wp2_with fail
  refine (File_any D dr4 w5 HS5.out.deck (by omega)).mono ?_
  rintro e w6 ⟨f2, v6, rfl, hG, hown6, dr6, hdr6, hd6, hg6⟩
  have HS6 := Lib.hid (HS5.out.draw hd6 hg6)
  have HG := Lib.hid hG.text
  have htl := HG.out.1
  have HENC := Lib.hid (refEncode_any f2 v6 w6 (hown6.sl (by omega)))
  obtain ⟨t, ht⟩ : ∃ t, bsOf (encT f2) = t := ⟨_, rfl⟩
  have htz : t.size ≤ 4000 := by rw [← ht, bsOf_size]; exact htl
  obtain ⟨er2, her⟩ : ∃ er2, encE f2 = er2 := ⟨_, rfl⟩
  rw [ht, her] at HENC
  clear hG hown6 hd6 hg6 HS5 ht her htl HG
  go_wp2_with fail
  refine HENC.out.mono ?_
  rintro e w7 ⟨rfl, hb7⟩
  have HS7 := Lib.hid (HS6.out.same hb7)
  clear hb7 HS6 HENC
  have HA7 : Hid (BcA w B M R [] [] w7) := ⟨HS7.out.agr, HS7.out.below, by have := HS7.out.ord; have := HS7.out.low; omega, by have := HS7.out.ord; omega, by have := HS7.out.ord; omega, by have := HS7.out.ord; omega⟩
  clear HS7
  have hq := eq_nil_bank B
  have HC1 := Lib.hid (Submit_any B M [] s w7 HA7.out.agr.bank (HT.out.below HA7.out.below) (HER.out.below HA7.out.below))
  obtain ⟨se, hse⟩ : ∃ se, subE (([] : List (Fil × Value)).map (·.1)) s.data.toList = se := ⟨_, rfl⟩
  have HSE := Lib.hid hse
  rw [hse] at HC1
  clear hse
  go_wp2_with fail
  refine HC1.out.mono ?_
  rintro e w8 ⟨es, rfl, hbk8, hes8, hg8⟩
  obtain ⟨h1, h2, h3, h4⟩ := HA7.out.ord
  have HC2 := Lib.hid (refSubmit_any R [] s w8 (HA7.out.agr.ref.grown hg8 (by omega) (noPay_map HA7.out.agr.bank.map)) (by simp) (by omega))
  have hle : es.length ≤ 1 := by
    have e1 := congrArg List.length hes8
    have e2 := subF_len (([] : List (Fil × Value)).map (·.1)) s.data.toList
    simp at e1 e2; omega
  have H8 := Lib.hid (And.intro hbk8 (And.intro hes8 hg8))
  clear HC1 hbk8 hes8 hg8 h1 h2 h3 h4
  go_wp2_with fail
  refine HC2.out.mono ?_
  rintro e w9 ⟨ps, rfl, hr9, hp9, hg9⟩
  rw [HSE.out]
  have HA9 := Lib.hid (HA7.out.submit H8.out.1 H8.out.2.1 H8.out.2.2 hr9 hp9 hg9)
  clear HC2 hr9 hp9 hg9 H8 HA7 HSE
  go_wp2_with fail
  refine (Copy_any B M es w9 HA9.out.agr.bank HA9.out.agr.nd).mono ?_
  rintro e wa ⟨B2, M2, ec, rfl, hbk, hpm, hM2, hB2, hba⟩
  have HAA := Lib.hid (HA9.out.same hba)
  have hpl : ps.length ≤ 1000 := by rw [HA9.out.agr.len]; omega
  have hord := HA9.out.ord
  have hza := hba.size
  clear HA9 hba
  obtain ⟨vR, hRr, hRf⟩ := HAA.out.agr.ref.ex
  obtain ⟨AR, cR, rfl⟩ : ∃ AR cR, vR = .slice AR ps.length cR := by
    obtain ⟨A, c, h, -⟩ := hRf.sl
    exact ⟨A, c, by rw [h, fils_len]⟩
  have c0 := hRr.cell 0
  have cl := hRr.lt
  simp only [List.getElem?_toArray, List.getElem?_cons_zero] at c0
  have HF := Lib.hid hRf
  have HBC := Lib.hid (And.intro hbk hpm)
  have hbl : Below wa.heap.size wa (wa.alloc (.cells #[] 37)) := (Below.refl _ _).alloc (Nat.le_refl _) _
  clear hRr hRf hbk hpm
  go_wp2_with (at_builtin; (refine wpList_append_sl rfl (.tmp 45) (.tmp 49) rfl rowFil wa.heap.size _ _ [] (fils ps) rfl (own_lit0 wa _ 3 _ (Nat.le_refl _)) rfl (HF.out.sl.below hbl) HF.out.wide (by rw [fils_len]; unfold maxLen; simp; omega) (by rw [fils_len]; simp; omega) hbl.size ?_); intro vb wb hownb hgb _; obtain ⟨Ab, nb, cb, rfl⟩ := hownb.slc; have hbb := Lib.hid (Own.grown (own_lit0 wa _ 3 _ (Nat.le_refl _)) hbl hgb hbl.size); have hob := Lib.hid hownb; clear hownb hgb)
  clear hbl
  have hbal := hbb.out.alloc (o := .cells #[.slice Ab nb cb] 30) hbb.out.size
  have hown := hob.out
  rw [List.nil_append] at hown
  have HAB := Lib.hid (HAA.out.same hbal)
  have hzb := hbb.out.size
  have HCB : Hid (BcC R B2 M2 wb.heap.size ec ps (wb.alloc (.cells #[.slice Ab nb cb] 30))) :=
    ⟨⟨HBC.out.1.below hbal, ⟨⟨_, Row.new wb 30 #[.slice Ab nb cb], ⟨(hown.alloc _).sl (by omega), fun p hp => (HF.out.pay p hp).below hbal⟩⟩, HAA.out.agr.ref.val, HAA.out.agr.ref.asc⟩, HBC.out.2.trans HAA.out.agr.perm⟩, by omega, by omega, by omega⟩
  obtain ⟨Q, hQ⟩ : ∃ Q, wb.heap.size = Q := ⟨_, rfl⟩
  rw [hQ] at HCB ⊢
  obtain ⟨wc, hwc⟩ : ∃ wc, wb.alloc (.cells #[.slice Ab nb cb] 30) = wc := ⟨_, rfl⟩
  rw [hwc] at HAB HCB ⊢
  clear hwc hQ hbb hob hown hbal HAA HBC HF c0 cl hza hord hzb hM2 hB2
  have HC1 := Lib.hid (Submit_any B M es t wc HAB.out.agr.bank (HT.out.below HAB.out.below) (HER.out.below HAB.out.below))
  obtain ⟨se2, hse⟩ : ∃ se2, subE (es.map (·.1)) t.data.toList = se2 := ⟨_, rfl⟩
  rw [hse] at HC1
  clear hse
  refine HC1.out.mono ?_
  rintro e wd ⟨es2, rfl, hbkd, hesd, hgd⟩
  obtain ⟨h1, h2, h3, h4⟩ := HAB.out.ord
  have HC2 := Lib.hid (refSubmit_any R ps t wd (HAB.out.agr.ref.grown hgd (by omega) (noPay_map HAB.out.agr.bank.map)) hpl (by omega))
  have hle2 : es2.length ≤ 2 := by
    have e1 := congrArg List.length hesd
    have e2 := subF_len (es.map (·.1)) t.data.toList
    simp at e1 e2; omega
  have Hd := Lib.hid (And.intro hbkd (And.intro hesd hgd))
  clear HC1 hbkd hesd hgd h1 h2 h3 h4
  go_wp2_with fail
  refine HC2.out.mono ?_
  rintro e we ⟨ps2, rfl, hre, hpe, hge⟩
  have HAE := Lib.hid (HAB.out.submit Hd.out.1 Hd.out.2.1 Hd.out.2.2 hre hpe hge)
  have HCE := Lib.hid (HCB.out.submit HAB.out Hd.out.2.2 hge)
  have hlc : ec.length ≤ 1000 := by
    have e1 := HCB.out.agr.len
    omega
  clear HC2 hre hpe hge Hd HAB HCB hpl
  go_wp2_with fail
  refine (Files_any B M es2 we HAE.out.agr.bank HAE.out.agr.nd (by omega)).mono ?_
  rintro e wf ⟨x, pf, rfl, hof, hpf, hbf⟩
  obtain ⟨g, Ax, cx, rfl, hAx, HI0⟩ := ownF_inc hof hbf
  have HAX := Lib.hid hAx
  have HIF := Lib.hid HI0
  have HBF := Lib.hid hbf
  have hpl : pf.length ≤ 1000 := by
    have e1 := congrArg List.length hpf
    have e2 := (srtF_perm HAE.out.agr.nd).length_eq
    simp at e1 e2; omega
  have HLP : Hid (∀ i (h : i < pf.length), (pf[i]).1.l.length ≤ maxLen) := fun i h => by
    obtain ⟨A, c, -, h1, h2, -⟩ := (hof.pay _ (List.getElem_mem h)).sl (by omega)
    rw [pays_len] at h1
    omega
  clear hof hpf hbf hAx HI0
  go_wp2_with fail
  go_loopw [13, 14] (fun iv _ wr => ∃ i : Nat, i ≤ pf.length ∧ iv = .int .i64 i ∧ Hid (Below we.heap.size we wr) ∧ Hid (0 < pf.length → BcI we g pf wr)) (fun iv _ _ => pf.length - (intOf iv).toNat)
  case atStart => exact ⟨0, by omega, rfl, HBF, HIF⟩
  case round =>
    clear HBF HIF
    obtain ⟨i, hi, rfl, HB, HI⟩ := hrel
    obtain ⟨wo, rfl⟩ : ∃ wo : World, wo = wr := ⟨_, rfl⟩
    by_cases hlt : i < pf.length
    · have hp : 0 < pf.length := by omega
      obtain rfl := HAX.out hp
      have HI1 := Lib.hid (HI.out hp)
      have i1 : (i : Int) < (pf.length : Int) := by omega
      clear HI
      go_wp2_with fail
      go_loopw [14] (fun kv wr => ∃ k : Nat, k ≤ (pf[i]).1.l.length ∧ kv = .int .i64 k ∧ Hid (BcI we g pf wr)) (fun kv _ => (pf[i]).1.l.length - (intOf kv).toNat)
      case atStart => exact ⟨0, by omega, rfl, HI1⟩
      case round =>
        clear HI1
        obtain ⟨k, hk, rfl, HI⟩ := hrel
        obtain ⟨wi, rfl⟩ : ∃ wi : World, wi = wr := ⟨_, rfl⟩
        obtain ⟨Au, cu, hu, hall⟩ := HI.out.amt i hlt
        have c2 := HI.out.cell i hlt
        have gl := HI.out.lt
        have HLI := Lib.hid (HLP.out i hlt)
        obtain ⟨n, hn⟩ : ∃ n, (pf[i]).1.l.length = n := ⟨_, rfl⟩
        rw [hn] at hk hu hall HLI
        rw [hu, Nat.zero_add] at c2
        have hnl := HLI.out
        unfold maxLen at hnl
        by_cases hkl : k < n
        · obtain ⟨b, o, rfl, hb1, hb2, hb3, hfz, a, ha⟩ := hall k hkl
          have fz := hfz (o + k * 2 + 1)
          have k1 : (k : Int) < (n : Int) := by omega
          have HIs := Lib.hid fun (y : Int) => HI.out.set (b := b) (j := o + k * 2 + 1) hb1 hb2 y
          clear hall HI hb1 hb2 hfz
          go_wp2
          go_roundw
          case rel => exact ⟨k + 1, by omega, by go_num, HIs.out _⟩
          case measure => simp [intOf]; omega
        · clear hall
          go_wp2
          go_roundw
          case rel => exact ⟨i + 1, by omega, by go_num, HI.out.below, fun _ => HI.out⟩
          case measure => simp [intOf]; omega
    · have HAG := Lib.hid (HAE.out.same HB.out)
      have HCG := Lib.hid (HCE.out.same HB.out)
      clear HAE HCE HB HI
      go_wp2_with fail
      refine (agree_any B M R es2 ps2 wo HAG.out.agr (by omega)).mono ?_
      rintro e wg ⟨rfl, hbg⟩
      have HCH := Lib.hid (HCG.out.same hbg)
      have HAH := Lib.hid (HAG.out.same hbg)
      clear hbg HAG HCG
      go_wp2_with fail
      refine (agree_any B2 M2 Q ec ps wg HCH.out.agr hlc).mono ?_
      rintro e wh ⟨rfl, hbh⟩
      have HBH := Lib.hid (HAH.out.same hbh).below
      clear hbh HCH HAH
      go_wp2_with fail
      refine (awake_any wh (HT.out.below HBH.out) (HER.out.below HBH.out)).mono ?_
      rintro e wk ⟨rfl, hbk⟩
      have HBK := Lib.hid (below_after HBH.out hbk HBH.out.size)
      clear hbk
      go_wp2
      go_ret
      exact ⟨rfl, HBK.out⟩
end Go.Proofs.YtlchcfkngjbdjaaGreatDoor
namespace Go.Proofs.YtlchcfkngjbdjaaGreatDoor.lawCopies
open Go.ChangeShapes Go.WideShapes Go.ChangeAt Go.RowKit Go.Proofs.YtlchcfkngjbdjaaGreatDoor

theorem own : ownKnob Tryz.prog.godebug = none := by kernel_rfl
theorem laidOut : laidOutB Tryz.prog = true := by kernel_rfl

set_option maxRecDepth 100000 in
theorem lifted (os : Os) (started : os.Started) (H : Type) (enc : TypeId × Value → H) :
    ReturnsInHanded {} Tryz.checked os 6 .any (fun w args => (Rows.bankCopiesSpec.pre enc Tryz.prog Tryz.f6 [] false w args ∧ laidMetH Tryz.prog laidL w) ∧ sizedMet enc Tryz.prog Tryz.f6 (OpenSpec.ofChange Rows.bankCopiesSpec) false w args)
      (Rows.bankCopiesSpec.post enc Tryz.prog Tryz.f6 false true false false) := by
  refine returnsInHanded_of_change_and (C := Tryz.checked) (X := fun w _ => laidMetH Tryz.prog laidL w) (fun _ _ _ hh h => h.of_heap hh) own started (by kernel_rfl) Tryz.func6
    (ChangeSpec.witness_shaped (enc := enc) (C := Tryz.checked) (os := os) (X := fun w _ => laidMetH Tryz.prog laidL w) false (World.laidAll Tryz.prog os laidL) #[.slice none 0 0] 8 (World.laidAll_os _ _ _) (door_shaped os) (by kernel_rfl) (by kernel_rfl) (by kernel_rfl) (door_met os _)) ?_
  intro W base args ds gs before hval0 hW _ hwt hL _
  have hval : ∀ (j : Nat) t v, Tryz.f6.params[j]? = some t → args[j]? = some v → Value.okWide Tryz.prog W .any base t v := hval0
  have hW' := hW
  obtain ⟨p, q, hA0, hV, rfl, hfz, hnd⟩ := hW
  have hA : DataW.TrodAll enc Tryz.prog W 0 (fun _ => true) true Tryz.f6.params.toList args.toList ds p := hA0
  rw [Tryz.params6] at hA hval
  obtain ⟨v0, vs0, d0, ds0, p0, q0, hargs, rfl, rfl, h0, r0⟩ := trodAll_cons hA
  obtain ⟨rfl, rfl, rfl⟩ := trodAll_nil r0
  obtain rfl : args = #[v0] := by cases args; simp_all
  obtain ⟨rfl, rfl⟩ := trodVars_none hV
  obtain ⟨l0, s0⟩ := open_intsL (hval 0 22 v0 rfl rfl) h0
  obtain ⟨hT, hWd⟩ := of_laid hL
  refine (BankCopies_any v0 l0 W hT hWd s0).mono fun e W' ⟨he, hg⟩ => ?_
  subst he
  exact ⟨_, rfl, law_post laidOut rfl rfl Tryz.underlying4 (by decide +kernel) ⟨rfl, rfl, rfl⟩ hW' hg⟩

theorem over : Rows.BankCopiesSaid :=
  OpenClaim.holds_of_wide 6 Tryz.f6 rfl rfl rfl rfl rfl rfl rfl ⟨rfl, rfl, rfl, rfl, rfl⟩ rfl rfl rfl rfl rfl (by kernel_rfl) Tryz.func6 (by kernel_rfl)
    (of_decide_eq_true (by kernel_rfl)) (by unfold Func.isWrapper; first | (rw [if_pos (by decide +kernel)]; kernel_rfl) | (rw [if_neg (by decide +kernel)]; exact ⟨rfl, rfl⟩))
    (fun os started H enc _ => lifted os started H enc)

/-- THE STATEMENT -/
theorem proved : Rows.BankCopiesCardSaid :=
  Claim7.holds_tied_plain_at .later [] [.data, .data, .data, .data, .sentinel, .sentinel, .pinned] true (true, "c1914019202877f5d394415bf9d724bb3670c2d92dedd5f5688d1d3eb1167131") true
    over (fun _ h => by cases h) (by kernel_rfl) (fun _ h => by cases h) bankCopies_row_tie rfl ⟨rfl, rfl⟩ (by kernel_rfl) rfl
    (fun f fn hf hfn => by
      obtain rfl : f = 6 := Option.some.inj ((show Tryz.prog.funcNamed "payroll/payrolllaw42.BankCopies" = some 6 by kernel_rfl).symm.trans hf) |>.symm
      obtain rfl : fn = Tryz.f6 := (Option.some.inj (Tryz.func6.symm.trans hfn)).symm
      exact ⟨by kernel_rfl, fun j t ht => by
        rw [Tryz.params6] at ht
        have hm : t ∈ [22] := by simpa using Array.mem_of_getElem? ht
        have hall : ([22].all fun u => !Tryz.prog.wantsStandIn u) = true := by kernel_rfl
        exact (show Tryz.prog.wantsStandIn t = false by simpa using List.all_eq_true.1 hall t hm)⟩)
    (by kernel_rfl)
end Go.Proofs.YtlchcfkngjbdjaaGreatDoor.lawCopies
