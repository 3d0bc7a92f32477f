/- Sets of numbers: ascending lists without repetition; the keys of a map that was filled with them. -/
import Derived.Maps.Views
import Derived.Maps.Own
import Derived.Lib.SlKeysI
namespace Go.Proofs.YtnkephafpebfkaaGreatDoor

/-- strictly ascending -/
def Asc (l : List Int) : Prop := l.Pairwise (· < ·)
/-- a number is put into an ascending list, once -/
def insI (n : Int) : List Int → List Int
  | [] => [n]
  | a :: r => if a < n then a :: insI n r else if a = n then a :: r else n :: a :: r
def asI (l : List Int) : List Int := l.foldl (fun acc x => insI x acc) []
theorem mem_insI {n x : Int} {l : List Int} : x ∈ insI n l ↔ x = n ∨ x ∈ l := by
  induction l with
  | nil => simp [insI]
  | cons a r ih =>
    simp only [insI]
    by_cases h1 : a < n
    · rw [if_pos h1, List.mem_cons, ih, List.mem_cons]
      constructor
      · rintro (h | h | h) <;> simp [h]
      · rintro (h | h | h) <;> simp [h]
    · rw [if_neg h1]
      by_cases h2 : a = n
      · rw [if_pos h2]; subst h2; simp
      · rw [if_neg h2]; simp
theorem Asc.ins {n : Int} {l : List Int} (h : Asc l) : Asc (insI n l) := by
  induction l with
  | nil => simp [insI, Asc]
  | cons a r ih =>
    have h' := List.pairwise_cons.1 h
    simp only [insI]
    by_cases h1 : a < n
    · rw [if_pos h1]
      refine List.pairwise_cons.2 ⟨fun y hy => ?_, ih h'.2⟩
      rcases mem_insI.1 hy with rfl | hy
      · exact h1
      · exact h'.1 y hy
    · rw [if_neg h1]
      by_cases h2 : a = n
      · rw [if_pos h2]; exact h
      · rw [if_neg h2]
        refine List.pairwise_cons.2 ⟨fun y hy => ?_, h⟩
        rcases List.mem_cons.1 hy with rfl | hy
        · omega
        · have := h'.1 y hy; omega
theorem asI_fold (l acc : List Int) (h : Asc acc) : Asc (l.foldl (fun acc x => insI x acc) acc) ∧ ∀ x, x ∈ l.foldl (fun acc x => insI x acc) acc ↔ x ∈ acc ∨ x ∈ l := by
  induction l generalizing acc with
  | nil => exact ⟨h, by simp⟩
  | cons a r ih =>
    obtain ⟨h1, h2⟩ := ih (insI a acc) h.ins
    refine ⟨h1, fun x => ?_⟩
    rw [List.foldl_cons, h2, mem_insI, List.mem_cons]
    constructor
    · rintro ((h | h) | h) <;> simp [h]
    · rintro (h | h | h) <;> simp [h]
theorem asI_asc (l : List Int) : Asc (asI l) := (asI_fold l [] List.Pairwise.nil).1
theorem mem_asI {l : List Int} {x : Int} : x ∈ asI l ↔ x ∈ l := by rw [asI, (asI_fold l [] List.Pairwise.nil).2]; simp
theorem asI_snoc (l : List Int) (x : Int) : asI (l ++ [x]) = insI x (asI l) := by simp [asI, List.foldl_append]
theorem Asc.unique {a b : List Int} (ha : Asc a) (hb : Asc b) (h : ∀ x, x ∈ a ↔ x ∈ b) : a = b := by
  induction a generalizing b with
  | nil =>
    cases b with
    | nil => rfl
    | cons y r => exact absurd ((h y).2 (by simp)) (by simp)
  | cons x r ih =>
    cases b with
    | nil => exact absurd ((h x).1 (by simp)) (by simp)
    | cons y s =>
      have ha' := List.pairwise_cons.1 ha
      have hb' := List.pairwise_cons.1 hb
      have e : x = y := by
        rcases List.mem_cons.1 ((h x).1 (by simp)) with e | h1
        · exact e
        · rcases List.mem_cons.1 ((h y).2 (by simp)) with e | h2
          · exact e.symm
          · have := hb'.1 x h1; have := ha'.1 y h2; omega
      subst e
      rw [ih ha'.2 hb'.2 fun z => ?_]
      constructor
      · intro hz
        rcases List.mem_cons.1 ((h z).1 (by simp [hz])) with e | h1
        · subst e; have := ha'.1 z hz; omega
        · exact h1
      · intro hz
        rcases List.mem_cons.1 ((h z).2 (by simp [hz])) with e | h1
        · subst e; have := hb'.1 z hz; omega
        · exact h1
theorem asI_len (l : List Int) : (asI l).length ≤ l.length := by
  have ins : ∀ (n : Int) (l : List Int), (insI n l).length ≤ l.length + 1 := by
    intro n l
    induction l with
    | nil => simp [insI]
    | cons a r ih =>
      simp only [insI]
      split
      · simp only [List.length_cons]; omega
      · split <;> simp
  have key : ∀ (l acc : List Int), (l.foldl (fun acc x => insI x acc) acc).length ≤ acc.length + l.length := by
    intro l
    induction l with
    | nil => intro acc; simp
    | cons a r ih =>
      intro acc
      have := ih (insI a acc)
      have := ins a acc
      simp only [List.foldl_cons, List.length_cons]
      omega
  have := key l []
  simpa [asI] using this

/-- a map whose keys are these numbers -/
def KeysAre (D : DataW Unit) (l : List Int) : Prop := ∃ es : List (Lit × DataW Unit), D = .map es ∧ (∀ p ∈ es, ∃ z, p.1 = Lit.int .i64 z) ∧ es.Pairwise (fun p q => p.1 ≠ q.1) ∧ ∀ z, (∃ p ∈ es, p.1 = Lit.int .i64 z) ↔ z ∈ l
theorem KeysAre.nil : KeysAre (.map []) [] := ⟨[], rfl, (fun _ h => by cases h), List.Pairwise.nil, fun z => by simp⟩
theorem mem_insert {x y : Lit × DataW Unit} {l : List (Lit × DataW Unit)} : y ∈ DataW.insert x l ↔ y = x ∨ y ∈ l := by
  induction l with
  | nil => simp [DataW.insert]
  | cons a r ih =>
    simp only [DataW.insert]
    split
    · simp
    · rw [List.mem_cons, ih, List.mem_cons]
      constructor
      · rintro (h | h | h) <;> simp [h]
      · rintro (h | h | h) <;> simp [h]
theorem pair_insert {x : Lit × DataW Unit} {l : List (Lit × DataW Unit)} (h : l.Pairwise (fun p q => p.1 ≠ q.1)) (hx : ∀ y ∈ l, x.1 ≠ y.1) : (DataW.insert x l).Pairwise (fun p q => p.1 ≠ q.1) := by
  induction l with
  | nil => simp [DataW.insert]
  | cons a r ih =>
    have h' := List.pairwise_cons.1 h
    simp only [DataW.insert]
    split
    · exact List.pairwise_cons.2 ⟨hx, h⟩
    · refine List.pairwise_cons.2 ⟨fun y hy => ?_, ih h'.2 fun y hy => hx y (by simp [hy])⟩
      rcases mem_insert.1 hy with rfl | hy
      · exact fun e => hx a (by simp) e.symm
      · exact h'.1 y hy
theorem KeysAre.put {D : DataW Unit} {l : List Int} (h : KeysAre D l) (z : Int) (d : DataW Unit) : KeysAre (D.put (.int .i64 z) d) (l ++ [z]) := by
  obtain ⟨es, rfl, h1, h2, h3⟩ := h
  refine ⟨DataW.insert (.int .i64 z, d) (es.filter fun p => !p.1.sameKey (.int .i64 z)), rfl, fun p hp => ?_, ?_, fun x => ?_⟩
  · rcases mem_insert.1 hp with rfl | hp
    · exact ⟨z, rfl⟩
    · exact h1 p (List.mem_filter.1 hp).1
  · refine pair_insert (List.Pairwise.filter _ h2) fun y hy => ?_
    obtain ⟨hy1, hy2⟩ := List.mem_filter.1 hy
    obtain ⟨u, hu⟩ := h1 y hy1
    simp only [hu, Lit.sameKey, Bool.not_eq_true', decide_eq_false_iff_not, true_and] at hy2
    simp only [hu]
    intro e
    injection e with _ e
    exact hy2 e.symm
  · rw [List.mem_append, List.mem_singleton]
    constructor
    · rintro ⟨p, hp, hx⟩
      rcases mem_insert.1 hp with rfl | hp
      · simp only at hx; injection hx with _ hx; exact .inr hx.symm
      · exact .inl ((h3 x).1 ⟨p, (List.mem_filter.1 hp).1, hx⟩)
    · rintro (hx | rfl)
      · by_cases hxz : x = z
        · subst hxz; exact ⟨_, mem_insert.2 (.inl rfl), rfl⟩
        · obtain ⟨p, hp, hpx⟩ := (h3 x).2 hx
          refine ⟨p, mem_insert.2 (.inr (List.mem_filter.2 ⟨hp, ?_⟩)), hpx⟩
          simp [hpx, Lit.sameKey, hxz]
      · exact ⟨_, mem_insert.2 (.inl rfl), rfl⟩
theorem KeysAre.keys {D : DataW Unit} {l : List Int} (h : KeysAre D l) : (Go.intKeys D).Nodup ∧ ∀ x, x ∈ Go.intKeys D ↔ x ∈ l := by
  obtain ⟨es, rfl, h1, h2, h3⟩ := h
  constructor
  · show (es.map fun p => Go.intOf p.1).Nodup
    rw [List.nodup_iff_pairwise_ne, List.pairwise_map]
    refine List.Pairwise.imp_of_mem ?_ h2
    intro p q hp hq hne e
    obtain ⟨a, ha⟩ := h1 p hp
    obtain ⟨b, hb⟩ := h1 q hq
    rw [ha, hb] at e hne
    exact hne (by rw [show a = b from e])
  · intro x
    show x ∈ (es.map fun p => Go.intOf p.1) ↔ _
    rw [← h3, List.mem_map]
    constructor
    · rintro ⟨p, hp, rfl⟩
      obtain ⟨a, ha⟩ := h1 p hp
      exact ⟨p, hp, by rw [ha]; rfl⟩
    · rintro ⟨p, hp, hx⟩
      exact ⟨p, hp, by rw [hx]; rfl⟩
theorem KeysAre.size {D : DataW Unit} {l : List Int} (h : KeysAre D l) : Go.Maps.size D = (Go.intKeys D).length := by
  obtain ⟨es, rfl, _⟩ := h
  show es.length = (es.map _).length
  rw [List.length_map]
/-- the keys, sorted -/
theorem KeysAre.sorted {D : DataW Unit} {l ss : List Int} (h : KeysAre D l) (hp : ss.Perm (Go.intKeys D)) : ss.mergeSort (fun x y => decide (x ≤ y)) = asI l := by
  obtain ⟨h1, h2⟩ := h.keys
  have hs : (ss.mergeSort (fun x y => decide (x ≤ y))).Pairwise (fun a b => decide (a ≤ b) = true) := List.pairwise_mergeSort (fun a b c => by simp; omega) (fun a b => by simp; omega) ss
  have hperm : (ss.mergeSort (fun x y => decide (x ≤ y))).Perm (Go.intKeys D) := (List.mergeSort_perm ss _).trans hp
  have hnd : (ss.mergeSort (fun x y => decide (x ≤ y))).Nodup := hperm.nodup_iff.2 h1
  refine Asc.unique ?_ (asI_asc l) fun x => ?_
  · refine List.Pairwise.imp₂ ?_ hs hnd
    intro a b hab hne
    have := of_decide_eq_true hab
    omega
  · rw [hperm.mem_iff, h2, mem_asI]
end Go.Proofs.YtnkephafpebfkaaGreatDoor
