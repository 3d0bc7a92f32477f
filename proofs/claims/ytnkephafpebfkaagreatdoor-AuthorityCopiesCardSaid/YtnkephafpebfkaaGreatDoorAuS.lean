/- What an authority knows: no program in sight. -/
import Derived.Test.YtnkephafpebfkaaGreatDoorRtL
import Derived.Test.YtnkephafpebfkaaGreatDoorMapG
namespace Go.Proofs.YtnkephafpebfkaaGreatDoor
open Go.RowKit

/-- no two returns of one period -/
def DistR (l : List Ret) : Prop := l.Pairwise fun a b => a.p ≠ b.p
/-- a return takes the place of the one of its period -/
def putR (fs : List Ret) (r : Ret) : List Ret := if hasP fs r.p then fs.map (fun g => if g.p = r.p then r else g) else fs ++ [r]
/-- the answer of an authority, and its returns behind it -/
def subE (fs : List Ret) (s : List UInt8) : Int := if decE s = 0 then (if (decR s).v ≤ verP fs (decR s).p then 8 else if verP fs (decR s).p + 1 < (decR s).v then 16 else 0) else decE s
def subA (fs : List Ret) (s : List UInt8) : List Ret := if subE fs s = 0 then putR fs (decR s) else fs
theorem ofP_cons (a : Ret) (l : List Ret) (p : Int) : ofP (a :: l) p = if a.p = p then a :: ofP l p else ofP l p := by
  unfold ofP
  by_cases h : a.p = p
  · rw [List.filter_cons_of_pos (by simpa using h), if_pos h]
  · rw [List.filter_cons_of_neg (by simpa using h), if_neg h]
theorem ofP_none {l : List Ret} {p : Int} (h : ∀ r ∈ l, r.p ≠ p) : ofP l p = [] := by
  unfold ofP
  rw [List.filter_eq_nil_iff]
  intro r hr
  simpa using h r hr
theorem DistR.one {l : List Ret} (h : DistR l) {r : Ret} (hr : r ∈ l) : ofP l r.p = [r] := by
  induction l with
  | nil => cases hr
  | cons a l ih =>
    unfold DistR at h
    rw [List.pairwise_cons] at h
    rw [ofP_cons]
    rcases List.mem_cons.1 hr with rfl | hr
    · rw [if_pos rfl, ofP_none fun q hq => (h.1 q hq).symm]
    · rw [if_neg (h.1 r hr), ih h.2 hr]
theorem DistR.lat {l : List Ret} (h : DistR l) {r : Ret} (hr : r ∈ l) : latP l r.p = r ∧ verP l r.p = r.v ∧ hasP l r.p = true := by
  unfold latP verP hasP
  rw [h.one hr]
  exact ⟨rfl, rfl, rfl⟩
theorem DistR.put {l : List Ret} (h : DistR l) (r : Ret) : DistR (putR l r) := by
  unfold putR
  cases hh : hasP l r.p
  · rw [if_neg (by simp)]
    unfold DistR at h ⊢
    rw [List.pairwise_append]
    refine ⟨h, by simp, fun a ha b hb => ?_⟩
    rw [List.mem_singleton.1 hb]
    intro e
    have := hasP_mem.2 ⟨a, ha, e⟩
    rw [hh] at this; cases this
  · rw [if_pos rfl]
    unfold DistR at h ⊢
    rw [List.pairwise_map]
    refine h.imp fun {a b} hab => ?_
    by_cases h1 : a.p = r.p <;> by_cases h2 : b.p = r.p
    · exact absurd (h1.trans h2.symm) hab
    · rw [if_pos h1, if_neg h2]; exact fun e => h2 e.symm
    · rw [if_neg h1, if_pos h2]; exact h1
    · rw [if_neg h1, if_neg h2]; exact hab
theorem putR_mem {l : List Ret} {r q : Ret} (h : q ∈ putR l r) : q ∈ l ∨ q = r := by
  unfold putR at h
  split at h
  · obtain ⟨g, hg, rfl⟩ := List.mem_map.1 h
    split
    · exact .inr rfl
    · exact .inl hg
  · rcases List.mem_append.1 h with h | h
    · exact .inl h
    · exact .inr (List.mem_singleton.1 h)
theorem putR_len (l : List Ret) (r : Ret) : (putR l r).length ≤ l.length + 1 := by unfold putR; split <;> simp
theorem subA_len (a : List Ret) (s : List UInt8) : (subA a s).length ≤ a.length + 1 := by
  unfold subA; split
  · exact putR_len _ _
  · omega
theorem ofP_map {l : List Ret} {r : Ret} {p : Int} (hp : p ≠ r.p) : ofP (l.map (fun g => if g.p = r.p then r else g)) p = ofP l p := by
  induction l with
  | nil => rfl
  | cons a l ih =>
    rw [List.map_cons, ofP_cons, ofP_cons, ih]
    by_cases h : a.p = r.p
    · rw [if_pos h, if_neg hp.symm, if_neg (fun e => hp (e.symm.trans h))]
    · rw [if_neg h]
/-- what is known of a period behind a put -/
theorem put_lat {l : List Ret} (h : DistR l) (r : Ret) (p : Int) : latP (putR l r) p = (if r.p = p then r else latP l p) ∧ verP (putR l r) p = (if r.p = p then r.v else verP l p) ∧ hasP (putR l r) p = (if r.p = p then true else hasP l p) := by
  by_cases hp : r.p = p
  · subst hp
    have hm : r ∈ putR l r := by
      unfold putR
      cases hh : hasP l r.p
      · rw [if_neg (by simp)]; simp
      · rw [if_pos rfl]
        obtain ⟨q, hq, he⟩ := hasP_mem.1 hh
        exact List.mem_map.2 ⟨q, hq, by rw [if_pos he]⟩
    simp only [if_true]
    exact (h.put r).lat hm
  · have key : ofP (putR l r) p = ofP l p := by
      unfold putR
      split
      · exact ofP_map (Ne.symm hp)
      · rw [ofP_snoc, if_neg hp]
    unfold latP verP hasP
    rw [key, if_neg hp, if_neg hp, if_neg hp]
    exact ⟨rfl, rfl, rfl⟩
/-- an entry of the map -/
def entA (p : Ret × Value) : Int × Value := (p.1.p, .agg (p.1.vals p.2))
def putE (es : List (Ret × Value)) (r : Ret) (v : Value) : List (Ret × Value) := if hasP (es.map (·.1)) r.p then es.map (fun q => if q.1.p = r.p then (r, v) else q) else es ++ [(r, v)]
theorem putE_fst (es : List (Ret × Value)) (r : Ret) (v : Value) : (putE es r v).map (·.1) = putR (es.map (·.1)) r := by
  unfold putE putR
  split
  · rw [List.map_map, List.map_map]
    apply List.map_congr_left
    intro q _
    simp only [Function.comp]
    split <;> rfl
  · simp
theorem putE_mem {es : List (Ret × Value)} {r : Ret} {v : Value} {q : Ret × Value} (h : q ∈ putE es r v) : q ∈ es ∨ q = (r, v) := by
  unfold putE at h
  split at h
  · obtain ⟨g, hg, rfl⟩ := List.mem_map.1 h
    split
    · exact .inr rfl
    · exact .inl hg
  · rcases List.mem_append.1 h with h | h
    · exact .inl h
    · exact .inr (List.mem_singleton.1 h)
theorem putI_same {es : List (Ret × Value)} {r : Ret} {v : Value} (h : ∀ q ∈ es, q.1.p ≠ r.p) : es.map (fun q => if q.1.p = r.p then (r, v) else q) = es := by
  induction es with
  | nil => rfl
  | cons a l ih =>
    rw [List.map_cons, if_neg (h a (by simp)), ih fun q hq => h q (by simp [hq])]
theorem putI_ents {es : List (Ret × Value)} (hd : DistR (es.map (·.1))) (r : Ret) (v : Value) : putI r.p (.agg (r.vals v)) (es.map entA) = (putE es r v).map entA := by
  induction es with
  | nil => rfl
  | cons a l ih =>
    unfold DistR at hd
    rw [List.map_cons, List.pairwise_cons] at hd
    have ih := ih hd.2
    rw [List.map_cons, putI]
    by_cases h : a.1.p = r.p
    · have he : hasP ((a :: l).map (·.1)) r.p = true := hasP_mem.2 ⟨a.1, by simp, h⟩
      have hno : ∀ q ∈ l, q.1.p ≠ r.p := fun q hq e => hd.1 q.1 (List.mem_map.2 ⟨q, hq, rfl⟩) (h.trans e.symm)
      rw [putE, he, if_pos rfl, List.map_cons, if_pos h, putI_same hno]
      simp only [entA, h, if_true, List.map_cons]
    · have he : hasP ((a :: l).map (·.1)) r.p = hasP (l.map (·.1)) r.p := by
        unfold hasP
        rw [List.map_cons, ofP_cons, if_neg h]
      have h' : ¬ r.p = (entA a).1 := fun e => h e.symm
      rw [if_neg h', ih, putE, putE, he]
      split
      · rw [List.map_cons, List.map_cons, if_neg h]
      · simp
theorem get_ret {es : List (Ret × Value)} (hd : DistR (es.map (·.1))) (p : Int) : (hasP (es.map (·.1)) p = true → ∃ v, (latP (es.map (·.1)) p, v) ∈ es ∧ getI (es.map entA) p = some (.agg ((latP (es.map (·.1)) p).vals v))) ∧ (hasP (es.map (·.1)) p = false → getI (es.map entA) p = none) := by
  cases hf : findI p 0 (es.map entA) with
  | none =>
    refine ⟨fun h => ?_, fun _ => by unfold getI; rw [hf]; rfl⟩
    exfalso
    obtain ⟨r, hr, hp⟩ := hasP_mem.1 h
    obtain ⟨q, hq, rfl⟩ := List.mem_map.1 hr
    have key : ∀ (j : Nat) (l : List (Ret × Value)), q ∈ l → findI p j (l.map entA) ≠ none := by
      intro j l
      induction l generalizing j with
      | nil => intro h; cases h
      | cons a l ih =>
        intro h
        rw [List.map_cons, findI]
        by_cases ha : p = (entA a).1
        · rw [if_pos ha]; simp
        · rw [if_neg ha]
          rcases List.mem_cons.1 h with rfl | h
          · exact absurd hp.symm ha
          · exact ih _ h
    exact key 0 es hq hf
  | some x =>
    obtain ⟨n, a⟩ := x
    obtain ⟨_, h2, _⟩ := findI_some hf
    rw [Nat.sub_zero, List.getElem?_map] at h2
    cases hp : es[n]? with
    | none => rw [hp] at h2; cases h2
    | some q =>
      rw [hp] at h2
      simp only [Option.map_some, Option.some.injEq, entA, Prod.mk.injEq] at h2
      have hm := List.mem_of_getElem? hp
      have hm1 : q.1 ∈ es.map (·.1) := List.mem_map.2 ⟨q, hm, rfl⟩
      have hl := hd.lat hm1
      rw [h2.1] at hl
      refine ⟨fun _ => ⟨q.2, by rw [hl.1]; exact hm, ?_⟩, fun h => ?_⟩
      · unfold getI
        rw [hf, hl.1, h2.2]; rfl
      · rw [hl.2.2] at h; cases h
end Go.Proofs.YtnkephafpebfkaaGreatDoor
