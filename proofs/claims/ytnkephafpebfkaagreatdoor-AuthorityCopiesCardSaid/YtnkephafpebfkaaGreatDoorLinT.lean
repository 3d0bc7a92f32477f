/- Lines and words of texts, and their numbers: no program in sight. -/
import Derived.Test.YtnkephafpebfkaaGreatDoorTxt
import Derived.Lib.SplitLaws
namespace Go.Proofs.YtnkephafpebfkaaGreatDoor

/-- a text, cut at each c -/
def splitBy (c : UInt8) : List UInt8 → List (List UInt8)
  | [] => [[]]
  | x :: r => if x = c then [] :: splitBy c r else
    match splitBy c r with
    | [] => [[x]]
    | h :: t => (x :: h) :: t
/-- pieces, put together with c between them -/
def joinBy (c : UInt8) : List (List UInt8) → List UInt8
  | [] => []
  | [a] => a
  | a :: b :: r => a ++ c :: joinBy c (b :: r)

theorem splitBy_ne (c : UInt8) (l : List UInt8) : splitBy c l ≠ [] := by
  cases l with
  | nil => simp [splitBy]
  | cons x r => unfold splitBy; split
                · simp
                · split <;> simp
theorem split_free {c : UInt8} : ∀ {a : List UInt8}, c ∉ a → splitBy c a = [a]
  | [], _ => rfl
  | x :: r, h => by
    have hx : ¬ x = c := fun e => h (by simp [e])
    have ih := split_free (c := c) (a := r) (fun e => h (by simp [e]))
    unfold splitBy
    rw [if_neg hx, ih]
theorem split_app {c : UInt8} : ∀ {a : List UInt8} (b : List UInt8), c ∉ a → splitBy c (a ++ c :: b) = a :: splitBy c b
  | [], b, _ => by rw [List.nil_append]; conv => lhs; unfold splitBy
                   rw [if_pos rfl]
  | x :: r, b, h => by
    have hx : ¬ x = c := fun e => h (by simp [e])
    have ih := split_app (c := c) (a := r) b (fun e => h (by simp [e]))
    rw [List.cons_append]
    conv => lhs; unfold splitBy
    rw [if_neg hx, ih]
theorem join_cons {c : UInt8} {a : List UInt8} {l : List (List UInt8)} (h : l ≠ []) : joinBy c (a :: l) = a ++ c :: joinBy c l := by
  cases l with
  | nil => exact absurd rfl h
  | cons b r => rfl
theorem join_split (c : UInt8) : ∀ l : List UInt8, joinBy c (splitBy c l) = l
  | [] => rfl
  | x :: r => by
    have ih := join_split c r
    unfold splitBy
    by_cases hx : x = c
    · rw [if_pos hx, join_cons (splitBy_ne c r), ih, hx]; rfl
    · rw [if_neg hx]
      split
      · rename_i h; exact absurd h (splitBy_ne c r)
      · rename_i h t he
        rw [he] at ih
        cases t with
        | nil => rw [joinBy] at ih ⊢; rw [ih]
        | cons b t => rw [joinBy] at ih ⊢; rw [List.cons_append, ih]
theorem split_mem {c : UInt8} : ∀ {l a : List UInt8}, a ∈ splitBy c l → c ∉ a
  | [], a, h => by simp [splitBy] at h; subst h; simp
  | x :: r, a, h => by
    have ih := fun a => split_mem (c := c) (l := r) (a := a)
    unfold splitBy at h
    by_cases hx : x = c
    · rw [if_pos hx] at h
      rcases List.mem_cons.1 h with rfl | h
      · simp
      · exact ih _ h
    · rw [if_neg hx] at h
      split at h
      · rename_i he; exact absurd he (splitBy_ne c r)
      · rename_i y t he
        rw [he] at ih
        rcases List.mem_cons.1 h with rfl | h
        · intro hc
          rcases List.mem_cons.1 hc with hc | hc
          · exact hx hc.symm
          · exact ih y (by simp) hc
        · exact ih a (by simp [h])
theorem split_join {c : UInt8} : ∀ {ls : List (List UInt8)}, ls ≠ [] → (∀ a ∈ ls, c ∉ a) → splitBy c (joinBy c ls) = ls
  | [], h, _ => absurd rfl h
  | [a], _, h => split_free (h a (by simp))
  | a :: b :: r, _, h => by
    rw [join_cons (by simp), split_app _ (h a (by simp)), split_join (by simp) (fun x hx => h x (by simp at hx ⊢; right; exact hx))]
theorem split_iff {c : UInt8} {l : List UInt8} {ls : List (List UInt8)} (h : ls ≠ []) (hf : ∀ a ∈ ls, c ∉ a) : splitBy c l = ls ↔ l = joinBy c ls := by
  constructor
  · rintro rfl; exact (join_split c l).symm
  · rintro rfl; exact split_join h hf
/-- each piece with its c behind it -/
theorem join_ended {c : UInt8} : ∀ {ls : List (List UInt8)}, ls ≠ [] → joinBy c ls ++ [c] = (ls.map (· ++ [c])).flatten
  | [], h => absurd rfl h
  | [a], _ => by simp [joinBy]
  | a :: b :: r, _ => by
    have ih := join_ended (c := c) (ls := b :: r) (by simp)
    rw [join_cons (by simp), List.append_assoc, List.cons_append, ih]
    simp
/-- strings.Split at one byte -/
theorem index_here (c : UInt8) (r : List UInt8) : Lib.index (c :: r) [c] = 0 := by
  rw [Lib.index]; simp [List.isPrefixOf]
theorem index_next {c x : UInt8} {r : List UInt8} (hx : ¬ x = c) : Lib.index (x :: r) [c] = if Lib.index r [c] == -1 then -1 else Lib.index r [c] + 1 := by
  have hp : ([c] : List UInt8).isPrefixOf (x :: r) = false := by simp [List.isPrefixOf, Ne.symm hx]
  rw [Lib.index, hp]; simp
theorem index_none {c : UInt8} : ∀ {r : List UInt8}, r.count c = 0 → Lib.index r [c] = -1
  | [], _ => by simp [Lib.index]
  | x :: r, h => by
    have hx : ¬ x = c := fun e => by rw [e, List.count_cons_self] at h; omega
    rw [List.count_cons_of_ne (by simpa using hx)] at h
    rw [index_next hx, index_none h]; rfl
theorem index_some {c : UInt8} : ∀ {r : List UInt8}, 0 < r.count c → ∃ i : Nat, Lib.index r [c] = i ∧ i < r.length
  | [], h => by simp at h
  | x :: r, h => by
    by_cases hx : x = c
    · subst hx; exact ⟨0, index_here x r, by simp⟩
    · rw [List.count_cons_of_ne (by simpa using hx)] at h
      obtain ⟨i, hi, hl⟩ := index_some h
      refine ⟨i + 1, ?_, by simpa using hl⟩
      rw [index_next hx, hi, if_neg (by simp)]; rfl
theorem splitK_one (c : UInt8) : ∀ l : List UInt8, Lib.splitK [c] 0 (l.count c) l = splitBy c l
  | [] => rfl
  | x :: r => by
    have ih := splitK_one c r
    by_cases hx : x = c
    · subst hx
      rw [List.count_cons_self, Lib.splitK, index_here, if_neg (by decide)]
      conv => rhs; unfold splitBy
      rw [if_pos rfl]
      simp [ih]
    · rw [List.count_cons_of_ne (by simpa using hx)]
      conv => rhs; unfold splitBy
      rw [if_neg hx, ← ih]
      cases hk : r.count c with
      | zero => simp [Lib.splitK]
      | succ k =>
        obtain ⟨i, hi, hl⟩ := index_some (c := c) (r := r) (by omega)
        have hn : ¬ (Lib.index r [c] == -1) = true := by rw [hi]; simp
        rw [Lib.splitK, Lib.splitK, index_next hx, if_neg hn, if_neg hn, hi, if_neg (by simp; omega)]
        have e1 : ((i : Int) + 1).toNat = i + 1 := by omega
        have e2 : ((i : Int)).toNat = i := by omega
        simp [e1, e2]
theorem splitB_lines (s : ByteArray) (c : UInt8) : (Lib.splitB ⟨#[c]⟩ 0 (Lib.countB s ⟨#[c]⟩) s).map (·.data.toList) = splitBy c s.data.toList := by
  rw [Lib.splitB_data]
  have : Lib.countB s ⟨#[c]⟩ = s.data.toList.count c := Lib.count_one c _
  rw [this]
  exact splitK_one c _

/-- the number of a text that is its decimal: not negative, at most 10^18 -/
def numT (l : List UInt8) : Option Int := match Lib.atoiAll l with
  | .ok v => if 0 ≤ v ∧ v ≤ 1000000000000000000 ∧ Lib.itoa v = l then some v else none
  | _ => none
theorem numT_iff {l : List UInt8} {n : Int} : numT l = some n ↔ l = Lib.itoa n ∧ 0 ≤ n ∧ n ≤ 1000000000000000000 := by
  constructor
  · intro h
    unfold numT at h
    split at h
    · split at h
      · rename_i hc; injection h with h; subst h; exact ⟨hc.2.2.symm, hc.1, hc.2.1⟩
      · cases h
    · cases h
  · rintro ⟨rfl, h0, h1⟩
    rw [numT, atoi_itoa n (by omega) (by omega)]
    exact if_pos ⟨h0, h1, rfl⟩
theorem itoa_free (n : Int) {c : UInt8} (h : c.toNat < 45) : c ∉ Lib.itoa n := fun hc => by
  have := itoa_bytes n c hc; omega
/-- the words of a line with numbers in the places of the empty ones -/
def readP : List (List UInt8) → List (List UInt8) → Option (List Int)
  | [], [] => some []
  | p :: ps, w :: ws => if p = [] then (match numT w with
      | some n => (match readP ps ws with
        | some r => some (n :: r)
        | none => none)
      | none => none) else if w = p then readP ps ws else none
  | _, _ => none
/-- the pattern filled with numbers -/
def fillP : List (List UInt8) → List Int → List (List UInt8)
  | [], _ => []
  | p :: ps, ns => if p = [] then (match ns with
      | n :: r => Lib.itoa n :: fillP ps r
      | [] => []) else p :: fillP ps ns
def okN (n : Int) : Prop := 0 ≤ n ∧ n ≤ 1000000000000000000
def holes (ps : List (List UInt8)) : Nat := (ps.filter (· = [])).length
theorem readP_iff : ∀ {ps ws : List (List UInt8)} {ns : List Int}, readP ps ws = some ns ↔ ws = fillP ps ns ∧ ns.length = holes ps ∧ ∀ n ∈ ns, okN n
  | [], [], ns => by
    simp only [readP, fillP, holes, List.filter_nil, List.length_nil, Option.some.injEq]
    constructor
    · rintro rfl; simp
    · rintro ⟨_, h, _⟩; exact (List.eq_nil_of_length_eq_zero h).symm
  | [], w :: ws, ns => by simp [readP, fillP]
  | p :: ps, [], ns => by
    unfold readP fillP
    simp only [reduceCtorEq, false_iff]
    by_cases hp : p = []
    · rw [if_pos hp]
      rintro ⟨h1, h2, _⟩
      cases ns with
      | nil => simp [holes, hp] at h2
      | cons n r => cases h1
    · rw [if_neg hp]; rintro ⟨h1, _⟩; cases h1
  | p :: ps, w :: ws, ns => by
    have ih := fun ns => readP_iff (ps := ps) (ws := ws) (ns := ns)
    unfold readP fillP
    by_cases hp : p = []
    · rw [if_pos hp, if_pos hp]
      have hh : holes (p :: ps) = holes ps + 1 := by simp [holes, hp]
      rw [hh]
      cases hn : numT w with
      | none =>
        simp only [reduceCtorEq, false_iff]
        rintro ⟨h1, h2, h3⟩
        cases ns with
        | nil => simp at h2
        | cons n r =>
          simp only [List.cons.injEq] at h1
          have := numT_iff.2 ⟨h1.1, (h3 n (by simp)).1, (h3 n (by simp)).2⟩
          rw [hn] at this; cases this
      | some m =>
        obtain ⟨hw, hm⟩ := numT_iff.1 hn
        cases hr : readP ps ws with
        | none =>
          simp only [reduceCtorEq, false_iff]
          rintro ⟨h1, h2, h3⟩
          cases ns with
          | nil => simp at h2
          | cons n r =>
            simp only [List.cons.injEq] at h1
            have := (ih r).2 ⟨h1.2, by simpa using h2, fun x hx => h3 x (by simp [hx])⟩
            rw [hr] at this; cases this
        | some q =>
          obtain ⟨k1, k2, k3⟩ := (ih q).1 hr
          simp only [Option.some.injEq]
          constructor
          · rintro rfl
            refine ⟨by rw [hw, k1], by simp [k2], fun n hn => ?_⟩
            rcases List.mem_cons.1 hn with rfl | hn
            · exact hm
            · exact k3 n hn
          · rintro ⟨h1, h2, h3⟩
            cases ns with
            | nil => simp at h2
            | cons n r =>
              simp only [List.cons.injEq] at h1
              have e1 := numT_iff.2 ⟨h1.1, (h3 n (by simp)).1, (h3 n (by simp)).2⟩
              rw [hn] at e1
              have e2 := (ih r).2 ⟨h1.2, by simpa using h2, fun x hx => h3 x (by simp [hx])⟩
              rw [hr] at e2
              injection e1 with e1
              injection e2 with e2
              rw [e1, e2]
    · rw [if_neg hp, if_neg hp]
      have hh : holes (p :: ps) = holes ps := by simp [holes, hp]
      rw [hh]
      by_cases hw : w = p
      · rw [if_pos hw, ih]; simp [hw]
      · rw [if_neg hw]; simp [hw]
/-- a line of words and numbers -/
def lineP (ps : List (List UInt8)) (ns : List Int) : List UInt8 := joinBy 32 (fillP ps ns)
def readL (ps : List (List UInt8)) (l : List UInt8) : Option (List Int) := readP ps (splitBy 32 l)
theorem fillP_ne {ps : List (List UInt8)} {ns : List Int} (h : ps ≠ []) (hl : ns.length = holes ps) : fillP ps ns ≠ [] := by
  cases ps with
  | nil => exact absurd rfl h
  | cons p ps =>
    unfold fillP
    by_cases hp : p = []
    · rw [if_pos hp]
      cases ns with
      | nil => simp [holes, hp] at hl
      | cons n r => simp
    · rw [if_neg hp]; simp
theorem fillP_mem : ∀ {ps : List (List UInt8)} {ns : List Int} {a : List UInt8}, a ∈ fillP ps ns → a ∈ ps ∨ ∃ n, a = Lib.itoa n
  | [], _, a, h => by simp [fillP] at h
  | p :: ps, ns, a, h => by
    unfold fillP at h
    by_cases hp : p = []
    · rw [if_pos hp] at h
      cases ns with
      | nil => simp at h
      | cons n r =>
        rcases List.mem_cons.1 h with h | h
        · exact .inr ⟨n, h⟩
        · rcases fillP_mem h with h | h
          · exact .inl (by simp [h])
          · exact .inr h
    · rw [if_neg hp] at h
      rcases List.mem_cons.1 h with h | h
      · exact .inl (by simp [h])
      · rcases fillP_mem h with h | h
        · exact .inl (by simp [h])
        · exact .inr h
theorem readL_iff {ps : List (List UInt8)} (h : ps ≠ []) (hf : ∀ p ∈ ps, (32 : UInt8) ∉ p) {l : List UInt8} {ns : List Int} :
    readL ps l = some ns ↔ l = lineP ps ns ∧ ns.length = holes ps ∧ ∀ n ∈ ns, okN n := by
  rw [readL, readP_iff, lineP]
  constructor
  · rintro ⟨h1, h2, h3⟩
    refine ⟨?_, h2, h3⟩
    rw [← h1, join_split]
  · rintro ⟨h1, h2, h3⟩
    refine ⟨?_, h2, h3⟩
    rw [h1]
    refine split_join (fillP_ne h h2) fun a ha => ?_
    rcases fillP_mem ha with ha | ⟨n, rfl⟩
    · exact hf a ha
    · exact itoa_free n (by decide)
theorem join_free {c d : UInt8} (hd : ¬ d = c) : ∀ {ls : List (List UInt8)}, (∀ a ∈ ls, c ∉ a) → c ∉ joinBy d ls
  | [], _ => by simp [joinBy]
  | [a], h => h a (by simp)
  | a :: b :: r, h => by
    rw [join_cons (by simp)]
    have ih := join_free hd (ls := b :: r) (fun x hx => h x (by simp at hx ⊢; right; exact hx))
    have ha := h a (by simp)
    intro hc
    rcases List.mem_append.1 hc with hc | hc
    · exact ha hc
    · rcases List.mem_cons.1 hc with hc | hc
      · exact hd hc.symm
      · exact ih hc
theorem lineP_free {ps : List (List UInt8)} (hf : ∀ p ∈ ps, (10 : UInt8) ∉ p) (ns : List Int) : (10 : UInt8) ∉ lineP ps ns :=
  join_free (by decide) fun a ha => by
    rcases fillP_mem ha with ha | ⟨n, rfl⟩
    · exact hf a ha
    · exact itoa_free n (by decide)
end Go.Proofs.YtnkephafpebfkaaGreatDoor
