/- Contracts and plain facts that the laws of this seat share, part 1. -/
import Derived.Test.YtjbhabfflcbebaaGreatLns
import Derived.Test.YtjbhabfflcbebaaGreatSrl
import Derived.Test.YtjbhabfflcbebaaGreatColS
import Derived.Test.YtjbhabfflcbebaaGreatRows
import Derived.Test.YtjbhabfflcbebaaGreatLnD
import Derived.Test.YtjbhabfflcbebaaGreatSlice
import Derived.Sort.Grow
import Derived.Test.YtjbhabfflcbebaaGreatKit
import Derived.Lib.ItoaNum
import Derived.Lib.AtoiAllCases
import Derived.Lib.SplitLaws
import Derived.Test.YtjbhabfflcbebaaGreatPut
import Derived.Test.YtjbhabfflcbebaaGreatRow
import Derived.Test.YtjbhabfflcbebaaGreatExt
import Derived.Test.YtjbhabfflcbebaaGreatDeck
import Derived.Test.YtjbhabfflcbebaaGreatGen0
import Derived.Test.YtjbhabfflcbebaaGreatGb
import Derived.RegionTactic
import Derived.Deep.QuietTactic
import Derived.BigQuiet
import Derived.Deep.RegionLaw
import Derived.Deep.AppendLies
import Derived.Deep.CutBlock
import Derived.Deep.DeepCutAuto
import Derived.Test.YtjbhabfflcbebaaGreatDeck2
import Derived.Test.YtjbhabfflcbebaaGreatTok
import Derived.WalkKit
import Derived.WalkSpells
import Derived.WalkLawsBesides
import Derived.Lib.Hide
import Derived.Test.YtjbhabfflcbebaaGreatTokSpec
import Derived.Test.YtjbhabfflcbebaaGreatName
import Derived.Test.YtjbhabfflcbebaaGreatLine
import Derived.Test.YtjbhabfflcbebaaGreatDeck3
import Derived.Test.YtjbhabfflcbebaaGreatOrd
import Derived.Test.YtjbhabfflcbebaaGreatLib
import Derived.Deep.RegionWith
import Derived.Deep.RegionHeld3
import Derived.StillTailTactics
import Derived.Test.YtjbhabfflcbebaaGreatMap
import Derived.Test.YtjbhabfflcbebaaGreatRng
import Derived.Test.YtjbhabfflcbebaaGreatProg
import Derived.MapKept
import Derived.KernelRfl
import Derived.Lib.OthersKept
import Derived.Test.YtjbhabfflcbebaaGreatSum
import Derived.RangeFuncNested
import Derived.RangeFuncBound
import Derived.RangeFuncCalls
import Derived.RangeFuncLeaves
import Derived.Shelf.Abstract
import Derived.Shelf.RegionOpen
import Derived.OwnWalkIn
import Derived.TacticsInMore
import Derived.LoopNIn
import Derived.LoopIn
import Derived.Test.YtjbhabfflcbebaaGreatRes
import Derived.Maps.Views
import Derived.Maps.Own
import Derived.Lib.SlKeysI
import Derived.Test.YtjbhabfflcbebaaGreatIter
import Derived.Shelf.SlIterI.Nil
import Derived.Shelf.SortM.Plain
import Derived.Shelf.SortM.SortNone
/- Slices of lines and their order; no sums. -/
namespace Go.Proofs.YtjbhabfflcbebaaGreat
open Go.RowKit Go.Sort

theorem formB_formed {x : Ln} (h : formB x = true) : formedB x = true := by unfold formB at h; rw [Bool.and_eq_true] at h; exact h.1

/-- lines of the form of lines, in strict order -/
def ordB : List Ln → Bool
  | a :: b :: r => formB a && (lnLt a b && ordB (b :: r))
  | [a] => formB a
  | [] => true
theorem ordB_iff (l : List Ln) : ordB l = true ↔ (∀ j (h : j < l.length), formB l[j] = true) ∧ ∀ j (h : j + 1 < l.length), lnLt (l[j]'(by omega)) (l[j + 1]'h) = true := by
  induction l with
  | nil => simp [ordB]
  | cons a r ih =>
    cases r with
    | nil =>
      simp only [ordB]
      constructor
      · intro h
        exact ⟨fun j hj => by obtain rfl : j = 0 := by simp at hj; omega
                              exact h, fun j hj => by simp at hj⟩
      · intro h; exact h.1 0 (by simp)
    | cons b r =>
      simp only [ordB, Bool.and_eq_true, ih]
      constructor
      · rintro ⟨h1, h2, h3, h4⟩
        refine ⟨fun j hj => ?_, fun j hj => ?_⟩
        · cases j with
          | zero => exact h1
          | succ j => exact h3 j (by simpa using hj)
        · cases j with
          | zero => exact h2
          | succ j => exact h4 j (by simpa using hj)
      · rintro ⟨h1, h2⟩
        exact ⟨h1 0 (by simp), h2 0 (by simp), fun j hj => h1 (j + 1) (by simpa using hj), fun j hj => h2 (j + 1) (by simpa using hj)⟩
end Go.Proofs.YtjbhabfflcbebaaGreat
/- Plain facts on decimal texts: no program in sight. -/
namespace Go.Proofs.YtjbhabfflcbebaaGreat

theorem digit_nat {d : Nat} (h : d < 10) : (UInt8.ofNat (48 + d)).toNat = 48 + d := by
  rw [UInt8.toNat_ofNat']; omega
theorem dec_digits (u : Nat) : ∀ c ∈ Lib.decDigits u, 48 ≤ c.toNat ∧ c.toNat ≤ 57 := by
  induction u using Nat.strongRecOn with
  | ind u ih =>
    intro c hc
    rw [Lib.decDigits] at hc
    by_cases hu : u < 10
    · rw [dif_pos hu, List.mem_singleton] at hc
      subst hc; rw [digit_nat hu]; omega
    · rw [dif_neg hu, List.mem_append, List.mem_singleton] at hc
      rcases hc with hc | hc
      · exact ih (u / 10) (by omega) c hc
      · subst hc; rw [digit_nat (by omega)]; omega
theorem dec_ne (u : Nat) : Lib.decDigits u ≠ [] := by
  rw [Lib.decDigits]; split <;> simp
theorem parse_snoc (l : List UInt8) : ∀ (c : UInt8) (acc v : Nat), Lib.parseUint10 acc l = .ok v → Lib.parseUint10 acc (l ++ [c]) = Lib.parseUint10 v [c] := by
  induction l with
  | nil => intro c acc v h; simp only [Lib.parseUint10] at h; injection h with h; subst h; rfl
  | cons a r ih =>
    intro c acc v h
    rw [List.cons_append]
    unfold Lib.parseUint10 at h ⊢
    split at h
    · rename_i h1
      split at h
      · cases h
      · rename_i h2
        split at h
        · cases h
        · rename_i h3
          rw [if_pos h1, if_neg h2, if_neg h3, ih c _ v h]
          rfl
    · cases h
theorem parse_dec (u : Nat) (h : u < 18446744073709551616) : Lib.parseUint10 0 (Lib.decDigits u) = .ok u := by
  induction u using Nat.strongRecOn with
  | ind u ih =>
    rw [Lib.decDigits]
    by_cases hu : u < 10
    · rw [dif_pos hu]
      simp only [Lib.parseUint10, digit_nat hu]
      rw [if_pos (by omega), if_neg (by omega), if_neg (by omega)]
      congr 1; omega
    · rw [dif_neg hu, parse_snoc _ _ _ (u / 10) (ih (u / 10) (by omega) (by omega))]
      simp only [Lib.parseUint10, digit_nat (show u % 10 < 10 by omega)]
      rw [if_pos (by omega), if_neg (by omega), if_neg (by omega)]
      congr 1; omega
theorem mag_dec (u : Nat) (h : u < 18446744073709551616) : Lib.parseMag (Lib.decDigits u) = .ok u := by
  rw [Lib.parseMag, if_neg (dec_ne u), parse_dec u h]
theorem atoi_itoa (n : Int) (h0 : -9223372036854775808 ≤ n) (h1 : n ≤ 9223372036854775807) : Lib.atoiAll (Lib.itoa n) = .ok n := by
  unfold Lib.itoa
  by_cases hn : n < 0
  · rw [if_pos hn, Lib.atoiAll_minus, mag_dec _ (by omega)]
    simp only [Lib.signed]
    rw [if_neg (by omega)]
    congr 1; omega
  · rw [if_neg hn]
    cases hd : Lib.decDigits n.toNat with
    | nil => exact absurd hd (dec_ne _)
    | cons c r =>
      have hc := dec_digits n.toNat c (by rw [hd]; simp)
      rw [Lib.atoiAll_plain c r (by omega) (by omega), ← hd, mag_dec _ (by omega)]
      simp only [Lib.signless]
      rw [if_neg (by omega)]
      congr 1; omega
theorem itoa_inj {n m : Int} (h0 : -9223372036854775808 ≤ n) (h1 : n ≤ 9223372036854775807) (k0 : -9223372036854775808 ≤ m) (k1 : m ≤ 9223372036854775807) (h : Lib.itoa n = Lib.itoa m) : n = m := by
  have a := atoi_itoa n h0 h1
  rw [h, atoi_itoa m k0 k1] at a
  injection a with a
  exact a.symm
theorem itoa_bytes (n : Int) : ∀ c ∈ Lib.itoa n, c.toNat = 45 ∨ 48 ≤ c.toNat ∧ c.toNat ≤ 57 := by
  intro c hc
  unfold Lib.itoa at hc
  split at hc
  · rcases List.mem_cons.1 hc with rfl | hc
    · exact .inl rfl
    · exact .inr (dec_digits _ c hc)
  · exact .inr (dec_digits _ c hc)
theorem itoa_ne (n : Int) : Lib.itoa n ≠ [] := by
  unfold Lib.itoa; split
  · simp
  · exact dec_ne _
theorem itoa_neg' (n : Int) (h : n < 0) : Lib.itoa n = 45 :: Lib.decDigits n.natAbs := by rw [Lib.itoa, if_pos h]
theorem itoa_pos' (n : Int) (h : 0 ≤ n) : Lib.itoa n = Lib.decDigits n.natAbs := by rw [Lib.itoa, if_neg (by omega)]; congr 1; omega
theorem dec_big (u : Nat) (h : 10 ≤ u) : Lib.decDigits u = Lib.decDigits (u / 10) ++ [UInt8.ofNat (48 + u % 10)] := by
  rw [Lib.decDigits, dif_neg (by omega)]
theorem dec_small (u : Nat) (h : u < 10) : Lib.decDigits u = [UInt8.ofNat (48 + u)] := by rw [Lib.decDigits, dif_pos h]
end Go.Proofs.YtjbhabfflcbebaaGreat
/- Lines and words of texts, and their numbers: no program in sight. -/
namespace Go.Proofs.YtjbhabfflcbebaaGreat

/-- a text, cut at each c -/
def splitBy (c : UInt8) : List UInt8 → List (List UInt8)
  | [] => [[]]
  | x :: r => if x = c then [] :: splitBy c r else
    match splitBy c r with
    | [] => [[x]]
    | h :: t => (x :: h) :: t
/-- pieces, put together with c between them -/
def joinBy (c : UInt8) : List (List UInt8) → List UInt8
  | [] => []
  | [a] => a
  | a :: b :: r => a ++ c :: joinBy c (b :: r)

theorem splitBy_ne (c : UInt8) (l : List UInt8) : splitBy c l ≠ [] := by
  cases l with
  | nil => simp [splitBy]
  | cons x r => unfold splitBy; split
                · simp
                · split <;> simp
theorem split_free {c : UInt8} : ∀ {a : List UInt8}, c ∉ a → splitBy c a = [a]
  | [], _ => rfl
  | x :: r, h => by
    have hx : ¬ x = c := fun e => h (by simp [e])
    have ih := split_free (c := c) (a := r) (fun e => h (by simp [e]))
    unfold splitBy
    rw [if_neg hx, ih]
theorem split_app {c : UInt8} : ∀ {a : List UInt8} (b : List UInt8), c ∉ a → splitBy c (a ++ c :: b) = a :: splitBy c b
  | [], b, _ => by rw [List.nil_append]; conv => lhs; unfold splitBy
                   rw [if_pos rfl]
  | x :: r, b, h => by
    have hx : ¬ x = c := fun e => h (by simp [e])
    have ih := split_app (c := c) (a := r) b (fun e => h (by simp [e]))
    rw [List.cons_append]
    conv => lhs; unfold splitBy
    rw [if_neg hx, ih]
theorem join_cons {c : UInt8} {a : List UInt8} {l : List (List UInt8)} (h : l ≠ []) : joinBy c (a :: l) = a ++ c :: joinBy c l := by
  cases l with
  | nil => exact absurd rfl h
  | cons b r => rfl
theorem join_split (c : UInt8) : ∀ l : List UInt8, joinBy c (splitBy c l) = l
  | [] => rfl
  | x :: r => by
    have ih := join_split c r
    unfold splitBy
    by_cases hx : x = c
    · rw [if_pos hx, join_cons (splitBy_ne c r), ih, hx]; rfl
    · rw [if_neg hx]
      split
      · rename_i h; exact absurd h (splitBy_ne c r)
      · rename_i h t he
        rw [he] at ih
        cases t with
        | nil => rw [joinBy] at ih ⊢; rw [ih]
        | cons b t => rw [joinBy] at ih ⊢; rw [List.cons_append, ih]
theorem split_mem {c : UInt8} : ∀ {l a : List UInt8}, a ∈ splitBy c l → c ∉ a
  | [], a, h => by simp [splitBy] at h; subst h; simp
  | x :: r, a, h => by
    have ih := fun a => split_mem (c := c) (l := r) (a := a)
    unfold splitBy at h
    by_cases hx : x = c
    · rw [if_pos hx] at h
      rcases List.mem_cons.1 h with rfl | h
      · simp
      · exact ih _ h
    · rw [if_neg hx] at h
      split at h
      · rename_i he; exact absurd he (splitBy_ne c r)
      · rename_i y t he
        rw [he] at ih
        rcases List.mem_cons.1 h with rfl | h
        · intro hc
          rcases List.mem_cons.1 hc with hc | hc
          · exact hx hc.symm
          · exact ih y (by simp) hc
        · exact ih a (by simp [h])
theorem split_join {c : UInt8} : ∀ {ls : List (List UInt8)}, ls ≠ [] → (∀ a ∈ ls, c ∉ a) → splitBy c (joinBy c ls) = ls
  | [], h, _ => absurd rfl h
  | [a], _, h => split_free (h a (by simp))
  | a :: b :: r, _, h => by
    rw [join_cons (by simp), split_app _ (h a (by simp)), split_join (by simp) (fun x hx => h x (by simp at hx ⊢; right; exact hx))]
theorem split_iff {c : UInt8} {l : List UInt8} {ls : List (List UInt8)} (h : ls ≠ []) (hf : ∀ a ∈ ls, c ∉ a) : splitBy c l = ls ↔ l = joinBy c ls := by
  constructor
  · rintro rfl; exact (join_split c l).symm
  · rintro rfl; exact split_join h hf
/-- each piece with its c behind it -/
theorem join_ended {c : UInt8} : ∀ {ls : List (List UInt8)}, ls ≠ [] → joinBy c ls ++ [c] = (ls.map (· ++ [c])).flatten
  | [], h => absurd rfl h
  | [a], _ => by simp [joinBy]
  | a :: b :: r, _ => by
    have ih := join_ended (c := c) (ls := b :: r) (by simp)
    rw [join_cons (by simp), List.append_assoc, List.cons_append, ih]
    simp
/-- strings.Split at one byte -/
theorem index_here (c : UInt8) (r : List UInt8) : Lib.index (c :: r) [c] = 0 := by
  rw [Lib.index]; simp [List.isPrefixOf]
theorem index_next {c x : UInt8} {r : List UInt8} (hx : ¬ x = c) : Lib.index (x :: r) [c] = if Lib.index r [c] == -1 then -1 else Lib.index r [c] + 1 := by
  have hp : ([c] : List UInt8).isPrefixOf (x :: r) = false := by simp [List.isPrefixOf, Ne.symm hx]
  rw [Lib.index, hp]; simp
theorem index_none {c : UInt8} : ∀ {r : List UInt8}, r.count c = 0 → Lib.index r [c] = -1
  | [], _ => by simp [Lib.index]
  | x :: r, h => by
    have hx : ¬ x = c := fun e => by rw [e, List.count_cons_self] at h; omega
    rw [List.count_cons_of_ne (by simpa using hx)] at h
    rw [index_next hx, index_none h]; rfl
theorem index_some {c : UInt8} : ∀ {r : List UInt8}, 0 < r.count c → ∃ i : Nat, Lib.index r [c] = i ∧ i < r.length
  | [], h => by simp at h
  | x :: r, h => by
    by_cases hx : x = c
    · subst hx; exact ⟨0, index_here x r, by simp⟩
    · rw [List.count_cons_of_ne (by simpa using hx)] at h
      obtain ⟨i, hi, hl⟩ := index_some h
      refine ⟨i + 1, ?_, by simpa using hl⟩
      rw [index_next hx, hi, if_neg (by simp)]; rfl
theorem splitK_one (c : UInt8) : ∀ l : List UInt8, Lib.splitK [c] 0 (l.count c) l = splitBy c l
  | [] => rfl
  | x :: r => by
    have ih := splitK_one c r
    by_cases hx : x = c
    · subst hx
      rw [List.count_cons_self, Lib.splitK, index_here, if_neg (by decide)]
      conv => rhs; unfold splitBy
      rw [if_pos rfl]
      simp [ih]
    · rw [List.count_cons_of_ne (by simpa using hx)]
      conv => rhs; unfold splitBy
      rw [if_neg hx, ← ih]
      cases hk : r.count c with
      | zero => simp [Lib.splitK]
      | succ k =>
        obtain ⟨i, hi, hl⟩ := index_some (c := c) (r := r) (by omega)
        have hn : ¬ (Lib.index r [c] == -1) = true := by rw [hi]; simp
        rw [Lib.splitK, Lib.splitK, index_next hx, if_neg hn, if_neg hn, hi, if_neg (by simp; omega)]
        have e1 : ((i : Int) + 1).toNat = i + 1 := by omega
        have e2 : ((i : Int)).toNat = i := by omega
        simp [e1, e2]
theorem splitB_lines (s : ByteArray) (c : UInt8) : (Lib.splitB ⟨#[c]⟩ 0 (Lib.countB s ⟨#[c]⟩) s).map (·.data.toList) = splitBy c s.data.toList := by
  rw [Lib.splitB_data]
  have : Lib.countB s ⟨#[c]⟩ = s.data.toList.count c := Lib.count_one c _
  rw [this]
  exact splitK_one c _

/-- the number of a text that is its decimal: not negative, at most 10^18 -/
def numT (l : List UInt8) : Option Int := match Lib.atoiAll l with
  | .ok v => if 0 ≤ v ∧ v ≤ 1000000000000000000 ∧ Lib.itoa v = l then some v else none
  | _ => none
theorem numT_iff {l : List UInt8} {n : Int} : numT l = some n ↔ l = Lib.itoa n ∧ 0 ≤ n ∧ n ≤ 1000000000000000000 := by
  constructor
  · intro h
    unfold numT at h
    split at h
    · split at h
      · rename_i hc; injection h with h; subst h; exact ⟨hc.2.2.symm, hc.1, hc.2.1⟩
      · cases h
    · cases h
  · rintro ⟨rfl, h0, h1⟩
    rw [numT, atoi_itoa n (by omega) (by omega)]
    exact if_pos ⟨h0, h1, rfl⟩
theorem itoa_free (n : Int) {c : UInt8} (h : c.toNat < 45) : c ∉ Lib.itoa n := fun hc => by
  have := itoa_bytes n c hc; omega
/-- the words of a line with numbers in the places of the empty ones -/
def readP : List (List UInt8) → List (List UInt8) → Option (List Int)
  | [], [] => some []
  | p :: ps, w :: ws => if p = [] then (match numT w with
      | some n => (match readP ps ws with
        | some r => some (n :: r)
        | none => none)
      | none => none) else if w = p then readP ps ws else none
  | _, _ => none
/-- the pattern filled with numbers -/
def fillP : List (List UInt8) → List Int → List (List UInt8)
  | [], _ => []
  | p :: ps, ns => if p = [] then (match ns with
      | n :: r => Lib.itoa n :: fillP ps r
      | [] => []) else p :: fillP ps ns
def okN (n : Int) : Prop := 0 ≤ n ∧ n ≤ 1000000000000000000
def holes (ps : List (List UInt8)) : Nat := (ps.filter (· = [])).length
theorem readP_iff : ∀ {ps ws : List (List UInt8)} {ns : List Int}, readP ps ws = some ns ↔ ws = fillP ps ns ∧ ns.length = holes ps ∧ ∀ n ∈ ns, okN n
  | [], [], ns => by
    simp only [readP, fillP, holes, List.filter_nil, List.length_nil, Option.some.injEq]
    constructor
    · rintro rfl; simp
    · rintro ⟨_, h, _⟩; exact (List.eq_nil_of_length_eq_zero h).symm
  | [], w :: ws, ns => by simp [readP, fillP]
  | p :: ps, [], ns => by
    unfold readP fillP
    simp only [reduceCtorEq, false_iff]
    by_cases hp : p = []
    · rw [if_pos hp]
      rintro ⟨h1, h2, _⟩
      cases ns with
      | nil => simp [holes, hp] at h2
      | cons n r => cases h1
    · rw [if_neg hp]; rintro ⟨h1, _⟩; cases h1
  | p :: ps, w :: ws, ns => by
    have ih := fun ns => readP_iff (ps := ps) (ws := ws) (ns := ns)
    unfold readP fillP
    by_cases hp : p = []
    · rw [if_pos hp, if_pos hp]
      have hh : holes (p :: ps) = holes ps + 1 := by simp [holes, hp]
      rw [hh]
      cases hn : numT w with
      | none =>
        simp only [reduceCtorEq, false_iff]
        rintro ⟨h1, h2, h3⟩
        cases ns with
        | nil => simp at h2
        | cons n r =>
          simp only [List.cons.injEq] at h1
          have := numT_iff.2 ⟨h1.1, (h3 n (by simp)).1, (h3 n (by simp)).2⟩
          rw [hn] at this; cases this
      | some m =>
        obtain ⟨hw, hm⟩ := numT_iff.1 hn
        cases hr : readP ps ws with
        | none =>
          simp only [reduceCtorEq, false_iff]
          rintro ⟨h1, h2, h3⟩
          cases ns with
          | nil => simp at h2
          | cons n r =>
            simp only [List.cons.injEq] at h1
            have := (ih r).2 ⟨h1.2, by simpa using h2, fun x hx => h3 x (by simp [hx])⟩
            rw [hr] at this; cases this
        | some q =>
          obtain ⟨k1, k2, k3⟩ := (ih q).1 hr
          simp only [Option.some.injEq]
          constructor
          · rintro rfl
            refine ⟨by rw [hw, k1], by simp [k2], fun n hn => ?_⟩
            rcases List.mem_cons.1 hn with rfl | hn
            · exact hm
            · exact k3 n hn
          · rintro ⟨h1, h2, h3⟩
            cases ns with
            | nil => simp at h2
            | cons n r =>
              simp only [List.cons.injEq] at h1
              have e1 := numT_iff.2 ⟨h1.1, (h3 n (by simp)).1, (h3 n (by simp)).2⟩
              rw [hn] at e1
              have e2 := (ih r).2 ⟨h1.2, by simpa using h2, fun x hx => h3 x (by simp [hx])⟩
              rw [hr] at e2
              injection e1 with e1
              injection e2 with e2
              rw [e1, e2]
    · rw [if_neg hp, if_neg hp]
      have hh : holes (p :: ps) = holes ps := by simp [holes, hp]
      rw [hh]
      by_cases hw : w = p
      · rw [if_pos hw, ih]; simp [hw]
      · rw [if_neg hw]; simp [hw]
/-- a line of words and numbers -/
def lineP (ps : List (List UInt8)) (ns : List Int) : List UInt8 := joinBy 32 (fillP ps ns)
def readL (ps : List (List UInt8)) (l : List UInt8) : Option (List Int) := readP ps (splitBy 32 l)
theorem fillP_ne {ps : List (List UInt8)} {ns : List Int} (h : ps ≠ []) (hl : ns.length = holes ps) : fillP ps ns ≠ [] := by
  cases ps with
  | nil => exact absurd rfl h
  | cons p ps =>
    unfold fillP
    by_cases hp : p = []
    · rw [if_pos hp]
      cases ns with
      | nil => simp [holes, hp] at hl
      | cons n r => simp
    · rw [if_neg hp]; simp
theorem fillP_mem : ∀ {ps : List (List UInt8)} {ns : List Int} {a : List UInt8}, a ∈ fillP ps ns → a ∈ ps ∨ ∃ n, a = Lib.itoa n
  | [], _, a, h => by simp [fillP] at h
  | p :: ps, ns, a, h => by
    unfold fillP at h
    by_cases hp : p = []
    · rw [if_pos hp] at h
      cases ns with
      | nil => simp at h
      | cons n r =>
        rcases List.mem_cons.1 h with h | h
        · exact .inr ⟨n, h⟩
        · rcases fillP_mem h with h | h
          · exact .inl (by simp [h])
          · exact .inr h
    · rw [if_neg hp] at h
      rcases List.mem_cons.1 h with h | h
      · exact .inl (by simp [h])
      · rcases fillP_mem h with h | h
        · exact .inl (by simp [h])
        · exact .inr h
theorem readL_iff {ps : List (List UInt8)} (h : ps ≠ []) (hf : ∀ p ∈ ps, (32 : UInt8) ∉ p) {l : List UInt8} {ns : List Int} :
    readL ps l = some ns ↔ l = lineP ps ns ∧ ns.length = holes ps ∧ ∀ n ∈ ns, okN n := by
  rw [readL, readP_iff, lineP]
  constructor
  · rintro ⟨h1, h2, h3⟩
    refine ⟨?_, h2, h3⟩
    rw [← h1, join_split]
  · rintro ⟨h1, h2, h3⟩
    refine ⟨?_, h2, h3⟩
    rw [h1]
    refine split_join (fillP_ne h h2) fun a ha => ?_
    rcases fillP_mem ha with ha | ⟨n, rfl⟩
    · exact hf a ha
    · exact itoa_free n (by decide)
theorem join_free {c d : UInt8} (hd : ¬ d = c) : ∀ {ls : List (List UInt8)}, (∀ a ∈ ls, c ∉ a) → c ∉ joinBy d ls
  | [], _ => by simp [joinBy]
  | [a], h => h a (by simp)
  | a :: b :: r, h => by
    rw [join_cons (by simp)]
    have ih := join_free hd (ls := b :: r) (fun x hx => h x (by simp at hx ⊢; right; exact hx))
    have ha := h a (by simp)
    intro hc
    rcases List.mem_append.1 hc with hc | hc
    · exact ha hc
    · rcases List.mem_cons.1 hc with hc | hc
      · exact hd hc.symm
      · exact ih hc
theorem lineP_free {ps : List (List UInt8)} (hf : ∀ p ∈ ps, (10 : UInt8) ∉ p) (ns : List Int) : (10 : UInt8) ∉ lineP ps ns :=
  join_free (by decide) fun a ha => by
    rcases fillP_mem ha with ha | ⟨n, rfl⟩
    · exact hf a ha
    · exact itoa_free n (by decide)
end Go.Proofs.YtjbhabfflcbebaaGreat
/- Canonical decimals of at most 18 digits, or 10^18: no program in sight. -/
namespace Go.Proofs.YtjbhabfflcbebaaGreat

/-- the number of a text that is its decimal: from -10^18 to 10^18 -/
def numZ (l : List UInt8) : Option Int := match Lib.atoiAll l with
  | .ok v => if -1000000000000000000 ≤ v ∧ v ≤ 1000000000000000000 ∧ Lib.itoa v = l then some v else none
  | _ => none
theorem numZ_iff {l : List UInt8} {n : Int} : numZ l = some n ↔ l = Lib.itoa n ∧ -1000000000000000000 ≤ n ∧ n ≤ 1000000000000000000 := by
  constructor
  · intro h
    unfold numZ at h
    split at h
    · split at h
      · rename_i hc; injection h with h; subst h; exact ⟨hc.2.2.symm, hc.1, hc.2.1⟩
      · cases h
    · cases h
  · rintro ⟨rfl, h0, h1⟩
    rw [numZ, atoi_itoa n (by omega) (by omega)]
    exact if_pos ⟨h0, h1, rfl⟩
/-- the value of digits behind a number -/
def vD (n : Nat) (l : List UInt8) : Nat := l.foldl (fun a c => a * 10 + (c.toNat - 48)) n
theorem vD_snoc (n : Nat) (l : List UInt8) (c : UInt8) : vD n (l ++ [c]) = vD n l * 10 + (c.toNat - 48) := by
  simp [vD, List.foldl_append]
def isD (c : UInt8) : Prop := 48 ≤ c.toNat ∧ c.toNat ≤ 57
theorem vD_lt : ∀ (k : Nat) (l : List UInt8), l.length = k → (∀ c ∈ l, isD c) → vD 0 l < 10 ^ k
  | 0, l, h, _ => by
    obtain rfl := List.eq_nil_of_length_eq_zero h
    simp [vD]
  | k + 1, l, h, hd => by
    have hne : l ≠ [] := fun e => by rw [e] at h; simp at h
    have e := List.dropLast_concat_getLast hne
    have ih := vD_lt k l.dropLast (by simp; omega) (fun c hc => hd c (List.dropLast_subset _ hc))
    have hc := hd _ (List.getLast_mem hne)
    rw [← e, vD_snoc, Nat.pow_succ]
    unfold isD at hc
    omega
theorem dec_head : ∀ (u : Nat), 0 < u → (Lib.decDigits u).head? ≠ some 48 := by
  intro u
  induction u using Nat.strongRecOn with
  | ind u ih =>
    intro h0
    by_cases hu : u < 10
    · rw [dec_small u hu]
      intro e
      simp only [List.head?_cons, Option.some.injEq] at e
      have := congrArg UInt8.toNat e
      rw [digit_nat hu] at this
      have h48 : (48 : UInt8).toNat = 48 := rfl
      omega
    · have := ih (u / 10) (by omega) (by omega)
      rw [dec_big u (by omega), List.head?_append]
      cases hh : (Lib.decDigits (u / 10)).head? with
      | none => rw [List.head?_eq_none_iff] at hh; exact absurd hh (dec_ne _)
      | some x => rw [hh] at this; simpa using this
/-- canonical digits are the decimal of their value -/
theorem dec_vD : ∀ (k : Nat) (l : List UInt8), l.length = k → l ≠ [] → (∀ c ∈ l, isD c) → (l.head? = some 48 → l.length = 1) → Lib.decDigits (vD 0 l) = l := by
  intro k
  induction k with
  | zero => intro l h hne; exact absurd (List.eq_nil_of_length_eq_zero h) hne
  | succ k ih =>
    intro l h hne hd hh
    have e := List.dropLast_concat_getLast hne
    obtain ⟨r, hr⟩ : ∃ r, l.dropLast = r := ⟨_, rfl⟩
    obtain ⟨c, hc⟩ : ∃ c, l.getLast hne = c := ⟨_, rfl⟩
    have hcd := hd _ (List.getLast_mem hne)
    have hrl : r.length = k := by rw [← hr]; simp; omega
    have hrd : ∀ c ∈ r, isD c := fun x hx => hd x (by rw [← hr] at hx; exact List.dropLast_subset _ hx)
    rw [hr, hc] at e
    rw [hc] at hcd
    unfold isD at hcd
    clear hr hc
    subst e
    rw [vD_snoc]
    have hof : UInt8.ofNat (48 + (c.toNat - 48)) = c := by
      apply UInt8.toNat_inj.1
      rw [UInt8.toNat_ofNat']; omega
    by_cases hrn : r = []
    · subst hrn
      have : vD 0 [] = 0 := rfl
      rw [this, Nat.zero_mul, Nat.zero_add, dec_small _ (by omega), hof]; rfl
    · have hr48 : r.head? ≠ some 48 := fun e => by
        have := hh (by rw [List.head?_append, e]; rfl)
        rw [List.length_append, List.length_singleton] at this
        have := List.length_pos_iff.2 hrn
        omega
      have hv := ih r hrl hrn hrd (fun e => absurd e hr48)
      have hpos : 0 < vD 0 r := by
        rcases Nat.eq_zero_or_pos (vD 0 r) with h0 | h0
        · rw [h0] at hv
          have : Lib.decDigits 0 = [48] := by rw [dec_small 0 (by omega)]; rfl
          rw [this] at hv
          rw [← hv] at hr48
          exact absurd rfl hr48
        · exact h0
      rw [dec_big _ (by omega)]
      have e1 : (vD 0 r * 10 + (c.toNat - 48)) / 10 = vD 0 r := by omega
      have e2 : (vD 0 r * 10 + (c.toNat - 48)) % 10 = c.toNat - 48 := by omega
      rw [e1, e2, hv, hof]
/-- 10^18 -/
def topD : List UInt8 := [49, 48, 48, 48, 48, 48, 48, 48, 48, 48, 48, 48, 48, 48, 48, 48, 48, 48, 48]
theorem dec_top : Lib.decDigits 1000000000000000000 = topD := dec_vD 19 topD rfl (by decide) (by unfold isD; decide) (by decide)
theorem dec_short (u : Nat) (k : Nat) (h : u < 10 ^ (k + 1)) : (Lib.decDigits u).length ≤ k + 1 := by
  induction k generalizing u with
  | zero => simp at h; rw [dec_small u h]; simp
  | succ k ih =>
    by_cases hu : u < 10
    · rw [dec_small u hu]; simp
    · rw [dec_big u (by omega), List.length_append, List.length_singleton]
      have := ih (u / 10) (by rw [Nat.pow_succ] at h; omega)
      omega
/-- the sign and the digits of a text -/
def ngB (l : List UInt8) : Bool := decide (1 < l.length) && decide (l.head? = some 45)
def dgL (l : List UInt8) : List UInt8 := if ngB l then l.tail else l
structure NumOk (l : List UInt8) : Prop where
  ne : dgL l ≠ []
  le : (dgL l).length ≤ 19
  top : (dgL l).length = 19 → dgL l = topD
  lead : (dgL l).head? = some 48 → (dgL l).length = 1 ∧ ngB l = false
  dig : ∀ c ∈ dgL l, isD c
theorem dec_dig (u : Nat) : ∀ c ∈ Lib.decDigits u, isD c := dec_digits u
theorem dec_ok (u : Nat) (h : u ≤ 1000000000000000000) : (Lib.decDigits u).length ≤ 19 ∧ ((Lib.decDigits u).length = 19 → Lib.decDigits u = topD) := by
  by_cases hu : u = 1000000000000000000
  · subst hu; rw [dec_top]; exact ⟨by decide, fun _ => rfl⟩
  · have := dec_short u 17 (by omega)
    exact ⟨by omega, fun h => by omega⟩
theorem num_ok {l : List UInt8} {n : Int} (h : numZ l = some n) : NumOk l ∧ ngB l = decide (n < 0) ∧ dgL l = Lib.decDigits n.natAbs := by
  obtain ⟨rfl, h0, h1⟩ := numZ_iff.1 h
  by_cases hn : n < 0
  · have e := itoa_neg' n hn
    have hd : 0 < (Lib.decDigits n.natAbs).length := List.length_pos_iff.2 (dec_ne _)
    have hng : ngB (Lib.itoa n) = true := by rw [e, ngB]; simp; exact hd
    have hdg : dgL (Lib.itoa n) = Lib.decDigits n.natAbs := by rw [dgL, hng, if_pos rfl, e]; rfl
    have hk := dec_ok n.natAbs (by omega)
    refine ⟨⟨by rw [hdg]; exact dec_ne _, by rw [hdg]; exact hk.1, by rw [hdg]; exact hk.2, fun hh => ?_, by rw [hdg]; exact dec_dig _⟩, by rw [hng]; simpa using hn, hdg⟩
    rw [hdg] at hh
    exact absurd hh (dec_head _ (by omega))
  · have e := itoa_pos' n (by omega)
    have hng : ngB (Lib.itoa n) = false := by
      rw [ngB, Bool.and_eq_false_iff]
      right
      rw [decide_eq_false_iff_not, e]
      intro hh
      have := dec_digits n.natAbs 45 (List.mem_of_mem_head? hh)
      have h45 : (45 : UInt8).toNat = 45 := rfl
      omega
    have hdg : dgL (Lib.itoa n) = Lib.decDigits n.natAbs := by rw [dgL, hng, if_neg (by simp), e]
    have hk := dec_ok n.natAbs (by omega)
    refine ⟨⟨by rw [hdg]; exact dec_ne _, by rw [hdg]; exact hk.1, by rw [hdg]; exact hk.2, fun hh => ?_, by rw [hdg]; exact dec_dig _⟩, by rw [hng]; simp; omega, hdg⟩
    rw [hdg] at hh
    rcases Nat.eq_zero_or_pos n.natAbs with h0 | h0
    · rw [hdg, h0, dec_small 0 (by omega)]; exact ⟨rfl, hng⟩
    · exact absurd hh (dec_head _ h0)
theorem top_take : ∀ i, i ≤ 19 → vD 0 (topD.take i) ≤ 1000000000000000000 := by decide
theorem NumOk.small {l : List UInt8} (h : NumOk l) (i : Nat) (hi : i ≤ (dgL l).length) : vD 0 ((dgL l).take i) ≤ 1000000000000000000 := by
  by_cases h19 : (dgL l).length = 19
  · rw [h.top h19]; exact top_take i (by omega)
  · have h1 := vD_lt i ((dgL l).take i) (by rw [List.length_take]; omega) (fun c hc => h.dig c (List.mem_of_mem_take hc))
    have h2 : 10 ^ i ≤ 10 ^ 18 := Nat.pow_le_pow_right (by omega) (by have := h.le; omega)
    omega
theorem NumOk.val {l : List UInt8} (h : NumOk l) : vD 0 (dgL l) ≤ 1000000000000000000 := by
  have := h.small (dgL l).length (Nat.le_refl _)
  rwa [List.take_length] at this
theorem num_val {l : List UInt8} (h : NumOk l) : numZ l = some (if ngB l then -(vD 0 (dgL l) : Int) else (vD 0 (dgL l) : Int)) := by
  have hv := h.val
  have hd := dec_vD _ (dgL l) rfl h.ne h.dig (fun e => (h.lead e).1)
  rw [numZ_iff]
  cases hg : ngB l
  · simp only [Bool.false_eq_true, if_false]
    refine ⟨?_, by omega, by omega⟩
    have e : dgL l = l := by rw [dgL, hg]; rfl
    rw [itoa_pos' _ (by omega), Int.natAbs_natCast, hd, e]
  · simp only [if_true]
    refine ⟨?_, by omega, by omega⟩
    have hpos : 0 < vD 0 (dgL l) := by
      rcases Nat.eq_zero_or_pos (vD 0 (dgL l)) with h0 | h0
      · rw [h0, dec_small 0 (by omega)] at hd
        have := (h.lead (by rw [← hd]; rfl)).2
        rw [hg] at this; cases this
      · exact h0
    have e : dgL l = l.tail := by rw [dgL, hg]; rfl
    have hl : l = 45 :: l.tail := by
      rw [ngB, Bool.and_eq_true, decide_eq_true_eq, decide_eq_true_eq] at hg
      cases l with
      | nil => simp at hg
      | cons a r => simp at hg; rw [hg.2]; rfl
    rw [itoa_neg' _ (by omega), Int.natAbs_neg, Int.natAbs_natCast, hd, e]
    exact hl
theorem num_bad {l : List UInt8} (h : ¬ NumOk l) : numZ l = none := by
  cases hz : numZ l with
  | none => rfl
  | some n => exact absurd (num_ok hz).1 h
end Go.Proofs.YtjbhabfflcbebaaGreat
/- Returns and their texts: no program in sight. -/
namespace Go.Proofs.YtjbhabfflcbebaaGreat

/-- a return -/
structure Ret where
  p : Int
  v : Int
  l : List Ln
def Ret.vals (r : Ret) (x : Value) : Array Value := #[.int .i64 r.p, .int .i64 r.v, x]
/-- a kind that is filed -/
def filedB (k : Int) : Bool := decide (k = 4) || (decide (k = 5) || decide (k = 6))
def wLevy : List UInt8 := [108, 101, 118, 121]
def wEmp : List UInt8 := [101, 109, 112, 108, 111, 121, 101, 114]
def wTax : List UInt8 := [116, 97, 120]
def wRet : List UInt8 := [114, 101, 116, 117, 114, 110]
def wVer : List UInt8 := [118, 101, 114, 115, 105, 111, 110]
def wEnd : List UInt8 := [101, 110, 100]
/-- the words of kinds, in their order -/
def wAll : List (List UInt8) := [[101, 97, 114, 110, 105, 110, 103], [98, 101, 110, 101, 102, 105, 116], [98, 101, 102, 111, 114, 101], wLevy, wEmp, wTax, [97, 116, 116, 97, 99, 104, 101, 100], [97, 102, 116, 101, 114], [110, 101, 116], [115, 104, 111, 114, 116]]
def wordL (k : Int) : List UInt8 := if 1 ≤ k then wAll.getD (k - 1).toNat [] else []
def wordsL (x : Ln) : List (List UInt8) := if bareB x.kind then [wordL x.kind, Lib.itoa x.amt] else [wordL x.kind, x.code.data.toList, Lib.itoa x.amt]
/-- the text of a line -/
def lnT (x : Ln) : List UInt8 := joinBy 32 (wordsL x)
def headR (p v : Int) : List UInt8 := joinBy 32 [wRet, Lib.itoa p, wVer, Lib.itoa v]
/-- the lines of a return's text -/
def retL (r : Ret) : List (List UInt8) := headR r.p r.v :: r.l.map lnT ++ [wEnd]
def retT (r : Ret) : List UInt8 := ((retL r).map (· ++ [10])).flatten
/-- a valid return -/
def retB (r : Ret) : Bool := decide (0 ≤ r.p) && (decide (r.p ≤ 84005) && (decide (1 ≤ r.v) && (decide (r.v ≤ 65536) && (decide (r.l.length ≤ 256) && (r.l.all (fun x => filedB x.kind) && ordB r.l)))))
structure RetOk (r : Ret) : Prop where
  p0 : 0 ≤ r.p
  p1 : r.p ≤ 84005
  v0 : 1 ≤ r.v
  v1 : r.v ≤ 65536
  n : r.l.length ≤ 256
  k : ∀ x ∈ r.l, filedB x.kind = true
  o : ordB r.l = true
theorem retB_iff (r : Ret) : retB r = true ↔ RetOk r := by
  unfold retB
  simp only [Bool.and_eq_true, decide_eq_true_eq, List.all_eq_true]
  exact ⟨fun ⟨a, b, c, d, e, f, g⟩ => ⟨a, b, c, d, e, f, g⟩, fun ⟨a, b, c, d, e, f, g⟩ => ⟨a, b, c, d, e, f, g⟩⟩
theorem RetOk.f {r : Ret} (h : RetOk r) : ∀ x ∈ r.l, formB x = true := fun x hx => by
  obtain ⟨i, hi, rfl⟩ := List.getElem_of_mem hx
  exact ((ordB_iff _).1 h.o).1 i hi
def encT (r : Ret) : List UInt8 := if retB r then retT r else []
def encE (r : Ret) : Int := if retB r then 0 else 1

/-- the number of a text that is its decimal -/
def numI (l : List UInt8) : Option Int := match Lib.atoiAll l with
  | .ok v => if Lib.itoa v = l then some v else none
  | _ => none
theorem numI_eq {l : List UInt8} {n : Int} (h : numI l = some n) : l = Lib.itoa n := by
  unfold numI at h
  split at h
  · split at h
    · rename_i hc; injection h with h; subst h; exact hc.symm
    · cases h
  · cases h
theorem numI_itoa {n : Int} (h0 : -9223372036854775808 ≤ n) (h1 : n ≤ 9223372036854775807) : numI (Lib.itoa n) = some n := by
  rw [numI, atoi_itoa n h0 h1]
  exact if_pos rfl
/-- the line of a text -/
def rdLine (a : List UInt8) : Option Ln := match splitBy 32 a with
  | [k, n] => if k = wTax then (match numI n with
    | some v => some ⟨6, ⟨#[]⟩, v⟩
    | none => none) else none
  | [k, c, n] => if k = wLevy then (match numI n with
    | some v => some ⟨4, ⟨c.toArray⟩, v⟩
    | none => none) else if k = wEmp then (match numI n with
    | some v => some ⟨5, ⟨c.toArray⟩, v⟩
    | none => none) else none
  | _ => none
def rdHead (a : List UInt8) : Option (Int × Int) := match splitBy 32 a with
  | [a, b, c, d] => if a = wRet ∧ c = wVer then (match numI b, numI d with
    | some p, some v => some (p, v)
    | _, _ => none) else none
  | _ => none
def rdLns : List (List UInt8) → Option (List Ln)
  | [] => some []
  | a :: r => match rdLine a with
    | some x => (match rdLns r with
      | some l => some (x :: l)
      | none => none)
    | none => none
def parseL (ls : List (List UInt8)) : Option Ret :=
  if 2 ≤ ls.length ∧ ls[ls.length - 1]? = some wEnd then
    match rdHead (ls.getD 0 []) with
    | some (p, v) => (match rdLns ((ls.drop 1).take (ls.length - 2)) with
      | some l => some ⟨p, v, l⟩
      | none => none)
    | none => none
  else none
def parseR (s : List UInt8) : Option Ret := if Lib.hasSuffix s [10] then parseL (splitBy 10 (Lib.trimSuffix s [10])) else none
/-- what Decode returns -/
def decE (s : List UInt8) : Int := if 65536 < s.length then 3 else
  match parseR s with
  | some r => if retB r then 0 else 6
  | none => 6
def decR (s : List UInt8) : Ret := if decE s = 0 then (match parseR s with | some r => r | none => ⟨0, 0, []⟩) else ⟨0, 0, []⟩

theorem rdLine_eq {a : List UInt8} {x : Ln} (h : rdLine a = some x) : a = lnT x := by
  unfold rdLine at h
  have hj := join_split 32 a
  split at h
  · rename_i k n he
    split at h
    · rename_i hk
      split at h
      · rename_i v hv
        injection h with h
        subst h
        rw [he, hk, numI_eq hv] at hj
        exact hj.symm
      · cases h
    · cases h
  · rename_i k c n he
    split at h
    · rename_i hk
      split at h
      · rename_i v hv
        injection h with h
        subst h
        rw [he, hk, numI_eq hv] at hj
        exact hj.symm
      · cases h
    · split at h
      · rename_i hk
        split at h
        · rename_i v hv
          injection h with h
          subst h
          rw [he, hk, numI_eq hv] at hj
          exact hj.symm
        · cases h
      · cases h
  · cases h
theorem wcount_all : ∀ {l : List UInt8}, wcount l = l.length → ∀ c ∈ l, wcB c.toNat = true
  | [], _, c, hc => by cases hc
  | a :: r, h, c, hc => by
    rw [wcount_cons] at h
    by_cases ha : wcB a.toNat = true
    · rw [if_pos ha, List.length_cons] at h
      rcases List.mem_cons.1 hc with rfl | hc
      · exact ha
      · exact wcount_all (l := r) (by omega) c hc
    · rw [if_neg ha, List.length_cons] at h; omega
theorem name_bytes {l : List UInt8} (h : nameB l = true) : ∀ c ∈ l, 48 ≤ c.toNat := by
  intro c hc
  unfold nameB at h
  simp only [Bool.and_eq_true, decide_eq_true_eq, beq_iff_eq] at h
  obtain ⟨h0, _, h1, _⟩ := h
  cases l with
  | nil => cases hc
  | cons a r =>
    simp only [wordLen] at h1
    by_cases ha : lowB a.toNat = true
    · rw [if_pos ha, List.length_cons] at h1
      rcases List.mem_cons.1 hc with rfl | hc
      · simp [lowB] at ha; omega
      · have := wcount_all (l := r) (by omega) c hc
        simp [wcB, lowB, digB] at this; omega
    · rw [if_neg ha, List.length_cons] at h1; omega
theorem name_free {l : List UInt8} (h : nameB l = true) {c : UInt8} (hc : c.toNat < 45) : c ∉ l := fun hm => by have := name_bytes h c hm; omega
theorem word_free : ∀ k : Nat, k < 10 → (32 : UInt8) ∉ wAll.getD k [] ∧ (10 : UInt8) ∉ wAll.getD k [] ∧ (wAll.getD k []).length ≤ 8 := by decide
theorem word_inj : ∀ j : Nat, j < 10 → ∀ k : Nat, k < 10 → wAll.getD j [] = wAll.getD k [] → j = k := by decide
structure Formed (x : Ln) : Prop where
  k0 : 1 ≤ x.kind
  k1 : x.kind ≤ 10
  a0 : -1000000000000 ≤ x.amt
  a1 : x.amt ≤ 1000000000000
  b : bareB x.kind = true → x.code = ⟨#[]⟩
  c : bareB x.kind = false → nameB x.code.data.toList = true
theorem formed_of {x : Ln} (h : formedB x = true) : Formed x := by
  unfold formedB totB at h
  simp only [Bool.and_eq_true, decide_eq_true_eq] at h
  obtain ⟨h1, h2, ⟨h3, h4⟩, h5⟩ := h
  refine ⟨h1, h2, h3, h4, fun hb => ?_, fun hb => ?_⟩
  · rw [if_pos hb, decide_eq_true_eq] at h5
    obtain ⟨k, ⟨⟨d⟩⟩, a⟩ := x
    have : d.length = 0 := h5
    rw [List.eq_nil_of_length_eq_zero this]
  · rw [if_neg (by rw [hb]; simp)] at h5; exact h5
theorem Formed.wd {x : Ln} (h : Formed x) : ∃ j : Nat, j < 10 ∧ x.kind = j + 1 ∧ wordL x.kind = wAll.getD j [] := by
  have := h.k0
  have := h.k1
  refine ⟨(x.kind - 1).toNat, by omega, by omega, ?_⟩
  rw [wordL, if_pos h.k0]
theorem Formed.free {x : Ln} (h : Formed x) : ∀ a ∈ wordsL x, (32 : UInt8) ∉ a ∧ (10 : UInt8) ∉ a := by
  obtain ⟨j, hj, _, hw⟩ := h.wd
  have hf := word_free j hj
  rw [← hw] at hf
  have hn : (32 : UInt8) ∉ Lib.itoa x.amt ∧ (10 : UInt8) ∉ Lib.itoa x.amt := ⟨itoa_free _ (by decide), itoa_free _ (by decide)⟩
  unfold wordsL
  cases hb : bareB x.kind
  · have hc := h.c hb
    have hc2 : (32 : UInt8) ∉ x.code.data.toList ∧ (10 : UInt8) ∉ x.code.data.toList := ⟨name_free hc (by decide), name_free hc (by decide)⟩
    intro a ha
    simp at ha
    rcases ha with rfl | rfl | rfl
    · exact ⟨hf.1, hf.2.1⟩
    · exact hc2
    · exact hn
  · intro a ha
    simp at ha
    rcases ha with rfl | rfl
    · exact ⟨hf.1, hf.2.1⟩
    · exact hn
theorem wordsL_ne (x : Ln) : wordsL x ≠ [] := by unfold wordsL; split <;> simp
theorem lnT_words {x : Ln} (h : Formed x) : splitBy 32 (lnT x) = wordsL x := split_join (wordsL_ne x) fun a ha => (h.free a ha).1
theorem lnT_free {x : Ln} (h : Formed x) : (10 : UInt8) ∉ lnT x := join_free (by decide) fun a ha => (h.free a ha).2
theorem lnT_inj {x y : Ln} (hx : Formed x) (hy : Formed y) (h : lnT x = lnT y) : x = y := by
  have e : wordsL x = wordsL y := by rw [← lnT_words hx, ← lnT_words hy, h]
  obtain ⟨j, hj, hjk, hw⟩ := hx.wd
  obtain ⟨k, hk, hkk, hv⟩ := hy.wd
  have ek : wordL x.kind = wordL y.kind → x.kind = y.kind := fun hh => by
    rw [hw, hv] at hh
    rw [hjk, hkk, word_inj j hj k hk hh]
  have ea : Lib.itoa x.amt = Lib.itoa y.amt → x.amt = y.amt := fun hh => by
    have := hx.a0; have := hx.a1; have := hy.a0; have := hy.a1
    exact itoa_inj (by omega) (by omega) (by omega) (by omega) hh
  have hbx := hx.b
  have hby := hy.b
  obtain ⟨kx, cx, ax⟩ := x
  obtain ⟨ky, cy, ay⟩ := y
  simp only at ek ea hbx hby
  unfold wordsL at e
  simp only at e
  cases h1 : bareB kx <;> cases h2 : bareB ky <;> rw [h1, h2] at e <;> simp at e
  · obtain rfl := ek e.1
    obtain rfl := ea e.2.2
    have : cx = cy := by
      obtain ⟨⟨a⟩⟩ := cx
      obtain ⟨⟨b⟩⟩ := cy
      have := e.2.1
      simp at this
      rw [this]
    rw [this]
  · obtain rfl := ek e.1
    obtain rfl := ea e.2
    rw [hbx h1, hby h2]
theorem filed_cases {k : Int} (h : filedB k = true) : k = 4 ∨ k = 5 ∨ k = 6 := by simpa [filedB] using h
theorem rdLine_lnT {x : Ln} (h : Formed x) (hk : filedB x.kind = true) : rdLine (lnT x) = some x := by
  have e := lnT_words h
  have ha : numI (Lib.itoa x.amt) = some x.amt := by
    have := h.a0; have := h.a1
    exact numI_itoa (by omega) (by omega)
  have hb := h.b
  obtain ⟨k, c, a⟩ := x
  simp only at hk ha hb
  unfold rdLine
  rw [e]
  rcases filed_cases hk with rfl | rfl | rfl
  · have : wordsL ⟨4, c, a⟩ = [wLevy, c.data.toList, Lib.itoa a] := rfl
    rw [this]
    simp [ha]
  · have : wordsL ⟨5, c, a⟩ = [wEmp, c.data.toList, Lib.itoa a] := rfl
    rw [this]
    simp [ha, show ¬ wEmp = wLevy by decide]
  · have : wordsL ⟨6, c, a⟩ = [wTax, Lib.itoa a] := rfl
    rw [this]
    simp [ha, hb rfl]
theorem rdHead_eq {a : List UInt8} {p v : Int} (h : rdHead a = some (p, v)) : a = headR p v := by
  unfold rdHead at h
  have hj := join_split 32 a
  split at h
  · rename_i x b y d he
    split at h
    · rename_i hc
      split at h
      · rename_i q u hq hu
        injection h with h
        injection h with h1 h2
        subst h1 h2
        rw [he, hc.1, hc.2, numI_eq hq, numI_eq hu] at hj
        exact hj.symm
      · cases h
    · cases h
  · cases h
theorem head_free (p v : Int) : ∀ a ∈ [wRet, Lib.itoa p, wVer, Lib.itoa v], (32 : UInt8) ∉ a ∧ (10 : UInt8) ∉ a := by
  intro a ha
  simp at ha
  rcases ha with rfl | rfl | rfl | rfl
  · exact ⟨by decide, by decide⟩
  · exact ⟨itoa_free _ (by decide), itoa_free _ (by decide)⟩
  · exact ⟨by decide, by decide⟩
  · exact ⟨itoa_free _ (by decide), itoa_free _ (by decide)⟩
theorem headR_words (p v : Int) : splitBy 32 (headR p v) = [wRet, Lib.itoa p, wVer, Lib.itoa v] := split_join (by simp) fun a ha => (head_free p v a ha).1
theorem rdHead_headR {p v : Int} (h0 : -9223372036854775808 ≤ p) (h1 : p ≤ 9223372036854775807) (k0 : -9223372036854775808 ≤ v) (k1 : v ≤ 9223372036854775807) : rdHead (headR p v) = some (p, v) := by
  unfold rdHead
  rw [headR_words]
  simp [numI_itoa h0 h1, numI_itoa k0 k1]
theorem rdLns_eq : ∀ {ls : List (List UInt8)} {l : List Ln}, rdLns ls = some l → ls = l.map lnT
  | [], l, h => by
    simp only [rdLns, Option.some.injEq] at h
    subst h; rfl
  | a :: r, l, h => by
    unfold rdLns at h
    split at h
    · rename_i x hx
      split at h
      · rename_i m hm
        injection h with h
        subst h
        rw [List.map_cons, ← rdLns_eq hm, ← rdLine_eq hx]
      · cases h
    · cases h
theorem rdLns_map : ∀ {l : List Ln}, (∀ x ∈ l, Formed x ∧ filedB x.kind = true) → rdLns (l.map lnT) = some l
  | [], _ => rfl
  | x :: r, h => by
    have hx := h x (by simp)
    rw [List.map_cons, rdLns, rdLine_lnT hx.1 hx.2]
    simp only
    rw [rdLns_map fun y hy => h y (by simp [hy])]
theorem parts2 {α : Type} (d : α) {ls : List α} (h : 2 ≤ ls.length) : ls = ls.getD 0 d :: ((ls.drop 1).take (ls.length - 2) ++ [ls.getD (ls.length - 1) d]) := by
  have hl : ((ls.drop 1).take (ls.length - 2)).length = ls.length - 2 := by simp; omega
  apply List.ext_getElem?
  intro i
  match i with
  | 0 => simp [List.getD, List.getElem?_eq_getElem (show 0 < ls.length by omega)]
  | i + 1 =>
    rw [List.getElem?_cons_succ]
    by_cases h1 : i < ls.length - 2
    · rw [List.getElem?_append_left (by omega), List.getElem?_take, if_pos h1, List.getElem?_drop]
      congr 1; omega
    · rw [List.getElem?_append_right (by omega), hl]
      by_cases h2 : i = ls.length - 2
      · have e1 : i - (ls.length - 2) = 0 := by omega
        have e2 : i + 1 = ls.length - 1 := by omega
        rw [e1, e2]
        simp [List.getD, List.getElem?_eq_getElem (show ls.length - 1 < ls.length by omega)]
      · rw [List.getElem?_eq_none (by omega), List.getElem?_eq_none (by simp; omega)]
theorem suffix_iff {s : List UInt8} : Lib.hasSuffix s [10] = true ↔ ∃ b, s = b ++ [10] := by
  unfold Lib.hasSuffix
  rw [List.isSuffixOf_iff_suffix]
  constructor
  · rintro ⟨b, h⟩; exact ⟨b, h.symm⟩
  · rintro ⟨b, h⟩; exact ⟨b, h.symm⟩
theorem trim_app (b : List UInt8) : Lib.trimSuffix (b ++ [10]) [10] = b := by
  rw [Lib.trimSuffix, if_pos (suffix_iff.2 ⟨b, rfl⟩)]
  simp
theorem retL_ne (r : Ret) : retL r ≠ [] := by simp [retL]
theorem retT_join (r : Ret) : retT r = joinBy 10 (retL r) ++ [10] := (join_ended (retL_ne r)).symm
theorem parseL_eq {ls : List (List UInt8)} {r : Ret} (h : parseL ls = some r) : ls = retL r := by
  unfold parseL at h
  split at h
  · rename_i hc
    split at h
    · rename_i p v h1
      split at h
      · rename_i l h2
        injection h with h
        subst h
        have hp := parts2 [] hc.1
        have e6 : ls.getD (ls.length - 1) [] = wEnd := by rw [List.getD, hc.2]; rfl
        rw [rdHead_eq h1, rdLns_eq h2, e6] at hp
        rw [hp]; rfl
      · cases h
    · cases h
  · cases h
theorem parseR_eq {s : List UInt8} {r : Ret} (h : parseR s = some r) : s = retT r := by
  unfold parseR at h
  split at h
  · rename_i hs
    obtain ⟨b, rfl⟩ := suffix_iff.1 hs
    rw [trim_app] at h
    rw [retT_join, ← parseL_eq h, join_split]
  · cases h
theorem RetOk.lines {r : Ret} (h : RetOk r) : ∀ a ∈ retL r, (10 : UInt8) ∉ a := fun a ha => by
  rcases List.mem_append.1 ha with ha | ha
  · rcases List.mem_cons.1 ha with rfl | ha
    · exact join_free (by decide) fun a ha => (head_free _ _ a ha).2
    · obtain ⟨x, hx, rfl⟩ := List.mem_map.1 ha
      exact lnT_free (formed_of (formB_formed (h.f x hx)))
  · rw [List.mem_singleton.1 ha]; decide
theorem parseL_retL {r : Ret} (h : RetOk r) : parseL (retL r) = some r := by
  obtain ⟨p, v, l⟩ := r
  have hl : (retL ⟨p, v, l⟩).length = l.length + 2 := by simp [retL]
  have g0 : (retL ⟨p, v, l⟩).getD 0 [] = headR p v := by simp [retL]
  have g1 : (retL ⟨p, v, l⟩)[l.length + 2 - 1]? = some wEnd := by simp [retL]
  have g3 : ((retL ⟨p, v, l⟩).drop 1).take (l.length + 2 - 2) = l.map lnT := by simp [retL]
  have h1 := h.p0; have h2 := h.p1; have h3 := h.v0; have h4 := h.v1
  simp only at h1 h2 h3 h4
  unfold parseL
  rw [hl, if_pos ⟨by omega, g1⟩, g0, g3, rdHead_headR (by omega) (by omega) (by omega) (by omega)]
  simp only
  rw [rdLns_map fun x hx => ⟨formed_of (formB_formed (h.f x hx)), h.k x hx⟩]
theorem parseR_retT {r : Ret} (h : RetOk r) : parseR (retT r) = some r := by
  unfold parseR
  rw [retT_join, if_pos (suffix_iff.2 ⟨_, rfl⟩), trim_app, split_join (retL_ne _) h.lines]
  exact parseL_retL h
theorem name_len {l : List UInt8} (h : nameB l = true) : l.length ≤ 24 := by
  unfold nameB at h
  simp only [Bool.and_eq_true, decide_eq_true_eq] at h
  exact h.2.1
theorem itoa_short (n : Int) (k : Nat) (h : n.natAbs < 10 ^ (k + 1)) : (Lib.itoa n).length ≤ k + 2 := by
  have hd := dec_short n.natAbs k h
  by_cases hn : n < 0
  · rw [itoa_neg' n hn]; simp; omega
  · rw [itoa_pos' n (by omega)]; omega
theorem lnT_len {x : Ln} (h : Formed x) : (lnT x).length ≤ 60 := by
  obtain ⟨j, hj, _, hw⟩ := h.wd
  have hf := (word_free j hj).2.2
  rw [← hw] at hf
  have ha : (Lib.itoa x.amt).length ≤ 14 := itoa_short x.amt 12 (by have := h.a0; have := h.a1; omega)
  unfold lnT wordsL
  cases hb : bareB x.kind
  · have hc := name_len (h.c hb)
    simp [joinBy] at hc ⊢
    omega
  · simp [joinBy]
    omega
theorem sum_le {l : List (List UInt8)} {n : Nat} (h : ∀ a ∈ l, a.length ≤ n) : l.flatten.length ≤ n * l.length := by
  induction l with
  | nil => simp
  | cons a r ih =>
    have h1 := h a (by simp)
    have h2 := ih fun b hb => h b (by simp [hb])
    rw [List.flatten_cons, List.length_append, List.length_cons, Nat.mul_add, Nat.mul_one]; omega
theorem RetOk.len {r : Ret} (h : RetOk r) : (retT r).length ≤ 20000 := by
  have := sum_le (l := (retL r).map (· ++ [10])) (n := 61) fun a ha => by
    obtain ⟨b, hb, rfl⟩ := List.mem_map.1 ha
    rw [List.length_append, List.length_singleton]
    rcases List.mem_append.1 hb with hb | hb
    · rcases List.mem_cons.1 hb with rfl | hb
      · have h1 := h.p0; have h2 := h.p1; have h3 := h.v0; have h4 := h.v1
        have a1 := itoa_short r.p 6 (by omega)
        have a2 := itoa_short r.v 6 (by omega)
        simp [headR, joinBy, wRet, wVer]
        omega
      · obtain ⟨x, hx, rfl⟩ := List.mem_map.1 hb
        have := lnT_len (formed_of (formB_formed (h.f x hx)))
        omega
    · rw [List.mem_singleton.1 hb]; decide
  have hn := h.n
  have hl : ((retL r).map (· ++ [10])).length = r.l.length + 2 := by simp [retL]
  rw [hl] at this
  unfold retT
  omega
theorem dec_of {r : Ret} (h : retB r = true) : decE (retT r) = 0 ∧ decR (retT r) = r := by
  have ho := (retB_iff r).1 h
  have hp := parseR_retT ho
  have h0 : decE (retT r) = 0 := by
    rw [decE, if_neg (by have := ho.len; omega), hp]
    simp only [h, if_true]
  exact ⟨h0, by rw [decR, if_pos h0, hp]⟩
theorem decE_ok {s : List UInt8} (h : decE s = 0) : s = retT (decR s) ∧ retB (decR s) = true := by
  have h0 := h
  unfold decE at h
  split at h
  · cases h
  · split at h
    · rename_i r hp
      split at h
      · rename_i hr
        have : decR s = r := by rw [decR, if_pos h0, hp]
        rw [this]
        exact ⟨parseR_eq hp, hr⟩
      · cases h
    · cases h
theorem decE_no {s : List UInt8} (hl : s.length ≤ 65536) (h : ∀ r, retB r = true → s ≠ retT r) : decE s = 6 := by
  unfold decE
  rw [if_neg (by omega)]
  split
  · rename_i r hp
    rw [if_neg]
    intro hr
    exact h r hr (parseR_eq hp)
  · rfl
theorem decR_no {s : List UInt8} (h : ¬ decE s = 0) : decR s = ⟨0, 0, []⟩ := by rw [decR, if_neg h]
theorem retT_inj {r q : Ret} (h1 : retB r = true) (h2 : retB q = true) (h : retT r = retT q) : r = q := by
  rw [← (dec_of h1).2, ← (dec_of h2).2, h]
/-- where the loop over the lines stands -/
def LnI (ls : List (List UInt8)) (k : Nat) (acc : List Ln) : Prop := rdLns ls = (rdLns (ls.drop k)).map (acc ++ ·)
theorem lnI_start (ls : List (List UInt8)) : LnI ls 0 [] := by unfold LnI; simp
theorem lnI_no {ls : List (List UInt8)} {k : Nat} {acc : List Ln} (h : LnI ls k acc) (hk : k < ls.length) (hr : rdLine ls[k] = none) : rdLns ls = none := by
  unfold LnI at h
  rw [List.drop_eq_getElem_cons hk, rdLns, hr] at h
  exact h
theorem lnI_next {ls : List (List UInt8)} {k : Nat} {acc : List Ln} (h : LnI ls k acc) (hk : k < ls.length) {x : Ln} (hr : rdLine ls[k] = some x) : LnI ls (k + 1) (acc ++ [x]) := by
  unfold LnI at h ⊢
  rw [List.drop_eq_getElem_cons hk, rdLns, hr] at h
  simp only at h
  rw [h]
  cases rdLns (ls.drop (k + 1)) with
  | none => rfl
  | some r => simp
theorem lnI_end {ls : List (List UInt8)} {acc : List Ln} (h : LnI ls ls.length acc) : rdLns ls = some acc := by
  unfold LnI at h
  rw [h, List.drop_length]
  simp [rdLns]
theorem pl_short {ls : List (List UInt8)} (h : ¬ (2 ≤ ls.length ∧ ls[ls.length - 1]? = some wEnd)) : parseL ls = none := if_neg h
theorem pl_head {ls : List (List UInt8)} (h : 2 ≤ ls.length ∧ ls[ls.length - 1]? = some wEnd) (h1 : rdHead (ls.getD 0 []) = none) : parseL ls = none := by
  rw [parseL, if_pos h, h1]
theorem pl_lns {ls : List (List UInt8)} {p v : Int} (h : 2 ≤ ls.length ∧ ls[ls.length - 1]? = some wEnd) (h1 : rdHead (ls.getD 0 []) = some (p, v)) (h3 : rdLns ((ls.drop 1).take (ls.length - 2)) = none) : parseL ls = none := by
  rw [parseL, if_pos h, h1]; simp only [h3]
theorem pl_ok {ls : List (List UInt8)} {p v : Int} {l : List Ln} (h : 2 ≤ ls.length ∧ ls[ls.length - 1]? = some wEnd) (h1 : rdHead (ls.getD 0 []) = some (p, v)) (h3 : rdLns ((ls.drop 1).take (ls.length - 2)) = some l) : parseL ls = some ⟨p, v, l⟩ := by
  rw [parseL, if_pos h, h1]; simp only [h3]
end Go.Proofs.YtjbhabfflcbebaaGreat
/- Storing an element into a slice of the call's own; slices of such a slice. -/
namespace Go.Proofs.YtjbhabfflcbebaaGreat
open Go.RowKit

theorem flatten_set {sz : Nat} (hsz : 0 < sz) {es : List (List Value)} (h : Wide sz es) (i : Nat) (hi : i < es.length) (x : List Value) (hx : x.length = sz) (j : Nat) :
    (es.set i x).flatten[j]? = if i * sz ≤ j ∧ j < i * sz + sz then x[j - i * sz]? else es.flatten[j]? := by
  have hw : ∀ y ∈ es.set i x, y.length = sz := fun y hy => by
    rcases List.mem_or_eq_of_mem_set hy with hy | rfl
    · exact (h y hy).1
    · exact hx
  have hget : ∀ (fs : List (List Value)), (∀ y ∈ fs, y.length = sz) → ∀ j, fs.flatten[j]? = (fs[j / sz]?).bind (·[j % sz]?) := by
    intro fs hfs
    induction fs with
    | nil => simp
    | cons y r ih =>
      intro j
      have hy := hfs y (by simp)
      rw [List.flatten_cons]
      by_cases hj : j < sz
      · rw [List.getElem?_append_left (by omega), Nat.div_eq_of_lt hj, Nat.mod_eq_of_lt hj]; simp
      · rw [List.getElem?_append_right (by omega), ih (fun z hz => hfs z (by simp [hz])), hy]
        have e1 : j / sz = (j - sz) / sz + 1 := by
          have : j = (j - sz) + sz := by omega
          conv => lhs; rw [this]
          rw [Nat.add_div_right _ hsz]
        have e2 : j % sz = (j - sz) % sz := by
          have : j = (j - sz) + sz := by omega
          conv => lhs; rw [this]
          rw [Nat.add_mod_right]
        rw [e1, e2, List.getElem?_cons_succ]
  rw [hget _ hw, hget _ (fun y hy => (h y hy).1), List.getElem?_set]
  by_cases hc : i * sz ≤ j ∧ j < i * sz + sz
  · have hd : j / sz = i := by
      obtain ⟨h1, h2⟩ := hc
      exact Nat.div_eq_of_lt_le (by omega) (by rw [Nat.add_mul, Nat.one_mul]; omega)
    rw [if_pos hd.symm, if_pos hi, if_pos hc]
    show x[j % sz]? = _
    rw [← hd, Nat.mod_eq_sub_div_mul]
  · rw [if_neg, if_neg hc]
    intro hd
    apply hc
    have a := Nat.div_mul_le_self j sz
    have b := Nat.lt_mul_div_succ j hsz
    rw [Nat.mul_add, Nat.mul_one, Nat.mul_comm] at b
    rw [hd]; exact ⟨a, b⟩

/-- a run of stores into a list -/
def setRun (xs : List Value) (j : Nat) : List Value → List Value
  | [] => xs
  | u :: r => setRun (xs.set j u) (j + 1) r
theorem setRun_get (us : List Value) : ∀ (xs : List Value) (j t : Nat), j + us.length ≤ xs.length → (setRun xs j us)[t]? = if j ≤ t ∧ t < j + us.length then us[t - j]? else xs[t]? := by
  induction us with
  | nil => intro xs j t _; rw [if_neg (by simp only [List.length_nil]; omega)]; rfl
  | cons u r ih =>
    intro xs j t h
    simp only [List.length_cons] at h ⊢
    rw [setRun, ih _ _ _ (by rw [List.length_set]; omega), List.getElem?_set]
    by_cases h1 : j + 1 ≤ t ∧ t < j + 1 + r.length
    · rw [if_pos h1, if_pos (by omega), show t - j = (t - (j + 1)) + 1 by omega, List.getElem?_cons_succ]
    · rw [if_neg h1]
      by_cases h2 : j = t
      · subst h2; rw [if_pos rfl, if_pos (by omega), if_pos (by omega)]; simp
      · rw [if_neg h2, if_neg (by omega)]
theorem setRun_flat {sz : Nat} (hsz : 0 < sz) {es : List (List Value)} (h : Wide sz es) (i : Nat) (hi : i < es.length) (x : List Value) (hx : x.length = sz) : setRun es.flatten (i * sz) x = (es.set i x).flatten := by
  apply List.ext_getElem?
  intro j
  have hl : i * sz + x.length ≤ es.flatten.length := by
    rw [h.flat, hx]
    have : (i + 1) * sz ≤ es.length * sz := Nat.mul_le_mul_right _ hi
    rw [Nat.add_mul, Nat.one_mul] at this; exact this
  rw [setRun_get _ _ _ _ hl, flatten_set hsz h i hi x hx, hx]
/-- a run of stores into a world -/
def storeRun (w : World) (g j : Nat) : List Value → World
  | [] => w
  | u :: r => storeRun (w.setCell ⟨g, j, none⟩ u) g (j + 1) r
theorem storeRun_own (us : List Value) : ∀ {w : World} {base e sz g n cap : Nat} {xs : List Value} (j : Nat), w.ownsRow base e sz (.slice (some ⟨g, 0, none⟩) n cap) n xs →
    (storeRun w g j us).ownsRow base e sz (.slice (some ⟨g, 0, none⟩) n cap) n (setRun xs j us) ∧ w.grownBy (storeRun w g j us) (some g) := by
  induction us with
  | nil => intro w base e sz g n cap xs j h; exact ⟨h, World.grownBy.refl _ _⟩
  | cons u r ih =>
    intro w base e sz g n cap xs j h
    obtain ⟨h1, h2⟩ := h.stored j u
    obtain ⟨h3, h4⟩ := ih (j + 1) h1
    exact ⟨h3, h2.trans h4⟩
theorem Own.store {w : World} {base e sz g n cap : Nat} {es : List (List Value)} (hsz : 0 < sz) (h : Own w base e sz (.slice (some ⟨g, 0, none⟩) n cap) es) (i : Nat) (hi : i < es.length) (x : List Value) (hx : x.length = sz) (hx1 : ∀ u ∈ x, u.oneCell' = true) :
    Own (storeRun w g (i * sz) x) base e sz (.slice (some ⟨g, 0, none⟩) n cap) (es.set i x) ∧ w.grownBy (storeRun w g (i * sz) x) (some g) := by
  have hn : n = es.length := by
    rcases h.1.2 with ⟨h', _⟩ | ⟨g', cap', cur, h', _⟩
    · simp at h'
    · injection h'
  subst hn
  obtain ⟨h1, h2⟩ := storeRun_own x (i * sz) h.1
  refine ⟨⟨?_, fun y hy => ?_⟩, h2⟩
  · rw [List.length_set, ← setRun_flat hsz h.2 i hi x hx]; exact h1
  · rcases List.mem_or_eq_of_mem_set hy with hy | rfl
    · exact h.2 y hy
    · exact ⟨hx, hx1⟩
/-- a cell of an element of an own slice -/
theorem Own.cellE {w : World} {base e sz g n cap : Nat} {es : List (List Value)} (hsz : 0 < sz) (h : Own w base e sz (.slice (some ⟨g, 0, none⟩) n cap) es) {i : Nat} {x : List Value} (hi : es[i]? = some x) {j : Nat} {u : Value} (hj : x[j]? = some u) : w.cell? ⟨g, i * sz + j, none⟩ = some u := by
  obtain ⟨A, cap', hv, _, _, _, hc⟩ := h.sl hsz
  injection hv with hv1 hv2 hv3
  subst hv1
  rcases hc with rfl | ⟨b, off, hA, hc⟩
  · simp at hi
  · injection hA with hA
    injection hA with h1 h2
    subst h1 h2
    have := hc.2 i x hi j u hj
    rwa [Nat.zero_add] at this
theorem Own.frozenE {w : World} {base e sz g n cap : Nat} {es : List (List Value)} (h : Own w base e sz (.slice (some ⟨g, 0, none⟩) n cap) es) (j : Nat) : w.frozen? ⟨g, j, none⟩ = false := by
  have hn : n = es.length := by
    rcases h.1.2 with ⟨h', _⟩ | ⟨g', cap', cur, h', _⟩
    · simp at h'
    · injection h'
  subst hn
  exact h.1.frozenAt j
/-- the first k elements -/
theorem Sl.take {w : World} {sz b off n cap : Nat} {es : List (List Value)} (h : Sl w sz (.slice (some ⟨b, off, none⟩) n cap) es) (k : Nat) (hk : k ≤ n) (c : Nat) (hc : k ≤ c) (hc2 : c ≤ maxLen) : Sl w sz (.slice (some ⟨b, off, none⟩) k c) (es.take k) := by
  obtain ⟨A, cap', hv, h1, h2, h0, h3⟩ := h
  injection hv with hv1 hv2 hv3
  subst hv1 hv2 hv3
  have hl : (es.take k).length = k := by rw [List.length_take]; omega
  refine ⟨_, c, by rw [hl], by omega, hc2, (fun h => by cases h), ?_⟩
  rcases h3 with rfl | ⟨b', off', hA, hcell⟩
  · exact .inl (by simp)
  · refine .inr ⟨b', off', hA, hcell.1, fun i e hi => hcell.2 i e ?_⟩
    rw [List.getElem?_take] at hi
    split at hi
    · exact hi
    · cases hi
/-- the elements from k on -/
theorem Sl.drop {w : World} {sz b off n cap : Nat} {es : List (List Value)} (h : Sl w sz (.slice (some ⟨b, off, none⟩) n cap) es) (k : Nat) (hk : k ≤ n) : Sl w sz (.slice (some ⟨b, off + k * sz, none⟩) (n - k) (cap - k)) (es.drop k) := by
  obtain ⟨A, cap', hv, h1, h2, h0, h3⟩ := h
  injection hv with hv1 hv2 hv3
  subst hv1 hv2 hv3
  refine ⟨_, cap - k, by rw [List.length_drop], by rw [List.length_drop]; omega, by omega, (fun h => by cases h), ?_⟩
  rcases h3 with rfl | ⟨b', off', hA, hcell⟩
  · exact .inl (by simp)
  · injection hA with hA
    injection hA with e1 e2
    subst e1 e2
    refine .inr ⟨b, off + k * sz, rfl, hcell.1, fun i e hi j u hu => ?_⟩
    rw [List.getElem?_drop] at hi
    have := hcell.2 (k + i) e hi j u hu
    rwa [Nat.add_mul, ← Nat.add_assoc] at this

/-- the cells that make lays -/
theorem made_flat (z : Array Value) (hz : 0 < z.size) (h1 : ∀ u ∈ z.toList, u.oneCell' = true) (n : Nat) : (madeCells z (n * z.size)).toList = (List.replicate n z.toList).flatten := by
  have hw : Wide z.size (List.replicate n z.toList) := fun x hx => by rw [(List.mem_replicate.1 hx).2]; exact ⟨by simp, h1⟩
  apply List.ext_getElem?
  intro j
  rw [hw.get hz]
  by_cases hj : j < n * z.size
  · have hd : j / z.size < n := (Nat.div_lt_iff_lt_mul hz).2 hj
    have hm : j % z.size < z.size := Nat.mod_lt _ hz
    simp [madeCells, hj, hd, getElem!_pos, hm]
  · have hd : n ≤ j / z.size := by rw [Nat.le_div_iff_mul_le hz]; omega
    rw [List.getElem?_eq_none (by simp [madeCells]; omega), List.getElem?_eq_none (by simpa using hd)]; rfl

end Go.Proofs.YtjbhabfflcbebaaGreat
/- Lists of returns: what is known of a period; in memory. -/
namespace Go.Proofs.YtjbhabfflcbebaaGreat
open Go.RowKit

/-- the returns of a period -/
def ofP (l : List Ret) (p : Int) : List Ret := l.filter fun r => decide (r.p = p)
/-- the last version of a period -/
def verP (l : List Ret) (p : Int) : Int := match (ofP l p).getLast? with
  | some r => r.v
  | none => 0
/-- the last lines of a period -/
def linP (l : List Ret) (p : Int) : List Ln := match (ofP l p).getLast? with
  | some r => r.l
  | none => []
/-- the last return of a period -/
def latP (l : List Ret) (p : Int) : Ret := match (ofP l p).getLast? with
  | some r => r
  | none => ⟨0, 0, []⟩
def hasP (l : List Ret) (p : Int) : Bool := !(ofP l p).isEmpty
theorem ofP_snoc (l : List Ret) (r : Ret) (p : Int) : ofP (l ++ [r]) p = if r.p = p then ofP l p ++ [r] else ofP l p := by
  unfold ofP
  rw [List.filter_append]
  by_cases h : r.p = p
  · simp [h]
  · simp [h]
theorem verP_lat (l : List Ret) (p : Int) : verP l p = (latP l p).v := by unfold verP latP; cases (ofP l p).getLast? <;> rfl
theorem linP_lat (l : List Ret) (p : Int) : linP l p = (latP l p).l := by unfold linP latP; cases (ofP l p).getLast? <;> rfl
theorem latP_snoc (l : List Ret) (r : Ret) (p : Int) : latP (l ++ [r]) p = if r.p = p then r else latP l p := by
  unfold latP
  rw [ofP_snoc]
  by_cases h : r.p = p
  · rw [if_pos h, if_pos h]; simp
  · rw [if_neg h, if_neg h]
theorem hasP_snoc (l : List Ret) (r : Ret) (p : Int) : hasP (l ++ [r]) p = if r.p = p then true else hasP l p := by
  unfold hasP
  rw [ofP_snoc]
  by_cases h : r.p = p
  · rw [if_pos h, if_pos h]; simp
  · rw [if_neg h, if_neg h]
theorem verP_snoc (l : List Ret) (r : Ret) (p : Int) : verP (l ++ [r]) p = if r.p = p then r.v else verP l p := by
  rw [verP_lat, latP_snoc, verP_lat]; split <;> rfl
theorem hasP_mem {l : List Ret} {p : Int} : hasP l p = true ↔ ∃ r ∈ l, r.p = p := by
  unfold hasP ofP
  simp [List.filter_eq_nil_iff]
theorem latP_mem {l : List Ret} {p : Int} (h : hasP l p = true) : latP l p ∈ l ∧ (latP l p).p = p := by
  unfold hasP at h
  unfold latP
  cases hl : (ofP l p).getLast? with
  | none => rw [List.getLast?_eq_none_iff] at hl; rw [hl] at h; cases h
  | some r =>
    have hm := List.mem_of_getLast? hl
    unfold ofP at hm
    rw [List.mem_filter] at hm
    exact ⟨hm.1, by simpa using hm.2⟩
theorem latP_no {l : List Ret} {p : Int} (h : hasP l p = false) : latP l p = ⟨0, 0, []⟩ := by
  unfold hasP at h
  unfold latP
  simp only [Bool.not_eq_false', List.isEmpty_iff] at h
  rw [h]; rfl

/-- returns as cells -/
def rets (ps : List (Ret × Value)) : List (List Value) := ps.map fun p => (p.1.vals p.2).toList
theorem rets_len (ps : List (Ret × Value)) : (rets ps).length = ps.length := by simp [rets]
theorem rets_append (a b : List (Ret × Value)) : rets (a ++ b) = rets a ++ rets b := by simp [rets]
theorem rets_at {ps : List (Ret × Value)} {k : Nat} (h : k < ps.length) : (rets ps)[k]? = some ((ps[k]).1.vals (ps[k]).2).toList := by simp [rets, h]
theorem CellsAt.ret {w : World} {b off : Nat} {ps : List (Ret × Value)} (h : CellsAt w 3 b off (rets ps)) {k : Nat} (hk : k < ps.length) :
    w.cell? ⟨b, off + k * 3, none⟩ = some (.int .i64 (ps[k]).1.p) ∧ w.cell? ⟨b, off + k * 3 + 1, none⟩ = some (.int .i64 (ps[k]).1.v) ∧ w.cell? ⟨b, off + k * 3 + 2, none⟩ = some (ps[k]).2 :=
  ⟨h.2 k _ (rets_at hk) 0 _ rfl, h.2 k _ (rets_at hk) 1 _ rfl, h.2 k _ (rets_at hk) 2 _ rfl⟩
theorem rowRet : RowTy Tryz.prog 22 32 3 40 := by
  obtain ⟨i, hi, hz, hs, hb⟩ := info_parts (show (Tryz.prog.info? 32).map (fun i => (i.zero, i.size, i.bytes)) = some (some (.agg #[.int .i64 0, .int .i64 0, .slice none 0 0]), 3, 40) by kernel_rfl)
  exact ⟨Tryz.underlying22, ⟨i, _, hi, hz, hs, hb, rfl⟩, by omega⟩
/-- a slice of returns -/
structure RetsAt (w : World) (v : Value) (ps : List (Ret × Value)) : Prop where
  sl : Sl w 3 v (rets ps)
  ln : ∀ p ∈ ps, Sl w 3 p.2 (lns p.1.l)
theorem RetsAt.below {w w' : World} {v : Value} {ps : List (Ret × Value)} (h : RetsAt w v ps) (hb : Below w.heap.size w w') : RetsAt w' v ps := ⟨h.sl.below hb, fun p hp => (h.ln p hp).below hb⟩
theorem Sl.is {w : World} {sz : Nat} {v : Value} {es : List (List Value)} (h : Sl w sz v es) : ∃ A n c, v = .slice A n c := by
  obtain ⟨A, c, h, _⟩ := h; exact ⟨A, _, c, h⟩
theorem rets_wide {ps : List (Ret × Value)} (h : ∀ p ∈ ps, ∃ A n c, p.2 = .slice A n c) : Wide 3 (rets ps) := fun x hx => by
  obtain ⟨p, hp, rfl⟩ := List.mem_map.1 hx
  obtain ⟨A, n, c, e⟩ := h p hp
  refine ⟨rfl, fun u hu => ?_⟩
  simp only [Ret.vals, List.mem_cons, List.not_mem_nil, or_false] at hu
  rcases hu with rfl | rfl | rfl
  · rfl
  · rfl
  · rw [e]; rfl
theorem RetsAt.wide {w : World} {v : Value} {ps : List (Ret × Value)} (h : RetsAt w v ps) : Wide 3 (rets ps) := rets_wide fun p hp => (h.ln p hp).is
theorem Sl.head {w : World} {sz n cap : Nat} {A : Option Addr} {es : List (List Value)} (h : Sl w sz (.slice A n cap) es) (k : Nat) (hk : k ≤ n) : Sl w sz (.slice A k cap) (es.take k) := by
  obtain ⟨A', cap', hv, h1, h2, h0, h3⟩ := h
  injection hv with hv1 hv2 hv3
  subst hv1 hv2 hv3
  have hl : (es.take k).length = k := by rw [List.length_take]; omega
  refine ⟨_, cap, by rw [hl], by omega, h2, h0, ?_⟩
  rcases h3 with rfl | ⟨b', off', hA, hcell⟩
  · exact .inl (by simp)
  · refine .inr ⟨b', off', hA, hcell.1, fun i e hi => hcell.2 i e ?_⟩
    rw [List.getElem?_take] at hi
    split at hi
    · exact hi
    · cases hi
/-- no number and text lie side by side in block X: no line lies there -/
def NoLn (w : World) (X : Nat) : Prop := ∀ off x s, ¬ (w.cell? ⟨X, off, none⟩ = some (.int .i64 x) ∧ w.cell? ⟨X, off + 1, none⟩ = some (.string s))
theorem Sl.ln_far {w w' : World} {X : Nat} {v : Value} {l : List Ln} (h : Sl w 3 v (lns l)) (hg : w.grownBy w' (some X)) (hx : NoLn w X) : Sl w' 3 v (lns l) := by
  obtain ⟨A, cap, rfl, h1, h2, h0, h3⟩ := h
  refine ⟨A, cap, rfl, h1, h2, h0, ?_⟩
  rcases h3 with h3 | ⟨b, off, rfl, hc⟩
  · exact .inl h3
  · cases l with
    | nil => exact .inl rfl
    | cons p r =>
      have hbX : b ≠ X := fun e => by
        have h0 := hc.2 0 p.vals rfl 0 _ rfl
        have h1 := hc.2 0 p.vals rfl 1 _ rfl
        rw [e] at h0 h1
        exact hx (off + 0 * 3) _ _ ⟨h0, h1⟩
      exact .inr ⟨b, off, rfl, Nat.lt_of_lt_of_le hc.1 hg.size, fun i x hi j u hu => (World.cell?_of_block (w := w) (a := ⟨b, _, none⟩) (hg.block b hc.1 (fun e => hbX (Option.some.inj e)))).trans (hc.2 i x hi j u hu)⟩
theorem noLn_row1 {w : World} {X : Nat} {t : TypeId} {v : Value} (h : Row w X t #[v]) : NoLn w X := fun off x s hh => by
  rw [h.cell, h.cell] at hh
  have := hh.2
  simp at this
theorem noLn_map {w : World} {M n : Nat} {a : Array MapEntry} (h : w.heap[M]? = some (.map a n)) : NoLn w M := fun off x s hh => by
  have := hh.1
  simp [World.cell?, h] at this
end Go.Proofs.YtjbhabfflcbebaaGreat
/- Rows of three cells. -/
namespace Go.Proofs.YtjbhabfflcbebaaGreat
open Go.RowKit

theorem row3 {w : World} {g : Nat} {t : TypeId} {a b c : Value} (h : Row w g t #[a, b, c]) : (w.cell? ⟨g, 0, none⟩ = some a ∧ w.cell? ⟨g, 1, none⟩ = some b ∧ w.cell? ⟨g, 2, none⟩ = some c ∧ g < w.heap.size) ∧ w.frozen? ⟨g, 0, none⟩ = false ∧ w.frozen? ⟨g, 1, none⟩ = false ∧ w.frozen? ⟨g, 2, none⟩ = false := ⟨⟨h.cell 0, h.cell 1, h.cell 2, h.lt⟩, h.frozen 0, h.frozen 1, h.frozen 2⟩
theorem Row.set3 {w : World} {g : Nat} {t : TypeId} {a b c : Value} (h : Row w g t #[a, b, c]) (x y z : Value) : Row (((w.setCell ⟨g, 0, none⟩ x).setCell ⟨g, 1, none⟩ y).setCell ⟨g, 2, none⟩ z) g t #[x, y, z] := ((h.set 0 x).set 1 y).set 2 z
theorem Below.set3 {B : Nat} {w w' : World} {g : Nat} (h : Below B w w') (hg : B ≤ g) (x y z : Value) : Below B w (((w'.setCell ⟨g, 0, none⟩ x).setCell ⟨g, 1, none⟩ y).setCell ⟨g, 2, none⟩ z) := ((h.setCell (p := ⟨g, 0, none⟩) hg _).setCell (p := ⟨g, 1, none⟩) hg _).setCell (p := ⟨g, 2, none⟩) hg _
theorem row_new2 (w : World) (t t' : TypeId) (a b : Array Value) : Row ((w.alloc (.cells a t)).alloc (.cells b t')) w.heap.size t a ∧ Row ((w.alloc (.cells a t)).alloc (.cells b t')) (w.heap.size + 1) t' b ∧ Below w.heap.size w ((w.alloc (.cells a t)).alloc (.cells b t')) := by
  refine ⟨(Row.new w t a).alloc _, ?_, ((Below.refl _ _).alloc (Nat.le_refl _) _).alloc (by simp) _⟩
  have := Row.new (w.alloc (.cells a t)) t' b
  rwa [World.size_alloc] at this
end Go.Proofs.YtjbhabfflcbebaaGreat
/- Storing one cell of an element into a slice of the call's own. -/
namespace Go.Proofs.YtjbhabfflcbebaaGreat
open Go.RowKit

theorem Own.set1 {w : World} {base e sz g n cap : Nat} {es : List (List Value)} (hsz : 0 < sz) (h : Own w base e sz (.slice (some ⟨g, 0, none⟩) n cap) es) (i : Nat) {x : List Value} (hi : es[i]? = some x) (j : Nat) (hj : j < sz) (u : Value) (hu : u.oneCell' = true) :
    Own (w.setCell ⟨g, i * sz + j, none⟩ u) base e sz (.slice (some ⟨g, 0, none⟩) n cap) (es.set i (x.set j u)) ∧ w.grownBy (w.setCell ⟨g, i * sz + j, none⟩ u) (some g) := by
  have hn : n = es.length := by
    rcases h.1.2 with ⟨h', _⟩ | ⟨g', cap', cur, h', _⟩
    · simp at h'
    · injection h'
  subst hn
  have hil : i < es.length := (List.getElem?_eq_some_iff.1 hi).1
  have hx := h.2 x (List.mem_of_getElem? hi)
  obtain ⟨h1, h2⟩ := h.1.stored (i * sz + j) u
  have hf : es.flatten.set (i * sz + j) u = (es.set i (x.set j u)).flatten := by
    apply List.ext_getElem?
    intro t
    have hb : i * sz + sz ≤ es.flatten.length := by
      rw [h.2.flat]
      have : (i + 1) * sz ≤ es.length * sz := Nat.mul_le_mul_right _ hil
      rw [Nat.add_mul, Nat.one_mul] at this; exact this
    rw [List.getElem?_set, flatten_set hsz h.2 i hil _ (by rw [List.length_set]; exact hx.1)]
    by_cases ht : i * sz ≤ t ∧ t < i * sz + sz
    · rw [if_pos ht, List.getElem?_set]
      by_cases he : i * sz + j = t
      · rw [if_pos he, if_pos (by omega), if_pos (by omega), if_pos (by omega)]
      · rw [if_neg he, if_neg (by omega), h.2.get hsz]
        have e1 : t / sz = i := by
          have : t = sz * i + (t - i * sz) := by rw [Nat.mul_comm]; omega
          rw [this, Nat.mul_add_div hsz, Nat.div_eq_of_lt (by omega)]; rfl
        have e2 : t % sz = t - i * sz := by
          have : t = sz * i + (t - i * sz) := by rw [Nat.mul_comm]; omega
          conv => lhs; rw [this]
          rw [Nat.mul_add_mod, Nat.mod_eq_of_lt (by omega)]
        rw [e1, e2, hi]; rfl
    · rw [if_neg (by omega), if_neg ht]
  refine ⟨⟨?_, fun y hy => ?_⟩, h2⟩
  · rw [List.length_set, ← hf]; exact h1
  · rcases List.mem_or_eq_of_mem_set hy with hy | rfl
    · exact h.2 y hy
    · refine ⟨by rw [List.length_set]; exact hx.1, fun v hv => ?_⟩
      rcases List.mem_or_eq_of_mem_set hv with hv | rfl
      · exact hx.2 v hv
      · exact hu
theorem Sl.cells {w : World} {sz n cap : Nat} {A : Option Addr} {es : List (List Value)} (h : Sl w sz (.slice A n cap) es) (h0 : 0 < es.length) : ∃ b off, A = some ⟨b, off, none⟩ ∧ CellsAt w sz b off es := by
  obtain ⟨A', cap', hv, _, _, _, hc⟩ := h
  injection hv with hv1 hv2 hv3
  subst hv1
  rcases hc with rfl | hc
  · exact absurd h0 (by simp)
  · exact hc
end Go.Proofs.YtjbhabfflcbebaaGreat
/- payrollref38.Latest. -/
namespace Go.Proofs.YtjbhabfflcbebaaGreat
open Go.RowKit

theorem own_lit0 (w : World) (e : TypeId) (sz base : Nat) (hb : base ≤ w.heap.size) : Own (w.alloc (.cells #[] e)) base e sz (.slice (some ⟨w.heap.size, 0, none⟩) 0 0) [] :=
  ⟨⟨by simp, .inr ⟨_, 0, #[], rfl, hb, heap_alloc_new w _, Nat.le_refl _, Nat.zero_le _, by simp, by simp⟩⟩, Wide.nil sz⟩
theorem Own.slc {w : World} {base e sz : Nat} {v : Value} {es : List (List Value)} (h : Own w base e sz v es) : ∃ A n c, v = .slice A n c := by
  obtain ⟨A, c, h⟩ := h.form
  exact ⟨A, _, c, h⟩
theorem own_setL {w : World} {base e sz : Nat} {v : Value} {es : List (List Value)} (h : Own w base e sz v es) {r : Nat} (hr : v.ownBlock ≠ some r) (i : Nat) (u : Value) : Own (w.setCell ⟨r, i, none⟩ u) base e sz v es :=
  h.keepG (grown_set w r i u) (.inr hr)
theorem own_set3 {w : World} {base e sz : Nat} {v : Value} {es : List (List Value)} (h : Own w base e sz v es) {r : Nat} (hr : v.ownBlock ≠ some r) (x y z : Value) :
    Own (((w.setCell ⟨r, 0, none⟩ x).setCell ⟨r, 1, none⟩ y).setCell ⟨r, 2, none⟩ z) base e sz v es := own_setL (own_setL (own_setL h hr 0 x) hr 1 y) hr 2 z
/-- the returns behind index k are of other periods -/
theorem lat_at {l : List Ret} {p : Int} {k : Nat} (hk : k < l.length) (hp : (l[k]).p = p) (h : ∀ j (h : j < l.length), k < j → (l[j]).p ≠ p) : latP l p = l[k] ∧ hasP l p = true := by
  have e : l = l.take k ++ l[k] :: l.drop (k + 1) := by rw [← List.drop_eq_getElem_cons hk, List.take_append_drop]
  have h2 : ofP (l.drop (k + 1)) p = [] := by
    unfold ofP
    rw [List.filter_eq_nil_iff]
    intro r hr
    obtain ⟨i, hi, rfl⟩ := List.getElem_of_mem hr
    rw [List.length_drop] at hi
    rw [List.getElem_drop]
    simpa using h (k + 1 + i) (by omega) (by omega)
  have h3 : ofP l p = ofP (l.take k) p ++ [l[k]] := by
    conv => lhs; rw [e]
    have : ∀ a b : List Ret, ofP (a ++ b) p = ofP a p ++ ofP b p := fun a b => by simp [ofP]
    have hc : ofP (l[k] :: l.drop (k + 1)) p = [l[k]] := by
      have : ofP (l[k] :: l.drop (k + 1)) p = l[k] :: ofP (l.drop (k + 1)) p := by
        unfold ofP
        rw [List.filter_cons_of_pos (by simpa using hp)]
      rw [this, h2]
    rw [this, hc]
  unfold latP hasP
  rw [h3]
  simp
theorem lat_none {l : List Ret} {p : Int} (h : ∀ j (h : j < l.length), (l[j]).p ≠ p) : latP l p = ⟨0, 0, []⟩ ∧ hasP l p = false := by
  have : hasP l p = false := by
    rw [Bool.eq_false_iff]
    intro hh
    obtain ⟨r, hr, hp⟩ := hasP_mem.1 hh
    obtain ⟨i, hi, rfl⟩ := List.getElem_of_mem hr
    exact h i hi hp
  exact ⟨latP_no this, this⟩
/-- the call returns a return with lines of its own -/
def RetLat (f : Ret) (b : Bool) (w : World) (e : Ending) (w' : World) : Prop :=
  ∃ v, e = .returned (.tuple #[.agg (f.vals v), .bool b]) ∧ Own w' w.heap.size 51 3 v (lns f.l) ∧ Below w.heap.size w w'
set_option maxRecDepth 100000 in
set_option maxHeartbeats 4000000 in
theorem Latest_any (ps : List (Ret × Value)) (v : Value) (p : Int) (w : World) (hv : RetsAt w v ps) (hl : ∀ q ∈ ps, q.1.l.length ≤ 256) :
    Calls Tryz.prog 12 #[v, .int .i64 p] w (RetLat (latP (ps.map (·.1)) p) (hasP (ps.map (·.1)) p) w) := by
  have HV := Lib.hid hv
  have HL := Lib.hid hl
  obtain ⟨hsl, -⟩ := hv
  obtain ⟨A, cap, rfl, h1, h2, _, _⟩ := hsl
  rw [rets_len] at h1 HV ⊢
  unfold maxLen at h2
  obtain ⟨L, hLL⟩ : ∃ L : List Ret, ps.map (·.1) = L := ⟨_, rfl⟩
  rw [hLL]
  have HLE : Hid (L.length = ps.length) := by rw [Hid, ← hLL, List.length_map]
  have HLX : Hid (∀ j (h : j < L.length) (h' : j < ps.length), L[j] = (ps[j]).1) := fun j h h' => by subst hLL; simp
  have HAT := Lib.hid (fun k hk hp h => lat_at (l := L) (p := p) (k := k) hk hp h)
  have HNO := Lib.hid (fun h => lat_none (l := L) (p := p) h)
  obtain ⟨lt, hlt⟩ : ∃ lt, latP L p = lt := ⟨_, rfl⟩
  obtain ⟨hs, hhs⟩ : ∃ hs, hasP L p = hs := ⟨_, rfl⟩
  rw [hlt, hhs] at HAT HNO ⊢
  have hr0 := Row.new w 32 #[.int .i64 0, .int .i64 0, .slice none 0 0]
  have hB0 := (Below.refl w.heap.size w).alloc (Nat.le_refl _) (.cells #[.int .i64 0, .int .i64 0, .slice none 0 0] 32)
  go_enter Tryz.func12, Tryz.ntmps12
  go_wp2
  obtain ⟨w0, hw0⟩ : ∃ w0, w.alloc (.cells #[.int .i64 0, .int .i64 0, .slice none 0 0] 32) = w0 := ⟨_, rfl⟩
  rw [hw0] at hr0 hB0 ⊢
  obtain ⟨r, hr⟩ : ∃ r, w.heap.size = r := ⟨_, rfl⟩
  rw [hr] at hr0 ⊢
  have hwr : w.heap.size ≤ r := by omega
  clear hw0 hr hl hlt hhs hLL
  go_loopw [6] (fun i wr => ∃ k : Nat, k ≤ ps.length ∧ i = .int .i64 ((k : Int) - 1) ∧ Hid (Row wr r 32 #[.int .i64 0, .int .i64 0, .slice none 0 0] ∧ Below w.heap.size w wr) ∧ Hid (∀ j (h : j < L.length), k ≤ j → (L[j]).p ≠ p)) (fun i _ => (intOf i + 1).toNat)
  case atStart => exact ⟨ps.length, by omega, rfl, ⟨hr0, hB0⟩, fun j h hj => by rw [HLE.out] at h; omega⟩
  case round =>
    clear hr0 hB0
    obtain ⟨k, hk, rfl, HR, HK⟩ := hrel
    obtain ⟨wo, rfl⟩ : ∃ wo : World, wo = wr := ⟨_, rfl⟩
    obtain ⟨⟨a0, a1, a2, al⟩, ⟨f0, f1, f2⟩⟩ := row3 HR.out.1
    by_cases hk0 : k = 0
    · subst hk0
      obtain ⟨e1, e2⟩ := HNO.out (fun j h => HK.out j h (Nat.zero_le _))
      subst e1 e2
      have HZ := Lib.hid (row3 (Row.set3 HR.out.1 (.int .i64 0) (.int .i64 0) (.slice none 0 0))).1
      have HQ := Lib.hid (Below.set3 HR.out.2 hwr (.int .i64 0) (.int .i64 0) (.slice none 0 0))
      have d0 : ¬ (0 : Int) ≤ ((0 : Nat) : Int) - 1 := by omega
      have d1 : decide ((0 : Int) ≤ ((0 : Nat) : Int) - 1) = false := decide_eq_false d0
      go_wp2
      obtain ⟨z0, z1, z2, _⟩ := HZ.out
      refine bodyPost_ret (v := .tuple #[.agg #[.int .i64 0, .int .i64 0, .slice none 0 0], .bool false]) (by simp only [results, Tryz.results12, go_sem]; simp [z0, z1, z2, go_sem]) rfl ?_
      exact ⟨_, rfl, Own.nil _ _ _ _, HQ.out⟩
    · obtain ⟨j, rfl⟩ : ∃ j, k = j + 1 := ⟨k - 1, by omega⟩
      have hj : j < ps.length := by omega
      have s1 : (((j + 1 : Nat) : Int)) - 1 = (j : Int) := by omega
      rw [s1]
      obtain ⟨bk, off, rfl, hc⟩ := (HV.out.below HR.out.2).sl.cells (by rw [rets_len]; omega)
      obtain ⟨c0, c1, c2⟩ := hc.ret hj
      have hbl := hc.1
      have i1 : (j : Int) < (ps.length : Int) := by omega
      have hlx := HL.out _ (List.getElem_mem hj)
      have HLN := Lib.hid ((HV.out.below HR.out.2).ln _ (List.getElem_mem hj))
      have HAJ := Lib.hid (fun hp h => HAT.out j (by rw [HLE.out]; exact hj) hp h)
      obtain ⟨x, hx⟩ : ∃ x, ps[j] = x := ⟨_, rfl⟩
      have HX : Hid (∀ h : j < L.length, L[j] = x.1) := fun h => by rw [HLX.out j h hj, hx]
      rw [hx] at c0 c1 c2 hlx HLN
      clear hx hc s1
      obtain ⟨⟨q, u, ll⟩, xv⟩ := x
      simp only at c0 c1 c2 hlx HLN
      by_cases hp : q = p
      · subst hp
        have hjl : j < L.length := by rw [HLE.out]; exact hj
        obtain ⟨e1, e2⟩ := HAJ.out (by rw [HX.out hjl]) (fun i hi hji => HK.out i hi hji)
        rw [HX.out hjl] at e1
        subst e1 e2
        clear HAJ HAT HNO HK HX hjl
        obtain ⟨Ax, cx, rfl⟩ : ∃ Ax cx, xv = .slice Ax ll.length cx := by
          obtain ⟨Ax, cx, h, _⟩ := HLN.out
          rw [lns_len] at h
          exact ⟨Ax, cx, h⟩
        have hal := (Below.refl wo.heap.size wo).alloc (Nat.le_refl _) (.cells #[.int .i64 q, .int .i64 u, .slice Ax ll.length cx] 32)
        have hbx := Row.new wo 32 #[.int .i64 q, .int .i64 u, .slice Ax ll.length cx]
        have hwo := HR.out.2.size
        have hB1 := below_after HR.out.2 hal HR.out.2.size
        have hr1 := HR.out.1.below hal al
        have HL1 := Lib.hid (HLN.out.below hal)
        clear a0 a1 a2 f0 f1 f2
        obtain ⟨w1, hw1⟩ : ∃ w1, wo.alloc (.cells #[.int .i64 q, .int .i64 u, .slice Ax ll.length cx] 32) = w1 := ⟨_, rfl⟩
        obtain ⟨m, hm⟩ : ∃ m, wo.heap.size = m := ⟨_, rfl⟩
        rw [hw1] at hbx hB1 hr1 HL1
        rw [hm] at hbx
        obtain ⟨⟨b0, b1, b2, bl⟩, ⟨g0, g1, g2⟩⟩ := row3 hbx
        obtain ⟨⟨a0, a1, a2, al1⟩, ⟨f0, f1, f2⟩⟩ := row3 hr1
        have hmr : ¬ m = r := by omega
        have hrm : ¬ r = m := by omega
        have hwm : w.heap.size ≤ m := by omega
        have hb0 : Below w1.heap.size w1 (w1.alloc (.cells #[] 51)) := (Below.refl _ _).alloc (Nat.le_refl _) _
        clear hal
        go_wp2_with (at_builtin; (refine wpList_append_sl rfl (.tmp 26) (.tmp 28) rfl rowLn w1.heap.size _ _ [] (lns ll) rfl (own_lit0 w1 _ 3 _ (Nat.le_refl _)) rfl (HL1.out.below hb0) (lns_wide ll) (by rw [lns_len]; unfold maxLen; simp; omega) (by rw [lns_len]; simp; omega) hb0.size ?_); intro v4 w4 hown4 hg4 hv4; obtain ⟨A4, n4, c4, rfl⟩ := hown4.slc; have hb4 := Own.grown (own_lit0 w1 _ 3 _ (Nat.le_refl _)) hb0 hg4 hb0.size; have hbx4 := hbx.below hb4 bl; have hr4 := hr1.below hb4 al1; obtain ⟨⟨b0, b1, b2, bl⟩, ⟨g0, g1, g2⟩⟩ := row3 hbx4; obtain ⟨⟨a0, a1, a2, al1⟩, ⟨f0, f1, f2⟩⟩ := row3 hr4)
        have hB4 := below_after hB1 hb4 hB1.size
        have hn4 : ∀ z, z < w1.heap.size → Value.ownBlock (.slice A4 n4 c4) ≠ some z := fun z hz e => by have := (hown4.1.lt z e).1; omega
        have hBm := hB4.setCell (p := ⟨m, 2, none⟩) hwm (.slice A4 n4 c4)
        have hrs := hr4.far (p := ⟨m, 2, none⟩) (show r ≠ m from hrm) (.slice A4 n4 c4)
        have hos := own_setL hown4 (hn4 m hbx.lt) 2 (.slice A4 n4 c4)
        have HZ := Lib.hid (row3 (Row.set3 hrs (.int .i64 q) (.int .i64 u) (.slice A4 n4 c4))).1
        have HQ := Lib.hid (Below.set3 hBm hwr (.int .i64 q) (.int .i64 u) (.slice A4 n4 c4))
        have HO := Lib.hid ((own_set3 hos (hn4 r hr1.lt) (.int .i64 q) (.int .i64 u) (.slice A4 n4 c4)).more (show w.heap.size ≤ w1.heap.size from hB1.size))
        clear hw1 hm hBm hrs hos hB4 hbx4 hr4 hb4 hown4 hg4 hv4 hn4 hr1 hbx hB1
        go_wp2
        obtain ⟨z0, z1, z2, _⟩ := HZ.out
        refine bodyPost_ret (v := .tuple #[.agg #[.int .i64 q, .int .i64 u, .slice A4 n4 c4], .bool true]) (by simp only [results, Tryz.results12, go_sem]; simp [z0, z1, z2, go_sem]) rfl ?_
        exact ⟨_, rfl, HO.out, HQ.out⟩
      · have hq : (q == p) = false := by simpa using hp
        have HK2 : Hid (∀ i (h : i < L.length), j ≤ i → (L[i]).p ≠ p) := fun i hi hji => by
          by_cases e : i = j
          · subst e; rw [HX.out hi]; exact hp
          · exact HK.out i hi (by omega)
        have HRR := Lib.hid HR.out
        clear hp HK HAJ HAT HNO HX
        go_wp2
        go_roundw
        case rel => exact ⟨j, by omega, by go_num, HRR.out, HK2.out⟩
        case measure => first | (simp [intOf]; done) | (simp [intOf]; omega)
end Go.Proofs.YtjbhabfflcbebaaGreat
/- Contracts of paygen.Deck: New, Next, Pick. What is drawn is said by its range alone. -/
namespace Go.Proofs.YtjbhabfflcbebaaGreat
open Go.RowKit

end Go.Proofs.YtjbhabfflcbebaaGreat
/- Valid lists of returns, as they are drawn; lists of returns of the call's own. -/
namespace Go.Proofs.YtjbhabfflcbebaaGreat
open Go.RowKit

/-- each return is valid and the next one of its period -/
def GoodRs (l : List Ret) : Prop := ∀ i (h : i < l.length), retB l[i] = true ∧ (0 ≤ (l[i]).p ∧ (l[i]).p ≤ 2) ∧ (l[i]).v = verP (l.take i) (l[i]).p + 1 ∧ (l[i]).l.length ≤ 3
theorem GoodRs.nil : GoodRs [] := fun i h => by simp at h
theorem GoodRs.snoc {l : List Ret} {r : Ret} (h : GoodRs l) (h1 : retB r = true) (h2 : 0 ≤ r.p ∧ r.p ≤ 2) (h3 : r.v = verP l r.p + 1) (h4 : r.l.length ≤ 3) : GoodRs (l ++ [r]) := fun i hi => by
  by_cases hl : i < l.length
  · rw [List.getElem_append_left hl, List.take_append_of_le_length (by omega)]
    exact h i hl
  · have : i = l.length := by simp at hi; omega
    subst this
    rw [List.getElem_concat_length rfl, List.take_append_of_le_length (Nat.le_refl _), List.take_length]
    exact ⟨h1, h2, h3, h4⟩
theorem GoodRs.take {l : List Ret} (h : GoodRs l) (k : Nat) : GoodRs (l.take k) := fun i hi => by
  have hi' : i < l.length := by rw [List.length_take] at hi; omega
  have hik : i < k := by rw [List.length_take] at hi; omega
  rw [List.getElem_take, List.take_take, show min i k = i by omega]
  exact h i hi'
theorem GoodRs.ver : ∀ (n : Nat) {l : List Ret}, GoodRs l → l.length = n → ∀ p, 0 ≤ verP l p ∧ verP l p ≤ n
  | 0, l, h, hl, p => by
    rw [List.eq_nil_of_length_eq_zero hl, verP_lat]
    exact ⟨by simp [latP, ofP], by simp [latP, ofP]⟩
  | n + 1, l, h, hl, p => by
    have e : l = l.take n ++ [l[n]'(by omega)] := by
      conv => lhs; rw [← List.take_length (l := l), hl]
      rw [List.take_succ_eq_append_getElem (by omega)]
    have ih := GoodRs.ver n (h.take n) (by rw [List.length_take]; omega)
    have hn := h n (by omega)
    rw [e, verP_snoc]
    split
    · have := ih (l[n]'(by omega)).p
      rw [hn.2.2.1]; omega
    · have := ih p
      omega
theorem GoodRs.mem {l : List Ret} (h : GoodRs l) {r : Ret} (hr : r ∈ l) : retB r = true ∧ (0 ≤ r.p ∧ r.p ≤ 2) ∧ r.l.length ≤ 3 := by
  obtain ⟨i, hi, rfl⟩ := List.getElem_of_mem hr
  have := h i hi
  exact ⟨this.1, this.2.1, this.2.2.2⟩
theorem GoodRs.lin {l : List Ret} (h : GoodRs l) (p : Int) : (linP l p).length ≤ 3 := by
  rw [linP_lat]
  cases hh : hasP l p
  · rw [latP_no hh]; simp
  · exact (h.mem (latP_mem hh).1).2.2
/-- slices of two types lie in two blocks -/
theorem own_types {w : World} {b1 b2 e1 e2 s1 s2 : Nat} {v1 v2 : Value} {l1 l2 : List (List Value)} (h1 : Own w b1 e1 s1 v1 l1) (h2 : Own w b2 e2 s2 v2 l2) (he : e1 ≠ e2) : v1.ownBlock = none ∨ v1.ownBlock ≠ v2.ownBlock := by
  cases hv1 : v1.ownBlock with
  | none => exact .inl rfl
  | some g =>
    refine .inr fun e => ?_
    rcases h1.1.2 with ⟨rfl, _⟩ | ⟨g1, c1, cur1, rfl, _, hg1, _⟩
    · simp [Value.ownBlock] at hv1
    · rcases h2.1.2 with ⟨rfl, _⟩ | ⟨g2, c2, cur2, rfl, _, hg2, _⟩
      · simp [Value.ownBlock] at e
      · simp only [Value.ownBlock, Option.some.injEq] at hv1 e
        subst hv1
        rw [← e, hg1] at hg2
        simp only [Option.some.injEq, Obj.cells.injEq] at hg2
        exact he hg2.2.1
theorem Own.keepD2 {w w' : World} {base e sz D : Nat} {v : Value} {es : List (List Value)} (h : Own w base e sz v es) (hg : w.grownBy w' (Option.some D)) (hD : D < base) : Own w' base e sz v es :=
  h.keepG hg (by
    cases hv : v.ownBlock with
    | none => exact .inl rfl
    | some g => exact .inr fun e => by have := (h.1.lt g hv).1; injection e with e; omega)
/-- returns of the call's own -/
structure RetsOwn (w : World) (base : Nat) (v : Value) (ps : List (Ret × Value)) : Prop where
  own : Own w base 32 3 v (rets ps)
  ln : ∀ p ∈ ps, Own w base 51 3 p.2 (lns p.1.l)
theorem RetsOwn.at {w : World} {base : Nat} {v : Value} {ps : List (Ret × Value)} (h : RetsOwn w base v ps) : RetsAt w v ps := ⟨h.own.sl (by omega), fun p hp => (h.ln p hp).sl (by omega)⟩
theorem RetsOwn.kept {w w' : World} {base : Nat} {v : Value} {ps : List (Ret × Value)} (h : RetsOwn w base v ps) (hb : Below w.heap.size w w') : RetsOwn w' base v ps := ⟨h.own.kept hb, fun p hp => (h.ln p hp).kept hb⟩
theorem RetsOwn.keepD {w w' : World} {base D : Nat} {v : Value} {ps : List (Ret × Value)} (h : RetsOwn w base v ps) (hg : w.grownBy w' (some D)) (hD : D < base) : RetsOwn w' base v ps := ⟨h.own.keepD2 hg hD, fun p hp => (h.ln p hp).keepD2 hg hD⟩
theorem RetsOwn.more {w : World} {base base' : Nat} {v : Value} {ps : List (Ret × Value)} (h : RetsOwn w base v ps) (hb : base' ≤ base) : RetsOwn w base' v ps := ⟨h.own.more hb, fun p hp => (h.ln p hp).more hb⟩
theorem rets_one (r : Ret) (v : Value) (h : ∃ A n c, v = .slice A n c) : Wide 3 (rets [(r, v)]) := rets_wide fun p hp => by rw [List.mem_singleton.1 hp]; exact h
/-- a return appended -/
theorem RetsOwn.app {w W w' : World} {base : Nat} {v v' vl : Value} {ps : List (Ret × Value)} {r : Ret} (h : RetsOwn w base v ps) (hW : Below w.heap.size w W) (hl : Own w base 51 3 vl (lns r.l))
    (ho : Own w' base 32 3 v' (rets ps ++ rets [(r, vl)])) (hg : W.grownBy w' v.ownBlock) : RetsOwn w' base v' (ps ++ [(r, vl)]) := by
  have h2 := h.kept hW
  refine ⟨by rw [rets_append]; exact ho, fun p hp => ?_⟩
  rcases List.mem_append.1 hp with hp | hp
  · exact (h2.ln p hp).keepG hg (own_types (h2.ln p hp) h2.own (by decide))
  · rw [List.mem_singleton.1 hp]
    exact (hl.kept hW).keepG hg (own_types (hl.kept hW) h2.own (by decide))
/-- the lines drawn so far: of the kinds below k -/
structure GoodA (l : List Ln) (k : Int) : Prop where
  ord : ordB l = true
  lo : ∀ y ∈ l, filedB y.kind = true ∧ y.kind < k ∧ (1 ≤ y.amt ∧ y.amt ≤ 1000)
  len : (l.length : Int) + 4 ≤ k
theorem GoodA.nil : GoodA [] 4 := ⟨rfl, (fun _ h => by cases h), by simp⟩
theorem GoodA.skip {l : List Ln} {k : Int} (h : GoodA l k) : GoodA l (k + 1) := ⟨h.ord, fun y hy => ⟨(h.lo y hy).1, by have := (h.lo y hy).2.1; omega, (h.lo y hy).2.2⟩, by have := h.len; omega⟩
theorem GoodA.snoc {l : List Ln} {k : Int} (h : GoodA l k) {x : Ln} (hk : x.kind = k) (hf : filedB k = true) (hx : formB x = true) (ha : 1 ≤ x.amt ∧ x.amt ≤ 1000) : GoodA (l ++ [x]) (k + 1) := by
  have ho := (ordB_iff l).1 h.ord
  refine ⟨(ordB_iff _).2 ⟨fun j hj => ?_, fun j hj => ?_⟩, fun y hy => ?_, by have := h.len; simp; omega⟩
  · by_cases hl : j < l.length
    · rw [List.getElem_append_left hl]; exact ho.1 j hl
    · have : j = l.length := by simp at hj; omega
      subst this
      rw [List.getElem_concat_length rfl]; exact hx
  · have hjl : j < l.length := by simp at hj; omega
    rw [List.getElem_append_left hjl]
    by_cases hl : j + 1 < l.length
    · rw [List.getElem_append_left hl]; exact ho.2 j hl
    · have e : (l ++ [x])[j + 1] = x := by
        have : j + 1 = l.length := by simp at hj; omega
        simp [this]
      rw [e, lnLt_iff]
      have := (h.lo _ (List.getElem_mem hjl)).2.1
      exact .inl (by omega)
  · rcases List.mem_append.1 hy with hy | hy
    · exact ⟨(h.lo y hy).1, by have := (h.lo y hy).2.1; omega, (h.lo y hy).2.2⟩
    · rw [List.mem_singleton.1 hy, hk]; exact ⟨hf, by omega, ha⟩
theorem GoodA.ret {l : List Ln} (h : GoodA l 7) {p v : Int} (hp : 0 ≤ p ∧ p ≤ 84005) (hv : 1 ≤ v ∧ v ≤ 65536) : retB ⟨p, v, l⟩ = true :=
  (retB_iff _).2 ⟨hp.1, hp.2, hv.1, hv.2, by have := h.len; simp only; omega, fun x hx => (h.lo x hx).1, h.ord⟩
end Go.Proofs.YtjbhabfflcbebaaGreat
/- payrollref32.Same, payrollref38.Same. -/
namespace Go.Proofs.YtjbhabfflcbebaaGreat
open Go.RowKit

deriving instance DecidableEq for Ln
deriving instance DecidableEq for Ret
theorem neLn (a b : Ln) (w : World) : (binOp .neq 51 (.agg #[.int .i64 a.kind, .string a.code, .int .i64 a.amt]) (.agg #[.int .i64 b.kind, .string b.code, .int .i64 b.amt])).run Tryz.prog w = .ok (.bool (!decide (a = b))) w := by
  obtain ⟨a0, a1, a2⟩ := a
  obtain ⟨b0, b1, b2⟩ := b
  simp only [Ln.mk.injEq, Bool.decide_and]
  have key : a1.toList = b1.toList ↔ a1 = b1 := by
    rw [ByteArray.toList_eq, ByteArray.toList_eq]
    obtain ⟨⟨x⟩⟩ := a1
    obtain ⟨⟨y⟩⟩ := b1
    simp
  by_cases h0 : a0 = b0 <;> by_cases h1 : a1 = b1 <;> by_cases h2 : a2 = b2 <;> simp [h0, h1, h2, key, go_sem]
def SameP (w : World) (b : Bool) (e : Ending) (w' : World) : Prop := e = .returned (.bool b) ∧ Below w.heap.size w w'
set_option maxHeartbeats 1000000 in
theorem sameLn_any (va vb : Value) (a b : List Ln) (w : World) (ha : Sl w 3 va (lns a)) (hb : Sl w 3 vb (lns b)) (hla : a.length ≤ 4096) (_hlb : b.length ≤ 4096) :
    Calls Tryz.prog 20 #[va, vb] w (SameP w (decide (a = b))) := by
  have fa : ∃ P c, va = .slice P a.length c := by obtain ⟨P, c, h, _⟩ := ha; rw [lns_len] at h; exact ⟨P, c, h⟩
  have fb : ∃ P c, vb = .slice P b.length c := by obtain ⟨P, c, h, _⟩ := hb; rw [lns_len] at h; exact ⟨P, c, h⟩
  obtain ⟨A1, c1, rfl⟩ := fa
  obtain ⟨A2, c2, rfl⟩ := fb
  have HA := Lib.hid ha
  have HB := Lib.hid hb
  clear ha hb
  by_cases hl : a.length = b.length
  · have HL := Lib.hid hl
    have hl1 : a.length ≤ b.length := by omega
    have hl2 : b.length ≤ a.length := by omega
    have hne : ((a.length : Int) != (b.length : Int)) = false := by simp; omega
    clear hl
    go_enter Tryz.func20, Tryz.ntmps20
    go_wp2
    go_loopw [5] (fun i wr => ∃ k : Nat, k ≤ a.length ∧ i = .int .i64 k ∧ Below w.heap.size w wr ∧ Hid (∀ j (h : j < a.length) (h' : j < b.length), j < k → a[j] = b[j])) (fun i _ => a.length - (intOf i).toNat)
    case atStart => exact ⟨0, by omega, rfl, Below.refl _ _, (fun j _ _ h => by omega)⟩
    case round =>
      obtain ⟨k, hk, rfl, hbl, HE⟩ := hrel
      obtain ⟨wo, rfl⟩ : ∃ wo : World, wo = wr := ⟨_, rfl⟩
      by_cases hlt : k < a.length
      · have hlt' : k < b.length := by omega
        obtain ⟨p, po, rfl, hp⟩ := (HA.out.below hbl).cells (by rw [lns_len]; omega)
        obtain ⟨q, qo, rfl, hq⟩ := (HB.out.below hbl).cells (by rw [lns_len]; omega)
        obtain ⟨p0, p1, p2⟩ := hp.ln hlt
        obtain ⟨q0, q1, q2⟩ := hq.ln hlt'
        have i1 : (k : Int) < (a.length : Int) := by omega
        have i2 : (k : Int) < (b.length : Int) := by omega
        have HN : Hid (∀ W, (binOp .neq 51 (.agg #[.int .i64 (a[k]).kind, .string (a[k]).code, .int .i64 (a[k]).amt]) (.agg #[.int .i64 (b[k]).kind, .string (b[k]).code, .int .i64 (b[k]).amt])).run Tryz.prog W = .ok (.bool (!decide (a[k] = b[k]))) W) := fun W => neLn _ _ W
        obtain ⟨x, hx⟩ : ∃ x, a[k] = x := ⟨_, rfl⟩
        obtain ⟨y, hy⟩ : ∃ y, b[k] = y := ⟨_, rfl⟩
        rw [hx] at p0 p1 p2 HN
        rw [hy] at q0 q1 q2 HN
        have HX := Lib.hid hx
        have HY := Lib.hid hy
        clear hp hq hx hy
        by_cases hxy : x = y
        · have n1 := HN.out
          rw [decide_eq_true hxy] at n1
          have HXY := Lib.hid hxy
          clear hxy HN
          go_wp2_with fail
          go_quiet (fail)
          go_wp2
          go_roundw
          case rel =>
            refine ⟨k + 1, by omega, by go_num, Below.draws hbl _, fun j h h' hj => ?_⟩
            by_cases e : j = k
            · subst e; rw [HX.out, HY.out, HXY.out]
            · exact HE.out j h h' (by omega)
          case measure => simp [intOf]; omega
        · have n1 := HN.out
          rw [decide_eq_false hxy] at n1
          have HXY := Lib.hid hxy
          clear hxy HN
          go_wp2_with fail
          go_quiet (fail)
          go_wp2
          go_ret
          exact ⟨ret_bool (decide_eq_false (fun h => HXY.out (by rw [← HX.out, ← HY.out]; exact List.getElem_of_eq h hlt))).symm, Below.draws hbl _⟩
      · go_wp2
        go_ret
        exact ⟨ret_bool (decide_eq_true (List.ext_getElem HL.out fun j h h' => HE.out j h h' (by omega))).symm, hbl⟩
  · have hne : ((a.length : Int) != (b.length : Int)) = true := by simp; omega
    have HE : Hid (decide (a = b) = false) := decide_eq_false (fun h => hl (by rw [h]))
    clear hl
    go_enter Tryz.func20, Tryz.ntmps20
    go_wp2
    go_ret
    exact ⟨ret_bool HE.out.symm, Below.refl _ _⟩
theorem decide_ret (f g : Ret) : decide (f = g) = (decide (f.p = g.p) && (decide (f.v = g.v) && decide (f.l = g.l))) := by
  obtain ⟨a, b, c⟩ := f
  obtain ⟨x, y, z⟩ := g
  simp only [Ret.mk.injEq, Bool.decide_and]
set_option maxHeartbeats 1000000 in
theorem SameR_any (f g : Ret) (va vb : Value) (w : World) (ha : Sl w 3 va (lns f.l)) (hb : Sl w 3 vb (lns g.l)) (hla : f.l.length ≤ 4096) (hlb : g.l.length ≤ 4096) :
    Calls Tryz.prog 16 #[.agg (f.vals va), .agg (g.vals vb)] w (SameP w (decide (f = g))) := by
  have HDF := Lib.hid (decide_ret f g)
  have hB : Below w.heap.size w ((w.alloc (.cells (f.vals va) 32)).alloc (.cells (g.vals vb) 32)) := ((Below.refl _ _).alloc (Nat.le_refl _) _).alloc (by simp) _
  have HC := Lib.hid (sameLn_any va vb f.l g.l _ (ha.below hB) (hb.below hB) hla hlb)
  clear ha hb
  have hv1 : f.vals va = #[.int .i64 f.p, .int .i64 f.v, va] := rfl
  have hv2 : g.vals vb = #[.int .i64 g.p, .int .i64 g.v, vb] := rfl
  rw [hv1, hv2] at HC hB
  rw [hv1, hv2]
  clear hv1 hv2
  by_cases h0 : f.p = g.p
  · have e0 : (f.p == g.p) = true := by simpa using h0
    have HD1 : Hid (decide (f = g) = (decide (f.v = g.v) && decide (f.l = g.l))) := by rw [Hid, HDF.out, decide_eq_true h0, Bool.true_and]
    clear h0 HDF
    by_cases h1 : f.v = g.v
    · have e1 : (f.v == g.v) = true := by simpa using h1
      have HD2 : Hid (decide (f = g) = decide (f.l = g.l)) := by rw [Hid, HD1.out, decide_eq_true h1, Bool.true_and]
      clear h1 HD1
      go_enter Tryz.func16, Tryz.ntmps16
      go_wp2_with fail
      refine HC.out.mono ?_
      rintro e w1 ⟨rfl, hb1⟩
      have hB1 := hB.trans (hb1.mono hB.size)
      clear hb1 hB HC
      cases hfl : decide (f.l = g.l)
      · rw [hfl] at HD2
        go_wp2
        go_ret
        exact ⟨ret_bool HD2.out.symm, hB1⟩
      · rw [hfl] at HD2
        go_wp2
        go_ret
        exact ⟨ret_bool HD2.out.symm, hB1⟩
    · have e1 : (f.v == g.v) = false := by simpa using h1
      have HD2 : Hid (decide (f = g) = false) := by rw [Hid, HD1.out, decide_eq_false h1, Bool.false_and]
      clear h1 HD1
      go_enter Tryz.func16, Tryz.ntmps16
      go_wp2
      go_ret
      exact ⟨ret_bool HD2.out.symm, hB⟩
  · have e0 : (f.p == g.p) = false := by simpa using h0
    have HD1 : Hid (decide (f = g) = false) := by rw [Hid, HDF.out, decide_eq_false h0, Bool.false_and]
    clear h0 HDF
    go_enter Tryz.func16, Tryz.ntmps16
    go_wp2
    go_ret
    exact ⟨ret_bool HD1.out.symm, hB⟩
end Go.Proofs.YtjbhabfflcbebaaGreat
/- Append inside a region that draws its order: one step; worlds behind allocations in such a region. -/
namespace Go.Proofs.YtjbhabfflcbebaaGreat
open Go.RowKit

theorem step_append_sl {P : Program} {w : World} {ops : Array Oper} {o : Oper} {a : Act} {K : Act → World → Prop} {Q : Exit → Act → World → Prop} {E : Prop} (hgd : o.guard = none) (s x : Operand) {t e : TypeId} {sz bytes : Nat}
    (ho : o.op = .call { callee := .builtin .append, args := #[s, x], argTypes := #[t, t] }) (hT : RowTy P t e sz bytes) (base : Nat)
    (v u : Value) (es fs : List (List Value)) (hs : a.eval s = v) (hown : Own w base e sz v es) (hx : a.eval x = u) (hsl : Sl w sz u fs) (hwd : Wide sz fs)
    (h63 : es.length + fs.length ≤ maxLen) (hbytes : (es.length + fs.length) * bytes ≤ 140737488355328) (hbase : base ≤ w.heap.size)
    (h : ∀ v' w', Own w' base e sz v' (es ++ fs) → w.grownBy w' v.ownBlock → (v'.ownBlock = v.ownBlock ∨ v'.ownBlock = some w.heap.size) → K (a.put o.dst v') w') :
    if Region.wanted o (yielded ops a.tmps) = true then Oper.wp P o a w K Q else E := by
  have hw : Region.wanted o (yielded ops a.tmps) = true := by simp [Region.wanted, hgd]
  rw [if_pos hw]
  obtain ⟨v', w', hrun, k1, k2, k3⟩ := run_append_sl (P := P) w hT o.type base v u es fs hown hsl hwd h63 hbytes hbase
  unfold Oper.wp execOp
  simp only [ho, resolve, invoke, builtin, Sem.run_bind, Sem.run_pure, Result.andThen_ok, List.map_toArray, List.map_cons, List.map_nil, hs, hx, hrun]
  exact h v' w' k1 k2 k3
theorem Own.drew {w : World} {base e sz : Nat} {v : Value} {es : List (List Value)} (h : Own w base e sz v es) : Own w.drew base e sz v es := h.kept (Below.refl _ _).drew
theorem own_none (w : World) (e : TypeId) (sz base n : Nat) (hn : w.heap.size = n) (hb : base ≤ n) : Own (w.alloc (.cells #[] e)) base e sz (.slice (some ⟨n, 0, none⟩) 0 0) [] := by
  subst hn
  exact ⟨⟨by simp, .inr ⟨_, 0, #[], rfl, hb, heap_alloc_new w _, Nat.le_refl _, by unfold maxLen; omega, by simp, by simp⟩⟩, Wide.nil sz⟩
theorem below_a0 (w : World) : Below w.heap.size w w.drew := (Below.refl _ _).drew
theorem below_a1 (w : World) (o : Obj) : Below w.heap.size w (w.alloc o).drew := ((Below.refl _ _).alloc (Nat.le_refl _) _).drew
theorem below_a2 (w : World) (o o' : Obj) : Below w.heap.size w ((w.alloc o).alloc o').drew := (((Below.refl _ _).alloc (Nat.le_refl _) _).alloc (by simp) _).drew
theorem Sl.apart {w w' : World} {sz b off n cap : Nat} {row : Option Nat} {es : List (List Value)} (h : Sl w sz (.slice (some ⟨b, off, none⟩) n cap) es) (hg : w.grownBy w' row) (hne : some b ≠ row) : Sl w' sz (.slice (some ⟨b, off, none⟩) n cap) es := by
  obtain ⟨A', cap', hv, h1, h2, h0, hc⟩ := h
  injection hv with hv1 hv2 hv3
  subst hv1 hv2 hv3
  refine ⟨_, _, rfl, h1, h2, h0, ?_⟩
  rcases hc with rfl | ⟨b', off', hA, hc⟩
  · exact .inl rfl
  · injection hA with hA
    injection hA with e1 e2
    subst e1 e2
    exact .inr ⟨_, _, rfl, Nat.lt_of_lt_of_le hc.1 hg.size, fun i e hi j u hj => (World.cell?_of_block (w := w) (a := ⟨b, _, none⟩) (hg.block b hc.1 hne)).trans (hc.2 i e hi j u hj)⟩
theorem apps {w0 w w' : World} {base e sz : Nat} {v : Value} {es : List (List Value)} (hb : Below base w0 w) (h : Own w base e sz v es) (hg : w.grownBy w' v.ownBlock) (hB : base ≤ w.heap.size) : Below base w0 w' := Own.grown h hb hg hB
end Go.Proofs.YtjbhabfflcbebaaGreat
/- payrollref38.Next. -/
namespace Go.Proofs.YtjbhabfflcbebaaGreat
open Go.RowKit

/-- the next return of a period, if its lines are not those of the last one -/
def nextR (l : List Ret) (p : Int) (x : List Ln) : Ret := ⟨p, verP l p + 1, x⟩
/-- the call returns the next return with lines of its own, or nothing -/
def RetNx (l : List Ret) (p : Int) (x : List Ln) (w : World) (e : Ending) (w' : World) : Prop :=
  Below w.heap.size w w' ∧ ((linP l p ≠ x ∧ ∃ v, e = .returned (.tuple #[.agg ((nextR l p x).vals v), .bool true]) ∧ Own w' w.heap.size 51 3 v (lns x)) ∨
    (linP l p = x ∧ e = .returned (.tuple #[.agg #[.int .i64 0, .int .i64 0, .slice none 0 0], .bool false])))
set_option maxRecDepth 100000 in
set_option maxHeartbeats 4000000 in
theorem Next38_any (ps : List (Ret × Value)) (v vx : Value) (p : Int) (x : List Ln) (w : World) (hv : RetsAt w v ps) (hl : ∀ q ∈ ps, q.1.l.length ≤ 256) (hx : Sl w 3 vx (lns x)) (hxl : x.length ≤ 256) (hver : 0 ≤ verP (ps.map (·.1)) p ∧ verP (ps.map (·.1)) p ≤ 65536) (hlp : (linP (ps.map (·.1)) p).length ≤ 256) :
    Calls Tryz.prog 26 #[v, .int .i64 p, vx] w (RetNx (ps.map (·.1)) p x w) := by
  have HV := Lib.hid hv
  have HX := Lib.hid hx
  have HL := Lib.hid hl
  obtain ⟨Ax, cx, rfl⟩ : ∃ Ax cx, vx = .slice Ax x.length cx := by
    obtain ⟨Ax, cx, h, _⟩ := hx
    rw [lns_len] at h
    exact ⟨Ax, cx, h⟩
  have HVL := Lib.hid (verP_lat (ps.map (·.1)) p)
  have HLL := Lib.hid (linP_lat (ps.map (·.1)) p)
  have HNX : Hid (nextR (ps.map (·.1)) p x = ⟨p, verP (ps.map (·.1)) p + 1, x⟩) := rfl
  have hr0 := Row.new w 32 #[.int .i64 0, .int .i64 0, .slice none 0 0]
  have hB0 := (Below.refl w.heap.size w).alloc (Nat.le_refl _) (.cells #[.int .i64 0, .int .i64 0, .slice none 0 0] 32)
  go_enter Tryz.func26, Tryz.ntmps26
  go_wp2_with fail
  obtain ⟨w0, hw0⟩ : ∃ w0, w.alloc (.cells #[.int .i64 0, .int .i64 0, .slice none 0 0] 32) = w0 := ⟨_, rfl⟩
  rw [hw0] at hr0 hB0 ⊢
  obtain ⟨r, hr⟩ : ∃ r, w.heap.size = r := ⟨_, rfl⟩
  rw [hr] at hr0 ⊢
  have hwr : w.heap.size ≤ r := by omega
  clear hw0 hr hv hx hl
  refine (Latest_any ps v p w0 (HV.out.below hB0) HL.out).mono ?_
  rintro e w1 ⟨v1, rfl, hown1, hb1⟩
  have hB1 := below_after hB0 hb1 hB0.size
  have hr1 := hr0.below hb1 hr0.lt
  obtain ⟨lt, hlt⟩ : ∃ lt, latP (ps.map (·.1)) p = lt := ⟨_, rfl⟩
  obtain ⟨hs, hhs⟩ : ∃ hs, hasP (ps.map (·.1)) p = hs := ⟨_, rfl⟩
  rw [hlt] at HVL HLL hown1 ⊢
  rw [hhs]
  have hlv : lt.v = verP (ps.map (·.1)) p := HVL.out.symm
  have hll : linP (ps.map (·.1)) p = lt.l := HLL.out
  rw [hll] at hlp
  rw [← hlv] at hver HNX
  obtain ⟨k0, k1⟩ := hver
  have HLL2 := Lib.hid hll
  obtain ⟨A1, c1, rfl⟩ := hown1.form
  rw [lns_len] at hown1 ⊢
  have hgv : lt.vals (.slice A1 lt.l.length c1) = #[.int .i64 lt.p, .int .i64 lt.v, .slice A1 lt.l.length c1] := rfl
  rw [hgv]
  have hr0l := hr0.lt
  have hs1 := hB1.size
  have hs01 := hb1.size
  clear hgv hB0 hr0 hb1 hlt hhs hlv HVL HLL hll
  have hal := (Below.refl w1.heap.size w1).alloc (Nat.le_refl _) (.cells #[.int .i64 lt.p, .int .i64 lt.v, .slice A1 lt.l.length c1] 32)
  have hx1 := Row.new w1 32 #[.int .i64 lt.p, .int .i64 lt.v, .slice A1 lt.l.length c1]
  have hr2 := hr1.below hal hr1.lt
  have hB2 := below_after hB1 hal hB1.size
  have hSl2 := ((hown1.sl (by omega)).below hal)
  obtain ⟨w2, hw2⟩ : ∃ w2, w1.alloc (.cells #[.int .i64 lt.p, .int .i64 lt.v, .slice A1 lt.l.length c1] 32) = w2 := ⟨_, rfl⟩
  rw [hw2] at hx1 hr2 hB2 hSl2
  have HC := Lib.hid (sameLn_any (.slice A1 lt.l.length c1) (.slice Ax x.length cx) lt.l x w2 hSl2 (HX.out.below hB2) (by omega) (by omega))
  obtain ⟨⟨y0, y1, y2, yl⟩, -⟩ := row3 hx1
  clear hown1 hal hr1 hB1 hSl2
  go_wp2_with fail
  refine HC.out.mono ?_
  rintro e w3 ⟨rfl, hb3⟩
  have hB3 := below_after hB2 hb3 hB2.size
  have hr3 := hr2.below hb3 hr2.lt
  have hx3 := hx1.below hb3 hx1.lt
  obtain ⟨m, hm⟩ : ∃ m, w1.heap.size = m := ⟨_, rfl⟩
  rw [hm] at hx3 ⊢
  have hs3 := hB3.size
  clear hw2 hm hx1 hr2 hB2 hb3 HC y0 y1 y2 yl
  obtain ⟨⟨a0, a1, a2, al⟩, ⟨f0, f1, f2⟩⟩ := row3 hr3
  obtain ⟨⟨b0, b1, b2, bl⟩, -⟩ := row3 hx3
  by_cases hsm : lt.l = x
  · have HQ := Lib.hid (Below.set3 hB3 hwr (.int .i64 0) (.int .i64 0) (.slice none 0 0))
    have HZ := Lib.hid (row3 (Row.set3 hr3 (.int .i64 0) (.int .i64 0) (.slice none 0 0))).1
    have HE : Hid (linP (ps.map (·.1)) p = x) := HLL2.out.trans hsm
    rw [decide_eq_true hsm]
    clear hsm hr3 hx3 hB3
    go_wp2
    obtain ⟨z0, z1, z2, _⟩ := HZ.out
    refine bodyPost_ret (v := .tuple #[.agg #[.int .i64 0, .int .i64 0, .slice none 0 0], .bool false]) (by simp only [results, Tryz.results26, go_sem]; simp [z0, z1, z2, go_sem]) rfl ?_
    exact ⟨HQ.out, .inr ⟨HE.out, rfl⟩⟩
  · have HE : Hid (linP (ps.map (·.1)) p ≠ x) := fun h => hsm (HLL2.out.symm.trans h)
    rw [decide_eq_false hsm]
    have HXS := Lib.hid (HX.out.below hB3)
    have ew : IntKind.i64.wrap (lt.v + 1) = lt.v + 1 := IntWalk.i64_in _ (by omega)
    clear hsm
    obtain ⟨n, d, ll⟩ := lt
    simp only at *
    go_wp2_with fail
    have HR3 := Lib.hid (And.intro hr3 (And.intro hB3 hx3))
    have HZZ : Hid (∀ w4 A4 n4 c4, Below w3.heap.size w3 w4 → Own w4 w3.heap.size 51 3 (.slice A4 n4 c4) (lns x) →
        Row (((w4.setCell ⟨r, 0, none⟩ (.int .i64 p)).setCell ⟨r, 1, none⟩ (.int .i64 (d + 1))).setCell ⟨r, 2, none⟩ (.slice A4 n4 c4)) r 32 #[.int .i64 p, .int .i64 (d + 1), .slice A4 n4 c4] ∧
        Below w.heap.size w (((w4.setCell ⟨r, 0, none⟩ (.int .i64 p)).setCell ⟨r, 1, none⟩ (.int .i64 (d + 1))).setCell ⟨r, 2, none⟩ (.slice A4 n4 c4)) ∧
        Own (((w4.setCell ⟨r, 0, none⟩ (.int .i64 p)).setCell ⟨r, 1, none⟩ (.int .i64 (d + 1))).setCell ⟨r, 2, none⟩ (.slice A4 n4 c4)) w.heap.size 51 3 (.slice A4 n4 c4) (lns x)) := fun w4 A4 n4 c4 hb ho => by
      have hne : Value.ownBlock (.slice A4 n4 c4) ≠ some r := fun e => by have := (ho.1.lt r e).1; have := hr3.lt; omega
      exact ⟨Row.set3 (hr3.below hb hr3.lt) _ _ _, Below.set3 (below_after hB3 hb hB3.size) hwr _ _ _, (own_set3 ho hne _ _ _).more hB3.size⟩
    clear hr3 hx3 hB3 a0 a1 a2 f0 f1 f2
    go_cut [7] (fun s3 wx => s3 = .bool true ∧ ∃ A4 n4 c4, Row wx r 32 #[.int .i64 p, .int .i64 (d + 1), .slice A4 n4 c4] ∧ Below w.heap.size w wx ∧ Own wx w.heap.size 51 3 (.slice A4 n4 c4) (lns x))
    case first =>
      have hxl3 : x.length ≤ 256 := hxl
      have HB1 := Lib.hid b1
      go_region_law (refine step_append_sl rfl (.tmp 25) (.tmp 26) rfl rowLn w3.heap.size _ _ [] (lns x) rfl (by first | exact (own_lit0 w3 51 3 w3.heap.size (Nat.le_refl _)).drew | exact own_lit0 w3.drew 51 3 w3.heap.size (Nat.le_refl _)) rfl (by first | exact HXS.out.below (below_a1 _ _)) (lns_wide x) (by simp only [lns_len, List.length_nil]; unfold maxLen; omega) (by simp only [lns_len, List.length_nil]; omega) (by simp) ?_; intro v7 w7 hown7 hg7 hv7; (have hb7 : Below w3.heap.size w3 w7 := (by exact Own.grown (own_lit0 w3 51 3 w3.heap.size (Nat.le_refl _)).drew (below_a1 _ _) hg7 (by simp))); obtain ⟨A4, n4, c4, rfl⟩ := hown7.slc; have q1 := (hb7.cell (p := ⟨m, 1, none⟩) bl).trans HB1.out; have H7 := Lib.hid (HZZ.out w7 A4 n4 c4 hb7 hown7); have hr7 := HR3.out.1.below hb7 HR3.out.1.lt; obtain ⟨⟨a0, a1, a2, al⟩, ⟨f0, f1, f2⟩⟩ := row3 hr7; clear hr7 hg7 hv7 hown7)
      all_goals (go_wp2_with fail; go_meet; exact ⟨rfl, A4, n4, c4, H7.out.1, H7.out.2.1, H7.out.2.2⟩)
    case rest =>
      obtain ⟨rfl, A4, n4, c4, q1, q2, q3⟩ := hcut
      have HZ := Lib.hid (row3 q1).1
      go_wp2
      obtain ⟨z0, z1, z2, _⟩ := HZ.out
      refine bodyPost_ret (v := .tuple #[.agg #[.int .i64 p, .int .i64 (d + 1), .slice A4 n4 c4], .bool true]) (by simp only [results, Tryz.results26, go_sem]; simp [z0, z1, z2, go_sem]) rfl ?_
      exact ⟨q2, .inl ⟨HE.out, _, by rw [HNX.out]; rfl, q3⟩⟩
end Go.Proofs.YtjbhabfflcbebaaGreat
/- Contracts of paygen: New, Next, Code. -/
namespace Go.Proofs.YtjbhabfflcbebaaGreat
open Go.RowKit

end Go.Proofs.YtjbhabfflcbebaaGreat
/- Contract of paygen.Deck.Returns. -/
namespace Go.Proofs.YtjbhabfflcbebaaGreat
open Go.RowKit

theorem form_line {k : Int} {c : ByteArray} {a : Int} (hk : 4 ≤ k ∧ k ≤ 6) (h : (k = 6 ∧ c = ⟨#[]⟩) ∨ (k ≠ 6 ∧ nameB c.data.toList = true)) (ha : 1 ≤ a ∧ a ≤ 1000) : formB ⟨k, c, a⟩ = true ∧ filedB k = true := by
  have q3 : totB a = true := by simp [totB]; omega
  have q4 : decide (a ≠ 0) = true := by rw [decide_eq_true_eq]; omega
  have hf : filedB k = true := by simp [filedB]; omega
  have q1 : decide (1 ≤ k) = true := by rw [decide_eq_true_eq]; omega
  have q2 : decide (k ≤ 10) = true := by rw [decide_eq_true_eq]; omega
  refine ⟨?_, hf⟩
  rcases h with ⟨rfl, rfl⟩ | ⟨h6, hn⟩
  · simp only [formB, formedB, q3, q4]; rfl
  · have hb : bareB k = false := by simp [bareB]; omega
    simp only [formB, formedB, q1, q2, q3, q4, hb, hn, Bool.true_and, Bool.and_true]; rfl
theorem own_off {v : Value} {b : Nat} (h : ∀ g, v.ownBlock = some g → g < b) : v.ownBlock = none ∨ v.ownBlock ≠ some b := by
  cases hv : v.ownBlock with
  | none => exact .inl rfl
  | some g => exact .inr fun e => by have := h g hv; injection e with e; omega
/-- returns have been drawn -/
def RetsPost (w : World) (D dr n : Nat) (e : Ending) (w' : World) : Prop :=
  ∃ (x : Value) (ps : List (Ret × Value)) (d : Nat), e = .returned x ∧ GoodRs (ps.map (·.1)) ∧ ps.length ≤ n ∧ RetsOwn w' w.heap.size x ps ∧ Deck w' D d ∧ d ≤ dr + 1 + 10 * n ∧ w.grownBy w' (some D)
/-- where the outer loop stands -/
structure RgL (w : World) (D dr n K : Nat) (x : Value) (k : Nat) (ps : List (Ret × Value)) (d : Nat) (wr : World) : Prop where
  kl : k ≤ K
  good : GoodRs (ps.map (·.1))
  len : ps.length + k ≤ K
  own : RetsOwn wr w.heap.size x ps
  deck : Deck wr D d
  d : d ≤ dr + 1 + 10 * (K - k)
  grown : w.grownBy wr (some D)
set_option maxRecDepth 100000 in
set_option maxHeartbeats 8000000 in
theorem Returns_any (D dr n : Nat) (w : World) (hd : Deck w D dr) (hdr : dr ≤ 1000000) (hn : n ≤ 100) :
    Calls Tryz.prog 8 #[.pointer (some ⟨D, 0, none⟩), .int .i64 n] w (RetsPost w D dr n) := by
  have hD := hd.lt
  go_enter Tryz.func8, Tryz.ntmps8
  go_wp2_with fail
  refine (Next_any D dr _ _ hd (by omega) (by omega) (by omega)).mono ?_
  rintro e w1 ⟨r, ⟨hr1, hr2⟩, rfl, hd1, hg1⟩
  obtain ⟨K, rfl⟩ := Int.eq_ofNat_of_zero_le hr1
  have hKn : K ≤ n := by omega
  have H0 : Hid (RgL w D dr n K (.slice none 0 0) K [] (dr + 1) w1) := ⟨Nat.le_refl _, GoodRs.nil, by simp, ⟨Own.nil _ _ _ _, (fun p hp => by cases hp)⟩, hd1, by omega, hg1⟩
  clear hd hd1 hg1
  go_wp2_with fail
  go_loopw [5, 6] (fun x t wr => ∃ (k : Nat) (ps : List (Ret × Value)) (d : Nat), t = .int .i64 k ∧ Hid (RgL w D dr n K x k ps d wr)) (fun _ t _ => (intOf t).toNat)
  case atStart => exact ⟨K, [], dr + 1, rfl, H0.out⟩
  case round =>
    clear H0
    obtain ⟨k, ps, d, rfl, HL⟩ := hrel
    obtain ⟨wo, rfl⟩ : ∃ wo : World, wo = wr := ⟨_, rfl⟩
    have hk := HL.out.kl
    by_cases hpos : 0 < k
    rotate_left
    · have dp : decide ((0 : Int) < (k : Int)) = false := decide_eq_false (by omega)
      have hk0 : k = 0 := by omega
      go_wp2
      go_ret
      have hl := HL.out.len
      have hdd := HL.out.d
      exact ⟨_, ps, d, rfl, HL.out.good, by omega, HL.out.own, HL.out.deck, by omega, HL.out.grown⟩
    have dp : decide ((0 : Int) < (k : Int)) = true := decide_eq_true (by omega)
    have hdd := HL.out.d
    have hlen := HL.out.len
    have hDo := HL.out.deck.lt
    have h00 : Hid (GoodA [] 4 ∧ Own wo wo.heap.size 51 3 (.slice none 0 0) (lns []) ∧ Deck wo D d ∧ wo.grownBy wo (some D)) := ⟨GoodA.nil, Own.nil _ _ _ _, HL.out.deck, World.grownBy.refl _ _⟩
    go_wp2_with fail
    go_loopw [7, 8] (fun v t wi => ∃ (q : Int) (acc : List Ln) (di : Nat), (4 ≤ q ∧ q ≤ 7) ∧ t = .int .i64 q ∧ (di : Int) ≤ d + 3 * (q - 4) ∧ Hid (GoodA acc q ∧ Own wi wo.heap.size 51 3 v (lns acc) ∧ Deck wi D di ∧ wo.grownBy wi (some D))) (fun _ t _ => (7 - intOf t).toNat)
    case atStart => exact ⟨4, [], d, ⟨by omega, by omega⟩, rfl, by omega, h00.out⟩
    case round =>
      clear h00
      obtain ⟨q, acc, di, ⟨q0, q1⟩, rfl, hdi, HI⟩ := hrel
      obtain ⟨wi, rfl⟩ : ∃ wi : World, wi = wr := ⟨_, rfl⟩
      have hgi := HI.out.2.2.2.size
      by_cases hq : q ≤ 6
      rotate_left
      · have dq : decide (q ≤ 6) = false := decide_eq_false hq
        obtain rfl : q = 7 := by omega
        have hAL := HI.out.1.len
        go_wp2_with fail
        refine (Next_any D di 3 wi HI.out.2.2.1 (by omega) (by omega) (by omega)).mono ?_
        rintro e w2 ⟨pp, ⟨p0, p1⟩, rfl, hd2, hg2⟩
        have hgo2 := gb_trans HI.out.2.2.2 hg2
        have ho2 := (HL.out.own.keepD hgo2 (Nat.lt_of_lt_of_le hD (Nat.le_refl _)))
        have hl2 := HI.out.2.1.keepD2 hg2 hDo
        have hgood := HL.out.good
        have hver := hgood.ver _ rfl pp
        have hln := hgood.lin pp
        have hmm : ∀ z ∈ ps, z.1.l.length ≤ 256 := fun z hz => by
          have := (hgood.mem (List.mem_map.2 ⟨z, hz, rfl⟩)).2.2
          omega
        rw [List.length_map] at hver
        have HO2 := Lib.hid ho2
        have HL2 := Lib.hid hl2
        have HA := Lib.hid HI.out.1
        have hw2 := hgo2.size
        have hD2 := hd2.lt
        have hsl2 := hl2.sl (by omega)
        have hnx := Next38_any ps _ _ pp acc w2 ho2.at hmm hsl2 (by omega) ⟨hver.1, by omega⟩ (by omega)
        have HNX := Lib.hid hnx
        clear hnx ho2 hl2 hmm hsl2 HI hg2
        go_wp2_with fail
        refine HNX.out.mono ?_
        rintro e w3 ⟨hb3, hcase⟩
        have hG3 := gb_trans HL.out.grown (gb_below hgo2 hb3)
        have hd3 := hd2.below hb3
        have HO3 := Lib.hid (HO2.out.kept hb3)
        have hw3 := hb3.size
        clear HNX HO2 HL2 hgo2 hd2 hb3
        rcases hcase with ⟨hne, v3, rfl, hown3⟩ | ⟨heq, rfl⟩
        rotate_left
        · have hal := (Below.refl w3.heap.size w3).alloc (Nat.le_refl _) (.cells #[.int .i64 0, .int .i64 0, .slice none 0 0] 32)
          have HEND : Hid (RgL w D dr n K _ (k - 1) ps (di + 1) (w3.alloc (.cells #[.int .i64 0, .int .i64 0, .slice none 0 0] 32))) := ⟨by omega, hgood, by omega, HO3.out.kept hal, hd3.below hal, by omega, gb_alloc hG3 _⟩
          clear hal heq hG3 hd3 HO3 HL
          go_wp2
          go_roundw
          case rel => exact ⟨k - 1, ps, di + 1, by go_num, HEND.out⟩
          case measure => simp [intOf]; omega
        · have hnr : nextR (ps.map (·.1)) pp acc = ⟨pp, verP (ps.map (·.1)) pp + 1, acc⟩ := rfl
          obtain ⟨A3, c3, rfl⟩ := hown3.form
          rw [lns_len] at hown3 ⊢
          have hrb : retB (nextR (ps.map (·.1)) pp acc) = true := HA.out.ret ⟨p0, by omega⟩ ⟨by omega, by omega⟩
          have hgs := hgood.snoc hrb ⟨p0, by show pp ≤ 2; omega⟩ rfl (by show acc.length ≤ 3; omega)
          have hgs2 : GoodRs ((ps ++ [(nextR (ps.map (·.1)) pp acc, Value.slice A3 acc.length c3)]).map (·.1)) := by simpa using hgs
          obtain ⟨vv, hvv⟩ : ∃ vv, verP (ps.map (·.1)) pp + 1 = vv := ⟨_, rfl⟩
          obtain ⟨nr, hnn⟩ : ∃ nr, nextR (ps.map (·.1)) pp acc = nr := ⟨_, rfl⟩
          rw [hnn] at hnr hgs2
          rw [hnn]
          rw [hvv] at hnr
          have hnl : nr.l = acc := by rw [hnr]
          have hgv : nr.vals (.slice A3 acc.length c3) = #[.int .i64 pp, .int .i64 vv, .slice A3 acc.length c3] := by rw [hnr]; rfl
          rw [hgv]
          have HGV := Lib.hid hgv
          have HGS := Lib.hid hgs2
          have hlo : Own w3 w.heap.size 51 3 (.slice A3 acc.length c3) (lns nr.l) := by rw [hnl]; exact hown3.more (by have := HL.out.grown.size; omega)
          have HLO := Lib.hid hlo
          have hal := (Below.refl w3.heap.size w3).alloc (Nat.le_refl _) (.cells #[.int .i64 pp, .int .i64 vv, .slice A3 acc.length c3] 32)
          have HX1 := Lib.hid (Row.new w3 32 #[.int .i64 pp, .int .i64 vv, .slice A3 acc.length c3])
          have hwl := HL.out.grown.size
          have hpl : ps.length ≤ 100 := by omega
          clear hgs hgs2 hrb hnr hnl hgv hne hown3 hgood hvv hnn hln hver hlo HA
          obtain ⟨w4, hw4⟩ : ∃ w4, w3.alloc (.cells #[.int .i64 pp, .int .i64 vv, .slice A3 acc.length c3] 32) = w4 := ⟨_, rfl⟩
          rw [hw4] at hal HX1
          obtain ⟨⟨y0, y1, y2, yl⟩, -⟩ := row3 HX1.out
          have hw34 := hal.size
          have HO4 := Lib.hid (HO3.out.kept hal)
          have HLO4 := Lib.hid (HLO.out.kept hal)
          have hG4 := gb_below hG3 hal
          have hd4 := hd3.below hal
          have hb5 : Below w4.heap.size w4 (w4.alloc (.cells #[.int .i64 pp, .int .i64 vv, .slice A3 acc.length c3] 32)) := (Below.refl _ _).alloc (Nat.le_refl _) _
          clear HX1 HO3 HLO hG3 hd3 hal
          have hone : Sl (w4.alloc (.cells #[.int .i64 pp, .int .i64 vv, .slice A3 acc.length c3] 32)) 3 (.slice (some ⟨w4.heap.size, 0, none⟩) 1 1) (rets [(nr, .slice A3 acc.length c3)]) := by
            have : rets [(nr, .slice A3 acc.length c3)] = [[.int .i64 pp, .int .i64 vv, .slice A3 acc.length c3]] := by simp [rets, HGV.out]
            rw [this]; exact Sl.one rfl rfl
          have HONE := Lib.hid hone
          clear hone
          go_wp2_with (at_builtin; refine wpList_append_sl rfl (.tmp 50) (.tmp 52) rfl rowRet w.heap.size _ _ (rets ps) (rets [(nr, .slice A3 acc.length c3)]) rfl (HO4.out.own.alloc _) rfl HONE.out (rets_one _ _ ⟨_, _, _, rfl⟩) (by rw [rets_len, rets_len]; unfold maxLen; simp; omega) (by rw [rets_len, rets_len]; simp; omega) (by have := hb5.size; omega) ?_; intro v6 w6 hown6 hg6 _)
          have hR6 := HO4.out.app hb5 HLO4.out hown6 hg6
          have hlt6 := fun g hg => (HO4.out.own.1.lt g hg).1
          have hG6 := gb_new (gb_below hG4 hb5) hg6 hlt6
          have hd6 := (hd4.below hb5).keep hg6 (fun g hg => Nat.lt_of_lt_of_le hD (hlt6 g hg))
          have HEND : Hid (RgL w D dr n K v6 (k - 1) (ps ++ [(nr, .slice A3 acc.length c3)]) (di + 1) w6) := ⟨by omega, HGS.out, by simp; omega, hR6, hd6, by omega, hG6⟩
          clear hw4 y0 y1 y2 yl hR6 hG6 hd6 hown6 hg6 HL hG4 hd4 HO4 HLO4 HONE hlt6
          go_roundw
          case rel => exact ⟨k - 1, _, di + 1, by go_num, HEND.out⟩
          case measure => simp [intOf]; omega
      have dq : decide (q ≤ 6) = true := decide_eq_true hq
      go_wp2_with fail
      refine (Next_any D di 2 wi HI.out.2.2.1 (by omega) (by omega) (by omega)).mono ?_
      rintro e w2 ⟨s, ⟨s0, s1⟩, rfl, hd2, hg2⟩
      cases hs0 : (s == 0)
      rotate_left
      · have HEND : Hid (GoodA acc (q + 1) ∧ Own w2 wo.heap.size 51 3 _ (lns acc) ∧ Deck w2 D (di + 1) ∧ wo.grownBy w2 (some D)) := ⟨HI.out.1.skip, HI.out.2.1.keepD2 hg2 hDo, hd2, gb_trans HI.out.2.2.2 hg2⟩
        clear HI hd2 hg2
        go_wp2
        go_roundw
        case rel => exact ⟨q + 1, acc, di + 1, ⟨by omega, by omega⟩, by go_num, by omega, HEND.out⟩
        case measure => simp [intOf]; omega
      go_wp2_with fail
      refine (Next_any D (di + 1) 1000 w2 hd2 (by omega) (by omega) (by omega)).mono ?_
      rintro e w3 ⟨a, ⟨a0, a1⟩, rfl, hd3, hg3⟩
      have hG3 := gb_trans (gb_trans HI.out.2.2.2 hg2) hg3
      have HO3 := Lib.hid ((HI.out.2.1.keepD2 hg2 hDo).keepD2 hg3 hDo)
      have HA := Lib.hid HI.out.1
      have hAL := HI.out.1.len
      have HLT := Lib.hid (fun g hg => (HO3.out.1.lt g hg).2)
      clear HI hg2 hg3 hd2
      have hal := (Below.refl w3.heap.size w3).alloc (Nat.le_refl _) (.cells #[.int .i64 q, .string ⟨#[]⟩, .int .i64 (1 + a)] 51)
      have hx4 := Row.new w3 51 #[.int .i64 q, .string ⟨#[]⟩, .int .i64 (1 + a)]
      have hG4 := gb_below hG3 hal
      have hd4 := hd3.below hal
      have HO4 := Lib.hid (HO3.out.kept hal)
      have hw3 := hG3.size
      have hD3 := hd3.lt
      obtain ⟨w4, hw4⟩ : ∃ w4, w3.alloc (.cells #[.int .i64 q, .string ⟨#[]⟩, .int .i64 (1 + a)] 51) = w4 := ⟨_, rfl⟩
      rw [hw4] at hx4 hG4 hd4 HO4
      clear hG3 hd3 HO3 hal
      obtain ⟨⟨y0, y1, y2, yl⟩, ⟨f0, f1, f2⟩⟩ := row3 hx4
      obtain ⟨bx, hbx⟩ : ∃ bx, w3.heap.size = bx := ⟨_, rfl⟩
      rw [hbx] at hx4 y0 y1 y2 yl f0 f1 f2 HLT
      have hbw : wo.heap.size ≤ bx := by omega
      have hbD : bx ≠ D := by omega
      by_cases h6 : q = 6
      · have e6 : (q != 6) = false := by simpa using h6
        obtain ⟨hfo, hfi⟩ := form_line (k := q) (c := ⟨#[]⟩) (a := 1 + a) ⟨q0, hq⟩ (.inl ⟨h6, rfl⟩) ⟨by omega, by omega⟩
        have HGA := Lib.hid (HA.out.snoc (x := ⟨q, ⟨#[]⟩, 1 + a⟩) rfl hfi hfo ⟨by show 1 ≤ 1 + a; omega, by show 1 + a ≤ 1000; omega⟩)
        clear h6 hfo hfi HA
        go_wp2_with (at_builtin; refine wpList_append_sl rfl (.tmp 37) (.tmp 39) rfl rowLn wo.heap.size _ _ (lns acc) [Ln.vals ⟨q, ⟨#[]⟩, 1 + a⟩] rfl (HO4.out.alloc _) rfl (Sl.one rfl rfl) (lns_wide [⟨q, ⟨#[]⟩, 1 + a⟩]) (by rw [lns_len]; unfold maxLen; simp; omega) (by rw [lns_len]; simp; omega) (by have := hG4.size; simp only [World.size_alloc]; omega) ?_; intro v6 w6 hown6 hg6 _)
        have hlt6 := fun g hg => (HO4.out.1.lt g hg).1
        have hG6 := gb_new (gb_alloc hG4 _) hg6 hlt6
        have hd6 := (hd4.below ((Below.refl w4.heap.size w4).alloc (Nat.le_refl _) _)).keep hg6 (fun g hg => Nat.lt_of_lt_of_le hDo (hlt6 g hg))
        have HEND : Hid (GoodA (acc ++ [⟨q, ⟨#[]⟩, 1 + a⟩]) (q + 1) ∧ Own w6 wo.heap.size 51 3 v6 (lns (acc ++ [⟨q, ⟨#[]⟩, 1 + a⟩])) ∧ Deck w6 D (di + 1 + 1) ∧ wo.grownBy w6 (some D)) := ⟨HGA.out, by rw [lns_append]; exact hown6, hd6, hG6⟩
        clear hw4 hbx y0 y1 y2 yl f0 f1 f2 hG6 hd6 hown6 hg6 HL hG4 hd4 HO4 hlt6 hx4
        go_roundw
        case rel => exact ⟨q + 1, _, di + 1 + 1, ⟨by omega, by omega⟩, by go_num, by omega, HEND.out⟩
        case measure => simp [intOf]; omega
      · have e6 : (q != 6) = true := by simpa using h6
        have h6' := Lib.hid h6
        clear h6
        go_wp2_with fail
        refine (Code_any D (di + 1 + 1) w4 hd4 (by omega)).mono ?_
        rintro e w5 ⟨c, hc, rfl, d5, hd5, hK5, hg5⟩
        have hx5 := hx4.keep hg5 (fun e => hbD (Option.some.inj e))
        have hG5 := gb_trans hG4 hg5
        have HO5 := Lib.hid (HO4.out.keepD2 hg5 hDo)
        clear hw4 hx4 hG4 hd4 hg5 HO4 y0 y1 y2 yl f0 f1 f2
        obtain ⟨⟨y0, y1, y2, yl⟩, ⟨f0, f1, f2⟩⟩ := row3 hx5
        have hx6 := hx5.set 1 (.string c)
        have hG6 := gb_set (p := ⟨bx, 1, none⟩) hG5 (.inr hbw) (.string c)
        have hK6 := hK5.keep (gb_set (p := ⟨bx, 1, none⟩) (World.grownBy.refl _ (some bx)) (.inl rfl) (.string c)) (fun g hg => by injection hg; omega)
        have HO6 := Lib.hid (HO5.out.keepG (grown_set w5 bx 1 (.string c)) (own_off HLT.out))
        obtain ⟨hfo, hfi⟩ := form_line (k := q) (c := c) (a := 1 + a) ⟨q0, hq⟩ (.inr ⟨h6'.out, hc⟩) ⟨by omega, by omega⟩
        have HGA := Lib.hid (HA.out.snoc (x := ⟨q, c, 1 + a⟩) rfl hfi hfo ⟨by show 1 ≤ 1 + a; omega, by show 1 + a ≤ 1000; omega⟩)
        clear hx5 hG5 HO5 hK5 hfo hfi HA
        obtain ⟨w6, hw6⟩ : ∃ w6, w5.setCell ⟨bx, 1, none⟩ (.string c) = w6 := ⟨_, rfl⟩
        rw [hw6] at hx6 hG6 hK6 HO6
        obtain ⟨⟨u0, u1, u2, ul⟩, -⟩ := row3 hx6
        go_wp2_with (at_builtin; refine wpList_append_sl rfl (.tmp 37) (.tmp 39) rfl rowLn wo.heap.size _ _ (lns acc) [Ln.vals ⟨q, c, 1 + a⟩] rfl (HO6.out.alloc _) rfl (Sl.one rfl rfl) (lns_wide [⟨q, c, 1 + a⟩]) (by rw [lns_len]; unfold maxLen; simp; omega) (by rw [lns_len]; simp; omega) (by have := hG6.size; simp only [World.size_alloc]; omega) ?_; intro v6 w7 hown6 hg6 _)
        have hlt6 := fun g hg => (HO6.out.1.lt g hg).1
        have hG7 := gb_new (gb_alloc hG6 _) hg6 hlt6
        have hd7 := (hK6.below ((Below.refl w6.heap.size w6).alloc (Nat.le_refl _) _)).keep hg6 (fun g hg => Nat.lt_of_lt_of_le hDo (hlt6 g hg))
        have HEND : Hid (GoodA (acc ++ [⟨q, c, 1 + a⟩]) (q + 1) ∧ Own w7 wo.heap.size 51 3 v6 (lns (acc ++ [⟨q, c, 1 + a⟩])) ∧ Deck w7 D d5 ∧ wo.grownBy w7 (some D)) := ⟨HGA.out, by rw [lns_append]; exact hown6, hd7, hG7⟩
        clear hbx hw6 y0 y1 y2 yl f0 f1 f2 u0 u1 u2 ul hG7 hd7 hown6 hg6 HL hG6 hK6 HO6 hlt6 hx6
        go_roundw
        case rel => exact ⟨q + 1, _, d5, ⟨by omega, by omega⟩, by go_num, by omega, HEND.out⟩
        case measure => simp [intOf]; omega
end Go.Proofs.YtjbhabfflcbebaaGreat
/- Contract of paygen.Deck.Pick. -/
namespace Go.Proofs.YtjbhabfflcbebaaGreat
open Go.RowKit

end Go.Proofs.YtjbhabfflcbebaaGreat
/- Contract of paygen.Deck.Small. -/
namespace Go.Proofs.YtjbhabfflcbebaaGreat
open Go.RowKit

end Go.Proofs.YtjbhabfflcbebaaGreat
/- Contracts of the functions on names in packages token and payrollref17. -/
namespace Go.Proofs.YtjbhabfflcbebaaGreat
open Go.RowKit

end Go.Proofs.YtjbhabfflcbebaaGreat
/- Contracts of payrollref17: IsKeyword, IsName. -/
namespace Go.Proofs.YtjbhabfflcbebaaGreat
open Go.RowKit

end Go.Proofs.YtjbhabfflcbebaaGreat
/- Contracts of the functions on single lines: payrollref32, payrollref34. -/
namespace Go.Proofs.YtjbhabfflcbebaaGreat
open Go.RowKit

end Go.Proofs.YtjbhabfflcbebaaGreat
/- Contract of paygen.Deck.Line. -/
namespace Go.Proofs.YtjbhabfflcbebaaGreat
open Go.RowKit


end Go.Proofs.YtjbhabfflcbebaaGreat
/- Contracts of package paygen: ShortLines, Lines. -/
namespace Go.Proofs.YtjbhabfflcbebaaGreat
open Go.RowKit

/-- few lines with short codes -/
def shortLB (l : List Ln) : Bool := decide (l.length ≤ 60) && l.all fun p => decide (p.code.size ≤ 60)
set_option maxHeartbeats 800000 in
theorem ShortLines_any (v : Value) (l : List Ln) (w : World) (hv : Sl w 3 v (lns l)) :
    Calls Tryz.prog 22 #[v] w fun e w' => e = .returned (.bool (shortLB l)) ∧ Below w.heap.size w w' := by
  obtain ⟨A, cap, rfl, h1, h2, x1, h3⟩ := hv
  rw [lns_len] at h1 ⊢
  unfold maxLen at h2
  have H3 := Lib.hid h3
  clear h3 x1
  by_cases hn : l.length ≤ 60
  rotate_left
  · have H : Hid (shortLB l = false) := by simp only [Hid, shortLB, decide_eq_false hn, Bool.false_and]
    go_enter Tryz.func22, Tryz.ntmps22
    go_wp2
    go_ret
    exact ⟨ret_bool H.out.symm, Below.refl _ _⟩
  have dl : decide ((60 : Int) < (l.length : Int)) = false := decide_eq_false (by omega)
  go_enter Tryz.func22, Tryz.ntmps22
  go_wp2
  go_loopw [3] (fun i wr => ∃ k : Nat, k ≤ l.length ∧ i = .int .i64 k ∧ Below w.heap.size w wr ∧ Hid ((l.take k).all (fun p => decide (p.code.size ≤ 60)) = true)) (fun i _ => l.length - (intOf i).toNat)
  case atStart => exact ⟨0, by omega, rfl, Below.refl _ _, rfl⟩
  case round =>
    obtain ⟨k, hk, rfl, hb, HV⟩ := hrel
    by_cases hlt : k < l.length
    · rcases H3.out with h | ⟨b, off, rfl, hc0⟩
      · exact (lns_pos hlt h).elim
      · obtain ⟨_, c4, _⟩ := (hc0.below hb hc0.1).ln hlt
        clear H3 hc0
        by_cases hs : l[k].code.size ≤ 60
        · have HSN : Hid ((l.take (k + 1)).all (fun p => decide (p.code.size ≤ 60)) = true) := by
            rw [Hid, List.take_succ_eq_append_getElem hlt, List.all_append, HV.out]; simp [hs]
          go_wp2
          go_roundw
          case rel => exact ⟨k + 1, by omega, by go_num, hb, HSN⟩
          case measure => simp [intOf]; omega
        · have H : Hid (shortLB l = false) := by
            rw [Hid, Bool.eq_false_iff]
            intro hh
            simp only [shortLB, Bool.and_eq_true, List.all_eq_true, decide_eq_true_eq] at hh
            exact hs (hh.2 _ (List.getElem_mem hlt))
          go_wp2
          go_ret
          exact ⟨ret_bool H.out.symm, hb⟩
    · go_wp2
      go_ret
      refine ⟨ret_bool ?_, hb⟩
      have := HV.out
      rw [List.take_of_length_le (by omega)] at this
      rw [shortLB, this, decide_eq_true hn]; rfl

/-- drawn lines -/
def GoodL (l : List Ln) : Prop := ∀ x ∈ l, formB x = true ∧ (-600001 ≤ x.amt ∧ x.amt ≤ 600001)
def LinesPost (w : World) (D dr n : Nat) (e : Ending) (w' : World) : Prop :=
  ∃ (x : Value) (l : List Ln) (d : Nat), e = .returned x ∧ GoodL l ∧ l.length ≤ n ∧ Own w' w.heap.size 51 3 x (lns l) ∧ Deck w' D d ∧ d ≤ dr + 1 + 6 * n ∧ w.grownBy w' (some D)
theorem Own.keepD' {w w' : World} {base e sz D : Nat} {v : Value} {es : List (List Value)} (h : Own w base e sz v es) (hg : w.grownBy w' (Option.some D)) (hD : D < base) : Own w' base e sz v es := by
  refine ⟨h.1.kept hg ?_, h.2⟩
  cases hv : v.ownBlock with
  | none => exact .inl rfl
  | some g => exact .inr fun e => by have := (h.1.lt g hv).1; injection e with e; omega

set_option maxRecDepth 100000 in
set_option maxHeartbeats 1600000 in
theorem Lines_any (D dr n : Nat) (w : World) (hd : Deck w D dr) (hdr : dr ≤ 1000000) (hn : n ≤ 100) :
    Calls Tryz.prog 10 #[.pointer (some ⟨D, 0, none⟩), .int .i64 n] w (LinesPost w D dr n) := by
  have hD := hd.lt
  go_enter Tryz.func10, Tryz.ntmps10
  go_wp2_with fail
  refine (Next_any D dr _ _ hd (by omega) (by omega) (by omega)).mono ?_
  rintro e w1 ⟨r, ⟨hr1, hr2⟩, rfl, hd1, hg1⟩
  obtain ⟨K, rfl⟩ := Int.eq_ofNat_of_zero_le hr1
  have hKn : K ≤ n := by omega
  go_wp2_with fail
  go_loopw [5, 6] (fun t5 t6 wr => ∃ (k d : Nat) (l : List Ln), k ≤ K ∧ t6 = .int .i64 k ∧ Hid (GoodL l) ∧ l.length ≤ K - k ∧ Own wr w.heap.size 51 3 t5 (lns l) ∧ Deck wr D d ∧ d ≤ dr + 1 + 6 * (K - k) ∧ w.grownBy wr (some D)) (fun _ t6 _ => (intOf t6).toNat)
  case atStart => exact ⟨K, dr + 1, [], Nat.le_refl _, rfl, (fun _ h => by cases h), by simp, Own.nil _ _ _ _, hd1, by omega, hg1⟩
  case round =>
    obtain ⟨k, d, l, hk, rfl, HG, hll, hown, hK, hdd, hg⟩ := hrel
    have hws := hg.size
    by_cases hpos : 0 < k
    · have dp : decide ((0 : Int) < (k : Int)) = true := decide_eq_true (by omega)
      go_wp2_with fail
      refine (Line_any D d wr hK (by omega)).mono ?_
      rintro e w2 ⟨x, hx1, hx2, rfl, d2, hd2, hK2, hg2⟩
      have hown2 := hown.keepD' hg2 hD
      have hgg := hg.trans hg2
      have hws2 := hgg.size
      have HG2 : Hid (GoodL (l ++ [x])) := fun y hy => by
        rcases List.mem_append.1 hy with hy | hy
        · exact HG.out y hy
        · rw [List.mem_singleton.1 hy]; exact ⟨hx1, hx2⟩
      clear hown hK hg hg2 hx1 hx2
      have hDb : D < w2.heap.size := hK2.lt
      go_wp2_with (at_builtin; refine wpList_append_sl rfl (.tmp 15) (.tmp 18) rfl rowLn w.heap.size _ _ _ (lns [x]) rfl (hown2.alloc _) rfl (Sl.one rfl rfl) (lns_wide _) (by rw [lns_len, lns_len]; unfold maxLen; simp; omega) (by rw [lns_len, lns_len]; simp; omega) (by simp; omega) ?_; intro v4 w4 hown4 hg4 _; have hG4 := gb_new (gb_alloc hgg _) hg4 (fun g hg => (hown2.1.lt g hg).1); have hK4 := (hK2.below ((Below.refl _ _).alloc (Nat.le_refl _) _)).keep hg4 (fun g hg => Nat.lt_of_lt_of_le hD (hown2.1.lt g hg).1); rw [← lns_append] at hown4)
      go_roundw
      case rel => exact ⟨k - 1, d2, _, by omega, by go_num, HG2, by simp; omega, hown4, hK4, by omega, hG4⟩
      case measure => simp [intOf]; omega
    · have dp : decide ((0 : Int) < (k : Int)) = false := decide_eq_false (by omega)
      go_wp2
      go_ret
      exact ⟨_, l, d, rfl, HG.out, by omega, hown, hK, by omega, hg⟩
end Go.Proofs.YtjbhabfflcbebaaGreat
/- Contracts of refile: stated, compare, form. Written by gen_rv1.py. -/
namespace Go.Proofs.YtjbhabfflcbebaaGreat
open Go.RowKit Go.Shelf

/-- the lines of a return -/
def formR (l : List Ln) : Bool := l.all (fun x => filedB x.kind) && ordB l
theorem stated_any (k : Int) (w : World) :
    Calls Tryz.prog 39 #[.int .i64 k] w fun e w' => e = .returned (.bool (filedB k)) ∧ w = w' := by
  cases h4 : (k == 4)
  · cases h5 : (k == 5)
    · go_enter Tryz.func39, Tryz.ntmps39
      go_wp2
      go_ret
      exact ⟨ret_bool (by simp at h4 h5; simp [filedB, h4, h5]; rfl), rfl⟩
    · go_enter Tryz.func39, Tryz.ntmps39
      go_wp2
      go_ret
      exact ⟨ret_bool (by simp at h5; simp [filedB, h5]), rfl⟩
  · go_enter Tryz.func39, Tryz.ntmps39
    go_wp2
    go_ret
    exact ⟨ret_bool (by simp at h4; simp [filedB, h4]), rfl⟩

def cmpL2 (a b : Ln) : Int := orI (Lib.compareInt a.kind b.kind) (Lib.compareBytes a.code.data.toList b.code.data.toList)
theorem cmpB_lt : ∀ a b : List UInt8, Lib.compareBytes a b < 0 ↔ a < b
  | [], [] => by simp [Lib.compareBytes]
  | [], _ :: _ => by simp [Lib.compareBytes]
  | _ :: _, [] => by simp [Lib.compareBytes]
  | a :: r, b :: s => by
    have ih := cmpB_lt r s
    rw [Lib.compareBytes, List.cons_lt_cons_iff]
    by_cases h1 : a < b
    · simp [h1]
    · by_cases h2 : b < a
      · rw [if_neg h1, if_pos h2]
        have : ¬ a = b := fun e => by subst e; exact h1 h2
        simp [h1, this]
      · rw [if_neg h1, if_neg h2, ih]
        have : a = b := UInt8.le_antisymm (UInt8.not_lt.1 h2) (UInt8.not_lt.1 h1)
        subst this
        simp [h1]
theorem cmp2_ge (a b : Ln) : decide (0 ≤ cmpL2 a b) = !lnLt a b := by
  have key : cmpL2 a b < 0 ↔ lnLt a b = true := by
    rw [lnLt_iff]
    unfold cmpL2 orI Lib.compareInt
    rw [← ByteArray.toList_eq, ← ByteArray.toList_eq]
    by_cases h1 : a.kind < b.kind
    · simp [h1]
    · by_cases h2 : a.kind > b.kind
      · have : ¬ a.kind = b.kind := by omega
        simp [h1, h2, this]
      · have : a.kind = b.kind := by omega
        rw [if_neg h1, if_neg h2, if_pos rfl, cmpB_lt]
        simp [this]
  by_cases h : cmpL2 a b < 0
  · rw [key.1 h, decide_eq_false (by omega)]; rfl
  · rw [decide_eq_true (by omega)]
    cases hl : lnLt a b
    · rfl
    · exact absurd (key.2 hl) h

set_option maxRecDepth 100000 in
set_option maxHeartbeats 1000000 in
theorem compare38_any (a b : Ln) (w : World) : Calls Tryz.prog 45 #[.agg #[.int .i64 a.kind, .string a.code, .int .i64 a.amt], .agg #[.int .i64 b.kind, .string b.code, .int .i64 b.amt]] w fun e w' => e = .returned (.int .i64 (cmpL2 a b)) ∧ Below w.heap.size w w' := by
  unfold cmpL2
  go_enter Tryz.func45, Tryz.ntmps45
  go_wp2
  refine region_tail 10 (by kernel_rfl) (by kernel_rfl) ?_
  simp only [List.take_succ_cons, List.take_zero, List.drop_succ_cons, List.drop_zero]
  repeat still_step
  still_call (Tryz.cmp_Compare_int _ _ _)
  repeat still_step
  still_call (Tryz.strings_Compare _ _ _)
  refine wpStill_nil ?_
  go_wp2_with (go_at_call 60; refine (orI_any (Lib.compareInt a.kind b.kind) (Lib.compareBytes a.code.data.toList b.code.data.toList) _ _ _ ?_ ?_).mono ?_; (simp [go_sem]); (simp [go_sem]); rintro e w' ⟨rfl, rfl⟩)
  go_ret
  have H0 := ((Below.refl w.heap.size w).alloc (Nat.le_refl _) (.cells #[.int .i64 a.kind, .string a.code, .int .i64 a.amt] 51)).alloc (by simp) (.cells #[.int .i64 b.kind, .string b.code, .int .i64 b.amt] 51)
  exact ⟨rfl, (Below.draws H0 _).alloc (Below.draws H0 _).size _⟩
/-- the lines up to k are valid -/
def LnOk (l : List Ln) (k : Nat) : Prop := ∀ j (h : j < l.length), j < k → (filedB (l[j]).kind = true ∧ formB l[j] = true) ∧ ∀ h0 : 0 < j, lnLt (l[j - 1]'(by omega)) l[j] = true
theorem lnOk_end {l : List Ln} (h : LnOk l l.length) : l.all (fun x => filedB x.kind) = true ∧ ordB l = true := by
  constructor
  · rw [List.all_eq_true]
    intro x hx
    obtain ⟨i, hi, rfl⟩ := List.getElem_of_mem hx
    exact (h i hi hi).1.1
  · rw [ordB_iff]
    exact ⟨fun j hj => (h j hj hj).1.2, fun j hj => (h (j + 1) hj hj).2 (by omega)⟩

theorem formR_kind {l : List Ln} {k : Nat} (hk : k < l.length) (h : filedB (l[k]).kind = false) : formR l = false := by
  rw [Bool.eq_false_iff]
  intro hh
  have := List.all_eq_true.1 (Bool.and_eq_true_iff.1 hh).1 _ (List.getElem_mem hk)
  rw [h] at this; cases this
theorem formR_form {l : List Ln} {k : Nat} (hk : k < l.length) (h : formB l[k] = false) : formR l = false := by
  rw [Bool.eq_false_iff]
  intro hh
  have := ((ordB_iff _).1 (Bool.and_eq_true_iff.1 hh).2).1 k hk
  rw [h] at this; cases this
theorem formR_ord {l : List Ln} {k : Nat} (hk : k + 1 < l.length) (h : lnLt (l[k]'(by omega)) l[k + 1] = false) : formR l = false := by
  rw [Bool.eq_false_iff]
  intro hh
  have := ((ordB_iff _).1 (Bool.and_eq_true_iff.1 hh).2).2 k hk
  rw [h] at this; cases this

set_option maxRecDepth 100000 in
set_option maxHeartbeats 4000000 in
theorem form_any (l : List Ln) (v : Value) (w : World) (hv : Sl w 3 v (lns l)) :
    Calls Tryz.prog 30 #[v] w fun e w' => e = .returned (.bool (formR l)) ∧ Below w.heap.size w w' := by
  have HV := Lib.hid hv
  obtain ⟨A, cap, rfl, h1, h2, _, _⟩ := hv
  rw [lns_len] at h1 HV ⊢
  unfold maxLen at h2
  have HF : Hid (l.all (fun x => filedB x.kind) = true → ordB l = true → formR l = true) := fun h1 h2 => by rw [formR, h1, h2]; rfl
  go_enter Tryz.func30, Tryz.ntmps30
  go_wp2
  go_loopw [7] (fun i wr => ∃ k : Nat, k ≤ l.length ∧ i = .int .i64 k ∧ Hid (Below w.heap.size w wr) ∧ Hid (LnOk l k)) (fun i _ => l.length - (intOf i).toNat)
  case atStart => exact ⟨0, by omega, rfl, Below.refl _ _, fun j _ h => by omega⟩
  case round =>
    obtain ⟨k, hk, rfl, HB, HK⟩ := hrel
    obtain ⟨wo, rfl⟩ : ∃ wo : World, wo = wr := ⟨_, rfl⟩
    by_cases hlt : k < l.length
    · obtain ⟨bk, off, rfl, hcw⟩ := HV.out.cells (by rw [lns_len]; omega)
      have hc0 := hcw.below HB.out hcw.1
      have hbl := hc0.1
      obtain ⟨c0, c1, c2⟩ := hc0.ln hlt
      have i1 : (k : Int) < (l.length : Int) := by omega
      have HKD := Lib.hid (fun h => formR_kind hlt h)
      have HFD := Lib.hid (fun h => formR_form hlt h)
      have HOD := Lib.hid (fun (j : Nat) (hj : j + 1 < l.length) h => formR_ord (k := j) hj h)
      have HPR : Hid (∀ (j : Nat) (hj : j < l.length), wo.cell? ⟨bk, off + j * 3, none⟩ = some (.int .i64 (l[j]).kind) ∧ wo.cell? ⟨bk, off + j * 3 + 1, none⟩ = some (.string (l[j]).code) ∧ wo.cell? ⟨bk, off + j * 3 + 2, none⟩ = some (.int .i64 (l[j]).amt)) := fun j hj => hc0.ln hj
      obtain ⟨x, hx⟩ : ∃ x, l[k] = x := ⟨_, rfl⟩
      have HX := Lib.hid hx
      rw [hx] at c0 c1 c2 HKD HFD
      clear hx hcw hc0
      have HWK := Lib.hid (fun W => stated_any x.kind W)
      have HFW := Lib.hid (fun W => Form_any x W)
      have hbx : Hid (∀ W, Below wo.heap.size wo W → Below w.heap.size w W) := fun W hW => below_after HB.out hW HB.out.size
      have hal := (Below.refl wo.heap.size wo).alloc (Nat.le_refl _) (.cells #[.int .i64 x.kind, .string x.code, .int .i64 x.amt] 51)
      have hrx := Row.new wo 51 #[.int .i64 x.kind, .string x.code, .int .i64 x.amt]
      cases hfd : filedB x.kind
      · have HE := Lib.hid (HKD.out hfd)
        rw [hfd] at HWK
        have HAL := Lib.hid hal
        clear hfd HKD HFD HOD HPR hal hrx
        go_wp2_with fail
        refine (HWK.out _).mono ?_
        rintro e w' ⟨rfl, rfl⟩
        go_wp2
        go_ret
        exact ⟨ret_bool HE.out.symm, hbx.out _ HAL.out⟩
      rw [hfd] at HWK
      have HFI := Lib.hid hfd
      clear hfd HKD
      cases hfm : formB x
      · have HE := Lib.hid (HFD.out hfm)
        rw [hfm] at HFW
        have HAL := Lib.hid hal
        clear hfm HFD HOD HPR hal hrx
        go_wp2_with fail
        refine (HWK.out _).mono ?_
        rintro e w' ⟨rfl, rfl⟩
        go_wp2_with fail
        refine (HFW.out _).mono ?_
        rintro e w2 ⟨rfl, hb2⟩
        have HB2 := Lib.hid (below_after HAL.out hb2 HAL.out.size)
        clear hb2
        go_wp2
        go_ret
        exact ⟨ret_bool HE.out.symm, hbx.out _ HB2.out⟩
      rw [hfm] at HFW
      have HFM := Lib.hid hfm
      clear hfm HFD
      obtain ⟨w1, hw1⟩ : ∃ w1, wo.alloc (.cells #[.int .i64 x.kind, .string x.code, .int .i64 x.amt] 51) = w1 := ⟨_, rfl⟩
      rw [hw1] at hal hrx
      obtain ⟨⟨y0, y1, y2, yl⟩, -⟩ := row3 hrx
      go_wp2_with fail
      refine (HWK.out _).mono ?_
      rintro e w' ⟨rfl, rfl⟩
      obtain ⟨q, hq⟩ : ∃ q, wo.heap.size = q := ⟨_, rfl⟩
      rw [hq] at hrx y0 y1 y2 yl ⊢
      clear hw1
      go_wp2_with fail
      refine (HFW.out _).mono ?_
      rintro e w2 ⟨rfl, hb2⟩
      have hB2 := below_after hal hb2 hal.size
      have hr2 := hrx.below hb2 hrx.lt
      clear hal hrx hb2 y0 y1 y2 yl HFW HWK
      obtain ⟨⟨y0, y1, y2, yl⟩, -⟩ := row3 hr2
      rcases Nat.eq_zero_or_pos k with rfl | hk0
      · have HN : Hid (LnOk l (0 + 1)) := fun j hj h => by
          obtain rfl : j = 0 := by omega
          exact ⟨by rw [HX.out]; exact ⟨HFI.out, HFM.out⟩, fun h => by omega⟩
        have HB2 := Lib.hid (hbx.out _ hB2)
        clear hB2 hr2 hq
        go_wp2_with fail
        go_quiet (fail)
        go_wp2
        go_roundw
        case rel => exact ⟨0 + 1, by omega, by go_num, Below.draws HB2.out _, HN.out⟩
        case measure => simp [intOf]; omega
      · obtain ⟨j, rfl⟩ : ∃ j, k = j + 1 := ⟨k - 1, by omega⟩
        have hjl : j < l.length := by omega
        obtain ⟨p0, p1, p2⟩ := HPR.out j hjl
        have hy0 := (hB2.cell (p := ⟨bk, off + j * 3, none⟩) hbl).trans p0
        have hy1 := (hB2.cell (p := ⟨bk, off + j * 3 + 1, none⟩) hbl).trans p1
        have hy2 := (hB2.cell (p := ⟨bk, off + j * 3 + 2, none⟩) hbl).trans p2
        have hbl' := Nat.lt_of_lt_of_le hbl hB2.size
        have HOJ := Lib.hid (HOD.out j (by omega))
        have HKJ : Hid (∀ h : j < l.length, lnLt (l[j]'h) x = true → LnOk l (j + 1 + 1)) := fun h hl' i hi hik => by
          by_cases e : i = j + 1
          · subst e
            refine ⟨by rw [HX.out]; exact ⟨HFI.out, HFM.out⟩, fun _ => ?_⟩
            rw [HX.out]
            exact hl'
          · exact HK.out i hi (by omega)
        rw [HX.out] at HOJ
        have HKJ2 := Lib.hid (HKJ.out hjl)
        obtain ⟨y, hy⟩ : ∃ y, l[j] = y := ⟨_, rfl⟩
        rw [hy] at hy0 hy1 hy2 HOJ HKJ2
        have HCM := Lib.hid (fun W : Ext w2 => compare38_any y x W.val)
        have hge := cmp2_ge y x
        have i2 : (j : Int) < (l.length : Int) := by omega
        have s2 : IntKind.i64.wrap ((j : Int) + 1 - 1) = (j : Int) := by rw [show (j : Int) + 1 - 1 = (j : Int) by omega]; exact IntWalk.i64_in _ (by omega)
        have u0 := ext_cell hbl' hy0
        have u1 := ext_cell hbl' hy1
        have u2 := ext_cell hbl' hy2
        have v0 := ext_cell yl y0
        have v1 := ext_cell yl y1
        have v2 := ext_cell yl y2
        have HB2 : Hid (∀ W : Ext w2, Below w.heap.size w W.val) := fun W => hbx.out _ (below_after hB2 W.property hB2.size)
        obtain ⟨cv, hcv⟩ : ∃ cv, cmpL2 y x = cv := ⟨_, rfl⟩
        rw [hcv] at HCM hge
        clear p0 p1 p2 hy0 hy1 hy2 hB2 hr2 y0 y1 y2 c0 c1 c2 HPR HOD HKJ hy hcv hbx hq
        cases hly : lnLt y x
        · rw [hly] at hge
          have HE := Lib.hid (HOJ.out hly)
          clear hly HOJ HKJ2
          have hge' : decide (0 ≤ cv) = true := hge
          clear hge
          go_wp2_with fail
          refine region_ext (by kernel_rfl) (by kernel_rfl) ?_
          repeat (go_big_quiet_step ((go_at_call 45; exact ext_call (HCM.out _))))
          refine wpQuiet_nil ?_
          rintro _ ⟨W, rfl⟩
          go_wp2
          go_ret
          exact ⟨ret_bool HE.out.symm, HB2.out W⟩
        · rw [hly] at hge
          have HN := Lib.hid (HKJ2.out hly)
          clear hly HOJ HKJ2
          have hge' : decide (0 ≤ cv) = false := hge
          clear hge
          go_wp2_with fail
          refine region_ext (by kernel_rfl) (by kernel_rfl) ?_
          repeat (go_big_quiet_step ((go_at_call 45; exact ext_call (HCM.out _))))
          refine wpQuiet_nil ?_
          rintro _ ⟨W, rfl⟩
          go_wp2
          go_roundw
          case rel => exact ⟨j + 1 + 1, by omega, by go_num, HB2.out W, HN.out⟩
          case measure => simp [intOf]; omega
    · obtain rfl : k = l.length := by omega
      have HE := Lib.hid (HF.out (lnOk_end HK.out).1 (lnOk_end HK.out).2)
      go_wp2
      go_ret
      exact ⟨ret_bool HE.out.symm, HB.out⟩
end Go.Proofs.YtjbhabfflcbebaaGreat
/- Maps whose keys are whole numbers, entry by entry: look-up, update, ranging. -/
namespace Go.Proofs.YtjbhabfflcbebaaGreat
open Go.RowKit

def iEnt (i : Nat) (p : Int × Value) : MapEntry := ⟨.int .i64 p.1, p.2, i⟩
def iEnts (j : Nat) : List (Int × Value) → List MapEntry
  | [] => []
  | p :: r => iEnt j p :: iEnts (j + 1) r
/-- the map's block: the entries in the order in which their keys came -/
def iObj (es : List (Int × Value)) : Obj := .map (iEnts 0 es).toArray es.length
/-- the place and the value of a key, counted from j -/
def findI (k : Int) (j : Nat) : List (Int × Value) → Option (Nat × Value)
  | [] => none
  | p :: r => if k = p.1 then some (j, p.2) else findI k (j + 1) r
def getI (es : List (Int × Value)) (k : Int) : Option Value := (findI k 0 es).map (·.2)
def putI (k : Int) (v : Value) : List (Int × Value) → List (Int × Value)
  | [] => [(k, v)]
  | p :: r => if k = p.1 then (k, v) :: r else p :: putI k v r
theorem iEnts_get (j : Nat) (es : List (Int × Value)) (i : Nat) : (iEnts j es)[i]? = (es[i]?).map (iEnt (j + i)) := by
  induction es generalizing j i with
  | nil => simp [iEnts]
  | cons l r ih =>
    cases i with
    | zero => simp [iEnts]
    | succ i => simp only [iEnts, List.getElem?_cons_succ, ih]; rw [show j + 1 + i = j + (i + 1) by omega]
theorem iEnts_len (j : Nat) (es : List (Int × Value)) : (iEnts j es).length = es.length := by
  induction es generalizing j with
  | nil => rfl
  | cons l r ih => simp [iEnts, ih]
theorem iEnts_append (j : Nat) (es fs : List (Int × Value)) : iEnts j (es ++ fs) = iEnts j es ++ iEnts (j + es.length) fs := by
  induction es generalizing j with
  | nil => simp [iEnts]
  | cons l r ih => simp only [List.cons_append, iEnts, ih, List.length_cons]; rw [show j + 1 + r.length = j + (r.length + 1) by omega]
theorem findI_some {k : Int} {j : Nat} {es : List (Int × Value)} {n : Nat} {a : Value} (h : findI k j es = some (n, a)) : j ≤ n ∧ es[n - j]? = some (k, a) ∧ ∀ v, putI k v es = es.set (n - j) (k, v) := by
  induction es generalizing j with
  | nil => simp [findI] at h
  | cons l r ih =>
    simp only [findI] at h
    by_cases hs : k = l.1
    · rw [if_pos hs] at h
      injection h with h
      obtain ⟨rfl, rfl⟩ := Prod.mk.inj h
      exact ⟨Nat.le_refl _, by simp [hs], fun v => by simp [putI, hs]⟩
    · rw [if_neg hs] at h
      obtain ⟨h1, h2, h6⟩ := ih h
      refine ⟨by omega, ?_, fun v => ?_⟩
      · rw [show n - j = (n - (j + 1)) + 1 by omega, List.getElem?_cons_succ]; exact h2
      · rw [show n - j = (n - (j + 1)) + 1 by omega, List.set_cons_succ, ← h6 v]; simp [putI, hs]
theorem findI_none {k : Int} {j : Nat} {es : List (Int × Value)} (h : findI k j es = none) (v : Value) : putI k v es = es ++ [(k, v)] := by
  induction es generalizing j with
  | nil => rfl
  | cons l r ih =>
    simp only [findI] at h
    by_cases hs : k = l.1
    · rw [if_pos hs] at h; cases h
    · rw [if_neg hs] at h
      simp [putI, hs, ih h]
theorem findI_shift (k : Int) (es : List (Int × Value)) : ∀ (i j : Nat), findI k (i + j) es = (findI k j es).map fun p => (i + p.1, p.2) := by
  induction es with
  | nil => intro i j; rfl
  | cons p r ih =>
    intro i j
    simp only [findI]
    split
    · rfl
    · rw [Nat.add_assoc]; exact ih i (j + 1)
theorem findNow_i (k : Int) (es : List (Int × Value)) (j : Nat) : Instr.findNow (.int .i64) (.int .i64 k) (iEnts j es) j = some (findI k j es) := by
  induction es generalizing j with
  | nil => rfl
  | cons p r ih =>
    simp only [iEnts, Instr.findNow, iEnt, Instr.sameNow, if_true, findI]
    by_cases h : k = p.1
    · rw [if_pos h]; simp [h]
    · rw [if_neg h]
      have : (k == p.1) = false := by simpa using h
      rw [this]
      exact ih (j + 1)
theorem key_int (k : Int) : MapKept.IsKey (.int .i64) (.int .i64 k) := by simp [MapKept.IsKey]
theorem run_find_i (k : Int) (es : List (Int × Value)) (w : World) : (Instr.findKey 3 (.int .i64 k) (iEnts 0 es)).run Tryz.prog w = .ok (findI k 0 es) w :=
  MapKept.run_findKey Tryz.underlying3 (findNow_i k es 0)

theorem run_lookup_i {mt e : TypeId} {z : Value} (hm : Tryz.prog.underlying mt = some (.map 3 e)) {w : World} (hz : (zeroValue e).run Tryz.prog w = .ok z w) {b : Nat} {es : List (Int × Value)} (hb : w.heap[b]? = some (iObj es)) (k : Int) :
    (Instr.lookup mt (.map (some b)) (.int .i64 k) true).run Tryz.prog w = .ok (.tuple #[(getI es k).getD z, .bool (getI es k).isSome]) w ∧
    (Instr.lookup mt (.map (some b)) (.int .i64 k) false).run Tryz.prog w = .ok ((getI es k).getD z) w := by
  have hb' : w.heap[b]? = some (.map (iEnts 0 es).toArray es.length) := hb
  have hc := MapKept.run_checkKey (P := Tryz.prog) (w := w) Tryz.underlying3 (key_int k) (iEnts 0 es).toArray.isEmpty 9999
  constructor <;>
  · unfold Instr.lookup
    simp only [Sem.run_bind, run_underlying hm, Result.andThen_ok, MapKept.run_getObj_map hb', Sem.run_pure, hc, run_find_i]
    unfold getI
    cases hf : findI k 0 es with
    | none => simp [hz]
    | some p => simp
theorem run_update_i {mt e : TypeId} (hm : Tryz.prog.underlying mt = some (.map 3 e)) {w : World} {b : Nat} {es : List (Int × Value)} (hb : w.heap[b]? = some (iObj es)) (k : Int) (v : Value) :
    (Instr.mapUpdate mt (.map (some b)) (.int .i64 k) v).run Tryz.prog w = .ok () (setB w b (iObj (putI k v es))) := by
  have hb' : w.heap[b]? = some (.map (iEnts 0 es).toArray es.length) := hb
  have hc := MapKept.run_checkKey (P := Tryz.prog) (w := w) Tryz.underlying3 (key_int k) false 9999
  have hst : (Instr.keyThatStays (.int .i64 k) (.int .i64 k)).run Tryz.prog w = .ok (.int .i64 k) w := MapKept.run_keyThatStays (key_int k)
  cases hf : findI k 0 es with
  | none =>
    rw [findI_none hf]
    unfold Instr.mapUpdate
    simp only [Sem.run_bind, run_underlying hm, Result.andThen_ok, MapKept.run_getObj_map hb', hc, run_find_i, hf, setObj_run w hb']
    simp [iObj, iEnts_append, iEnts, iEnt]
  | some p =>
    obtain ⟨n, a⟩ := p
    obtain ⟨_, h2, h3⟩ := findI_some hf
    rw [Nat.sub_zero] at h2 h3
    have hn : n < es.length := (List.getElem?_eq_some_iff.1 h2).1
    have hent : (iEnts 0 es).toArray[n]? = some ⟨.int .i64 k, a, n⟩ := by
      rw [List.getElem?_toArray, iEnts_get, h2]; simp [iEnt]
    unfold Instr.mapUpdate
    simp only [Sem.run_bind, run_underlying hm, Result.andThen_ok, MapKept.run_getObj_map hb', hc, run_find_i, hf, hent, Option.map_some, Option.getD_some, hst, setObj_run w hb']
    rw [h3]
    have ha : (iEnts 0 es).toArray.modify n (fun e => { e with key := .int .i64 k, val := v }) = (iEnts 0 (es.set n (k, v))).toArray := by
      apply Array.ext_getElem?
      intro j
      rw [Array.getElem?_modify, List.getElem?_toArray, List.getElem?_toArray, iEnts_get, iEnts_get, List.getElem?_set]
      by_cases hij : n = j
      · subst hij
        rw [if_pos rfl, if_pos rfl, if_pos hn, h2]; simp [iEnt]
      · rw [if_neg hij, if_neg hij]
    rw [ha, iObj, List.length_set]

theorem run_next_i {W : World} {r m : Nat} {es : List (Int × Value)} {seen : List Nat} (hr : W.heap[r]? = some (itObj m es.length seen)) (hm : W.heap[m]? = some (iObj es)) (ty : TypeId) :
    (∃ (i : Nat) (l : Int × Value) (W1 : World), es[i]? = some l ∧ i ∉ seen ∧ (W1 = W ∨ W1 = W.drew) ∧ (Instr.next (.pointer (some ⟨r, 0, none⟩)) false ty).run Tryz.prog W = .ok (.tuple #[.bool true, .int .i64 l.1, l.2]) (setB W1 r (itObj m es.length (seen ++ [i])))) ∨
    (∃ W1 : World, (∀ i, i < es.length → i ∈ seen) ∧ (W1 = W ∨ W1 = W.drew) ∧ (Instr.next (.pointer (some ⟨r, 0, none⟩)) false ty).run Tryz.prog W = .ok (.tuple #[.bool false]) W1) := by
  have hr' : W.heap[r]? = some (.mapIter (some m) es.length seen.toArray es.length) := hr
  have hm' : W.heap[m]? = some (.map (iEnts 0 es).toArray es.length) := hm
  have g1 : (getObj r).run Tryz.prog W = .ok (.mapIter (some m) es.length seen.toArray es.length) W := by simp [getObj, Sem.run, hr']
  have g2 := MapKept.run_getObj_map (P := Tryz.prog) hm'
  have hborn : ∀ e ∈ iEnts 0 es, e.born < es.length := by
    intro e he
    obtain ⟨i, hi⟩ := List.getElem?_of_mem he
    rw [iEnts_get] at hi
    cases hl : es[i]? with
    | none => rw [hl] at hi; cases hi
    | some l =>
      rw [hl] at hi
      simp only [Option.map_some, Option.some.injEq] at hi
      have := (List.getElem?_eq_some_iff.1 hl).1
      rw [← hi]; simp [iEnt]; exact this
  have hchk : (!seen.toArray.isEmpty && !(iEnts 0 es).toArray.isEmpty && (iEnts 0 es).toArray.all (fun e => decide (e.born ≥ es.length))) = false := by
    cases hes : iEnts 0 es with
    | nil => simp
    | cons e r =>
      have := hborn e (by rw [hes]; simp)
      simp
      intro _ h
      omega
  have hold : ((iEnts 0 es).toArray.filter fun e => !seen.toArray.contains e.born).filter (fun e => decide (e.born < es.length)) = (iEnts 0 es).toArray.filter fun e => !seen.toArray.contains e.born := by
    rw [Array.filter_eq_self]
    intro e he
    have := hborn e (by simpa using (Array.mem_filter.1 he).1)
    simpa using this
  have hnew : ((iEnts 0 es).toArray.filter fun e => !seen.toArray.contains e.born).filter (fun e => decide (e.born ≥ es.length)) = #[] := by
    rw [Array.filter_eq_empty_iff]
    intro e he
    have := hborn e (by simpa using (Array.mem_filter.1 he).1)
    simp; omega
  have hrun : ∀ (c : Array (Option MapEntry)), c = (if ((iEnts 0 es).toArray.filter fun e => !seen.toArray.contains e.born).isEmpty then #[none] else #[]) ++ ((iEnts 0 es).toArray.filter fun e => !seen.toArray.contains e.born).map some →
      (Instr.next (.pointer (some ⟨r, 0, none⟩)) false ty).run Tryz.prog W = (choose (.mapNext c.size) >>= fun t => match c[t]? with
        | some (some e) => do setObj r (.mapIter (some m) es.length (seen.toArray.push e.born) es.length); pure (.tuple #[.bool true, e.key, e.val])
        | some none => pure (.tuple #[.bool false])
        | none => stuck "Next: no such candidate").run Tryz.prog W := by
    intro c hc
    unfold Instr.next
    simp only [Sem.run_bind, g1, Result.andThen_ok, g2, hchk, Bool.false_eq_true, if_false, hold, hnew, Array.append_empty, ← hc]
    rfl
  have hmem : ∀ e, e ∈ ((iEnts 0 es).toArray.filter fun e => !seen.toArray.contains e.born) ↔ e ∈ iEnts 0 es ∧ e.born ∉ seen := by
    intro e
    rw [Array.mem_filter]
    simp
  generalize ((iEnts 0 es).toArray.filter fun e => !seen.toArray.contains e.born) = F at hrun hmem
  by_cases hF : F = #[]
  · right
    subst hF
    have h := hrun #[none] (by simp)
    obtain ⟨t, W1, hW1, hc, hlt⟩ := run_choose (.mapNext (#[none] : Array (Option MapEntry)).size) (fun t => match (#[none] : Array (Option MapEntry))[t]? with
        | some (some e) => do setObj r (.mapIter (some m) es.length (seen.toArray.push e.born) es.length); pure (Value.tuple #[.bool true, e.key, e.val])
        | some none => pure (.tuple #[.bool false])
        | none => stuck "Next: no such candidate") W
    have ht : t = 0 := by have := hlt _ rfl (by simp); simp at this; exact this
    subst ht
    refine ⟨W1, fun i hi => ?_, hW1, ?_⟩
    · by_cases hin : i ∈ seen
      · exact hin
      · have hl : es[i]? = some es[i] := List.getElem?_eq_getElem hi
        have : iEnt i es[i] ∈ iEnts 0 es := List.mem_of_getElem? (i := i) (by rw [iEnts_get, hl]; simp)
        have := (hmem _).2 ⟨this, by simpa [iEnt] using hin⟩
        simp at this
    · rw [h, hc]; rfl
  · left
    have hne : F.isEmpty = false := by simpa using hF
    have hpos : 0 < F.size := by
      rcases Nat.eq_zero_or_pos F.size with h0 | h0
      · exact absurd (Array.eq_empty_of_size_eq_zero h0) hF
      · exact h0
    have h := hrun (F.map some) (by rw [hne]; simp)
    obtain ⟨t, W1, hW1, hc, hlt⟩ := run_choose (.mapNext (F.map some).size) (fun t => match (F.map some)[t]? with
        | some (some e) => do setObj r (.mapIter (some m) es.length (seen.toArray.push e.born) es.length); pure (Value.tuple #[.bool true, e.key, e.val])
        | some none => pure (.tuple #[.bool false])
        | none => stuck "Next: no such candidate") W
    have ht : t < F.size := by have := hlt _ rfl (by simpa using hpos); simpa using this
    have hFt : (F.map some)[t]? = some (some F[t]) := by simp [ht]
    obtain ⟨h1, h2⟩ := (hmem F[t]).1 (Array.getElem_mem ht)
    obtain ⟨i, hi⟩ := List.getElem?_of_mem h1
    rw [iEnts_get] at hi
    cases hl : es[i]? with
    | none => rw [hl] at hi; cases hi
    | some l =>
      rw [hl] at hi
      simp only [Option.map_some, Option.some.injEq, Nat.zero_add] at hi
      rw [← hi] at h2
      refine ⟨i, l, W1, hl, by simpa [iEnt] using h2, hW1, ?_⟩
      have hr1 : W1.heap[r]? = some (.mapIter (some m) es.length seen.toArray es.length) := by rcases hW1 with rfl | rfl <;> exact hr'
      rw [h, hc, hFt, ← hi]
      simp only [Sem.run_bind, Sem.run_pure]
      simp [setObj, Sem.run, hr1, setB, itObj, iEnt]
theorem run_entry_i {W : World} {r m : Nat} {es : List (Int × Value)} {seen : List Nat} {i : Nat} {l : Int × Value} (hr : W.heap[r]? = some (itObj m es.length (seen ++ [i]))) (hm : W.heap[m]? = some (iObj es)) (hl : es[i]? = some l) :
    (Instr.entry (.pointer (some ⟨r, 0, none⟩))).run Tryz.prog W = .ok (.tuple #[.int .i64 l.1, l.2]) W := by
  have hr' : W.heap[r]? = some (.mapIter (some m) es.length (seen ++ [i]).toArray es.length) := hr
  have hm' : W.heap[m]? = some (.map (iEnts 0 es).toArray es.length) := hm
  have g1 : (getObj r).run Tryz.prog W = .ok (.mapIter (some m) es.length (seen ++ [i]).toArray es.length) W := by simp [getObj, Sem.run, hr']
  have g2 := MapKept.run_getObj_map (P := Tryz.prog) hm'
  have hback : (seen ++ [i]).toArray.back? = some i := by simp
  have hfind : (iEnts 0 es).toArray.find? (fun e => e.born == i) = some (iEnt i l) := by
    rw [List.find?_toArray]
    have hi : i < es.length := (List.getElem?_eq_some_iff.1 hl).1
    rw [List.find?_eq_some_iff_getElem]
    refine ⟨by simp [iEnt], i, by rw [iEnts_len]; exact hi, ?_, fun j hj => ?_⟩
    · have := iEnts_get 0 es i
      rw [List.getElem?_eq_getElem (by rw [iEnts_len]; exact hi), hl] at this
      injection this with this
      rw [this]; simp
    · have := iEnts_get 0 es j
      rw [List.getElem?_eq_getElem (by rw [iEnts_len]; omega), List.getElem?_eq_getElem (by omega)] at this
      injection this with this
      rw [this]; simp [iEnt]; omega
  unfold Instr.entry
  simp only [Sem.run_bind, g1, Result.andThen_ok, hback, g2, hfind, bne_self_eq_false, Bool.false_eq_true, if_false, Sem.run_pure]
  rfl
end Go.Proofs.YtjbhabfflcbebaaGreat
/- Which lists of returns are valid. Plain. -/
namespace Go.Proofs.YtjbhabfflcbebaaGreat
open Go.RowKit

/-- a return is the next one of its period -/
def stepB (pre : List Ret) (r : Ret) : Bool := decide (0 ≤ r.p) && (decide (r.p ≤ 84005) && (formR r.l && (decide (r.v = verP pre r.p + 1) && decide (r.l ≠ linP pre r.p))))
def validF : List Ret → List Ret → Bool
  | _, [] => true
  | pre, r :: t => stepB pre r && validF (pre ++ [r]) t
/-- a valid list of returns -/
def validRs (l : List Ret) : Bool := validF [] l
/-- the returns up to k are the next ones of their periods -/
def Vp (l : List Ret) (k : Nat) : Prop := ∀ j (h : j < l.length), j < k → stepB (l.take j) l[j] = true
theorem validF_iff (pre t : List Ret) : validF pre t = true ↔ ∀ j (h : j < t.length), stepB (pre ++ t.take j) t[j] = true := by
  induction t generalizing pre with
  | nil => simp [validF]
  | cons r t ih =>
    rw [validF, Bool.and_eq_true, ih]
    constructor
    · rintro ⟨h1, h2⟩ j hj
      cases j with
      | zero => simpa using h1
      | succ j => simpa using h2 j (by simpa using hj)
    · intro h
      refine ⟨by have := h 0 (by simp); rw [List.take_zero, List.append_nil] at this; exact this, fun j hj => ?_⟩
      have := h (j + 1) (by simpa using hj)
      rw [List.append_assoc]
      exact this
theorem valid_iff (l : List Ret) : validRs l = true ↔ Vp l l.length := by
  rw [validRs, validF_iff]
  exact ⟨fun h j hj _ => by simpa using h j hj, fun h j hj => by simpa using h j hj hj⟩
theorem vp_no {l : List Ret} {k : Nat} (hk : k < l.length) (h : stepB (l.take k) l[k] = false) : validRs l = false := by
  rw [Bool.eq_false_iff]
  intro hh
  have := (valid_iff l).1 hh k hk hk
  rw [h] at this; cases this
theorem Vp.zero (l : List Ret) : Vp l 0 := fun j _ h => by omega
theorem Vp.succ {l : List Ret} {k : Nat} (h : Vp l k) (hk : k < l.length) (hs : stepB (l.take k) l[k] = true) : Vp l (k + 1) := fun j hj hjk => by
  by_cases e : j = k
  · subst e; exact hs
  · exact h j hj (by omega)
structure StepOk (pre : List Ret) (r : Ret) : Prop where
  p0 : 0 ≤ r.p
  p1 : r.p ≤ 84005
  f : formR r.l = true
  v : r.v = verP pre r.p + 1
  n : r.l ≠ linP pre r.p
theorem stepB_iff (pre : List Ret) (r : Ret) : stepB pre r = true ↔ StepOk pre r := by
  simp only [stepB, Bool.and_eq_true, decide_eq_true_eq]
  exact ⟨fun ⟨a, b, c, d, e⟩ => ⟨a, b, c, d, e⟩, fun ⟨a, b, c, d, e⟩ => ⟨a, b, c, d, e⟩⟩
theorem take_snoc {α : Type} {l : List α} {k : Nat} (hk : k < l.length) : l.take (k + 1) = l.take k ++ [l[k]] := List.take_succ_eq_append_getElem hk
theorem Vp.ver {l : List Ret} : ∀ {k : Nat}, Vp l k → k ≤ l.length → ∀ p, 0 ≤ verP (l.take k) p ∧ verP (l.take k) p ≤ k
  | 0, _, _, p => by rw [verP_lat]; exact ⟨by simp [latP, ofP], by simp [latP, ofP]⟩
  | k + 1, h, hk, p => by
    have ih := Vp.ver (k := k) (fun j hj hjk => h j hj (by omega)) (by omega)
    have hs := (stepB_iff _ _).1 (h k (by omega) (by omega))
    rw [take_snoc (by omega), verP_snoc]
    split
    · have := ih (l[k]'(by omega)).p
      rw [hs.v]; omega
    · have := ih p
      omega
/-- the entries of the map say where the last return of each period stands -/
def IdxOk (l : List Ret) (k : Nat) (es : List (Int × Value)) : Prop := ∀ p, (getI es p = none ∧ hasP (l.take k) p = false) ∨ ∃ j, ∃ h : j < l.length, j < k ∧ getI es p = some (.int .i64 (j : Int)) ∧ hasP (l.take k) p = true ∧ latP (l.take k) p = l[j]
theorem findI_put (es : List (Int × Value)) (k : Int) (v : Value) (p : Int) (j : Nat) : (findI p j (putI k v es)).map (·.2) = if p = k then some v else (findI p j es).map (·.2) := by
  induction es generalizing j with
  | nil =>
    simp only [putI, findI]
    by_cases h : p = k
    · rw [if_pos h, if_pos h]; rfl
    · rw [if_neg h, if_neg h]
  | cons a r ih =>
    simp only [putI]
    by_cases hk : k = a.1
    · rw [if_pos hk]
      simp only [findI]
      by_cases h : p = k
      · rw [if_pos h, if_pos h]; rfl
      · rw [if_neg h, if_neg h, if_neg (by rw [← hk]; exact h)]
    · rw [if_neg hk]
      simp only [findI]
      by_cases h : p = a.1
      · rw [if_pos h, if_pos h, if_neg (fun e => hk (by rw [← e, h]))]
      · rw [if_neg h, if_neg h, ih]
theorem getI_put (es : List (Int × Value)) (k : Int) (v : Value) (p : Int) : getI (putI k v es) p = if p = k then some v else getI es p := findI_put es k v p 0
theorem IdxOk.zero (l : List Ret) : IdxOk l 0 [] := fun p => .inl ⟨rfl, by simp [hasP, ofP]⟩
theorem IdxOk.succ {l : List Ret} {k : Nat} {es : List (Int × Value)} (h : IdxOk l k es) (hk : k < l.length) : IdxOk l (k + 1) (putI (l[k]).p (.int .i64 (k : Int)) es) := fun p => by
  rw [getI_put, take_snoc hk, hasP_snoc, latP_snoc]
  by_cases e : p = (l[k]).p
  · right
    exact ⟨k, hk, by omega, by rw [if_pos e], by rw [if_pos e.symm], by rw [if_pos e.symm]⟩
  · rw [if_neg e, if_neg (Ne.symm e), if_neg (Ne.symm e)]
    rcases h p with ⟨h1, h2⟩ | ⟨j, hj, hjk, h1, h2, h3⟩
    · exact .inl ⟨h1, h2⟩
    · exact .inr ⟨j, hj, by omega, h1, h2, h3⟩
/-- a version and lines behind a lookup -/
theorem idx_ver {l : List Ret} {k : Nat} {es : List (Int × Value)} (h : IdxOk l k es) (p : Int) : (getI es p = none ∧ verP (l.take k) p = 0 ∧ linP (l.take k) p = []) ∨ ∃ j, ∃ h : j < l.length, j < k ∧ getI es p = some (.int .i64 (j : Int)) ∧ verP (l.take k) p = (l[j]).v ∧ linP (l.take k) p = (l[j]).l := by
  rcases h p with ⟨h1, h2⟩ | ⟨j, hj, hjk, h1, _, h3⟩
  · exact .inl ⟨h1, by rw [verP_lat, latP_no h2], by rw [linP_lat, latP_no h2]⟩
  · exact .inr ⟨j, hj, hjk, h1, by rw [verP_lat, h3], by rw [linP_lat, h3]⟩
end Go.Proofs.YtjbhabfflcbebaaGreat
/- slices.Equal and slices.Clone at lines; refile.Valid. Written by gen_rv3.py. -/
namespace Go.Proofs.YtjbhabfflcbebaaGreat
open Go.RowKit Go.Shelf

set_option maxHeartbeats 1000000 in
theorem equalLn_any (va vb : Value) (a b : List Ln) (w : World) (ha : Sl w 3 va (lns a)) (hb : Sl w 3 vb (lns b)) (hla : a.length ≤ 65536) (_hlb : b.length ≤ 65536) :
    Calls Tryz.prog 31 #[va, vb] w (SameP w (decide (a = b))) := by
  have fa : ∃ P c, va = .slice P a.length c := by obtain ⟨P, c, h, _⟩ := ha; rw [lns_len] at h; exact ⟨P, c, h⟩
  have fb : ∃ P c, vb = .slice P b.length c := by obtain ⟨P, c, h, _⟩ := hb; rw [lns_len] at h; exact ⟨P, c, h⟩
  obtain ⟨A1, c1, rfl⟩ := fa
  obtain ⟨A2, c2, rfl⟩ := fb
  have HA := Lib.hid ha
  have HB := Lib.hid hb
  clear ha hb
  by_cases hl : a.length = b.length
  · have HL := Lib.hid hl
    have hl1 : a.length ≤ b.length := by omega
    have hl2 : b.length ≤ a.length := by omega
    have hne : ((a.length : Int) != (b.length : Int)) = false := by simp; omega
    clear hl
    go_enter Tryz.func31, Tryz.ntmps31
    go_wp2
    go_loopw [13] (fun i wr => ∃ k : Nat, k ≤ a.length ∧ i = .int .i64 k ∧ Below w.heap.size w wr ∧ Hid (∀ j (h : j < a.length) (h' : j < b.length), j < k → a[j] = b[j])) (fun i _ => a.length - (intOf i).toNat)
    case atStart => exact ⟨0, by omega, rfl, Below.refl _ _, (fun j _ _ h => by omega)⟩
    case round =>
      obtain ⟨k, hk, rfl, hbl, HE⟩ := hrel
      obtain ⟨wo, rfl⟩ : ∃ wo : World, wo = wr := ⟨_, rfl⟩
      by_cases hlt : k < a.length
      · have hlt' : k < b.length := by omega
        obtain ⟨p, po, rfl, hp⟩ := (HA.out.below hbl).cells (by rw [lns_len]; omega)
        obtain ⟨q, qo, rfl, hq⟩ := (HB.out.below hbl).cells (by rw [lns_len]; omega)
        obtain ⟨p0, p1, p2⟩ := hp.ln hlt
        obtain ⟨q0, q1, q2⟩ := hq.ln hlt'
        have i1 : (k : Int) < (a.length : Int) := by omega
        have i2 : (k : Int) < (b.length : Int) := by omega
        have HN : Hid (∀ W, (binOp .neq 51 (.agg #[.int .i64 (a[k]).kind, .string (a[k]).code, .int .i64 (a[k]).amt]) (.agg #[.int .i64 (b[k]).kind, .string (b[k]).code, .int .i64 (b[k]).amt])).run Tryz.prog W = .ok (.bool (!decide (a[k] = b[k]))) W) := fun W => neLn _ _ W
        obtain ⟨x, hx⟩ : ∃ x, a[k] = x := ⟨_, rfl⟩
        obtain ⟨y, hy⟩ : ∃ y, b[k] = y := ⟨_, rfl⟩
        rw [hx] at p0 p1 p2 HN
        rw [hy] at q0 q1 q2 HN
        have HX := Lib.hid hx
        have HY := Lib.hid hy
        clear hp hq hx hy
        by_cases hxy : x = y
        · have n1 := HN.out
          rw [decide_eq_true hxy] at n1
          have HXY := Lib.hid hxy
          clear hxy HN
          go_wp2_with fail
          go_quiet (fail)
          go_wp2
          go_roundw
          case rel =>
            refine ⟨k + 1, by omega, by go_num, Below.draws hbl _, fun j h h' hj => ?_⟩
            by_cases e : j = k
            · subst e; rw [HX.out, HY.out, HXY.out]
            · exact HE.out j h h' (by omega)
          case measure => simp [intOf]; omega
        · have n1 := HN.out
          rw [decide_eq_false hxy] at n1
          have HXY := Lib.hid hxy
          clear hxy HN
          go_wp2_with fail
          go_quiet (fail)
          go_wp2
          go_ret
          exact ⟨ret_bool (decide_eq_false (fun h => HXY.out (by rw [← HX.out, ← HY.out]; exact List.getElem_of_eq h hlt))).symm, Below.draws hbl _⟩
      · go_wp2
        go_ret
        exact ⟨ret_bool (decide_eq_true (List.ext_getElem HL.out fun j h h' => HE.out j h h' (by omega))).symm, hbl⟩
  · have hne : ((a.length : Int) != (b.length : Int)) = true := by simp; omega
    have HE : Hid (decide (a = b) = false) := decide_eq_false (fun h => hl (by rw [h]))
    clear hl
    go_enter Tryz.func31, Tryz.ntmps31
    go_wp2
    go_ret
    exact ⟨ret_bool HE.out.symm, Below.refl _ _⟩
set_option maxRecDepth 10000 in
theorem lnNil_none (w : World) : (binOp .eql 30 (.slice none 0 0) (.slice none 0 0)).run Tryz.prog w = .ok (.bool true) w := by
  kernel_rfl
theorem lnNil_some (a : Addr) (n c : Nat) (w : World) : (binOp .eql 30 (.slice (some a) n c) (.slice none 0 0)).run Tryz.prog w = .ok (.bool false) w := by
  kernel_rfl
set_option maxRecDepth 10000 in
theorem cloneLn_any (l : List Ln) (v : Value) (w : World) (hsl : Sl w 3 v (lns l)) (hl : l.length ≤ 65536) :
    Calls Tryz.prog 29 #[v] w (RetOwn w 51 3 (lns l)) := by
  have H := Lib.hid hsl
  obtain ⟨A, cap, rfl, h1, h2, h0, h3⟩ := hsl
  rw [lns_len] at h1
  cases A with
  | none =>
    have hl0 : l = [] := List.eq_nil_of_length_eq_zero (by have := h0 rfl; omega)
    subst hl0
    obtain rfl := h0 rfl
    clear h3 h0 h1 h2 hl
    show Calls _ _ #[.slice none 0 0] _ _
    have E := lnNil_none w
    go_enter Tryz.func29, Tryz.ntmps29
    go_wp2
    go_ret
    exact ⟨_, rfl, Own.nil _ _ _ _, Below.refl _ _⟩
  | some a =>
    clear h0 h3
    obtain ⟨b, o, k⟩ := a
    rw [lns_len] at H ⊢
    have E := lnNil_some ⟨b, o, k⟩ l.length cap w
    have hb1 : Below w.heap.size w (w.alloc (.cells #[] 51)) := (Below.refl _ _).alloc (Nat.le_refl _) _
    go_enter Tryz.func29, Tryz.ntmps29
    go_wp2_with (at_builtin; (refine wpList_append_sl rfl (.tmp 5) (.tmp 6) rfl rowLn w.heap.size _ _ [] (lns l) rfl (own_lit0 w _ 3 _ (Nat.le_refl _)) rfl (H.out.below hb1) (lns_wide l) (by rw [lns_len]; unfold maxLen; simp; omega) (by rw [lns_len]; simp; omega) hb1.size ?_); intro v4 w4 hown4 hg4 _; have hb4 := Own.grown (own_lit0 w _ 3 _ (Nat.le_refl _)) hb1 hg4 hb1.size)
    go_ret
    exact ⟨_, rfl, hown4, hb4⟩
theorem mapii_ty : Tryz.prog.underlying 64 = some (.map 3 3) := Tryz.underlying64
theorem zero_int (w : World) : (zeroValue 3).run Tryz.prog w = .ok (.int .i64 0) w := by kernel_rfl
set_option maxRecDepth 100000 in
set_option maxHeartbeats 8000000 in
theorem RValid_any (ps : List (Ret × Value)) (v : Value) (w : World) (hv : RetsAt w v ps) (hl : ∀ q ∈ ps, q.1.l.length ≤ 65536) :
    Calls Tryz.prog 14 #[v] w fun e w' => e = .returned (.bool (validRs (ps.map (·.1)))) ∧ Below w.heap.size w w' := by
  have HV := Lib.hid hv
  have HL := Lib.hid hl
  obtain ⟨A, cap, rfl, h1, h2, _, _⟩ := hv.sl
  rw [rets_len] at h1 HV ⊢
  unfold maxLen at h2
  have HLE : Hid ((ps.map (·.1)).length = ps.length) := by rw [Hid, List.length_map]
  have HLX : Hid (∀ (j : Nat) (h : j < (ps.map (·.1)).length) (h' : j < ps.length), (ps.map (·.1))[j] = (ps[j]'h').1) := fun j h h' => by rw [List.getElem_map]
  obtain ⟨L, hL⟩ : ∃ L, ps.map (·.1) = L := ⟨_, rfl⟩
  rw [hL] at HLE HLX ⊢
  clear hL hl hv
  have hmm := @run_makeMap Tryz.prog
  go_enter Tryz.func14, Tryz.ntmps14
  go_wp2
  have hb0 := (Below.refl w.heap.size w).alloc (Nat.le_refl _) (.map #[] 0)
  have hm0 : (w.alloc (.map #[] 0)).heap[w.heap.size]? = some (iObj []) := heap_alloc_new w _
  obtain ⟨w0, hw0⟩ : ∃ w0, w.alloc (.map #[] 0) = w0 := ⟨_, rfl⟩
  rw [hw0] at hb0 hm0 ⊢
  obtain ⟨M, hM⟩ : ∃ M, w.heap.size = M := ⟨_, rfl⟩
  have hMw : w.heap.size ≤ M := by omega
  rw [hM] at hm0 ⊢
  rw [hM] at hb0
  have HB0 := Lib.hid (show Below M w w0 from hb0)
  have HM0 := Lib.hid hm0
  clear hw0 hb0 hm0
  have HMW := Lib.hid hM
  clear hM
  go_loopw [13] (fun i wr => ∃ (k : Nat) (es : List (Int × Value)), k ≤ ps.length ∧ i = .int .i64 k ∧ Hid (Below w.heap.size w wr ∧ wr.heap[M]? = some (iObj es)) ∧ Hid (IdxOk L k es ∧ Vp L k)) (fun i _ => ps.length - (intOf i).toNat)
  case atStart => exact ⟨0, [], by omega, rfl, ⟨by rw [HMW.out]; exact HB0.out, HM0.out⟩, IdxOk.zero L, Vp.zero L⟩
  case round =>
    clear HB0 HM0 hmm
    obtain ⟨k, es, hk, rfl, HB, HK⟩ := hrel
    obtain ⟨wo, rfl⟩ : ∃ wo : World, wo = wr := ⟨_, rfl⟩
    by_cases hlt : k < ps.length
    · have hltL : k < L.length := by rw [HLE.out]; exact hlt
      have hrs := HV.out.below HB.out.1
      obtain ⟨bk, off, rfl, hc⟩ := hrs.sl.cells (by rw [rets_len]; omega)
      obtain ⟨c0, c1, c2⟩ := hc.ret hlt
      have hbl := hc.1
      have HCC : Hid (∀ j (h : j < ps.length), wo.cell? ⟨bk, off + j * 3, none⟩ = some (.int .i64 (ps[j]).1.p) ∧ wo.cell? ⟨bk, off + j * 3 + 1, none⟩ = some (.int .i64 (ps[j]).1.v) ∧ wo.cell? ⟨bk, off + j * 3 + 2, none⟩ = some (ps[j]).2) := fun j h => hc.ret h
      have HLN := Lib.hid hrs.ln
      have i1 : (k : Int) < (ps.length : Int) := by omega
      have hlx := HL.out _ (List.getElem_mem hlt)
      have hln := hrs.ln _ (List.getElem_mem hlt)
      have HNO := Lib.hid (fun h => vp_no hltL h)
      have HSC := Lib.hid (fun h => HK.out.2.succ hltL h)
      have HIS := Lib.hid (HK.out.1.succ hltL)
      have HVR := Lib.hid (HK.out.2.ver (Nat.le_of_lt hltL))
      have HXL := Lib.hid (HLX.out k hltL hlt)
      rw [HXL.out] at HNO HSC HIS
      obtain ⟨x, hx⟩ : ∃ x, ps[k] = x := ⟨_, rfl⟩
      rw [hx] at c0 c1 c2 hlx hln HNO HSC HIS
      clear hx hc hrs HXL
      obtain ⟨⟨q, u, ll⟩, xv⟩ := x
      simp only at c0 c1 c2 hlx hln HIS
      have HSB : Hid (stepB (L.take k) ⟨q, u, ll⟩ = (decide (0 ≤ q) && (decide (q ≤ 84005) && (formR ll && (decide (u = verP (L.take k) q + 1) && decide (ll ≠ linP (L.take k) q)))))) := rfl
      have HLNX := Lib.hid hln
      obtain ⟨Ax, cx, rfl⟩ : ∃ Ax cx, xv = .slice Ax ll.length cx := by
        obtain ⟨Ax, cx, h, _⟩ := hln
        rw [lns_len] at h
        exact ⟨Ax, cx, h⟩
      clear hln
      have HBW : Hid (∀ W, Below wo.heap.size wo W → Below w.heap.size w W ∧ W.heap[M]? = some (iObj es)) := fun W hW => ⟨below_after HB.out.1 hW HB.out.1.size, (hW.block M (lt_of_some HB.out.2)).trans HB.out.2⟩
      have hal := (Below.refl wo.heap.size wo).alloc (Nat.le_refl _) (.cells #[.int .i64 q, .int .i64 u, .slice Ax ll.length cx] 32)
      have HAL := Lib.hid hal
      by_cases q0 : 0 ≤ q
      rotate_left
      · have HE : Hid (validRs L = false) := HNO.out (by rw [HSB.out, decide_eq_false q0]; rfl)
        clear HSB HNO HSC HIS HCC HLN HVR HK hal
        go_wp2
        go_ret
        exact ⟨ret_bool HE.out.symm, (HBW.out _ HAL.out).1⟩
      by_cases q1 : q ≤ 84005
      rotate_left
      · have HE : Hid (validRs L = false) := HNO.out (by rw [HSB.out, decide_eq_false q1]; simp)
        clear HSB HNO HSC HIS HCC HLN HVR HK hal
        go_wp2
        go_ret
        exact ⟨ret_bool HE.out.symm, (HBW.out _ HAL.out).1⟩
      rw [decide_eq_true q0, decide_eq_true q1, Bool.true_and, Bool.true_and] at HSB
      have HFC := Lib.hid (fun W hW => form_any ll (.slice Ax ll.length cx) W (HLNX.out.below (w' := W) hW))
      have hx1 := Row.new wo 32 #[.int .i64 q, .int .i64 u, .slice Ax ll.length cx]
      go_wp2_with fail
      refine (HFC.out _ HAL.out).mono ?_
      rintro e w2 ⟨rfl, hb2⟩
      have hB2 := below_after HAL.out hb2 HAL.out.size
      have hx2 := hx1.below hb2 hx1.lt
      obtain ⟨m, hm⟩ : ∃ m, wo.heap.size = m := ⟨_, rfl⟩
      have HB2 := Lib.hid hB2
      rw [hm] at hx2 ⊢
      clear hb2 hx1 hal HFC hm
      obtain ⟨⟨y0, y1, y2, yl⟩, -⟩ := row3 hx2
      have HX2 := Lib.hid hx2
      clear hx2
      cases hf : formR ll
      · rw [hf] at HSB
        have HE : Hid (validRs L = false) := HNO.out (by rw [HSB.out]; rfl)
        clear hf HSB HNO HSC HIS HCC HLN HVR HK
        go_wp2
        go_ret
        exact ⟨ret_bool HE.out.symm, (HBW.out _ HB2.out).1⟩
      rw [hf, Bool.true_and] at HSB
      clear hf
      have E1 := (run_lookup_i mapii_ty (zero_int w2) (HBW.out _ HB2.out).2 q).1
      have HVQ := Lib.hid (HVR.out q)
      have HEQ := Lib.hid (fun (lb : List Ln) (vb : Value) (W : World) (hW : Below w2.heap.size w2 W) (hb : Sl W 3 vb (lns lb)) (hlb : lb.length ≤ 65536) => equalLn_any (.slice Ax ll.length cx) vb ll lb W ((HLNX.out.below HB2.out).below hW) hb hlx hlb)
      have HEND : Hid (∀ W3, Below w2.heap.size w2 W3 → W3.heap[M]? = some (iObj es) ∧ Below w.heap.size w W3 ∧ Below w.heap.size w (setB W3 M (iObj (putI q (.int .i64 (k : Int)) es))) ∧ (setB W3 M (iObj (putI q (.int .i64 (k : Int)) es))).heap[M]? = some (iObj (putI q (.int .i64 (k : Int)) es)) ∧ W3.cell? ⟨m, 0, none⟩ = some (.int .i64 q) ∧ m < W3.heap.size) := fun W3 h3 => by
        obtain ⟨e1, e2⟩ := HBW.out _ (below_after HB2.out h3 HB2.out.size)
        exact ⟨e2, e1, e1.grown setB_grown e1.size (fun g hg => by injection hg with hg; omega), setB_at (lt_of_some e2), (h3.cell (p := ⟨m, 0, none⟩) HX2.out.lt).trans (row3 HX2.out).1.1, (HX2.out.below h3 HX2.out.lt).lt⟩
      rcases idx_ver HK.out.1 q with ⟨e0, ev, el⟩ | ⟨j, hjL, hjk, e0, ev, el⟩
      · rw [e0] at E1
        rw [ev, el] at HSB
        have z1 : (0 : Int) + 1 = 1 := rfl
        rw [z1] at HSB
        clear e0 ev el HCC HLN HVR HVQ z1
        have HE1 := Lib.hid E1
        by_cases hvv : u = 1
        rotate_left
        · have n1 : (u != 1) = true := by simpa using hvv
          have HE : Hid (validRs L = false) := HNO.out (by rw [HSB.out, decide_eq_false hvv]; rfl)
          clear hvv HEQ HSB HNO HSC HIS HK HE1
          simp only [Option.getD_none, Option.isSome_none] at E1
          go_wp2
          go_ret
          exact ⟨ret_bool HE.out.symm, (HBW.out _ HB2.out).1⟩
        have n1 : (u != 1) = false := by simpa using hvv
        rw [decide_eq_true hvv, Bool.true_and] at HSB
        have HU := Lib.hid hvv
        clear hvv HE1
        simp only [Option.getD_none, Option.isSome_none] at E1
        go_wp2_with fail
        refine (HEQ.out [] (.slice none 0 0) w2 (Below.refl _ _) (Sl.nil _ _) (by simp)).mono ?_
        rintro e w3 ⟨rfl, hb3⟩
        obtain ⟨m3, B3, B4, m4, y03, yl3⟩ := HEND.out w3 hb3
        have E3 := run_update_i mapii_ty m3 q (.int .i64 (k : Int))
        have HB3 := Lib.hid B3
        have HB4 := Lib.hid (And.intro B4 m4)
        clear hb3 B3 B4 m4 m3 E1 y0 y1 y2 yl HEQ HEND
        by_cases hll : ll = []
        · have HE : Hid (validRs L = false) := HNO.out (by rw [HSB.out, hll]; rfl)
          rw [decide_eq_true hll]
          clear hll HSB HNO HSC HIS HK E3
          go_wp2
          go_ret
          exact ⟨ret_bool HE.out.symm, HB3.out⟩
        · have HN : Hid (IdxOk L (k + 1) (putI q (.int .i64 (k : Int)) es) ∧ Vp L (k + 1)) := ⟨HIS.out, HSC.out (by rw [HSB.out]; exact decide_eq_true hll)⟩
          rw [decide_eq_false hll]
          clear hll HSB HNO HSC HIS HK
          go_wp2
          go_roundw
          case rel => exact ⟨k + 1, _, by omega, by go_num, HB4.out, HN.out⟩
          case measure => simp [intOf]; omega
      · rw [e0] at E1
        have hj : j < ps.length := by rw [← HLE.out]; exact hjL
        have hjx := HLX.out j hjL hj
        rw [hjx] at ev el
        rw [ev] at HVQ
        rw [ev, el] at HSB
        obtain ⟨p0, p1, p2⟩ := HCC.out j hj
        have hjn := HLN.out _ (List.getElem_mem hj)
        have hjl := HL.out _ (List.getElem_mem hj)
        obtain ⟨y, hy⟩ : ∃ y, ps[j] = y := ⟨_, rfl⟩
        rw [hy] at p0 p1 p2 hjn hjl HVQ HSB
        clear hy hjx ev el e0 HCC HLN HVR hjL
        obtain ⟨⟨yq, yu, yl'⟩, yv⟩ := y
        simp only at p0 p1 p2 hjn hjl HVQ HSB
        have hz1 := (HB2.out.cell (p := ⟨bk, off + j * 3 + 1, none⟩) hbl).trans p1
        have hz2 := (HB2.out.cell (p := ⟨bk, off + j * 3 + 2, none⟩) hbl).trans p2
        have hbl2 := Nat.lt_of_lt_of_le hbl HB2.out.size
        have HJN := Lib.hid (hjn.below HB2.out)
        obtain ⟨Aj, cj, rfl⟩ : ∃ Aj cj, yv = .slice Aj yl'.length cj := by
          obtain ⟨Ax, cx, h, _⟩ := hjn
          rw [lns_len] at h
          exact ⟨Ax, cx, h⟩
        obtain ⟨k0, k1⟩ := HVQ.out
        have ew : IntKind.i64.wrap (yu + 1) = yu + 1 := IntWalk.i64_in _ (by omega)
        have i2 : (j : Int) < (ps.length : Int) := by omega
        clear p0 p1 p2 hjn HVQ
        simp only [Option.getD_some, Option.isSome_some] at E1
        by_cases hvv : u = yu + 1
        rotate_left
        · have n1 : (u != yu + 1) = true := by simpa using hvv
          have HE : Hid (validRs L = false) := HNO.out (by rw [HSB.out, decide_eq_false hvv]; rfl)
          clear hvv HEQ HSB HNO HSC HIS HK
          go_wp2_with fail
          go_quiet (fail)
          go_wp2
          go_ret
          exact ⟨ret_bool HE.out.symm, (HBW.out _ (Below.draws HB2.out _)).1⟩
        have n1 : (u != yu + 1) = false := by simpa using hvv
        rw [decide_eq_true hvv, Bool.true_and] at HSB
        have HU := Lib.hid hvv
        clear hvv
        go_wp2_with fail
        go_quiet (fail)
        go_wp2_with fail
        refine (HEQ.out yl' (.slice Aj yl'.length cj) _ (Below.draws (Below.refl _ _) _) (HJN.out.below (Below.draws (Below.refl _ _) _)) hjl).mono ?_
        rintro e w3 ⟨rfl, hb3⟩
        have hb3' := below_after (Below.draws (Below.refl w2.heap.size w2) _) hb3 (Below.draws (Below.refl w2.heap.size w2) _).size
        obtain ⟨m3, B3, B4, m4, y03, yl3⟩ := HEND.out w3 hb3'
        have E3 := run_update_i mapii_ty m3 q (.int .i64 (k : Int))
        have HB3 := Lib.hid B3
        have HB4 := Lib.hid (And.intro B4 m4)
        clear hb3 hb3' B3 B4 m4 m3 E1 y0 y1 y2 yl HEQ HEND
        by_cases hll : ll = yl'
        · have HE : Hid (validRs L = false) := HNO.out (by rw [HSB.out]; exact decide_eq_false (fun h => h hll))
          rw [decide_eq_true hll]
          clear hll HSB HNO HSC HIS HK E3
          go_wp2
          go_ret
          exact ⟨ret_bool HE.out.symm, HB3.out⟩
        · have HN : Hid (IdxOk L (k + 1) (putI q (.int .i64 (k : Int)) es) ∧ Vp L (k + 1)) := ⟨HIS.out, HSC.out (by rw [HSB.out]; exact decide_eq_true hll)⟩
          rw [decide_eq_false hll]
          clear hll HSB HNO HSC HIS HK
          go_wp2
          go_roundw
          case rel => exact ⟨k + 1, _, by omega, by go_num, HB4.out, HN.out⟩
          case measure => simp [intOf]; omega
    · obtain rfl : k = ps.length := by omega
      have HE : Hid (validRs L = true) := (valid_iff L).2 (by rw [HLE.out]; exact HK.out.2)
      go_wp2
      go_ret
      exact ⟨ret_bool HE.out.symm, HB.out.1⟩
end Go.Proofs.YtjbhabfflcbebaaGreat
/- Contract of payslip.Compare. Written by gen_cmp.py. -/
namespace Go.Proofs.YtjbhabfflcbebaaGreat
open Go.RowKit

/-- the lines with the opposite amounts -/
def negL (l : List Ln) : List Ln := l.map fun x => ⟨x.kind, x.code, -x.amt⟩
theorem negL_len (l : List Ln) : (negL l).length = l.length := by simp [negL]
theorem negL_snoc (l : List Ln) (k : Nat) (h : k < l.length) : negL (l.take (k + 1)) = negL (l.take k) ++ [⟨l[k].kind, l[k].code, -l[k].amt⟩] := by
  unfold negL
  rw [List.take_succ_eq_append_getElem h, List.map_append]; rfl
theorem sums_app (l : List Ln) (x : Ln) : sumsT (l ++ [x]) = addT (sumsT l) x := by simp [sumsT, List.foldl_append]
/-- the sums of a comparison -/
def diffT (x y : List Ln) : List Ln := sumsT (negL x ++ y)
def cmpE (a b : List Ln) : Int := if mergeE a = 0 then (if mergeE b = 0 then colE (diffT (mergeL a) (mergeL b)) else mergeE b) else mergeE a
def cmpR (a b : List Ln) : List Ln := if mergeE a = 0 then (if mergeE b = 0 then colL (diffT (mergeL a) (mergeL b)) else []) else []
theorem merge_tot {l : List Ln} : ∀ x ∈ mergeL l, -1000000000000 ≤ x.amt ∧ x.amt ≤ 1000000000000 := by
  intro x hx
  unfold mergeL at hx
  split at hx
  · unfold colL at hx
    split at hx
    · rename_i hc
      rw [mem_srtLn, List.mem_filter] at hx
      unfold colE at hc
      split at hc
      · rename_i ha
        have := List.all_eq_true.1 ha x hx.1
        simp [totB] at this; omega
      · cases hc
    · cases hx
  · cases hx
theorem merge_len (l : List Ln) : (mergeL l).length ≤ 65536 := by
  unfold mergeL
  split
  · rename_i h
    have hl : l.length ≤ 65536 := by
      unfold mergeE at h
      split at h
      · assumption
      · cases h
    unfold colL
    split
    · rw [srtLn_len]
      exact Nat.le_trans (List.length_filter_le _ _) (Nat.le_trans (sumsT_len l) hl)
    · simp
  · simp
theorem amt_small {l : List Ln} (h : ∀ x ∈ l, -1000000000000 ≤ x.amt ∧ x.amt ≤ 1000000000000) (hl : l.length ≤ 1000000) (k : Int) (c : ByteArray) : -1000000000000000000 ≤ amtT (sumsT l) k c ∧ amtT (sumsT l) k c ≤ 1000000000000000000 := by
  rw [amt_sums]
  have := sumT_bound (by omega) h k c
  omega
theorem neg_small {l : List Ln} (h : ∀ x ∈ l, -1000000000000 ≤ x.amt ∧ x.amt ≤ 1000000000000) : ∀ x ∈ negL l, -1000000000000 ≤ x.amt ∧ x.amt ≤ 1000000000000 := by
  intro x hx
  obtain ⟨y, hy, rfl⟩ := List.mem_map.1 hx
  have := h y hy
  dsimp only
  omega

set_option maxRecDepth 100000 in
set_option maxHeartbeats 3200000 in
theorem Compare_any (u v : Value) (a b : List Ln) (w : World) (hu : Sl w 3 u (lns a)) (hv : Sl w 3 v (lns b)) :
    Calls Tryz.prog 40 #[u, v] w (RetOwn2 w 51 3 (lns (cmpR a b)) (cmpE a b)) := by
  have HV := Lib.hid hv
  clear hv
  have hmm := @run_makeMap Tryz.prog
  go_enter Tryz.func40, Tryz.ntmps40
  go_wp2_with fail
  refine (Merge_any u a w hu).mono ?_
  rintro e w1 ⟨xv, rfl, hown1, hb1⟩
  have hs1 := hb1.size
  by_cases h1 : mergeE a = 0
  rotate_left
  · have HE : Hid (cmpE a b = mergeE a) := by rw [Hid, cmpE, if_neg h1]
    have HL : Hid (cmpR a b = []) := by rw [Hid, cmpR, if_neg h1]
    have hne : (mergeE a != 0) = true := by simpa using h1
    generalize mergeE a = E at *
    clear h1
    go_wp2_with fail
    go_ret2
    exact ⟨_, tup_int HE.out.symm, by rw [HL.out]; exact Own.nil _ _ _ _, hb1⟩
  have HE1 : Hid (cmpE a b = if mergeE b = 0 then colE (diffT (mergeL a) (mergeL b)) else mergeE b) := by rw [Hid, cmpE, if_pos h1]
  have HL1 : Hid (cmpR a b = if mergeE b = 0 then colL (diffT (mergeL a) (mergeL b)) else []) := by rw [Hid, cmpR, if_pos h1]
  rw [h1]
  clear h1
  go_wp2_with fail
  refine (Merge_any v b w1 (HV.out.below hb1)).mono ?_
  rintro e w2 ⟨yv, rfl, hown2, hb2⟩
  have hB2 := below_after hb1 hb2 hs1
  by_cases h2 : mergeE b = 0
  rotate_left
  · have HE : Hid (cmpE a b = mergeE b) := by rw [Hid, HE1.out, if_neg h2]
    have HL : Hid (cmpR a b = []) := by rw [Hid, HL1.out, if_neg h2]
    have hne : (mergeE b != 0) = true := by simpa using h2
    generalize mergeE b = E at *
    clear h2 HE1 HL1
    go_wp2_with fail
    go_ret2
    exact ⟨_, tup_int HE.out.symm, by rw [HL.out]; exact Own.nil _ _ _ _, hB2⟩
  have HE2 : Hid (cmpE a b = colE (diffT (mergeL a) (mergeL b))) := by rw [Hid, HE1.out, if_pos h2]
  have HL2 : Hid (cmpR a b = colL (diffT (mergeL a) (mergeL b))) := by rw [Hid, HL1.out, if_pos h2]
  rw [h2]
  clear h2 HE1 HL1
  have hx1 := merge_tot (l := a)
  have hy1 := merge_tot (l := b)
  have hx2 := merge_len a
  have hy2 := merge_len b
  obtain ⟨X, hX⟩ : ∃ X, X = mergeL a := ⟨_, rfl⟩
  obtain ⟨Y, hY⟩ : ∃ Y, Y = mergeL b := ⟨_, rfl⟩
  rw [← hX] at hx1 hx2 hown1 HE2 HL2
  rw [← hY] at hy1 hy2 hown2 HE2 HL2
  have HX1 := Lib.hid hx1
  have HY1 := Lib.hid hy1
  have HSX := Lib.hid ((hown1.sl (by omega)).below hb2)
  have HSY := Lib.hid (hown2.sl (by omega))
  obtain ⟨A, ca, rfl⟩ := hown1.form
  obtain ⟨B, cb, rfl⟩ := hown2.form
  rw [lns_len] at HSX
  rw [lns_len] at HSY
  rw [lns_len, lns_len]
  clear hX hY hx1 hy1 hown1 hown2 hb1 hb2
  have hs2 := hB2.size
  go_wp2_with fail
  clear hmm

  go_loopw [33] (fun i wr => ∃ k : Nat, k ≤ X.length ∧ i = .int .i64 k ∧ Below w2.heap.size w2 wr ∧ Hid (wr.heap[w2.heap.size]? = some (tObj (sumsT (negL (X.take k)))))) (fun i _ => X.length - (intOf i).toNat)
  case atStart => exact ⟨0, by omega, rfl, (Below.refl _ _).alloc (Nat.le_refl _) _, heap_alloc_new w2 _⟩
  case round =>
    obtain ⟨k, hk, rfl, hb, HM⟩ := hrel
    have hbs := hb.size
    have hms := lt_of_some HM.out
    by_cases hlt : k < X.length
    · obtain ⟨A', cap', hA, q1, q2, _, hc0⟩ := HSX.out
      injection hA with hA1 hA2 hA3
      subst hA1 hA3
      rcases hc0 with h | ⟨bb, off, rfl, hc0⟩
      · exact (lns_pos hlt h).elim
      · obtain ⟨c0, c1, c2⟩ := (hc0.below hb hc0.1).ln hlt
        unfold maxLen at q2
        rw [lns_len] at q1
        have hcm := amt_small (l := negL (X.take k)) (neg_small fun x hx => HX1.out x (List.mem_of_mem_take hx)) (by rw [negL_len, List.length_take]; omega) X[k].kind X[k].code
        have HS := Lib.hid (show sumsT (negL (X.take (k + 1))) = addT (sumsT (negL (X.take k))) ⟨X[k].kind, X[k].code, -X[k].amt⟩ by rw [negL_snoc X k hlt, sums_app])
        have ha := HX1.out X[k] (List.getElem_mem hlt)
        clear hc0 hA2
        go_wp2_with fail
        obtain ⟨w1, hw1⟩ : ∃ w1, w1 = wr.alloc (Obj.cells #[Value.int IntKind.i64 X[k].kind, Value.string X[k].code, Value.int IntKind.i64 X[k].amt] 51) := ⟨_, rfl⟩
        rw [← hw1]
        have hbw : Below wr.heap.size wr w1 := by rw [hw1]; exact (Below.refl _ _).alloc (Nat.le_refl _) _
        have hRw : Row w1 wr.heap.size 51 #[Value.int IntKind.i64 X[k].kind, Value.string X[k].code, Value.int IntKind.i64 X[k].amt] := by rw [hw1]; exact Row.new _ _ _
        obtain ⟨L0, hL0⟩ : ∃ L0, L0 = wr.heap.size := ⟨_, rfl⟩
        rw [← hL0] at hRw ⊢
        have k0 : w1.cell? ⟨L0, 0, none⟩ = some (.int .i64 X[k].kind) := hRw.cell 0
        have k1 : w1.cell? ⟨L0, 1, none⟩ = some (.string X[k].code) := hRw.cell 1
        have k2 : w1.cell? ⟨L0, 2, none⟩ = some (.int .i64 X[k].amt) := hRw.cell 2
        clear hw1 hL0 hRw c0 c1 c2
        have hm1 : w1.drew.heap[w2.heap.size]? = some (tObj (sumsT (negL (X.take k)))) := (hbw.block _ hms).trans HM.out
        have hL1 := run_lookup_title hm1 X[k].kind X[k].code
        obtain ⟨n, fs, hE, e1, hn1, hset, hat⟩ := run_entry_title hm1 X[k].kind X[k].code
        have hW2 : (setB w1.drew w2.heap.size (tObj fs)).heap[w2.heap.size]? = some (tObj fs) := setB_at (lt_of_some hm1)
        have hg2 : w1.drew.grownBy (setB w1.drew w2.heap.size (tObj fs)) (some w2.heap.size) := setB_grown
        generalize setB w1.drew w2.heap.size (tObj fs) = W2 at hE hW2 hg2
        have hL2 := run_lookup_title hW2 X[k].kind X[k].code
        rw [e1] at hL2
        have hS := run_store_title hW2 hn1 hat (amtT (sumsT (negL (X.take k))) X[k].kind X[k].code - X[k].amt) 84
        have hW3 : (setB W2 w2.heap.size (tObj (fs.set n ⟨X[k].kind, X[k].code, amtT (sumsT (negL (X.take k))) X[k].kind X[k].code - X[k].amt⟩))).heap[w2.heap.size]? = some (tObj (sumsT (negL (X.take (k + 1))))) := by
          rw [HS.out, addT]
          (try dsimp only)
          rw [← hset]; exact setB_at (lt_of_some hW2)
        have hg3 : W2.grownBy (setB W2 w2.heap.size (tObj (fs.set n ⟨X[k].kind, X[k].code, amtT (sumsT (negL (X.take k))) X[k].kind X[k].code - X[k].amt⟩))) (some w2.heap.size) := setB_grown
        generalize setB W2 w2.heap.size (tObj (fs.set n ⟨X[k].kind, X[k].code, amtT (sumsT (negL (X.take k))) X[k].kind X[k].code - X[k].amt⟩)) = W3 at hS hW3 hg3
        have hz1 : w2.heap.size ≤ w1.heap.size := Nat.le_trans hbs hbw.size
        have hz2 : w2.heap.size ≤ W2.heap.size := Nat.le_trans hz1 hg2.size
        have hB3 : Below w2.heap.size w2 W3 := ((below_after hb hbw hbs).drew.grown hg2 hz1 (fun k hk => by injection hk with hk; omega)).grown hg3 hz2 (fun k hk => by injection hk with hk; omega)
        have HW2 := Lib.hid hW2; have HW3 := Lib.hid hW3; have HM1 := Lib.hid hm1; have HSET := Lib.hid hset; have HAT := Lib.hid hat; have HEE := Lib.hid e1
        clear hW2 hW3 hm1 hset hat e1 HM
        generalize amtT (sumsT (negL (X.take k))) X[k].kind X[k].code = am at *
        go_region
        go_wp2_with fail
        go_roundw
        case rel => exact ⟨k + 1, by omega, by go_num, hB3, HW3⟩
        case measure => simp [intOf]; omega
    · obtain rfl : k = X.length := by omega
      go_wp2_with fail
      go_loopw [52] (fun i wr => ∃ k : Nat, k ≤ Y.length ∧ i = .int .i64 k ∧ Below w2.heap.size w2 wr ∧ Hid (wr.heap[w2.heap.size]? = some (tObj (sumsT (negL X ++ Y.take k))))) (fun i _ => Y.length - (intOf i).toNat)
      case atStart => exact ⟨0, by omega, rfl, hb, (by have := HM.out; rw [List.take_length] at this; show wr.heap[w2.heap.size]? = _; simpa using this)⟩
      case round =>
        obtain ⟨k, hk, rfl, hb, HM⟩ := hrel
        have hbs := hb.size
        have hms := lt_of_some HM.out
        by_cases hlt : k < Y.length
        · obtain ⟨A', cap', hA, q1, q2, _, hc0⟩ := HSY.out
          injection hA with hA1 hA2 hA3
          subst hA1 hA3
          rcases hc0 with h | ⟨bb, off, rfl, hc0⟩
          · exact (lns_pos hlt h).elim
          · obtain ⟨c0, c1, c2⟩ := (hc0.below hb hc0.1).ln hlt
            unfold maxLen at q2
            rw [lns_len] at q1
            have hcm := amt_small (l := negL X ++ Y.take k) (fun x hx => (List.mem_append.1 hx).elim (neg_small HX1.out x) (fun h => HY1.out x (List.mem_of_mem_take h))) (by rw [List.length_append, negL_len, List.length_take]; omega) Y[k].kind Y[k].code
            have HS := Lib.hid (show sumsT (negL X ++ Y.take (k + 1)) = addT (sumsT (negL X ++ Y.take k)) Y[k] by rw [List.take_succ_eq_append_getElem hlt, ← List.append_assoc, sums_app])
            have ha := HY1.out Y[k] (List.getElem_mem hlt)
            clear hc0 hA2
            go_wp2_with fail
            obtain ⟨w1, hw1⟩ : ∃ w1, w1 = wr.alloc (Obj.cells #[Value.int IntKind.i64 Y[k].kind, Value.string Y[k].code, Value.int IntKind.i64 Y[k].amt] 51) := ⟨_, rfl⟩
            rw [← hw1]
            have hbw : Below wr.heap.size wr w1 := by rw [hw1]; exact (Below.refl _ _).alloc (Nat.le_refl _) _
            have hRw : Row w1 wr.heap.size 51 #[Value.int IntKind.i64 Y[k].kind, Value.string Y[k].code, Value.int IntKind.i64 Y[k].amt] := by rw [hw1]; exact Row.new _ _ _
            obtain ⟨L0, hL0⟩ : ∃ L0, L0 = wr.heap.size := ⟨_, rfl⟩
            rw [← hL0] at hRw ⊢
            have k0 : w1.cell? ⟨L0, 0, none⟩ = some (.int .i64 Y[k].kind) := hRw.cell 0
            have k1 : w1.cell? ⟨L0, 1, none⟩ = some (.string Y[k].code) := hRw.cell 1
            have k2 : w1.cell? ⟨L0, 2, none⟩ = some (.int .i64 Y[k].amt) := hRw.cell 2
            clear hw1 hL0 hRw c0 c1 c2
            have hm1 : w1.drew.heap[w2.heap.size]? = some (tObj (sumsT (negL X ++ Y.take k))) := (hbw.block _ hms).trans HM.out
            have hL1 := run_lookup_title hm1 Y[k].kind Y[k].code
            obtain ⟨n, fs, hE, e1, hn1, hset, hat⟩ := run_entry_title hm1 Y[k].kind Y[k].code
            have hW2 : (setB w1.drew w2.heap.size (tObj fs)).heap[w2.heap.size]? = some (tObj fs) := setB_at (lt_of_some hm1)
            have hg2 : w1.drew.grownBy (setB w1.drew w2.heap.size (tObj fs)) (some w2.heap.size) := setB_grown
            generalize setB w1.drew w2.heap.size (tObj fs) = W2 at hE hW2 hg2
            have hL2 := run_lookup_title hW2 Y[k].kind Y[k].code
            rw [e1] at hL2
            have hS := run_store_title hW2 hn1 hat (amtT (sumsT (negL X ++ Y.take k)) Y[k].kind Y[k].code + Y[k].amt) 84
            have hW3 : (setB W2 w2.heap.size (tObj (fs.set n ⟨Y[k].kind, Y[k].code, amtT (sumsT (negL X ++ Y.take k)) Y[k].kind Y[k].code + Y[k].amt⟩))).heap[w2.heap.size]? = some (tObj (sumsT (negL X ++ Y.take (k + 1)))) := by
              rw [HS.out, addT]
              (try dsimp only)
              rw [← hset]; exact setB_at (lt_of_some hW2)
            have hg3 : W2.grownBy (setB W2 w2.heap.size (tObj (fs.set n ⟨Y[k].kind, Y[k].code, amtT (sumsT (negL X ++ Y.take k)) Y[k].kind Y[k].code + Y[k].amt⟩))) (some w2.heap.size) := setB_grown
            generalize setB W2 w2.heap.size (tObj (fs.set n ⟨Y[k].kind, Y[k].code, amtT (sumsT (negL X ++ Y.take k)) Y[k].kind Y[k].code + Y[k].amt⟩)) = W3 at hS hW3 hg3
            have hz1 : w2.heap.size ≤ w1.heap.size := Nat.le_trans hbs hbw.size
            have hz2 : w2.heap.size ≤ W2.heap.size := Nat.le_trans hz1 hg2.size
            have hB3 : Below w2.heap.size w2 W3 := ((below_after hb hbw hbs).drew.grown hg2 hz1 (fun k hk => by injection hk with hk; omega)).grown hg3 hz2 (fun k hk => by injection hk with hk; omega)
            have HW2 := Lib.hid hW2; have HW3 := Lib.hid hW3; have HM1 := Lib.hid hm1; have HSET := Lib.hid hset; have HAT := Lib.hid hat; have HEE := Lib.hid e1
            clear hW2 hW3 hm1 hset hat e1 HM
            generalize amtT (sumsT (negL X ++ Y.take k)) Y[k].kind Y[k].code = am at *
            go_region
            go_wp2_with fail
            go_roundw
            case rel => exact ⟨k + 1, by omega, by go_num, hB3, HW3⟩
            case measure => simp [intOf]; omega
        · obtain rfl : k = Y.length := by omega
          have hBw := below_after hB2 hb hs2
          have HM' := HM.out
          rw [List.take_length] at HM'
          have HMM : Hid (wr.heap[w2.heap.size]? = some (tObj (diffT X Y))) := HM'
          clear HM HM'
          have hdl : (diffT X Y).length ≤ 1000000 := by
            have := sumsT_len (negL X ++ Y)
            rw [List.length_append, negL_len] at this
            unfold diffT; omega
          go_wp2_with (go_at_call 57; refine (collect_any _ _ _ HMM.out (sumsT_dist _) hdl).mono ?_; rintro e w5 ⟨x, rfl, hown5, hb5⟩)
          go_ret2
          exact ⟨_, tup_int HE2.out.symm, by rw [HL2.out]; exact hown5.more hBw.size, below_after hBw hb5 hBw.size⟩

end Go.Proofs.YtjbhabfflcbebaaGreat
/- refile.Change. -/
namespace Go.Proofs.YtjbhabfflcbebaaGreat
open Go.RowKit Go.Shelf

/-- the lines of the last return of a period but one -/
def befP (l : List Ret) (p : Int) : List Ln := linP ((ofP l p).dropLast) p
theorem ofP_of (l : List Ret) (p : Int) : ofP (ofP l p) p = ofP l p := by simp [ofP, List.filter_filter]
theorem ofP_drop (l : List Ret) (p : Int) : ofP ((ofP l p).dropLast) p = (ofP l p).dropLast := by
  unfold ofP
  rw [List.filter_eq_self]
  intro r hr
  have := List.mem_filter.1 (List.dropLast_subset _ hr)
  exact this.2
theorem befP_snoc (l : List Ret) (r : Ret) (p : Int) : befP (l ++ [r]) p = if r.p = p then linP l p else befP l p := by
  unfold befP
  rw [ofP_snoc]
  by_cases h : r.p = p
  · rw [if_pos h, if_pos h, List.dropLast_concat]
    unfold linP
    rw [ofP_of]
  · rw [if_neg h, if_neg h]
theorem linP_snoc (l : List Ret) (r : Ret) (p : Int) : linP (l ++ [r]) p = if r.p = p then r.l else linP l p := by
  rw [linP_lat, latP_snoc, linP_lat]
  split <;> rfl
theorem ofP_nsnoc (l : List Ret) (r : Ret) (p : Int) : (ofP (l ++ [r]) p).length = if r.p = p then (ofP l p).length + 1 else (ofP l p).length := by
  rw [ofP_snoc]
  split <;> simp
/-- what the last return of a period changes -/
def chgL (l : List Ret) (p : Int) : List Ln := if validRs l then (if (ofP l p).length < 2 then linP l p else cmpR (befP l p) (linP l p)) else []

set_option maxRecDepth 100000 in
set_option maxHeartbeats 4000000 in
theorem RChange_any (ps : List (Ret × Value)) (v : Value) (p : Int) (w : World) (hv : RetsAt w v ps) (hl : ∀ q ∈ ps, q.1.l.length ≤ 65536) (hlen : ps.length ≤ 60000) :
    Calls Tryz.prog 24 #[v, .int .i64 p] w (RetOwn w 51 3 (lns (chgL (ps.map (·.1)) p))) := by
  have HV := Lib.hid hv
  have HL := Lib.hid hl
  have HVC := Lib.hid (RValid_any ps v w hv hl)
  obtain ⟨A, cap, rfl, h1, h2, _, _⟩ := hv.sl
  rw [rets_len] at h1 HV HVC ⊢
  unfold maxLen at h2
  have HLE : Hid ((ps.map (·.1)).length = ps.length) := by rw [Hid, List.length_map]
  have HLX : Hid (∀ (j : Nat) (h : j < (ps.map (·.1)).length) (h' : j < ps.length), (ps.map (·.1))[j] = (ps[j]'h').1) := fun j h h' => by rw [List.getElem_map]
  obtain ⟨L, hL⟩ : ∃ L, ps.map (·.1) = L := ⟨_, rfl⟩
  rw [hL] at HLE HLX HVC ⊢
  have HCH : Hid (chgL L p = if validRs L then (if (ofP L p).length < 2 then linP L p else cmpR (befP L p) (linP L p)) else []) := rfl
  clear hL hl hv
  cases hvr : validRs L
  · rw [hvr] at HVC HCH
    have HE : Hid (chgL L p = []) := HCH.out
    clear hvr
    go_enter Tryz.func24, Tryz.ntmps24
    go_wp2_with fail
    refine HVC.out.mono ?_
    rintro e w1 ⟨rfl, hb1⟩
    have HB1 := Lib.hid hb1
    clear hb1
    go_wp2
    go_ret
    exact ⟨_, rfl, by rw [HE.out]; exact Own.nil _ _ _ _, HB1.out⟩
  rw [hvr] at HVC HCH
  have HE : Hid (chgL L p = if (ofP L p).length < 2 then linP L p else cmpR (befP L p) (linP L p)) := HCH.out
  clear hvr HCH
  go_enter Tryz.func24, Tryz.ntmps24
  go_wp2_with fail
  refine HVC.out.mono ?_
  rintro e w1 ⟨rfl, hb1⟩
  have HB1 := Lib.hid hb1
  clear hb1 HVC
  go_wp2
  go_loopw [5, 6, 7, 17] (fun x y n i wr => ∃ k : Nat, k ≤ ps.length ∧ i = .int .i64 k ∧ n = .int .i64 ((ofP (L.take k) p).length : Nat) ∧ (ofP (L.take k) p).length ≤ k ∧ Hid (Below w.heap.size w wr) ∧ Hid (Sl w 3 x (lns (befP (L.take k) p)) ∧ Sl w 3 y (lns (linP (L.take k) p)) ∧ (linP (L.take k) p).length ≤ 65536)) (fun _ _ _ i _ => ps.length - (intOf i).toNat)
  case atStart => exact ⟨0, by omega, rfl, rfl, by simp [ofP], HB1.out, Sl.nil _ _, Sl.nil _ _, by simp [linP, ofP]⟩
  case round =>
    clear HB1
    obtain ⟨k, hk, rfl, rfl, hn, HB, HX⟩ := hrel
    obtain ⟨wo, rfl⟩ : ∃ wo : World, wo = wr := ⟨_, rfl⟩
    by_cases hlt : k < ps.length
    · have hltL : k < L.length := by rw [HLE.out]; exact hlt
      obtain ⟨bk, off, rfl, hc⟩ := (HV.out.below HB.out).sl.cells (by rw [rets_len]; omega)
      obtain ⟨c0, c1, c2⟩ := hc.ret hlt
      have i1 : (k : Int) < (ps.length : Int) := by omega
      have htk : L.take (k + 1) = L.take k ++ [(ps[k]).1] := by rw [take_snoc hltL, HLX.out k hltL hlt]
      have hln := HV.out.ln _ (List.getElem_mem hlt)
      have hlx := HL.out _ (List.getElem_mem hlt)
      obtain ⟨⟨X, xv⟩, hx⟩ : ∃ x, ps[k] = x := ⟨_, rfl⟩
      rw [hx] at c0 c1 c2 htk hln hlx
      obtain ⟨Ax, nx, cx, hxv⟩ := hln.is
      simp only at hxv
      subst hxv
      have H1 := Lib.hid (befP_snoc (L.take k) X p)
      have H2 := Lib.hid (linP_snoc (L.take k) X p)
      have H3 := Lib.hid (ofP_nsnoc (L.take k) X p)
      rw [← htk] at H1 H2 H3
      obtain ⟨q, qv, ql⟩ := X
      simp only at c0 c1 c2 H1 H2 H3 hln hlx
      clear hx hc htk
      have HAL := Lib.hid (HB.out.alloc HB.out.size (.cells #[.int .i64 q, .int .i64 qv, .slice Ax nx cx] 32))
      by_cases hqp : q = p
      · have n1 : (q == p) = true := by simpa using hqp
        rw [if_pos hqp] at H1 H2 H3
        have HN : Hid (Sl w 3 _ (lns (befP (L.take (k + 1)) p)) ∧ Sl w 3 (.slice Ax nx cx) (lns (linP (L.take (k + 1)) p)) ∧ (linP (L.take (k + 1)) p).length ≤ 65536) := ⟨by rw [H1.out]; exact HX.out.2.1, by rw [H2.out]; exact hln, by rw [H2.out]; exact hlx⟩
        clear hqp hln hlx H1 H2 HX HB
        go_wp2_with fail
        go_quiet (fail)
        go_wp2
        go_roundw
        case rel => exact ⟨k + 1, by omega, by go_num, by rw [H3.out]; go_num, by rw [H3.out]; omega, Below.draws HAL.out _, HN.out⟩
        case measure => simp [intOf]; omega
      · have n1 : (q == p) = false := by simpa using hqp
        rw [if_neg hqp] at H1 H2 H3
        have HN : Hid (Sl w 3 _ (lns (befP (L.take (k + 1)) p)) ∧ Sl w 3 _ (lns (linP (L.take (k + 1)) p)) ∧ (linP (L.take (k + 1)) p).length ≤ 65536) := ⟨by rw [H1.out]; exact HX.out.1, by rw [H2.out]; exact HX.out.2.1, by rw [H2.out]; exact HX.out.2.2⟩
        clear hqp hln hlx H1 H2 HX HB
        go_wp2
        go_roundw
        case rel => exact ⟨k + 1, by omega, by go_num, by rw [H3.out], by rw [H3.out]; omega, HAL.out, HN.out⟩
        case measure => simp [intOf]; omega
    · obtain rfl : k = ps.length := by omega
      have hle : L.take ps.length = L := by rw [← HLE.out, List.take_length]
      rw [hle] at hn HX ⊢
      obtain ⟨nn, hnn⟩ : ∃ n, (ofP L p).length = n := ⟨_, rfl⟩
      rw [hnn] at hn HE ⊢
      clear hle hnn
      by_cases h2 : nn < 2
      · rw [if_pos h2] at HE
        have d1 : (nn : Int) < 2 := by omega
        have HCL := Lib.hid (fun y (hy : Sl w 3 y (lns (linP L p))) => cloneLn_any _ y wo (hy.below HB.out) HX.out.2.2)
        clear h2
        go_wp2_with fail
        refine (HCL.out _ HX.out.2.1).mono ?_
        rintro e w2 ⟨v2, rfl, hown2, hb2⟩
        have HF := Lib.hid (And.intro (hown2.more HB.out.size) (below_after HB.out hb2 HB.out.size))
        clear hown2 hb2
        go_wp2
        go_ret
        exact ⟨_, rfl, by rw [HE.out]; exact HF.out.1, HF.out.2⟩
      · rw [if_neg h2] at HE
        have d1 : ¬ (nn : Int) < 2 := by omega
        have HCL := Lib.hid (fun x y (hx : Sl w 3 x (lns (befP L p))) (hy : Sl w 3 y (lns (linP L p))) => Compare_any x y _ _ wo (hx.below HB.out) (hy.below HB.out))
        clear h2
        go_wp2_with fail
        refine (HCL.out _ _ HX.out.1 HX.out.2.1).mono ?_
        rintro e w2 ⟨v2, rfl, hown2, hb2⟩
        have HF := Lib.hid (And.intro (hown2.more HB.out.size) (below_after HB.out hb2 HB.out.size))
        clear hown2 hb2
        go_wp2
        go_ret
        exact ⟨_, rfl, by rw [HE.out]; exact HF.out.1, HF.out.2⟩
end Go.Proofs.YtjbhabfflcbebaaGreat
/- slices.Backward at returns: what it yields. -/
namespace Go.Proofs.YtjbhabfflcbebaaGreat
open Go.RowKit Go.Shelf
attribute [local go_sem] Oper.semAt_some

/-- the places from n - 1 down to r -/
def down (n r : Nat) : List (Fin n) := ((List.finRange n).reverse).take (n - r)
theorem down_top (n : Nat) : down n n = [] := by simp [down]
theorem down_len {n r : Nat} : (down n r).length = n - r := by simp [down]
theorem down_succ {n j : Nat} (h : j < n) : down n j = down n (j + 1) ++ [⟨j, h⟩] := by
  unfold down
  have e : n - j = (n - (j + 1)) + 1 := by omega
  rw [e, List.take_succ_eq_append_getElem (by simp; omega)]
  congr 2
  rw [List.getElem_reverse, List.getElem_finRange]
  ext
  simp
  omega
theorem down_mem {n r : Nat} (x : Fin n) : x ∈ down n r ↔ r ≤ x.1 := by
  have key : ∀ k, r + k = n ∨ n ≤ r → (x ∈ down n r ↔ r ≤ x.1) := by
    intro k
    induction k generalizing r with
    | zero =>
      intro h
      have : down n r = [] := by unfold down; rw [show n - r = 0 by omega]; rfl
      rw [this]
      simp
      omega
    | succ k ih =>
      intro h
      rcases h with h | h
      · have hr : r < n := by omega
        rw [down_succ hr, List.mem_append, ih (r := r + 1) (.inl (by omega)), List.mem_singleton]
        constructor
        · rintro (h | rfl)
          · omega
          · exact Nat.le_refl _
        · intro h
          rcases Nat.lt_or_ge r x.1 with h | h
          · exact .inl h
          · exact .inr (Fin.ext (by simp; omega))
      · have : down n r = [] := by unfold down; rw [show n - r = 0 by omega]; rfl
        rw [this]
        simp
        omega
  exact key (n - r) (by omega)
/-- what the iterator hands over -/
def encRv (ps : List (Ret × Value)) (x : Fin ps.length) : Array Value := #[.int .i64 (x.1 : Int), .agg ((ps[x.1]'x.2).1.vals (ps[x.1]'x.2).2)]

set_option maxRecDepth 100000 in
set_option maxHeartbeats 2000000 in
theorem bw_stops (n : Nat) (hn : 1 ≤ n) (Bs : Nat) (A : Option Addr) (cap : Nat) (ps : List (Ret × Value)) (w : World) (hBs : Bs < w.heap.size) (hc : w.cell? ⟨Bs, 0, none⟩ = some (.slice A ps.length cap)) (hv : RetsAt w (.slice A ps.length cap) ps) (hlen : ps.length ≤ 1000000) :
    SeqStopsK Fence.wide n Tryz.prog 43 #[.pointer (some ⟨Bs, 0, none⟩)] (encRv ps) (Below w.heap.size) (fun ys => ys = down ps.length 0) (fun pre => ∃ r, r ≤ ps.length ∧ pre = down ps.length r) ps.length w := fun l J Jx W hW _ _ hY h0 => by
  have HV := Lib.hid hv
  have HC := Lib.hid hc
  have HW := Lib.hid hW
  have HY := Lib.hid hY
  have c0 := (hW.cell (p := ⟨Bs, 0, none⟩) hBs).trans hc
  have h0' : Hid (J (down ps.length ps.length) W) := by rw [Hid, down_top]; exact h0
  have ew : IntKind.i64.wrap ((ps.length : Int) - 1) = (ps.length : Int) - 1 := IntWalk.i64_in _ (by omega)
  clear hv hc hW hY h0
  refine callsIn_of_wp Tryz.func43 rfl trivial ?_ rfl
  simp only [Tryz.ntmps43, List.size_toArray, List.length_cons, List.length_nil, Nat.reduceAdd, Nat.reduceSub, Array.replicate_succ, Array.replicate_zero, List.push_toArray, List.append_toArray, List.nil_append, List.cons_append]
  gi_wp2
  gi_loopw [3] (fun i wr => ∃ r : Nat, r ≤ ps.length ∧ i = .int .i64 ((r : Int) - 1) ∧ Hid (J (down ps.length r) wr) ∧ Hid (Below w.heap.size w wr)) (fun i _ => (intOf i + 1).toNat)
  case atStart => exact ⟨ps.length, Nat.le_refl _, rfl, h0'.out, HW.out⟩
  case round =>
    clear c0 h0' ew
    obtain ⟨r, hr, rfl, HJ, HB⟩ := hrel
    have c0 := (HB.out.cell (p := ⟨Bs, 0, none⟩) hBs).trans HC.out
    cases r with
    | zero =>
      have d0 : ¬ (0 : Int) ≤ ((0 : Nat) : Int) - 1 := by omega
      have d1 : decide ((0 : Int) ≤ ((0 : Nat) : Int) - 1) = false := decide_eq_false d0
      gi_wp2
      go_end0
      exact ⟨⟨_, rfl⟩, .inl (by first | exact HJ.out | exact ⟨_, rfl, HJ.out⟩)⟩
    | succ j =>
      have hj : j < ps.length := by omega
      have s1 : (((j + 1 : Nat) : Int)) - 1 = (j : Int) := by omega
      have ew : IntKind.i64.wrap ((j : Int) - 1) = (j : Int) - 1 := IntWalk.i64_in _ (by omega)
      rw [s1]
      obtain ⟨bk, off, rfl, hcc⟩ := (HV.out.below HB.out).sl.cells (by rw [rets_len]; omega)
      obtain ⟨e0, e1, e2⟩ := hcc.ret hj
      have i1 : (j : Int) < (ps.length : Int) := by omega
      obtain ⟨fn, tmps, assign, body, hy, hR⟩ := HY.out _ ⟨j, hj⟩ wr HJ.out (by rw [down_len]; omega)
      have HN : Hid (∀ W', J (down ps.length (j + 1) ++ [⟨j, hj⟩]) W' → J (down ps.length j) W') := fun W' h => by rw [down_succ hj]; exact h
      have HNX : Hid (∀ W', Jx (down ps.length (j + 1) ++ [⟨j, hj⟩]) W' → Jx (down ps.length j) W') := fun W' h => by rw [down_succ hj]; exact h
      simp only [encRv, Ret.vals] at hy
      clear hcc s1
      gi_wp2
      refine hR.mono ?_
      rintro e W3 (⟨rfl, hJ3, hk3⟩ | ⟨rfl, hJx3⟩)
      · have HE : Hid (J (down ps.length j) W3 ∧ Below w.heap.size w W3) := ⟨HN.out _ hJ3, HB.out.trans hk3⟩
        clear hJ3 hk3
        gi_wp2
        go_roundw
        case rel => exact ⟨j, by omega, rfl, HE.out.1, HE.out.2⟩
        case measure => simp [intOf]
      · have HE := Lib.hid (HNX.out _ hJx3)
        gi_wp2
        refine bodyPost_ret (results_none rfl _ _ _) rfl ?_
        exact ⟨⟨_, rfl⟩, .inr ⟨_, ⟨j, by omega, rfl⟩, HE.out⟩⟩
theorem Backward_any (A : Option Addr) (n cap : Nat) (w : World) :
    Calls Tryz.prog 28 #[.slice A n cap] w fun e w' => e = .returned (.func (.func 43) #[] #[.pointer (some ⟨w.heap.size, 0, none⟩)]) ∧ w' = w.alloc (.cells #[.slice A n cap] 22) := by
  go_enter Tryz.func28, Tryz.ntmps28
  go_wp2
  go_ret
  exact ⟨rfl, rfl⟩
end Go.Proofs.YtjbhabfflcbebaaGreat
/- refile.Latest: a range over slices.Backward. -/
namespace Go.Proofs.YtjbhabfflcbebaaGreat
open Go.RowKit Go.Shelf
attribute [local go_sem] Oper.semAt_some

/-- the blocks of Latest: the period, the two results, the slice -/
structure LtB (w W : World) (B : Nat) (v : Value) (p : Int) : Prop where
  per : Row W B 3 #[.int .i64 p]
  res : Row W (B + 1) 32 #[.int .i64 0, .int .i64 0, .slice none 0 0]
  ok : Row W (B + 1 + 1) 4 #[.bool false]
  box : Row W (B + 1 + 1 + 1) 22 #[v]
  low : w.heap.size ≤ B
  below : Below w.heap.size w W
theorem ltB_new (w : World) (v : Value) (p : Int) : LtB w ((((w.alloc (.cells #[.int .i64 p] 3)).alloc (.cells #[.int .i64 0, .int .i64 0, .slice none 0 0] 32)).alloc (.cells #[.bool false] 4)).alloc (.cells #[v] 22)) w.heap.size v p := by
  refine ⟨(((Row.new w _ _).alloc _).alloc _).alloc _, ?_, ?_, ?_, Nat.le_refl _, ((((Below.refl _ _).alloc (Nat.le_refl _) _).alloc (by simp) _).alloc (by simp; omega) _).alloc (by simp; omega) _⟩
  · have := ((Row.new (w.alloc (.cells #[.int .i64 p] 3)) 32 #[.int .i64 0, .int .i64 0, .slice none 0 0]).alloc (.cells #[.bool false] 4)).alloc (.cells #[v] 22)
    rwa [World.size_alloc] at this
  · have := (Row.new ((w.alloc (.cells #[.int .i64 p] 3)).alloc (.cells #[.int .i64 0, .int .i64 0, .slice none 0 0] 32)) 4 #[.bool false]).alloc (.cells #[v] 22)
    rwa [World.size_alloc, World.size_alloc] at this
  · have := Row.new (((w.alloc (.cells #[.int .i64 p] 3)).alloc (.cells #[.int .i64 0, .int .i64 0, .slice none 0 0] 32)).alloc (.cells #[.bool false] 4)) 22 #[v]
    rwa [World.size_alloc, World.size_alloc, World.size_alloc] at this
theorem grownBy_of_below {w w' : World} {row : Option Nat} (h : Below w.heap.size w w') : w.grownBy w' row := ⟨h.os, h.tape, h.output, h.size, fun k hk _ => h.block k hk⟩
theorem row_own {B : Nat} {W W' : World} {row : Option Nat} {g : Nat} {t : TypeId} {a : Array Value} (h : Row W g t a) (hg : W.grownBy W' row) (hr : ∀ r, row = some r → B ≤ r ∧ ∃ o : Obj, W.heap[r]? = some o ∧ o.isCells = false) : Row W' g t a :=
  h.keep hg fun e => by
    obtain ⟨_, o, ho, hc⟩ := hr g e.symm
    unfold Row at h
    rw [h] at ho
    cases ho
    cases hc
theorem own_own {B : Nat} {W W' : World} {row : Option Nat} {base e sz : Nat} {v : Value} {es : List (List Value)} (h : Own W base e sz v es) (hg : W.grownBy W' row) (hr : ∀ r, row = some r → B ≤ r ∧ ∃ o : Obj, W.heap[r]? = some o ∧ o.isCells = false) : Own W' base e sz v es :=
  h.keepG hg (by
    rcases h.1.2 with ⟨rfl, _⟩ | ⟨g1, c1, cur1, rfl, _, hg1, _⟩
    · exact .inl rfl
    · refine .inr fun e => ?_
      obtain ⟨_, o, ho, hc⟩ := hr g1 (by rw [← e]; rfl)
      rw [hg1] at ho
      cases ho
      cases hc)
/-- the results are laid -/
def LtX (w : World) (B : Nat) (ps : List (Ret × Value)) (p : Int) (pre : List (Fin ps.length)) (W : World) : Prop :=
  ∃ (ini : List (Fin ps.length)) (x : Fin ps.length) (u : Value), pre = ini ++ [x] ∧ (∀ y ∈ ini, (ps[y.1]'y.2).1.p ≠ p) ∧ (ps[x.1]'x.2).1.p = p ∧
    Row W (B + 1) 32 #[.int .i64 (ps[x.1]'x.2).1.p, .int .i64 (ps[x.1]'x.2).1.v, u] ∧ Row W (B + 1 + 1) 4 #[.bool true] ∧ Own W w.heap.size 51 3 u (lns (ps[x.1]'x.2).1.l)

set_option maxRecDepth 100000 in
set_option maxHeartbeats 8000000 in
theorem RLatest_any (ps : List (Ret × Value)) (v : Value) (p : Int) (w : World) (hv : RetsAt w v ps) (hl : ∀ q ∈ ps, q.1.l.length ≤ 65536) (hlen : ps.length ≤ 1000000) :
    Calls Tryz.prog 11 #[v, .int .i64 p] w (RetLat (latP (ps.map (·.1)) p) (hasP (ps.map (·.1)) p) w) := by
  have HV := Lib.hid hv
  have HL := Lib.hid hl
  obtain ⟨A, cap, rfl, _, _, _, _⟩ := hv.sl
  rw [rets_len] at HV ⊢
  have HNO : Hid ((∀ j (h : j < ps.length), (ps[j]'h).1.p ≠ p) → latP (ps.map (·.1)) p = ⟨0, 0, []⟩ ∧ hasP (ps.map (·.1)) p = false) := fun h => lat_none fun j hj => by
    rw [List.getElem_map]
    exact h j (by rw [List.length_map] at hj; exact hj)
  have HAT : Hid (∀ j (h : j < ps.length), (ps[j]'h).1.p = p → (∀ i (h : i < ps.length), j < i → (ps[i]'h).1.p ≠ p) → latP (ps.map (·.1)) p = (ps[j]'h).1 ∧ hasP (ps.map (·.1)) p = true) := fun j hj hp h => by
    have hjl : j < (ps.map (·.1)).length := by rw [List.length_map]; exact hj
    have hlat := lat_at (p := p) hjl (by rw [List.getElem_map]; exact hp) (fun i hi hri => by
      rw [List.getElem_map]
      exact h i (by rw [List.length_map] at hi; exact hi) hri)
    rw [List.getElem_map] at hlat
    exact hlat
  obtain ⟨lt, hlt⟩ : ∃ lt, latP (ps.map (·.1)) p = lt := ⟨_, rfl⟩
  obtain ⟨hs, hhs⟩ : ∃ hs, hasP (ps.map (·.1)) p = hs := ⟨_, rfl⟩
  rw [hlt, hhs] at HNO HAT ⊢
  clear hv hl hlt hhs
  refine (callsIn_wide (n := 5)).1 ?_
  refine callsIn_of_wp_marks Tryz.func11 rfl trivial ?_ rfl
  simp only [Tryz.ntmps11, List.size_toArray, List.length_cons, List.length_nil, Nat.reduceAdd, Nat.reduceSub, Array.replicate_succ, Array.replicate_zero, List.push_toArray, List.append_toArray, List.nil_append, List.cons_append]
  gi_wp2_with (refine ⟨trivial, ?_⟩; gi_at_call 28; refine (callsIn_wide.2 (Backward_any _ _ _ _)).mono ?_; rintro e w' ⟨rfl, rfl⟩)
  have HN := ltB_new w (.slice A ps.length cap) p
  obtain ⟨B, hB⟩ : ∃ B, w.heap.size = B := ⟨_, rfl⟩
  rw [hB] at HN ⊢
  obtain ⟨W0, hW0⟩ : ∃ W0, (((w.alloc (.cells #[.int .i64 p] 3)).alloc (.cells #[.int .i64 0, .int .i64 0, .slice none 0 0] 32)).alloc (.cells #[.bool false] 4)).alloc (.cells #[.slice A ps.length cap] 22) = W0 := ⟨_, rfl⟩
  rw [hW0] at HN ⊢
  have hsz : W0.heap.size = B + 4 := by rw [← hW0, ← hB]; simp
  have HNB := Lib.hid HN
  clear hW0
  have HP := Lib.hid (HN.per.cell 0)
  have hBw := HN.low
  have hlt3 := HN.box.lt
  have HS := bw_stops (5 - 1) (by omega) (B + 1 + 1 + 1) A cap ps W0 HN.box.lt (HN.box.cell 0) (HV.out.below HN.below) hlen
  clear HN
  refine wpIn_rangeFunc_ownH rfl (by omega) (gf := 43) (lb := #[.pointer (some ⟨B + 1 + 1 + 1, 0, none⟩)]) rfl trivial (enters_of Tryz.func43 (by kernel_rfl) rfl)
    HS belowK_t (belowK_b (Nat.le_refl _)) (Below.refl _ _) (fun _ => rfl)
    (fun pre W => (∀ y ∈ pre, (ps[y.1]'y.2).1.p ≠ p) ∧ Below W0.heap.size W0 W)
    (fun c pre W => (c = .ret ∧ LtX w B ps p pre W) ∧ Below w.heap.size w W)
    (OwnFrom.and (ownFrom_pure _ _) (ownFrom_below (Nat.le_refl _) (Nat.le_refl _)))
    (fun c => OwnFrom.and (fun pre X Y row hs hg hr => by
      obtain ⟨hc, ini, x, u, e1, e2, e3, r1, r2, ho⟩ := hs
      exact ⟨hc, ini, x, u, e1, e2, e3, row_own r1 hg hr, row_own r2 hg hr, own_own ho hg hr⟩) (ownFrom_below (Nat.le_refl _) (by omega)))
    ⟨(fun _ h => by cases h), Below.refl _ _⟩
    (fun x a' W => ∃ Bx, W0.heap.size ≤ Bx ∧ Row W Bx 32 #[.int .i64 (ps[x.1]'x.2).1.p, .int .i64 (ps[x.1]'x.2).1.v, (ps[x.1]'x.2).2] ∧ a' = { tmps := #[.slice A ps.length cap, .int .i64 p, undef, .pointer (some ⟨B, 0, none⟩), .pointer (some ⟨B + 1, 0, none⟩), .pointer (some ⟨B + 1 + 1, 0, none⟩), undef, .pointer (some ⟨Bx, 0, none⟩), .slice A ps.length cap, .func (.func 43) #[] #[.pointer (some ⟨B + 1 + 1 + 1, 0, none⟩)], .int .i64 (x.1 : Int), .agg #[.int .i64 (ps[x.1]'x.2).1.p, .int .i64 (ps[x.1]'x.2).1.v, (ps[x.1]'x.2).2], undef, undef, undef, undef, undef, undef, undef, undef, undef, undef], defers := [] })
    (fun x a' _ X Y row hs hg hr => by obtain ⟨Bx, h1, h2, h3⟩ := hs; exact ⟨Bx, h1, row_own h2 hg hr, h3⟩)
    ?assign ?body ?done ?stop
  case assign =>
    rintro l pre x W K ⟨hp, hb⟩ hK
    have hxis := (HV.out.ln _ (List.getElem_mem x.2)).is
    obtain ⟨⟨X, Xv⟩, hX⟩ : ∃ X, ps[x.1]'x.2 = X := ⟨_, rfl⟩
    simp only [encRv, Ret.vals]
    simp only [hX] at hK hxis ⊢
    obtain ⟨Ax, nx, cx, rfl⟩ := hxis
    clear hX
    have HK := Lib.hid hK
    have hb1 := (Below.refl W0.heap.size W).alloc hb.size (.cells #[.int .i64 X.p, .int .i64 X.v, Value.slice Ax nx cx] 32)
    have HF := Lib.hid (And.intro ((KeepsOthers.alloc W (.cells #[.int .i64 X.p, .int .i64 X.v, Value.slice Ax nx cx] 32)).from W0.heap.size) (And.intro hb1 (And.intro (And.intro hp (hb.trans hb1)) (And.intro hb.size (Row.new W 32 #[.int .i64 X.p, .int .i64 X.v, Value.slice Ax nx cx])))))
    clear hK hb1 hp hb
    gi_wp2
    obtain ⟨f1, f2, f3, f4, f5⟩ := HF.out
    exact HK.out _ _ f1 f2 f3 ⟨W.heap.size, f4, f5, rfl⟩
  case body =>
    rintro l pre x a' W hl ⟨r, hr⟩ ⟨hp, hb⟩ ⟨Bx, hBx, hx, rfl⟩ hlt
    have hc0 := (hb.cell (p := ⟨B, 0, none⟩) (by simp only; omega)).trans HP.out
    simp only [List.getElem?_toArray, List.getElem?_cons_zero] at hc0
    obtain ⟨⟨x0, x1, x2, xl⟩, ⟨f0, f1, f2⟩⟩ := row3 hx
    have HHP := Lib.hid hp
    have HHB := Lib.hid hb
    have HX := Lib.hid hx
    have HLB := Lib.hid hBx
    clear hp hr hl
    by_cases hxp : (ps[x.1]'x.2).1.p = p
    rotate_left
    · have n1 : ((ps[x.1]'x.2).1.p == p) = false := by simpa using hxp
      have HE : Hid (KeepsFrom W0.heap.size W W ∧ Below W0.heap.size W W ∧ (∀ y ∈ pre ++ [x], (ps[y.1]'y.2).1.p ≠ p) ∧ Below W0.heap.size W0 W) := ⟨KeepsFrom.refl _ _, Below.refl _ _, fun y hy => by
        rcases List.mem_append.1 hy with hy | hy
        · exact HHP.out y hy
        · rw [List.mem_singleton.1 hy]; exact hxp, HHB.out⟩
      clear hxp hb hx hBx
      gi_wp2
      exact HE.out
    · have n1 : ((ps[x.1]'x.2).1.p == p) = true := by simpa using hxp
      have HXP := Lib.hid hxp
      have hBW := below_after HNB.out.below hb HNB.out.below.size
      have hsl := (HV.out.below hBW).ln _ (List.getElem_mem x.2)
      have hll := HL.out _ (List.getElem_mem x.2)
      have HCL := Lib.hid (cloneLn_any _ _ W hsl hll)
      have HRES : Hid (∀ w4, Below W.heap.size W w4 → Row w4 (B + 1) 32 #[.int .i64 0, .int .i64 0, .slice none 0 0] ∧ Row w4 (B + 1 + 1) 4 #[.bool false] ∧ Row w4 Bx 32 #[.int .i64 (ps[x.1]'x.2).1.p, .int .i64 (ps[x.1]'x.2).1.v, (ps[x.1]'x.2).2] ∧ Below w.heap.size w w4) := fun w4 h4 => by
        have h5 := below_after HHB.out h4 HHB.out.size
        exact ⟨HNB.out.res.below h5 HNB.out.res.lt, HNB.out.ok.below h5 HNB.out.ok.lt, HX.out.below h4 HX.out.lt, below_after HNB.out.below h5 HNB.out.below.size⟩
      have HFIN : Hid (∀ w4 A4 n4 c4, Below W.heap.size W w4 → Own w4 W.heap.size 51 3 (.slice A4 n4 c4) (lns (ps[x.1]'x.2).1.l) →
          KeepsFrom W0.heap.size W (((((w4.setCell ⟨Bx, 2, none⟩ (.slice A4 n4 c4)).setCell ⟨B + 1, 0, none⟩ (.int .i64 (ps[x.1]'x.2).1.p)).setCell ⟨B + 1, 1, none⟩ (.int .i64 (ps[x.1]'x.2).1.v)).setCell ⟨B + 1, 2, none⟩ (.slice A4 n4 c4)).setCell ⟨B + 1 + 1, 0, none⟩ (.bool true)) ∧
          LtX w B ps p (pre ++ [x]) (((((w4.setCell ⟨Bx, 2, none⟩ (.slice A4 n4 c4)).setCell ⟨B + 1, 0, none⟩ (.int .i64 (ps[x.1]'x.2).1.p)).setCell ⟨B + 1, 1, none⟩ (.int .i64 (ps[x.1]'x.2).1.v)).setCell ⟨B + 1, 2, none⟩ (.slice A4 n4 c4)).setCell ⟨B + 1 + 1, 0, none⟩ (.bool true)) ∧
          Below w.heap.size w (((((w4.setCell ⟨Bx, 2, none⟩ (.slice A4 n4 c4)).setCell ⟨B + 1, 0, none⟩ (.int .i64 (ps[x.1]'x.2).1.p)).setCell ⟨B + 1, 1, none⟩ (.int .i64 (ps[x.1]'x.2).1.v)).setCell ⟨B + 1, 2, none⟩ (.slice A4 n4 c4)).setCell ⟨B + 1 + 1, 0, none⟩ (.bool true))) := fun w4 A4 n4 c4 h4 ho => by
        obtain ⟨r4, r5, rx, hbw⟩ := HRES.out w4 h4
        have hlb := HLB.out
        have hW := HHB.out.size
        have hne : ∀ z, z < W.heap.size → Value.ownBlock (.slice A4 n4 c4) ≠ some z := fun z hz e => by have := (ho.1.lt z e).1; omega
        have hxl := HX.out.lt
        refine ⟨?_, ⟨pre, x, .slice A4 n4 c4, rfl, HHP.out, HXP.out, ?_, ?_, ?_⟩, ?_⟩
        · exact (((((KeepsOthers.of_grownBy (row := none) (grownBy_of_below h4) (fun j o e => by cases e)).trans (KeepsOthers.setCell _ _ _)).trans (KeepsOthers.setCell _ _ _)).trans (KeepsOthers.setCell _ _ _)).trans (KeepsOthers.setCell _ _ _)).trans (KeepsOthers.setCell _ _ _) |>.from _
        · exact (Row.set3 (r4.far (p := ⟨Bx, 2, none⟩) (by simp only; omega) _) _ _ _).far (p := ⟨B + 1 + 1, 0, none⟩) (by simp only; omega) _
        · exact ((((r5.far (p := ⟨Bx, 2, none⟩) (by simp only; omega) _).far (p := ⟨B + 1, 0, none⟩) (by simp only; omega) _).far (p := ⟨B + 1, 1, none⟩) (by simp only; omega) _).far (p := ⟨B + 1, 2, none⟩) (by simp only; omega) _).set 0 (.bool true)
        · exact (own_setL (own_set3 (own_setL ho (hne Bx hxl) 2 _) (hne (B + 1) (by omega)) _ _ _) (hne (B + 1 + 1) (by omega)) 0 _).more (by omega)
        · exact (Below.set3 (hbw.setCell (p := ⟨Bx, 2, none⟩) (by simp only; omega) _) (by omega) _ _ _).setCell (p := ⟨B + 1 + 1, 0, none⟩) (by simp only; omega) _
      have hlb := HHB.out.size
      have nb1 : ¬ Bx = B + 1 := by omega
      have nb2 : ¬ B + 1 = Bx := by omega
      have nb3 : ¬ Bx = B + 1 + 1 := by omega
      have nb4 : ¬ B + 1 + 1 = Bx := by omega
      have nb5 : ¬ B + 1 = B + 1 + 1 := by omega
      have nb6 : ¬ B + 1 + 1 = B + 1 := by omega
      clear hxp hb hx hBx hsl hll hBW
      gi_wp2_with (refine ⟨trivial, ?_⟩; gi_at_call 29; refine (CallsIn.inRound l (callsIn_wide.2 HCL.out)).mono ?_; rintro e w4 ⟨v4, rfl, hown4, hb4⟩; obtain ⟨A4, n4, c4, rfl⟩ := hown4.slc; obtain ⟨r4, r5, rx, -⟩ := HRES.out w4 hb4; have HF4 := Lib.hid (HFIN.out w4 A4 n4 c4 hb4 hown4); obtain ⟨⟨y0, y1, y2, yl⟩, ⟨g0, g1, g2⟩⟩ := row3 rx; obtain ⟨⟨z0, z1, z2, zl⟩, ⟨k0, k1, k2⟩⟩ := row3 r4; have t0 := r5.cell 0; have tf := r5.frozen 0; simp only [List.getElem?_toArray, List.getElem?_cons_zero] at t0; clear hown4 hb4 r4 r5 rx)
      exact ⟨HF4.out.1, ⟨rfl, HF4.out.2.1⟩, HF4.out.2.2⟩
  case done =>
    rintro D zs W hD rfl ⟨hp, hb⟩ hK
    obtain ⟨e1, e2⟩ := HNO.out (fun j h => hp ⟨j, h⟩ ((down_mem _).2 (Nat.zero_le _)))
    subst e1 e2
    have r4 := HNB.out.res.below hb HNB.out.res.lt
    have r5 := HNB.out.ok.below hb HNB.out.ok.lt
    have hbw := below_after HNB.out.below hb HNB.out.below.size
    have HR4 := Lib.hid ((r4.set3 (.int .i64 0) (.int .i64 0) (.slice none 0 0)).far (p := ⟨B + 1 + 1, 0, none⟩) (by simp only; omega) (.bool false))
    have HR5 := Lib.hid ((((r5.far (p := ⟨B + 1, 0, none⟩) (by simp only; omega) (.int .i64 0)).far (p := ⟨B + 1, 1, none⟩) (by simp only; omega) (.int .i64 0)).far (p := ⟨B + 1, 2, none⟩) (by simp only; omega) (.slice none 0 0)).set 0 (.bool false))
    have HBW := Lib.hid ((Below.set3 hbw (show w.heap.size ≤ B + 1 by omega) (.int .i64 0) (.int .i64 0) (.slice none 0 0)).setCell (p := ⟨B + 1 + 1, 0, none⟩) (by simp only; omega) (.bool false))
    have HK := Lib.hid (((((KeepsOthers.setCell W ⟨B + 1, 0, none⟩ (.int .i64 0)).trans (KeepsOthers.setCell _ ⟨B + 1, 1, none⟩ (.int .i64 0))).trans (KeepsOthers.setCell _ ⟨B + 1, 2, none⟩ (.slice none 0 0))).trans (KeepsOthers.setCell _ ⟨B + 1 + 1, 0, none⟩ (.bool false))).same D _ hK rfl)
    obtain ⟨⟨z0, z1, z2, zl⟩, ⟨k0, k1, k2⟩⟩ := row3 r4
    have t0 := r5.cell 0
    have tf := r5.frozen 0
    simp only [List.getElem?_toArray, List.getElem?_cons_zero] at t0
    have nb5 : ¬ B + 1 = B + 1 + 1 := by omega
    have nb6 : ¬ B + 1 + 1 = B + 1 := by omega
    have hDB : Hid (B + 3 < D) := by rw [Hid]; omega
    have hDw : Hid (w.heap.size ≤ D) := by rw [Hid]; omega
    clear hp hbw r4 r5 hK hb hD HNO HAT
    gi_wp2
    refine ⟨by simp, .inl ⟨_, _, rfl, run_takeDeferred HK.out, ?_⟩⟩
    have g4 := HR4.out.keep (grownBy_putObj' _ D (.deferred none)) (fun e => by injection e with e; have := hDB.out; omega)
    have g5 := (HR5.out.keep (grownBy_putObj' _ D (.deferred none)) (fun e => by injection e with e; have := hDB.out; omega)).cell 0
    obtain ⟨⟨q0, q1, q2, -⟩, -⟩ := row3 g4
    simp only [List.getElem?_toArray, List.setIfInBounds_toArray, List.set_cons_zero, List.getElem?_cons_zero] at g5
    refine ⟨.tuple #[.agg #[.int .i64 0, .int .i64 0, .slice none 0 0], .bool false], ?_, ⟨_, rfl, Own.nil _ _ _ _, HBW.out.trans (belowK_b (w := w) (Nat.le_refl _) _ D _ _ hDw.out HK.out rfl rfl)⟩⟩
    simp only [results, Tryz.f11, go_sem]
    simp [q0, q1, q2, g5, go_sem]
  case stop =>
    rintro D c pre W hD ⟨r, hr, rfl⟩ ⟨⟨rfl, ini, x, u, e1, e2, e3, r4, r5, ho⟩, hbw⟩ hK
    obtain ⟨j, rfl, hj⟩ : ∃ j, r = j ∧ j < ps.length := ⟨r, rfl, by
      rcases Nat.lt_or_ge r ps.length with h | h
      · exact h
      · have : r = ps.length := by omega
        rw [this, down_top] at e1
        cases ini <;> simp at e1⟩
    rw [down_succ hj] at e1
    obtain ⟨rfl, e5⟩ := List.append_inj' e1 rfl
    obtain rfl : (⟨r, hj⟩ : Fin ps.length) = x := by simpa using e5
    obtain ⟨l1, l2⟩ := HAT.out r hj e3 (fun i hi hri => e2 ⟨i, hi⟩ ((down_mem _).2 hri))
    subst l1 l2
    have hDB : Hid (B + 3 < D) := by rw [Hid]; omega
    have hDw : Hid (w.heap.size ≤ D) := by rw [Hid]; omega
    have HK := Lib.hid hK
    have HR4 := Lib.hid r4
    have HR5 := Lib.hid r5
    have HO := Lib.hid ho
    have HBW := Lib.hid hbw
    clear e1 e2 e3 e5 r4 r5 ho hbw hK hD HNO HAT
    gi_wp2
    refine ⟨by simp, .inl ⟨_, _, rfl, run_takeDeferred HK.out, ?_⟩⟩
    have g4 := HR4.out.keep (grownBy_putObj' _ D (.deferred none)) (fun e => by injection e with e; have := hDB.out; omega)
    have g5 := (HR5.out.keep (grownBy_putObj' _ D (.deferred none)) (fun e => by injection e with e; have := hDB.out; omega)).cell 0
    obtain ⟨⟨q0, q1, q2, -⟩, -⟩ := row3 g4
    simp only [List.getElem?_toArray, List.getElem?_cons_zero] at g5
    refine ⟨.tuple #[.agg #[.int .i64 (ps[r]'hj).1.p, .int .i64 (ps[r]'hj).1.v, u], .bool true], ?_, ⟨u, rfl, own_own (B := 0) HO.out (grownBy_putObj' _ D (.deferred none)) (fun r e => by cases e; exact ⟨Nat.zero_le _, _, HK.out, rfl⟩), HBW.out.trans (belowK_b (w := w) (Nat.le_refl _) _ D _ _ hDw.out HK.out rfl rfl)⟩⟩
    simp only [results, Tryz.f11, go_sem]
    simp [q0, q1, q2, g5, go_sem]
end Go.Proofs.YtjbhabfflcbebaaGreat
/- refile.Next. -/
namespace Go.Proofs.YtjbhabfflcbebaaGreat
open Go.RowKit Go.Shelf

set_option maxRecDepth 100000 in
set_option maxHeartbeats 4000000 in
theorem RNext_any (ps : List (Ret × Value)) (v vx : Value) (p : Int) (x : List Ln) (w : World) (hv : RetsAt w v ps) (hl : ∀ q ∈ ps, q.1.l.length ≤ 65536) (hlen : ps.length ≤ 1000000) (hx : Sl w 3 vx (lns x)) (hxl : x.length ≤ 65536) (hver : 0 ≤ verP (ps.map (·.1)) p ∧ verP (ps.map (·.1)) p ≤ 65536) :
    Calls Tryz.prog 37 #[v, .int .i64 p, vx] w (RetNx (ps.map (·.1)) p x w) := by
  have HV := Lib.hid hv
  have HX := Lib.hid hx
  have HL := Lib.hid hl
  obtain ⟨Ax, cx, rfl⟩ : ∃ Ax cx, vx = .slice Ax x.length cx := by
    obtain ⟨Ax, cx, h, _⟩ := hx
    rw [lns_len] at h
    exact ⟨Ax, cx, h⟩
  have HVL := Lib.hid (verP_lat (ps.map (·.1)) p)
  have HLL := Lib.hid (linP_lat (ps.map (·.1)) p)
  have HNH : Hid (hasP (ps.map (·.1)) p = false → latP (ps.map (·.1)) p = ⟨0, 0, []⟩) := fun h => latP_no h
  have HLM : Hid (hasP (ps.map (·.1)) p = true → (latP (ps.map (·.1)) p).l.length ≤ 65536) := fun h => by
    obtain ⟨y, hy, e⟩ := List.mem_map.1 (latP_mem h).1
    rw [← e]
    exact HL.out y hy
  have HNX : Hid (nextR (ps.map (·.1)) p x = ⟨p, verP (ps.map (·.1)) p + 1, x⟩) := rfl
  have hr0 := Row.new w 32 #[.int .i64 0, .int .i64 0, .slice none 0 0]
  have hB0 := (Below.refl w.heap.size w).alloc (Nat.le_refl _) (.cells #[.int .i64 0, .int .i64 0, .slice none 0 0] 32)
  go_enter Tryz.func37, Tryz.ntmps37
  go_wp2_with fail
  obtain ⟨w0, hw0⟩ : ∃ w0, w.alloc (.cells #[.int .i64 0, .int .i64 0, .slice none 0 0] 32) = w0 := ⟨_, rfl⟩
  rw [hw0] at hr0 hB0 ⊢
  obtain ⟨r, hr⟩ : ∃ r, w.heap.size = r := ⟨_, rfl⟩
  rw [hr] at hr0 ⊢
  have hwr : w.heap.size ≤ r := by omega
  clear hw0 hr hv hx hl
  refine (RLatest_any ps v p w0 (HV.out.below hB0) HL.out hlen).mono ?_
  rintro e w1 ⟨v1, rfl, hown1, hb1⟩
  have hB1 := below_after hB0 hb1 hB0.size
  have hr1 := hr0.below hb1 hr0.lt
  obtain ⟨lt, hlt⟩ : ∃ lt, latP (ps.map (·.1)) p = lt := ⟨_, rfl⟩
  obtain ⟨hs, hhs⟩ : ∃ hs, hasP (ps.map (·.1)) p = hs := ⟨_, rfl⟩
  rw [hlt] at HVL HLL HNH HLM hown1 ⊢
  rw [hhs] at HNH HLM ⊢
  have hlv : lt.v = verP (ps.map (·.1)) p := HVL.out.symm
  have hll : linP (ps.map (·.1)) p = lt.l := HLL.out
  rw [← hlv] at hver HNX
  obtain ⟨k0, k1⟩ := hver
  have HLL2 := Lib.hid hll
  have hllen : lt.l.length ≤ 65536 := by
    cases hs with
    | true => exact HLM.out rfl
    | false => rw [HNH.out rfl]; simp
  obtain ⟨A1, c1, rfl⟩ := hown1.form
  rw [lns_len] at hown1 ⊢
  have hgv : lt.vals (.slice A1 lt.l.length c1) = #[.int .i64 lt.p, .int .i64 lt.v, .slice A1 lt.l.length c1] := rfl
  rw [hgv]
  have hr0l := hr0.lt
  have hs1 := hB1.size
  have hs01 := hb1.size
  clear hgv hB0 hr0 hb1 hlt hhs hlv HVL HLL hll HLM
  have hal := (Below.refl w1.heap.size w1).alloc (Nat.le_refl _) (.cells #[.int .i64 lt.p, .int .i64 lt.v, .slice A1 lt.l.length c1] 32)
  have hx1 := Row.new w1 32 #[.int .i64 lt.p, .int .i64 lt.v, .slice A1 lt.l.length c1]
  have hr2 := hr1.below hal hr1.lt
  have hB2 := below_after hB1 hal hB1.size
  have hSl2 := ((hown1.sl (by omega)).below hal)
  obtain ⟨w2, hw2⟩ : ∃ w2, w1.alloc (.cells #[.int .i64 lt.p, .int .i64 lt.v, .slice A1 lt.l.length c1] 32) = w2 := ⟨_, rfl⟩
  rw [hw2] at hx1 hr2 hB2 hSl2
  have HC := Lib.hid (equalLn_any (.slice A1 lt.l.length c1) (.slice Ax x.length cx) lt.l x w2 hSl2 (HX.out.below hB2) hllen (by omega))
  obtain ⟨⟨y0, y1, y2, yl⟩, -⟩ := row3 hx1
  clear hown1 hal hr1 hB1 hSl2
  go_wp2_with fail
  refine HC.out.mono ?_
  rintro e w3 ⟨rfl, hb3⟩
  have hB3 := below_after hB2 hb3 hB2.size
  have hr3 := hr2.below hb3 hr2.lt
  have hx3 := hx1.below hb3 hx1.lt
  obtain ⟨m, hm⟩ : ∃ m, w1.heap.size = m := ⟨_, rfl⟩
  rw [hm] at hx3 ⊢
  have hs3 := hB3.size
  clear hw2 hm hx1 hr2 hB2 hb3 HC y0 y1 y2 yl
  obtain ⟨⟨a0, a1, a2, al⟩, ⟨f0, f1, f2⟩⟩ := row3 hr3
  obtain ⟨⟨b0, b1, b2, bl⟩, -⟩ := row3 hx3
  by_cases hsm : lt.l = x
  · have HQ := Lib.hid (Below.set3 hB3 hwr (.int .i64 0) (.int .i64 0) (.slice none 0 0))
    have HZ := Lib.hid (row3 (Row.set3 hr3 (.int .i64 0) (.int .i64 0) (.slice none 0 0))).1
    have HE : Hid (linP (ps.map (·.1)) p = x) := HLL2.out.trans hsm
    rw [decide_eq_true hsm]
    clear hsm hr3 hx3 hB3
    go_wp2
    obtain ⟨z0, z1, z2, _⟩ := HZ.out
    refine bodyPost_ret (v := .tuple #[.agg #[.int .i64 0, .int .i64 0, .slice none 0 0], .bool false]) (by simp only [results, Tryz.results37, go_sem]; simp [z0, z1, z2, go_sem]) rfl ?_
    exact ⟨HQ.out, .inr ⟨HE.out, rfl⟩⟩
  · have HE : Hid (linP (ps.map (·.1)) p ≠ x) := fun h => hsm (HLL2.out.symm.trans h)
    rw [decide_eq_false hsm]
    have ew : IntKind.i64.wrap (lt.v + 1) = lt.v + 1 := IntWalk.i64_in _ (by omega)
    have HCL := Lib.hid (cloneLn_any x (.slice Ax x.length cx) w3 (HX.out.below hB3) (by omega))
    have HZZ : Hid (∀ w4 A4 n4 c4 (d : Int), Below w3.heap.size w3 w4 → Own w4 w3.heap.size 51 3 (.slice A4 n4 c4) (lns x) →
        Row (((w4.setCell ⟨r, 0, none⟩ (.int .i64 p)).setCell ⟨r, 1, none⟩ (.int .i64 d)).setCell ⟨r, 2, none⟩ (.slice A4 n4 c4)) r 32 #[.int .i64 p, .int .i64 d, .slice A4 n4 c4] ∧
        Below w.heap.size w (((w4.setCell ⟨r, 0, none⟩ (.int .i64 p)).setCell ⟨r, 1, none⟩ (.int .i64 d)).setCell ⟨r, 2, none⟩ (.slice A4 n4 c4)) ∧
        Own (((w4.setCell ⟨r, 0, none⟩ (.int .i64 p)).setCell ⟨r, 1, none⟩ (.int .i64 d)).setCell ⟨r, 2, none⟩ (.slice A4 n4 c4)) w.heap.size 51 3 (.slice A4 n4 c4) (lns x)) := fun w4 A4 n4 c4 d hb ho => by
      have hne : Value.ownBlock (.slice A4 n4 c4) ≠ some r := fun e => by have := (ho.1.lt r e).1; have := hr3.lt; omega
      exact ⟨Row.set3 (hr3.below hb hr3.lt) _ _ _, Below.set3 (below_after hB3 hb hB3.size) hwr _ _ _, (own_set3 ho hne _ _ _).more hB3.size⟩
    have HR3 := Lib.hid hr3
    clear hsm hr3 hx3 hB3
    obtain ⟨n, d, ll⟩ := lt
    simp only at *
    cases hs with
    | true =>
      clear HNH
      go_wp2_with fail
      refine HCL.out.mono ?_
      rintro e w4 ⟨v4, rfl, hown4, hb4⟩
      obtain ⟨A4, n4, c4, rfl⟩ := hown4.slc
      have H4 := Lib.hid (HZZ.out w4 A4 n4 c4 (d + 1) hb4 hown4)
      have hr4 := HR3.out.below hb4 HR3.out.lt
      clear a0 a1 a2 al f0 f1 f2 HZZ HCL hown4 hb4 b0 b1 b2 bl
      obtain ⟨⟨a0, a1, a2, al⟩, ⟨f0, f1, f2⟩⟩ := row3 hr4
      clear hr4
      go_wp2
      obtain ⟨q1, q2, q3⟩ := H4.out
      obtain ⟨⟨z0, z1, z2, -⟩, -⟩ := row3 q1
      refine bodyPost_ret (v := .tuple #[.agg #[.int .i64 p, .int .i64 (d + 1), .slice A4 n4 c4], .bool true]) (by simp only [results, Tryz.results37, go_sem]; simp [z0, z1, z2, go_sem]) rfl ?_
      exact ⟨q2, .inl ⟨HE.out, _, by rw [HNX.out]; rfl, q3⟩⟩
    | false =>
      have hn := HNH.out rfl
      simp only [Ret.mk.injEq] at hn
      obtain ⟨rfl, rfl, rfl⟩ := hn
      clear HNH ew
      go_wp2_with fail
      refine HCL.out.mono ?_
      rintro e w4 ⟨v4, rfl, hown4, hb4⟩
      obtain ⟨A4, n4, c4, rfl⟩ := hown4.slc
      have H4 := Lib.hid (HZZ.out w4 A4 n4 c4 1 hb4 hown4)
      have hr4 := HR3.out.below hb4 HR3.out.lt
      clear a0 a1 a2 al f0 f1 f2 HZZ HCL hown4 hb4 b0 b1 b2 bl
      obtain ⟨⟨a0, a1, a2, al⟩, ⟨f0, f1, f2⟩⟩ := row3 hr4
      clear hr4
      go_wp2
      obtain ⟨q1, q2, q3⟩ := H4.out
      obtain ⟨⟨z0, z1, z2, -⟩, -⟩ := row3 q1
      refine bodyPost_ret (v := .tuple #[.agg #[.int .i64 p, .int .i64 1, .slice A4 n4 c4], .bool true]) (by simp only [results, Tryz.results37, go_sem]; simp [z0, z1, z2, go_sem]) rfl ?_
      exact ⟨q2, .inl ⟨HE.out, _, by rw [HNX.out]; rfl, q3⟩⟩
end Go.Proofs.YtjbhabfflcbebaaGreat
/- refile.Lines. -/
namespace Go.Proofs.YtjbhabfflcbebaaGreat
open Go.RowKit Go.Shelf

/-- the lines that belong to returns -/
def filL (l : List Ln) : List Ln := l.filter fun x => filedB x.kind
/-- the lines of a period of a book that belong to its return -/
def linesOf (b : List Pst) (p : Int) : List Ln := filL (periodL b p)
theorem filL_snoc (l : List Ln) (k : Nat) (h : k < l.length) : filL (l.take (k + 1)) = filL (l.take k) ++ if filedB (l[k]).kind then [l[k]] else [] := by
  unfold filL
  rw [List.take_succ_eq_append_getElem h, List.filter_append]
  congr 1
  cases hr : filedB (l[k]).kind <;> simp [hr]
theorem filL_len (l : List Ln) (k : Nat) : (filL (l.take k)).length ≤ k := Nat.le_trans (List.length_filter_le _ _) (List.length_take_le _ _)
theorem period_len (b : List Pst) (p : Int) : (periodL b p).length ≤ 65536 := by
  unfold periodL mergedL
  split
  · exact merge_len _
  · simp
theorem linesOf_len (b : List Pst) (p : Int) : (linesOf b p).length ≤ 65536 := Nat.le_trans (List.length_filter_le _ _) (period_len b p)

set_option maxRecDepth 100000 in
set_option maxHeartbeats 2000000 in
theorem RLines_any (v : Value) (b : List Pst) (p : Int) (w : World) (hv : Sl w 6 v (psts b)) :
    Calls Tryz.prog 21 #[v, .int .i64 p] w (RetOwn w 51 3 (lns (linesOf b p))) := by
  have HP := Lib.hid (Period_any v b p w hv)
  have hL := period_len b p
  have HLO : Hid (linesOf b p = filL (periodL b p)) := rfl
  obtain ⟨L, hLL⟩ : ∃ L, periodL b p = L := ⟨_, rfl⟩
  rw [hLL] at HP hL HLO
  obtain ⟨A0, cap0, rfl, -⟩ := hv
  clear hLL
  go_enter Tryz.func21, Tryz.ntmps21
  go_wp2_with fail
  refine HP.out.mono ?_
  rintro e w1 ⟨v1, rfl, hown1, hb1⟩
  have HV := Lib.hid (hown1.sl (by have := hb1.size; omega))
  obtain ⟨A, cap, rfl⟩ := hown1.form
  rw [lns_len] at HV ⊢
  have HB1 := Lib.hid hb1
  have hb1s := hb1.size
  clear hown1 hb1 HP
  go_wp2_with fail
  go_loopw [5, 12] (fun t i wr => ∃ k : Nat, k ≤ L.length ∧ i = .int .i64 k ∧ Own wr w1.heap.size 51 3 t (lns (filL (L.take k))) ∧ Below w1.heap.size w1 wr) (fun _ i _ => L.length - (intOf i).toNat)
  case atStart => exact ⟨0, by omega, rfl, Own.nil _ _ _ _, Below.refl _ _⟩
  case round =>
    obtain ⟨k, hk, rfl, hown, hb⟩ := hrel
    obtain ⟨wo, rfl⟩ : ∃ wo : World, wo = wr := ⟨_, rfl⟩
    have hbs := hb.size
    by_cases hlt : k < L.length
    · obtain ⟨bk, off, rfl, hc⟩ := (HV.out.below hb).cells (by rw [lns_len]; omega)
      obtain ⟨c0, c1, c2⟩ := hc.ln hlt
      have i1 : (k : Int) < (L.length : Int) := by omega
      have hsn := Lib.hid (filL_snoc L k hlt)
      have hul := filL_len L k
      obtain ⟨x, hx⟩ : ∃ x, L[k] = x := ⟨_, rfl⟩
      rw [hx] at c0 c1 c2 hsn
      have HS := Lib.hid (fun W => stated_any x.kind W)
      clear hc hx
      cases hf : filedB x.kind
      · have hN : Hid (filL (L.take k) = filL (L.take (k + 1))) := by rw [Hid, hsn.out, hf]; simp
        rw [hf] at HS
        have HOB := Lib.hid (And.intro hown hb)
        clear hf hsn hown hb
        go_wp2_with fail
        refine (HS.out _).mono ?_
        rintro e w' ⟨rfl, rfl⟩
        have HOB2 : Hid (Own (wo.alloc (.cells #[.int .i64 x.kind, .string x.code, .int .i64 x.amt] 51)) w1.heap.size 51 3 _ (lns (filL (L.take (k + 1)))) ∧ Below w1.heap.size w1 (wo.alloc (.cells #[.int .i64 x.kind, .string x.code, .int .i64 x.amt] 51))) := ⟨by rw [← hN.out]; exact HOB.out.1.alloc _, HOB.out.2.alloc hbs _⟩
        clear HOB hN
        go_wp2
        go_roundw
        case rel => exact ⟨k + 1, by omega, by go_num, HOB2.out.1, HOB2.out.2⟩
        case measure => simp [intOf]; omega
      · have hN : Hid (filL (L.take (k + 1)) = filL (L.take k) ++ [x]) := by rw [Hid, hsn.out, hf]; simp
        rw [hf] at HS
        have hrx := Row.new wo 51 #[.int .i64 x.kind, .string x.code, .int .i64 x.amt]
        have hob := hown.alloc (.cells #[.int .i64 x.kind, .string x.code, .int .i64 x.amt] 51)
        have hbb := hb.alloc hbs (.cells #[.int .i64 x.kind, .string x.code, .int .i64 x.amt] 51)
        clear hf hsn hown hb
        go_wp2_with fail
        refine (HS.out _).mono ?_
        rintro e w' ⟨rfl, rfl⟩
        obtain ⟨w2, hw2⟩ : ∃ w2, wo.alloc (.cells #[.int .i64 x.kind, .string x.code, .int .i64 x.amt] 51) = w2 := ⟨_, rfl⟩
        rw [hw2] at hrx hob hbb ⊢
        obtain ⟨m, hm⟩ : ∃ m, wo.heap.size = m := ⟨_, rfl⟩
        rw [hm] at hrx ⊢
        clear hw2 hm
        obtain ⟨⟨y0, y1, y2, yl⟩, -⟩ := row3 hrx
        have hbs2 := hbb.size
        go_wp2_with (at_builtin; refine wpList_append_sl rfl (.tmp 19) (.tmp 21) rfl rowLn w1.heap.size _ _ (lns (filL (L.take k))) (lns [x]) rfl (hob.alloc _) rfl (Sl.one rfl rfl) (lns_wide _) (by rw [lns_len, lns_len]; unfold maxLen; simp; omega) (by rw [lns_len, lns_len]; simp; omega) (by simp; omega) ?_; intro v4 w4 hown4 hg4 _; have hb4 := Own.grown (hob.alloc _) (hbb.alloc hbs2 _) hg4 (by simp; omega); rw [← lns_append, ← hN.out] at hown4)
        go_roundw
        case rel => exact ⟨k + 1, by omega, by go_num, hown4, hb4⟩
        case measure => simp [intOf]; omega
    · obtain rfl : k = L.length := by omega
      rw [List.take_length] at hown
      have HE := Lib.hid (And.intro (hown.more hb1s) (below_after HB1.out hb HB1.out.size))
      clear hown hb
      go_wp2
      go_ret
      exact ⟨_, rfl, by rw [HLO.out]; exact HE.out.1, HE.out.2⟩
end Go.Proofs.YtjbhabfflcbebaaGreat
/- Sets of numbers: ascending lists without repetition; the keys of a map that was filled with them. -/
namespace Go.Proofs.YtjbhabfflcbebaaGreat

/-- strictly ascending -/
def Asc (l : List Int) : Prop := l.Pairwise (· < ·)
/-- a number is put into an ascending list, once -/
def insI (n : Int) : List Int → List Int
  | [] => [n]
  | a :: r => if a < n then a :: insI n r else if a = n then a :: r else n :: a :: r
def asI (l : List Int) : List Int := l.foldl (fun acc x => insI x acc) []
theorem mem_insI {n x : Int} {l : List Int} : x ∈ insI n l ↔ x = n ∨ x ∈ l := by
  induction l with
  | nil => simp [insI]
  | cons a r ih =>
    simp only [insI]
    by_cases h1 : a < n
    · rw [if_pos h1, List.mem_cons, ih, List.mem_cons]
      constructor
      · rintro (h | h | h) <;> simp [h]
      · rintro (h | h | h) <;> simp [h]
    · rw [if_neg h1]
      by_cases h2 : a = n
      · rw [if_pos h2]; subst h2; simp
      · rw [if_neg h2]; simp
theorem Asc.ins {n : Int} {l : List Int} (h : Asc l) : Asc (insI n l) := by
  induction l with
  | nil => simp [insI, Asc]
  | cons a r ih =>
    have h' := List.pairwise_cons.1 h
    simp only [insI]
    by_cases h1 : a < n
    · rw [if_pos h1]
      refine List.pairwise_cons.2 ⟨fun y hy => ?_, ih h'.2⟩
      rcases mem_insI.1 hy with rfl | hy
      · exact h1
      · exact h'.1 y hy
    · rw [if_neg h1]
      by_cases h2 : a = n
      · rw [if_pos h2]; exact h
      · rw [if_neg h2]
        refine List.pairwise_cons.2 ⟨fun y hy => ?_, h⟩
        rcases List.mem_cons.1 hy with rfl | hy
        · omega
        · have := h'.1 y hy; omega
theorem asI_fold (l acc : List Int) (h : Asc acc) : Asc (l.foldl (fun acc x => insI x acc) acc) ∧ ∀ x, x ∈ l.foldl (fun acc x => insI x acc) acc ↔ x ∈ acc ∨ x ∈ l := by
  induction l generalizing acc with
  | nil => exact ⟨h, by simp⟩
  | cons a r ih =>
    obtain ⟨h1, h2⟩ := ih (insI a acc) h.ins
    refine ⟨h1, fun x => ?_⟩
    rw [List.foldl_cons, h2, mem_insI, List.mem_cons]
    constructor
    · rintro ((h | h) | h) <;> simp [h]
    · rintro (h | h | h) <;> simp [h]
theorem asI_asc (l : List Int) : Asc (asI l) := (asI_fold l [] List.Pairwise.nil).1
theorem mem_asI {l : List Int} {x : Int} : x ∈ asI l ↔ x ∈ l := by rw [asI, (asI_fold l [] List.Pairwise.nil).2]; simp
theorem asI_snoc (l : List Int) (x : Int) : asI (l ++ [x]) = insI x (asI l) := by simp [asI, List.foldl_append]
theorem Asc.unique {a b : List Int} (ha : Asc a) (hb : Asc b) (h : ∀ x, x ∈ a ↔ x ∈ b) : a = b := by
  induction a generalizing b with
  | nil =>
    cases b with
    | nil => rfl
    | cons y r => exact absurd ((h y).2 (by simp)) (by simp)
  | cons x r ih =>
    cases b with
    | nil => exact absurd ((h x).1 (by simp)) (by simp)
    | cons y s =>
      have ha' := List.pairwise_cons.1 ha
      have hb' := List.pairwise_cons.1 hb
      have e : x = y := by
        rcases List.mem_cons.1 ((h x).1 (by simp)) with e | h1
        · exact e
        · rcases List.mem_cons.1 ((h y).2 (by simp)) with e | h2
          · exact e.symm
          · have := hb'.1 x h1; have := ha'.1 y h2; omega
      subst e
      rw [ih ha'.2 hb'.2 fun z => ?_]
      constructor
      · intro hz
        rcases List.mem_cons.1 ((h z).1 (by simp [hz])) with e | h1
        · subst e; have := ha'.1 z hz; omega
        · exact h1
      · intro hz
        rcases List.mem_cons.1 ((h z).2 (by simp [hz])) with e | h1
        · subst e; have := hb'.1 z hz; omega
        · exact h1
theorem asI_len (l : List Int) : (asI l).length ≤ l.length := by
  have ins : ∀ (n : Int) (l : List Int), (insI n l).length ≤ l.length + 1 := by
    intro n l
    induction l with
    | nil => simp [insI]
    | cons a r ih =>
      simp only [insI]
      split
      · simp only [List.length_cons]; omega
      · split <;> simp
  have key : ∀ (l acc : List Int), (l.foldl (fun acc x => insI x acc) acc).length ≤ acc.length + l.length := by
    intro l
    induction l with
    | nil => intro acc; simp
    | cons a r ih =>
      intro acc
      have := ih (insI a acc)
      have := ins a acc
      simp only [List.foldl_cons, List.length_cons]
      omega
  have := key l []
  simpa [asI] using this

/-- a map whose keys are these numbers -/
def KeysAre (D : DataW Unit) (l : List Int) : Prop := ∃ es : List (Lit × DataW Unit), D = .map es ∧ (∀ p ∈ es, ∃ z, p.1 = Lit.int .i64 z) ∧ es.Pairwise (fun p q => p.1 ≠ q.1) ∧ ∀ z, (∃ p ∈ es, p.1 = Lit.int .i64 z) ↔ z ∈ l
theorem KeysAre.nil : KeysAre (.map []) [] := ⟨[], rfl, (fun _ h => by cases h), List.Pairwise.nil, fun z => by simp⟩
theorem mem_insert {x y : Lit × DataW Unit} {l : List (Lit × DataW Unit)} : y ∈ DataW.insert x l ↔ y = x ∨ y ∈ l := by
  induction l with
  | nil => simp [DataW.insert]
  | cons a r ih =>
    simp only [DataW.insert]
    split
    · simp
    · rw [List.mem_cons, ih, List.mem_cons]
      constructor
      · rintro (h | h | h) <;> simp [h]
      · rintro (h | h | h) <;> simp [h]
theorem pair_insert {x : Lit × DataW Unit} {l : List (Lit × DataW Unit)} (h : l.Pairwise (fun p q => p.1 ≠ q.1)) (hx : ∀ y ∈ l, x.1 ≠ y.1) : (DataW.insert x l).Pairwise (fun p q => p.1 ≠ q.1) := by
  induction l with
  | nil => simp [DataW.insert]
  | cons a r ih =>
    have h' := List.pairwise_cons.1 h
    simp only [DataW.insert]
    split
    · exact List.pairwise_cons.2 ⟨hx, h⟩
    · refine List.pairwise_cons.2 ⟨fun y hy => ?_, ih h'.2 fun y hy => hx y (by simp [hy])⟩
      rcases mem_insert.1 hy with rfl | hy
      · exact fun e => hx a (by simp) e.symm
      · exact h'.1 y hy
theorem KeysAre.put {D : DataW Unit} {l : List Int} (h : KeysAre D l) (z : Int) (d : DataW Unit) : KeysAre (D.put (.int .i64 z) d) (l ++ [z]) := by
  obtain ⟨es, rfl, h1, h2, h3⟩ := h
  refine ⟨DataW.insert (.int .i64 z, d) (es.filter fun p => !p.1.sameKey (.int .i64 z)), rfl, fun p hp => ?_, ?_, fun x => ?_⟩
  · rcases mem_insert.1 hp with rfl | hp
    · exact ⟨z, rfl⟩
    · exact h1 p (List.mem_filter.1 hp).1
  · refine pair_insert (List.Pairwise.filter _ h2) fun y hy => ?_
    obtain ⟨hy1, hy2⟩ := List.mem_filter.1 hy
    obtain ⟨u, hu⟩ := h1 y hy1
    simp only [hu, Lit.sameKey, Bool.not_eq_true', decide_eq_false_iff_not, true_and] at hy2
    simp only [hu]
    intro e
    injection e with _ e
    exact hy2 e.symm
  · rw [List.mem_append, List.mem_singleton]
    constructor
    · rintro ⟨p, hp, hx⟩
      rcases mem_insert.1 hp with rfl | hp
      · simp only at hx; injection hx with _ hx; exact .inr hx.symm
      · exact .inl ((h3 x).1 ⟨p, (List.mem_filter.1 hp).1, hx⟩)
    · rintro (hx | rfl)
      · by_cases hxz : x = z
        · subst hxz; exact ⟨_, mem_insert.2 (.inl rfl), rfl⟩
        · obtain ⟨p, hp, hpx⟩ := (h3 x).2 hx
          refine ⟨p, mem_insert.2 (.inr (List.mem_filter.2 ⟨hp, ?_⟩)), hpx⟩
          simp [hpx, Lit.sameKey, hxz]
      · exact ⟨_, mem_insert.2 (.inl rfl), rfl⟩
theorem KeysAre.keys {D : DataW Unit} {l : List Int} (h : KeysAre D l) : (Go.intKeys D).Nodup ∧ ∀ x, x ∈ Go.intKeys D ↔ x ∈ l := by
  obtain ⟨es, rfl, h1, h2, h3⟩ := h
  constructor
  · show (es.map fun p => Go.intOf p.1).Nodup
    rw [List.nodup_iff_pairwise_ne, List.pairwise_map]
    refine List.Pairwise.imp_of_mem ?_ h2
    intro p q hp hq hne e
    obtain ⟨a, ha⟩ := h1 p hp
    obtain ⟨b, hb⟩ := h1 q hq
    rw [ha, hb] at e hne
    exact hne (by rw [show a = b from e])
  · intro x
    show x ∈ (es.map fun p => Go.intOf p.1) ↔ _
    rw [← h3, List.mem_map]
    constructor
    · rintro ⟨p, hp, rfl⟩
      obtain ⟨a, ha⟩ := h1 p hp
      exact ⟨p, hp, by rw [ha]; rfl⟩
    · rintro ⟨p, hp, hx⟩
      exact ⟨p, hp, by rw [hx]; rfl⟩
theorem KeysAre.size {D : DataW Unit} {l : List Int} (h : KeysAre D l) : Go.Maps.size D = (Go.intKeys D).length := by
  obtain ⟨es, rfl, _⟩ := h
  show es.length = (es.map _).length
  rw [List.length_map]
/-- the keys, sorted -/
theorem KeysAre.sorted {D : DataW Unit} {l ss : List Int} (h : KeysAre D l) (hp : ss.Perm (Go.intKeys D)) : ss.mergeSort (fun x y => decide (x ≤ y)) = asI l := by
  obtain ⟨h1, h2⟩ := h.keys
  have hs : (ss.mergeSort (fun x y => decide (x ≤ y))).Pairwise (fun a b => decide (a ≤ b) = true) := List.pairwise_mergeSort (fun a b c => by simp; omega) (fun a b => by simp; omega) ss
  have hperm : (ss.mergeSort (fun x y => decide (x ≤ y))).Perm (Go.intKeys D) := (List.mergeSort_perm ss _).trans hp
  have hnd : (ss.mergeSort (fun x y => decide (x ≤ y))).Nodup := hperm.nodup_iff.2 h1
  refine Asc.unique ?_ (asI_asc l) fun x => ?_
  · refine List.Pairwise.imp₂ ?_ hs hnd
    intro a b hab hne
    have := of_decide_eq_true hab
    omega
  · rw [hperm.mem_iff, h2, mem_asI]
end Go.Proofs.YtjbhabfflcbebaaGreat
/- The postings of a book by periods; what is filed. Plain. -/
namespace Go.Proofs.YtjbhabfflcbebaaGreat
open Go.RowKit

theorem asc_pair {l : List Pst} : ascB l = true ↔ l.Pairwise (fun a b => a.run ≤ b.run) := by
  rw [ascB_iff]
  constructor
  · intro h
    induction l with
    | nil => exact List.Pairwise.nil
    | cons a r ih =>
      have ihr := ih (fun j hj => h (j + 1) (by simpa using hj))
      refine List.Pairwise.cons (fun x hx => ?_) ihr
      cases r with
      | nil => cases hx
      | cons c r =>
        have h0 : a.run ≤ c.run := h 0 (by simp)
        rcases List.mem_cons.1 hx with rfl | hx
        · exact h0
        · exact Int.le_trans h0 ((List.pairwise_cons.1 ihr).1 x hx)
  · intro h j hj
    exact List.pairwise_iff_getElem.1 h j (j + 1) (by omega) hj (by omega)
theorem book_filter {b : List Pst} (h : bookB b = true) (f : Pst → Bool) : bookB (b.filter f) = true := by
  simp only [bookB, validsB, Bool.and_eq_true, decide_eq_true_eq, List.all_eq_true] at h ⊢
  obtain ⟨h1, h2, h3⟩ := h
  exact ⟨Nat.le_trans (List.length_filter_le _ _) h1, asc_pair.2 ((asc_pair.1 h2).filter _), fun x hx => h3 x (List.mem_filter.1 hx).1⟩
/-- the postings of a period -/
def perB (b : List Pst) (p : Int) : List Pst := b.filter fun x => decide (x.per = p)
theorem perB_snoc (b : List Pst) (k : Nat) (h : k < b.length) (p : Int) : perB (b.take (k + 1)) p = perB (b.take k) p ++ if (b[k]).per = p then [b[k]] else [] := by
  unfold perB
  rw [List.take_succ_eq_append_getElem h, List.filter_append]
  congr 1
  by_cases hr : (b[k]).per = p <;> simp [hr]
theorem linesOf_per {b : List Pst} (h : bookB b = true) (p : Int) : linesOf (perB b p) p = linesOf b p := by
  have hb : bookB (perB b p) = true := book_filter h _
  unfold linesOf periodL mergedL
  rw [if_pos hb, if_pos h]
  congr 2
  unfold selLns perB
  rw [List.filter_filter]
  congr 1
  apply List.filter_congr
  intro x _
  by_cases hx : x.per = p <;> simp [selP, hx]
theorem perB_ne {b : List Pst} {p : Int} : perB b p ≠ [] ↔ p ∈ b.map (·.per) := by
  constructor
  · intro h
    obtain ⟨x, hx⟩ := List.exists_mem_of_ne_nil _ h
    obtain ⟨h1, h2⟩ := List.mem_filter.1 hx
    exact List.mem_map.2 ⟨x, h1, by simpa using h2⟩
  · intro h e
    obtain ⟨x, hx, hp⟩ := List.mem_map.1 h
    have : x ∈ perB b p := List.mem_filter.2 ⟨hx, by simpa using hp⟩
    rw [e] at this; cases this
theorem findI_mem {p : Int} {v : Value} {es : List (Int × Value)} {j n : Nat} (h : findI p j es = some (n, v)) : (p, v) ∈ es := List.mem_of_getElem? (findI_some h).2.1
theorem findI_not {p : Int} {es : List (Int × Value)} {j : Nat} (h : findI p j es = none) : p ∉ es.map (·.1) := by
  induction es generalizing j with
  | nil => simp
  | cons a r ih =>
    simp only [findI] at h
    by_cases hs : p = a.1
    · rw [if_pos hs] at h; cases h
    · rw [if_neg hs] at h
      rw [List.map_cons, List.mem_cons]
      rintro (h' | h')
      · exact hs h'
      · exact ih h h'
theorem getI_mem {es : List (Int × Value)} {p : Int} {v : Value} (h : getI es p = some v) : (p, v) ∈ es := by
  unfold getI at h
  cases hf : findI p 0 es with
  | none => rw [hf] at h; cases h
  | some q =>
    rw [hf] at h
    obtain ⟨n, a⟩ := q
    simp only [Option.map_some, Option.some.injEq] at h
    subst h
    exact findI_mem hf
theorem getI_not {es : List (Int × Value)} {p : Int} (h : getI es p = none) : p ∉ es.map (·.1) := by
  unfold getI at h
  cases hf : findI p 0 es with
  | none => exact findI_not hf
  | some q => rw [hf] at h; cases h
theorem putI_keys (es : List (Int × Value)) (k : Int) (v : Value) (p : Int) : p ∈ (putI k v es).map (·.1) ↔ p = k ∨ p ∈ es.map (·.1) := by
  induction es with
  | nil => simp [putI]
  | cons a r ih =>
    simp only [putI]
    by_cases hk : k = a.1
    · rw [if_pos hk]; simp [hk]
    · rw [if_neg hk]
      simp only [List.map_cons, List.mem_cons, ih]
      constructor
      · rintro (h | h | h)
        · exact .inr (.inl h)
        · exact .inl h
        · exact .inr (.inr h)
      · rintro (h | h | h)
        · exact .inr (.inl h)
        · exact .inl h
        · exact .inr (.inr h)
theorem putI_nd {es : List (Int × Value)} (h : (es.map (·.1)).Nodup) (k : Int) (v : Value) : ((putI k v es).map (·.1)).Nodup := by
  induction es with
  | nil => simp [putI]
  | cons a r ih =>
    rw [List.map_cons, List.nodup_cons] at h
    simp only [putI]
    by_cases hk : k = a.1
    · rw [if_pos hk, List.map_cons, List.nodup_cons]; exact ⟨by rw [hk]; exact h.1, h.2⟩
    · rw [if_neg hk, List.map_cons, List.nodup_cons]
      refine ⟨fun hm => ?_, ih h.2⟩
      rcases (putI_keys r k v a.1).1 hm with e | e
      · exact hk e.symm
      · exact h.1 e
theorem putI_of {es : List (Int × Value)} (hnd : (es.map (·.1)).Nodup) {k : Int} {v : Value} {e : Int × Value} (h : e ∈ putI k v es) : e = (k, v) ∨ (e ∈ es ∧ e.1 ≠ k) := by
  induction es with
  | nil => simp only [putI, List.mem_singleton] at h; exact .inl h
  | cons a r ih =>
    rw [List.map_cons, List.nodup_cons] at hnd
    simp only [putI] at h
    by_cases hk : k = a.1
    · rw [if_pos hk] at h
      rcases List.mem_cons.1 h with h | h
      · exact .inl h
      · exact .inr ⟨List.mem_cons_of_mem _ h, fun e' => hnd.1 (by rw [← hk, ← e']; exact List.mem_map.2 ⟨e, h, rfl⟩)⟩
    · rw [if_neg hk] at h
      rcases List.mem_cons.1 h with rfl | h
      · exact .inr ⟨List.mem_cons_self, Ne.symm hk⟩
      · rcases ih hnd.2 h with h | ⟨h1, h2⟩
        · exact .inl h
        · exact .inr ⟨List.mem_cons_of_mem _ h1, h2⟩
theorem putI_len (es : List (Int × Value)) (k : Int) (v : Value) : (putI k v es).length ≤ es.length + 1 := by
  induction es with
  | nil => simp [putI]
  | cons a r ih =>
    simp only [putI]
    split
    · simp
    · simp only [List.length_cons]; omega
/-- a map of the postings by their periods -/
structure Grp (w : World) (base : Nat) (b : List Pst) (es : List (Int × Value)) : Prop where
  nd : (es.map (·.1)).Nodup
  keys : ∀ p, p ∈ es.map (·.1) ↔ p ∈ b.map (·.per)
  own : ∀ e ∈ es, Own w base 53 6 e.2 (psts (perB b e.1))
  apart : ∀ x ∈ es, ∀ y ∈ es, x.1 ≠ y.1 → x.2.ownBlock ≠ y.2.ownBlock
  len : es.length ≤ b.length
theorem Grp.nil (w : World) (base : Nat) : Grp w base [] [] := ⟨by simp, fun p => by simp, fun e h => (by cases h), fun x h => (by cases h), by simp⟩
theorem Grp.below {w w' : World} {base : Nat} {b : List Pst} {es : List (Int × Value)} (h : Grp w base b es) (hb : Below w.heap.size w w') : Grp w' base b es := ⟨h.nd, h.keys, fun e he => (h.own e he).kept hb, h.apart, h.len⟩
/-- the slice of a period -/
theorem Grp.at {w : World} {base : Nat} {b : List Pst} {es : List (Int × Value)} (h : Grp w base b es) (p : Int) : Own w base 53 6 ((getI es p).getD (.slice none 0 0)) (psts (perB b p)) := by
  cases hg : getI es p with
  | some v => exact h.own _ (getI_mem hg)
  | none =>
    have hn : perB b p = [] := by
      by_cases e : perB b p = []
      · exact e
      · exact absurd ((h.keys p).2 (perB_ne.1 e)) (getI_not hg)
    rw [hn]
    exact Own.nil _ _ _ _
theorem own_block {w : World} {base e sz : Nat} {v : Value} {es : List (List Value)} (h : Own w base e sz v es) (hne : es ≠ []) : ∃ g, v.ownBlock = some g := by
  rcases h.1.2 with ⟨rfl, hl⟩ | ⟨g1, c1, cur1, rfl, _, hg1, _⟩
  · exfalso
    apply hne
    apply List.eq_nil_of_length_eq_zero
    first | exact hl | omega
  · exact ⟨g1, rfl⟩
/-- a posting is appended to the slice of its period -/
theorem Grp.step {W w' : World} {base M : Nat} {b : List Pst} {es : List (Int × Value)} {x : Pst} {v' : Value} (h : Grp W base b es) (hM : M < base)
    (ho : Own w' base 53 6 v' (psts (perB b x.per) ++ psts [x])) (hg : W.grownBy w' ((getI es x.per).getD (.slice none 0 0)).ownBlock)
    (hv : v'.ownBlock = ((getI es x.per).getD (.slice none 0 0)).ownBlock ∨ v'.ownBlock = some W.heap.size) :
    Grp (setB w' M (iObj (putI x.per v' es))) base (b ++ [x]) (putI x.per v' es) := by
  have hfar : ∀ {v : Value} {l : List (List Value)}, Own w' base 53 6 v l → Own (setB w' M (iObj (putI x.per v' es))) base 53 6 v l := fun {v l} hv => hv.keepG setB_grown (by
    cases hb : v.ownBlock with
    | none => exact .inl rfl
    | some g => exact .inr fun e => by have := (hv.1.lt g hb).1; injection e with e; omega)
  have hblk : ∀ e ∈ es, ∃ g, e.2.ownBlock = some g := fun e he => own_block (h.own e he) (by
    intro hn
    have := perB_ne.2 ((h.keys e.1).1 (List.mem_map.2 ⟨e, he, rfl⟩))
    apply this
    apply List.eq_nil_of_length_eq_zero
    rw [← psts_len, hn]; rfl)
  have hother : ∀ e ∈ es, e.1 ≠ x.per → e.2.ownBlock ≠ ((getI es x.per).getD (.slice none 0 0)).ownBlock := fun e he hne => by
    cases hgi : getI es x.per with
    | some v => exact h.apart e he _ (getI_mem hgi) hne
    | none =>
      obtain ⟨g, hg⟩ := hblk e he
      rw [hg]
      simp [Value.ownBlock]
  have hper : ∀ p, perB (b ++ [x]) p = perB b p ++ if x.per = p then [x] else [] := fun p => by
    unfold perB
    rw [List.filter_append]
    congr 1
    by_cases hr : x.per = p <;> simp [hr]
  have hv'a : ∀ e ∈ es, e.1 ≠ x.per → v'.ownBlock ≠ e.2.ownBlock := fun e he hne => by
    rcases hv with hv | hv
    · rw [hv]; exact (hother e he hne).symm
    · obtain ⟨g, hg⟩ := hblk e he
      have := ((h.own e he).1.lt g hg).2
      rw [hv, hg]
      intro e'
      injection e' with e'
      omega
  refine ⟨putI_nd h.nd _ _, fun p => ?_, fun e he => ?_, fun e he f hf hne => ?_, ?_⟩
  · rw [putI_keys, h.keys, List.map_append, List.mem_append]
    simp only [List.map_cons, List.map_nil, List.mem_singleton]
    exact ⟨fun h => h.symm, fun h => h.symm⟩
  · rcases putI_of h.nd he with rfl | ⟨he, hne⟩
    · refine hfar ?_
      rw [hper, if_pos rfl, psts_append]
      exact ho
    · refine hfar ?_
      rw [hper, if_neg (Ne.symm hne), List.append_nil]
      exact (h.own e he).keepG hg (.inr (hother e he hne))
  · rcases putI_of h.nd he with rfl | ⟨he, hne1⟩
    · rcases putI_of h.nd hf with rfl | ⟨hf, hne2⟩
      · exact absurd rfl hne
      · exact hv'a f hf hne2
    · rcases putI_of h.nd hf with rfl | ⟨hf, hne2⟩
      · exact (hv'a e he hne1).symm
      · exact h.apart e he f hf hne
  · have := putI_len es x.per v'
    have := h.len
    simp
    omega
/-- the periods of a book -/
def persOf (b : List Pst) : List Int := asI (b.map (·.per))
/-- the returns that are filed for periods -/
def filedF (l : List Ret) (b : List Pst) (P : List Int) : List Ret := (P.filter fun p => decide (linP l p ≠ linesOf b p)).map fun p => nextR l p (linesOf b p)
theorem filedF_snoc (l : List Ret) (b : List Pst) (P : List Int) (k : Nat) (h : k < P.length) : filedF l b (P.take (k + 1)) = filedF l b (P.take k) ++ if linP l P[k] ≠ linesOf b P[k] then [nextR l P[k] (linesOf b P[k])] else [] := by
  unfold filedF
  rw [List.take_succ_eq_append_getElem h, List.filter_append, List.map_append]
  congr 1
  by_cases hr : linP l P[k] = linesOf b P[k] <;> simp [hr]
theorem filedF_len (l : List Ret) (b : List Pst) (P : List Int) (k : Nat) : (filedF l b (P.take k)).length ≤ k := by
  unfold filedF
  rw [List.length_map]
  exact Nat.le_trans (List.length_filter_le _ _) (List.length_take_le _ _)
def fileR (l : List Ret) (b : List Pst) : List Ret := if validRs l && bookB b then filedF l b (persOf b) else []
def fileE (l : List Ret) (b : List Pst) : Int := if validRs l && bookB b then 0 else 1
/-- of the last return of a period alone -/
theorem lone {r : Ret} {p : Int} (h : r.p = p) : verP [r] p = r.v ∧ linP [r] p = r.l := by
  have := latP_snoc [] r p
  rw [if_pos h, List.nil_append] at this
  exact ⟨by rw [verP_lat, this], by rw [linP_lat, this]⟩
theorem lone_none (p : Int) : verP [] p = 0 ∧ linP [] p = [] := ⟨rfl, rfl⟩
/-- what the map of the last returns says -/
theorem idx_last {l : List Ret} {es : List (Int × Value)} (h : IdxOk l l.length es) (p : Int) : (getI es p = none ∧ verP l p = 0 ∧ linP l p = []) ∨ ∃ j, ∃ h : j < l.length, getI es p = some (.int .i64 (j : Int)) ∧ (l[j]).p = p ∧ verP l p = (l[j]).v ∧ linP l p = (l[j]).l := by
  rcases h p with ⟨h1, h2⟩ | ⟨j, hj, _, h1, h2, h3⟩
  · rw [List.take_length] at h2
    exact .inl ⟨h1, by rw [verP_lat, latP_no h2], by rw [linP_lat, latP_no h2]⟩
  · rw [List.take_length] at h2 h3
    refine .inr ⟨j, hj, h1, ?_, by rw [verP_lat, h3], by rw [linP_lat, h3]⟩
    rw [← h3]
    exact (latP_mem h2).2
end Go.Proofs.YtjbhabfflcbebaaGreat
/- A map with whole numbers as keys, entry by entry, as the shelf's contracts of maps.Keys want it. -/
namespace Go.Proofs.YtjbhabfflcbebaaGreat
open Go.RowKit Go.Maps Go.MapKept Go.WideElems Go.ChangeMaps

/-- how a value reads that nobody looks at -/
def anyElem (_ : Value) : Option (DataW Unit × List MemPlace) := some (.nil, [])
theorem keysAre_fold (l : List (Lit × DataW Unit)) (h1 : ∀ p ∈ l, ∃ z, p.1 = Lit.int .i64 z) (h2 : l.Pairwise (fun p q => p.1 ≠ q.1)) (ks : List Int) (hk : ∀ z, (∃ p ∈ l, p.1 = Lit.int .i64 z) ↔ z ∈ ks) : KeysAre (.map (l.foldr DataW.insert [])) ks := by
  have key : ∀ l : List (Lit × DataW Unit), l.Pairwise (fun p q => p.1 ≠ q.1) → (∀ y, y ∈ l.foldr DataW.insert [] ↔ y ∈ l) ∧ (l.foldr DataW.insert []).Pairwise (fun p q => p.1 ≠ q.1) := by
    intro l
    induction l with
    | nil => intro _; exact ⟨fun y => by simp, by simp⟩
    | cons a r ih =>
      intro h
      obtain ⟨ha, hr⟩ := List.pairwise_cons.1 h
      obtain ⟨i1, i2⟩ := ih hr
      refine ⟨fun y => ?_, ?_⟩
      · rw [List.foldr_cons, mem_insert, i1, List.mem_cons]
      · rw [List.foldr_cons]
        exact pair_insert i2 fun y hy => ha y ((i1 y).1 hy)
  obtain ⟨k1, k2⟩ := key l h2
  refine ⟨_, rfl, fun p hp => h1 p ((k1 p).1 hp), k2, fun z => ?_⟩
  rw [← hk z]
  constructor
  · rintro ⟨p, hp, hz⟩; exact ⟨p, (k1 p).1 hp, hz⟩
  · rintro ⟨p, hp, hz⟩; exact ⟨p, (k1 p).2 hp, hz⟩
theorem iEnts_mem {j : Nat} {es : List (Int × Value)} {x : MapEntry} (h : x ∈ iEnts j es) : ∃ i p, es[i]? = some p ∧ x = iEnt (j + i) p := by
  obtain ⟨i, hi⟩ := List.getElem?_of_mem h
  rw [iEnts_get] at hi
  obtain ⟨p, hp, he⟩ := Option.map_eq_some_iff.1 hi
  exact ⟨i, p, hp, he.symm⟩
set_option maxRecDepth 100000 in
theorem iObj_owns {w : World} {b : Nat} {es : List (Int × Value)} (hb : w.heap[b]? = some (iObj es)) (hn : (es.map (·.1)).Nodup) (hw : ∀ p ∈ es, -9223372036854775808 ≤ p.1 ∧ p.1 ≤ 9223372036854775807) (hl : es.length ≤ 1000000) :
    ∃ D : DataW Unit, w.ownsMap Tryz.prog 3 anyElem b es.length D ∧ KeysAre D (es.map (·.1)) := by
  have hwf : ∀ p ∈ es, (Lit.int .i64 p.1).wf = true := fun p hp => by
    have := hw p hp
    have e1 : IntKind.i64.min = -9223372036854775808 := rfl
    have e2 : IntKind.i64.max = 9223372036854775807 := rfl
    simp only [Lit.wf, Bool.and_eq_true, decide_eq_true_eq]; omega
  have hrd : ∀ x ∈ iEnts 0 es, ∃ p ∈ es, x.key = .int .i64 p.1 ∧ WideElems.rd Tryz.prog 3 anyElem x = some (Lit.int .i64 p.1, .nil) := fun x hx => by
    obtain ⟨i, p, hp, rfl⟩ := iEnts_mem hx
    have hm := List.mem_of_getElem? hp
    exact ⟨p, hm, rfl, Go.WideElems.rd_mk (key := .int .i64 p.1) (val := p.2) (yv := ((DataW.nil : DataW Unit), [])) (keyOf_int_mk Tryz.underlying3 (hwf p hm)) rfl⟩
  have hlen : (iEnts 0 es).length = es.length := iEnts_len 0 es
  have hkeys : ∀ (j : Nat) (es : List (Int × Value)), (iEnts j es).map (·.key) = es.map fun p => Value.int .i64 p.1 := by
    intro j es
    apply List.ext_getElem?
    intro i
    rw [List.getElem?_map, iEnts_get, List.getElem?_map]
    cases es[i]? <;> rfl
  have hborn : (iEnts 0 es).map (·.born) = List.range es.length := by
    apply List.ext_getElem?
    intro i
    rw [List.getElem?_map, iEnts_get]
    by_cases hi : i < es.length
    · rw [List.getElem?_eq_getElem hi]
      simp [iEnt, hi]
    · rw [List.getElem?_eq_none (by omega), List.getElem?_eq_none (by simp; omega)]; rfl
  refine ⟨_, ⟨(iEnts 0 es).toArray, es.length, hb, ⟨by rw [List.size_toArray, hlen]; unfold maxLen; omega, ⟨fun x hx => ?_, ?_, ?_⟩, fun x hx => ?_⟩, by rw [List.size_toArray, hlen]; exact Nat.le_refl _, rfl⟩, ?_⟩
  · obtain ⟨i, p, hp, rfl⟩ := iEnts_mem (by simpa using hx)
    have := (List.getElem?_eq_some_iff.1 hp).1
    simp [iEnt]; exact this
  · rw [hborn]; exact List.nodup_range
  · rw [hkeys, List.nodup_iff_pairwise_ne, List.pairwise_map]
    rw [List.nodup_iff_pairwise_ne, List.pairwise_map] at hn
    exact hn.imp fun h e => h (by injection e)
  · obtain ⟨p, _, _, h⟩ := hrd x (by simpa using hx)
    exact ⟨_, h⟩
  · have hrg : ∀ x ∈ iEnts 0 es, ∃ p ∈ es, x.key = .int .i64 p.1 ∧ WideElems.rg Tryz.prog 3 anyElem x = (Lit.int .i64 p.1, .nil) := fun x hx => by
      obtain ⟨p, h1, h2, h3⟩ := hrd x hx
      exact ⟨p, h1, h2, by rw [WideElems.rg, h3]; rfl⟩
    have hmap : (iEnts 0 es).map (WideElems.rg Tryz.prog 3 anyElem) = es.map fun p => (Lit.int .i64 p.1, DataW.nil) := by
      apply List.ext_getElem?
      intro i
      rw [List.getElem?_map, List.getElem?_map, iEnts_get]
      cases hp : es[i]? with
      | none => rfl
      | some p =>
        have hm : iEnt i p ∈ iEnts 0 es := List.mem_of_getElem? (i := i) (by rw [iEnts_get, hp]; simp)
        obtain ⟨q, _, h2, h3⟩ := hrg _ hm
        simp only [iEnt, Value.int.injEq, true_and] at h2
        simp only [Option.map_some, Nat.zero_add, h3, h2]
    rw [hmap]
    refine keysAre_fold _ (fun p hp => ?_) ?_ _ (fun z => ?_)
    · obtain ⟨q, _, rfl⟩ := List.mem_map.1 hp; exact ⟨_, rfl⟩
    · rw [List.pairwise_map]
      rw [List.nodup_iff_pairwise_ne, List.pairwise_map] at hn
      exact hn.imp fun h e => h (by injection e)
    · constructor
      · rintro ⟨p, hp, hz⟩
        obtain ⟨q, hq, rfl⟩ := List.mem_map.1 hp
        simp only [Lit.int.injEq, true_and] at hz
        exact List.mem_map.2 ⟨q, hq, hz⟩
      · intro hz
        obtain ⟨q, hq, rfl⟩ := List.mem_map.1 hz
        exact ⟨_, List.mem_map.2 ⟨q, hq, rfl⟩, rfl⟩
end Go.Proofs.YtjbhabfflcbebaaGreat
/- maps.Keys and slices.Sorted at a map of postings. Written by gen_rvk.py. -/
namespace Go.Proofs.YtjbhabfflcbebaaGreat
open Go.RowKit Go.Maps Go.Sort Go.Shelf

/-- the two contracts of slices.Sort at this dump -/
theorem sortsA (m : Nat) : AnyZI.SortsIn Tryz.prog Tryz.sortedA_ren Fence.wide m :=
  ⟨fun blk off cap ss W hH hblk hsz => callsIn_wide.2 (AnyM.slices_Sort_int Tryz.sortA blk off cap ss W hH hblk hsz),
   fun p cap W => callsIn_wide.2 (AnyM.slices_Sort_int_none Tryz.sortA p cap W)⟩
theorem keys_any (mb : Option Nat) (w : World) : Calls Tryz.prog 36 #[.map mb] w fun e w' => e = .returned (.func (.func 53) #[] #[.pointer (some ⟨w.heap.size, 0, none⟩)]) ∧ w' = w.alloc (.cells #[.map mb] 67) :=
  (callsIn_wide (n := 5)).1 (AnyZI.keys_in Tryz.keysA Fence.wide 5 trivial rfl mb w)
theorem length_insert (x : Lit × DataW Unit) (l : List (Lit × DataW Unit)) : (DataW.insert x l).length = l.length + 1 := by
  induction l with
  | nil => rfl
  | cons a r ih =>
    simp only [DataW.insert]
    split
    · rfl
    · simp [ih]
theorem owns_size {w : World} {k : TypeId} {R : Value → Option (DataW Unit × List MemPlace)} {b n : Nat} {D : DataW Unit} (h : w.ownsMap Tryz.prog k R b n D) : Maps.size D ≤ n := by
  obtain ⟨es, clock, _, _, hs, rfl⟩ := h
  have key : ∀ l : List (Lit × DataW Unit), (l.foldr DataW.insert []).length = l.length := by
    intro l
    induction l with
    | nil => rfl
    | cons a r ih => rw [List.foldr_cons, length_insert, ih]; rfl
  rw [Maps.size_eq, key, List.length_map]
  simpa using hs
set_option maxHeartbeats 1000000 in
theorem sortedKeys (b nn : Nat) (D : DataW Unit) (l : List Int) (R : Value → Option (DataW Unit × List MemPlace)) (w : World) (hown : w.ownsMap Tryz.prog 3 R b nn D) (hk : KeysAre D l) (hn : nn ≤ 1000000) :
    Calls Tryz.prog 35 #[.func (.func 53) #[] #[.pointer (some ⟨w.heap.size, 0, none⟩)]] (w.alloc (.cells #[.map (some b)] 67)) (RetOwn (w.alloc (.cells #[.map (some b)] 67)) 3 1 (ints (asI l))) := by
  have hsz := owns_size hown
  have hbl := hown.lt
  refine (callsIn_wide (n := 5)).1 ?_
  have hseq : SeqGives Fence.wide 2 Tryz.prog 53 #[.pointer (some ⟨w.heap.size, 0, none⟩)] encZ (fun ss => ss.Perm (intKeys D)) (Maps.size D) (w.alloc (.cells #[.map (some b)] 67)) :=
    AnyZI.keys_gives (ρ := Tryz.keysA_ren) { Tryz.keysA with } Fence.wide _ trivial rfl (by omega) w.heap.size b nn D _ (by simp) (by simp) (by
      obtain ⟨es, clock, hb, Ft, hs, hD⟩ := hown
      exact ⟨es, clock, (Below.heap_alloc _ _ b hbl).trans hb, Ft, hs, hD⟩)
  have cS := AnyZI.sorted_in Tryz.sortedA Fence.wide 5 trivial trivial trivial trivial rfl (by omega) (sortsA _) (enters_of Tryz.func52 (by kernel_rfl) rfl) 53 #[.pointer (some ⟨w.heap.size, 0, none⟩)] trivial (enters_of Tryz.func53 (by kernel_rfl) rfl) _ _ (by unfold maxLen; omega) (by omega) _ hseq
  refine cS.mono ?_
  rintro e w' ⟨v, ss, rfl, hS, hrow, _, hb⟩
  refine ⟨v, rfl, ⟨?_, fun x hx => ?_⟩, hb⟩
  · rw [hk.sorted hS] at hrow
    have hl : ss.length = (ints (asI l)).length := by
      have := congrArg List.length (hk.sorted hS)
      rw [List.length_mergeSort] at this
      rw [ints_len, this]
    have hf : (ints (asI l)).flatten = (asI l).map encZ := by
      rw [ints]
      induction asI l with
      | nil => rfl
      | cons a r ih => simp [ih]
    rw [← hl, hf]; exact hrow
  · obtain ⟨z, _, rfl⟩ := List.mem_map.1 hx
    exact ⟨rfl, by simp [Value.oneCell']⟩
end Go.Proofs.YtjbhabfflcbebaaGreat
