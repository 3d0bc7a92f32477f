/- Contracts and plain facts that the laws of this seat share, part 22. -/
import Derived.Test.YtogdefomigiepaaGreatDoorPkB
import Derived.Test.YtogdefomigiepaaGreatDoorRows
import Derived.Test.YtogdefomigiepaaGreatDoorPkA
import Derived.Sort.Grow
import Derived.Lib.ItoaNum
import Derived.Lib.AtoiAllCases
import Derived.Lib.SplitLaws
import Derived.Shelf.Strings.Builder1
import Derived.Shelf.Small.Bits
import Derived.Shelf.Small.Wraps
import Derived.Shelf.Strings.BuilderF
import Derived.Shelf.Strings.BuilderK
import Derived.Shelf.Utf8.RuneCount
import Derived.Shelf.Strconv.Atoi
import Derived.Shelf.Strconv.Itoa0
import Derived.Shelf.Strconv.Itoa1
import Derived.Shelf.LaysM
import Derived.Shelf.Strconv.Itoa2
import Derived.Shelf.Strconv.Itoa3
import Derived.Shelf.Strconv.AtoiErrFast
import Derived.Shelf.Strconv.ParseIntEmpty
import Derived.Shelf.Strconv.AtoiFail
import Derived.Shelf.Strconv.Clone
import Derived.Shelf.Strconv.SyntaxError
import Derived.Shelf.LaysC
import Derived.Shelf.Strconv.ToError
import Derived.Shelf.Strconv.Lower
import Derived.Shelf.Strconv.ParseUint10
import Derived.Shelf.Strconv.ParseUint10Empty
import Derived.Shelf.Strconv.ParseUint10Any
import Derived.Shelf.Strconv.ParseInt10
import Derived.Shelf.Strconv.AtoiLong
import Derived.Shelf.Strconv.AtoiInnerAll
import Derived.Shelf.Strconv.RangeError
import Derived.Shelf.Strconv.ToErrorRange
import Derived.Shelf.Strconv.AtoiAll
import Derived.Shelf.Strconv.ErrVarAll
import Derived.Shelf.Strconv.ParseUintEmpty
import Derived.Shelf.Strconv.ParseUint10b64
import Derived.Shelf.Strconv.ParseUint10b32
import Derived.Shelf.Strconv.ParseUint10b16
import Derived.Shelf.Strconv.ParseUint10b8
import Derived.Shelf.Strings.Search1
import Derived.Shelf.Strings.Search2
import Derived.Shelf.Strings.Search3
import Derived.Shelf.Strings.Cut
import Derived.Shelf.Strings.Count
import Derived.Shelf.Strings.Shaped
import Derived.Shelf.Strings.Split
import Derived.Shelf.Strings.SplitShaped
import Derived.Shelf.Unicode.Decode
import Derived.Shelf.Strings.RuneCount
import Derived.Shelf.Strings.Explode
import Derived.Shelf.Unicode.DecodeSlow
import Derived.Shelf.Unicode.DecodeAny
import Derived.Ground.Names2Prog
import Derived.Shelf.Slices.SearchI
import Derived.Test.YtogdefomigiepaaGreatDoorProg
import Derived.Lib.AppendIntMem
import Derived.WalkKit
import Derived.WalkSpells
import Derived.WalkLawsBesides
import Derived.Lib.Hide
import Derived.Deep.RegionWith
import Derived.Deep.RegionHeld3
import Derived.StillTailTactics
import Derived.Sort.Walk0
import Derived.IntWalk
import Derived.Laws.IdiomStrings
import Derived.Lib.OthersKept
set_option linter.unusedVariables false
set_option linter.unusedSimpArgs false
/- Slices of lines and their order; no sums. -/
namespace Go.Proofs.YtogdefomigiepaaGreatDoor
open Go.RowKit Go.Sort

theorem formB_formed {x : Ln} (h : formB x = true) : formedB x = true := by unfold formB at h; rw [Bool.and_eq_true] at h; exact h.1

end Go.Proofs.YtogdefomigiepaaGreatDoor
/- Plain facts on decimal texts: no program in sight. -/
namespace Go.Proofs.YtogdefomigiepaaGreatDoor

theorem digit_nat {d : Nat} (h : d < 10) : (UInt8.ofNat (48 + d)).toNat = 48 + d := by
 rw [UInt8.toNat_ofNat']; omega
theorem dec_digits (u : Nat) : ∀ c ∈ Lib.decDigits u, 48 ≤ c.toNat ∧ c.toNat ≤ 57 := by
 induction u using Nat.strongRecOn with
 | ind u ih =>
  intro c hc
  rw [Lib.decDigits] at hc
  by_cases hu : u < 10
  ·rw [dif_pos hu, List.mem_singleton] at hc
   subst hc; rw [digit_nat hu]; omega
  ·rw [dif_neg hu, List.mem_append, List.mem_singleton] at hc
   rcases hc with hc | hc
   ·exact ih (u / 10) (by omega) c hc
   ·subst hc; rw [digit_nat (by omega)]; omega
theorem dec_ne (u : Nat) : Lib.decDigits u ≠ [] := by
 rw [Lib.decDigits]; split <;> simp
theorem parse_snoc (l : List UInt8) : ∀ (c : UInt8) (acc v : Nat), Lib.parseUint10 acc l = .ok v → Lib.parseUint10 acc (l ++ [c]) = Lib.parseUint10 v [c] := by
 induction l with
 | nil => intro c acc v h; simp only [Lib.parseUint10] at h; injection h with h; subst h; rfl
 | cons a r ih =>
  intro c acc v h
  rw [List.cons_append]
  unfold Lib.parseUint10 at h ⊢
  split at h
  ·rename_i h1
   split at h
   ·cases h
   ·rename_i h2
    split at h
    ·cases h
    ·rename_i h3
     rw [if_pos h1, if_neg h2, if_neg h3, ih c _ v h]
     rfl
  ·cases h
theorem parse_dec (u : Nat) (h : u < 18446744073709551616) : Lib.parseUint10 0 (Lib.decDigits u) = .ok u := by
 induction u using Nat.strongRecOn with
 | ind u ih =>
  rw [Lib.decDigits]
  by_cases hu : u < 10
  ·rw [dif_pos hu]
   simp only [Lib.parseUint10, digit_nat hu]
   rw [if_pos (by omega), if_neg (by omega), if_neg (by omega)]
   congr 1; omega
  ·rw [dif_neg hu, parse_snoc _ _ _ (u / 10) (ih (u / 10) (by omega) (by omega))]
   simp only [Lib.parseUint10, digit_nat (show u % 10 < 10 by omega)]
   rw [if_pos (by omega), if_neg (by omega), if_neg (by omega)]
   congr 1; omega
theorem mag_dec (u : Nat) (h : u < 18446744073709551616) : Lib.parseMag (Lib.decDigits u) = .ok u := by
 rw [Lib.parseMag, if_neg (dec_ne u), parse_dec u h]
theorem atoi_itoa (n : Int) (h0 : -9223372036854775808 ≤ n) (h1 : n ≤ 9223372036854775807) : Lib.atoiAll (Lib.itoa n) = .ok n := by
 unfold Lib.itoa
 by_cases hn : n < 0
 ·rw [if_pos hn, Lib.atoiAll_minus, mag_dec _ (by omega)]
  simp only [Lib.signed]
  rw [if_neg (by omega)]
  congr 1; omega
 ·rw [if_neg hn]
  cases hd : Lib.decDigits n.toNat with
  | nil => exact absurd hd (dec_ne _)
  | cons c r =>
   have hc := dec_digits n.toNat c (by rw [hd]; simp)
   rw [Lib.atoiAll_plain c r (by omega) (by omega), ← hd, mag_dec _ (by omega)]
   simp only [Lib.signless]
   rw [if_neg (by omega)]
   congr 1; omega
theorem itoa_bytes (n : Int) : ∀ c ∈ Lib.itoa n, c.toNat = 45 ∨ 48 ≤ c.toNat ∧ c.toNat ≤ 57 := by
 intro c hc
 unfold Lib.itoa at hc
 split at hc
 ·rcases List.mem_cons.1 hc with rfl | hc
  ·exact .inl rfl
  ·exact .inr (dec_digits _ c hc)
 ·exact .inr (dec_digits _ c hc)
theorem itoa_neg' (n : Int) (h : n < 0) : Lib.itoa n = 45 :: Lib.decDigits n.natAbs := by rw [Lib.itoa, if_pos h]
theorem itoa_pos' (n : Int) (h : 0 ≤ n) : Lib.itoa n = Lib.decDigits n.natAbs := by rw [Lib.itoa, if_neg (by omega)]; congr 1; omega
theorem dec_big (u : Nat) (h : 10 ≤ u) : Lib.decDigits u = Lib.decDigits (u / 10) ++ [UInt8.ofNat (48 + u % 10)] := by
 rw [Lib.decDigits, dif_neg (by omega)]
theorem dec_small (u : Nat) (h : u < 10) : Lib.decDigits u = [UInt8.ofNat (48 + u)] := by rw [Lib.decDigits, dif_pos h]
end Go.Proofs.YtogdefomigiepaaGreatDoor
/- Lines and words of texts, and their numbers: no program in sight. -/
namespace Go.Proofs.YtogdefomigiepaaGreatDoor

def splitBy (c : UInt8) : List UInt8 → List (List UInt8)
 | [] => [[]]
 | x :: r => if x = c then [] :: splitBy c r else
  match splitBy c r with
  | [] => [[x]]
  | h :: t => (x :: h) :: t
def joinBy (c : UInt8) : List (List UInt8) → List UInt8
 | [] => []
 | [a] => a
 | a :: b :: r => a ++ c :: joinBy c (b :: r)

theorem splitBy_ne (c : UInt8) (l : List UInt8) : splitBy c l ≠ [] := by
  cases l with
  | nil => simp [splitBy]
  | cons x r => unfold splitBy; split
                · simp
                · split <;> simp
theorem split_free {c : UInt8} : ∀ {a : List UInt8}, c ∉ a → splitBy c a = [a]
 | [], _ => rfl
 | x :: r, h => by
  have hx : ¬ x = c := fun e => h (by simp [e])
  have ih := split_free (c := c) (a := r) (fun e => h (by simp [e]))
  unfold splitBy
  rw [if_neg hx, ih]
theorem split_app {c : UInt8} : ∀ {a : List UInt8} (b : List UInt8), c ∉ a → splitBy c (a ++ c :: b) = a :: splitBy c b
  | [], b, _ => by rw [List.nil_append]; conv => lhs; unfold splitBy
                   rw [if_pos rfl]
  | x :: r, b, h => by
    have hx : ¬ x = c := fun e => h (by simp [e])
    have ih := split_app (c := c) (a := r) b (fun e => h (by simp [e]))
    rw [List.cons_append]
    conv => lhs; unfold splitBy
    rw [if_neg hx, ih]
theorem join_cons {c : UInt8} {a : List UInt8} {l : List (List UInt8)} (h : l ≠ []) : joinBy c (a :: l) = a ++ c :: joinBy c l := by
 cases l with
 | nil => exact absurd rfl h
 | cons b r => rfl
theorem join_split (c : UInt8) : ∀ l : List UInt8, joinBy c (splitBy c l) = l
 | [] => rfl
 | x :: r => by
  have ih := join_split c r
  unfold splitBy
  by_cases hx : x = c
  ·rw [if_pos hx, join_cons (splitBy_ne c r), ih, hx]; rfl
  ·rw [if_neg hx]
   split
   ·rename_i h; exact absurd h (splitBy_ne c r)
   ·rename_i h t he
    rw [he] at ih
    cases t with
    | nil => rw [joinBy] at ih ⊢; rw [ih]
    | cons b t => rw [joinBy] at ih ⊢; rw [List.cons_append, ih]
theorem split_join {c : UInt8} : ∀ {ls : List (List UInt8)}, ls ≠ [] → (∀ a ∈ ls, c ∉ a) → splitBy c (joinBy c ls) = ls
 | [], h, _ => absurd rfl h
 | [a], _, h => split_free (h a (by simp))
 | a :: b :: r, _, h => by
  rw [join_cons (by simp), split_app _ (h a (by simp)), split_join (by simp) (fun x hx => h x (by simp at hx ⊢; right; exact hx))]
theorem index_here (c : UInt8) (r : List UInt8) : Lib.index (c :: r) [c] = 0 := by
 rw [Lib.index]; simp [List.isPrefixOf]
theorem index_next {c x : UInt8} {r : List UInt8} (hx : ¬ x = c) : Lib.index (x :: r) [c] = if Lib.index r [c] == -1 then -1 else Lib.index r [c] + 1 := by
 have hp : ([c] : List UInt8).isPrefixOf (x :: r) = false := by simp [List.isPrefixOf, Ne.symm hx]
 rw [Lib.index, hp]; simp
theorem index_some {c : UInt8} : ∀ {r : List UInt8}, 0 < r.count c → ∃ i : Nat, Lib.index r [c] = i ∧ i < r.length
 | [], h => by simp at h
 | x :: r, h => by
  by_cases hx : x = c
  ·subst hx; exact ⟨0, index_here x r, by simp⟩
  ·rw [List.count_cons_of_ne (by simpa using hx)] at h
   obtain ⟨i, hi, hl⟩ := index_some h
   refine ⟨i + 1, ?_, by simpa using hl⟩
   rw [index_next hx, hi, if_neg (by simp)]; rfl
theorem splitK_one (c : UInt8) : ∀ l : List UInt8, Lib.splitK [c] 0 (l.count c) l = splitBy c l
 | [] => rfl
 | x :: r => by
  have ih := splitK_one c r
  by_cases hx : x = c
  ·subst hx
   rw [List.count_cons_self, Lib.splitK, index_here, if_neg (by decide)]
   conv => rhs; unfold splitBy
   rw [if_pos rfl]
   simp [ih]
  ·rw [List.count_cons_of_ne (by simpa using hx)]
   conv => rhs; unfold splitBy
   rw [if_neg hx, ← ih]
   cases hk : r.count c with
   | zero => simp [Lib.splitK]
   | succ k =>
    obtain ⟨i, hi, hl⟩ := index_some (c := c) (r := r) (by omega)
    have hn : ¬ (Lib.index r [c] == -1) = true := by rw [hi]; simp
    rw [Lib.splitK, Lib.splitK, index_next hx, if_neg hn, if_neg hn, hi, if_neg (by simp; omega)]
    have e1 : ((i : Int) + 1).toNat = i + 1 := by omega
    have e2 : ((i : Int)).toNat = i := by omega
    simp [e1, e2]
theorem splitB_lines (s : ByteArray) (c : UInt8) : (Lib.splitB ⟨#[c]⟩ 0 (Lib.countB s ⟨#[c]⟩) s).map (·.data.toList) = splitBy c s.data.toList := by
 rw [Lib.splitB_data]
 have : Lib.countB s ⟨#[c]⟩ = s.data.toList.count c := Lib.count_one c _
 rw [this]
 exact splitK_one c _

theorem itoa_free (n : Int) {c : UInt8} (h : c.toNat < 45) : c ∉ Lib.itoa n := fun hc => by
 have := itoa_bytes n c hc; omega
theorem join_free {c d : UInt8} (hd : ¬ d = c) : ∀ {ls : List (List UInt8)}, (∀ a ∈ ls, c ∉ a) → c ∉ joinBy d ls
 | [], _ => by simp [joinBy]
 | [a], h => h a (by simp)
 | a :: b :: r, h => by
  rw [join_cons (by simp)]
  have ih := join_free hd (ls := b :: r) (fun x hx => h x (by simp at hx ⊢; right; exact hx))
  have ha := h a (by simp)
  intro hc
  rcases List.mem_append.1 hc with hc | hc
  ·exact ha hc
  ·rcases List.mem_cons.1 hc with hc | hc
   ·exact hd hc.symm
   ·exact ih hc
end Go.Proofs.YtogdefomigiepaaGreatDoor
/- Canonical decimals of at most 18 digits, or 10^18: no program in sight. -/
namespace Go.Proofs.YtogdefomigiepaaGreatDoor

theorem dec_short (u : Nat) (k : Nat) (h : u < 10 ^ (k + 1)) : (Lib.decDigits u).length ≤ k + 1 := by
 induction k generalizing u with
 | zero => simp at h; rw [dec_small u h]; simp
 | succ k ih =>
  by_cases hu : u < 10
  ·rw [dec_small u hu]; simp
  ·rw [dec_big u (by omega), List.length_append, List.length_singleton]
   have := ih (u / 10) (by rw [Nat.pow_succ] at h; omega)
   omega
end Go.Proofs.YtogdefomigiepaaGreatDoor
/- Returns and their texts: no program in sight. -/
namespace Go.Proofs.YtogdefomigiepaaGreatDoor

def wLevy : List UInt8 := [108, 101, 118, 121]
def wEmp : List UInt8 := [101, 109, 112, 108, 111, 121, 101, 114]
def wTax : List UInt8 := [116, 97, 120]
def wAll : List (List UInt8) := [[101, 97, 114, 110, 105, 110, 103], [98, 101, 110, 101, 102, 105, 116], [98, 101, 102, 111, 114, 101], wLevy, wEmp, wTax, [97, 116, 116, 97, 99, 104, 101, 100], [97, 102, 116, 101, 114], [110, 101, 116], [115, 104, 111, 114, 116]]
def wordL (k : Int) : List UInt8 := if 1 ≤ k then wAll.getD (k - 1).toNat [] else []
def wordsL (x : Ln) : List (List UInt8) := if bareB x.kind then [wordL x.kind, Lib.itoa x.amt] else [wordL x.kind, x.code.data.toList, Lib.itoa x.amt]
def lnT (x : Ln) : List UInt8 := joinBy 32 (wordsL x)
def numI (l : List UInt8) : Option Int := match Lib.atoiAll l with
 | .ok v => if Lib.itoa v = l then some v else none
 | _ => none
theorem numI_eq {l : List UInt8} {n : Int} (h : numI l = some n) : l = Lib.itoa n := by
 unfold numI at h
 split at h
 ·split at h
  ·rename_i hc; injection h with h; subst h; exact hc.symm
  ·cases h
 ·cases h
theorem numI_itoa {n : Int} (h0 : -9223372036854775808 ≤ n) (h1 : n ≤ 9223372036854775807) : numI (Lib.itoa n) = some n := by
 rw [numI, atoi_itoa n h0 h1]
 exact if_pos rfl
theorem wcount_all : ∀ {l : List UInt8}, wcount l = l.length → ∀ c ∈ l, wcB c.toNat = true
 | [], _, c, hc => by cases hc
 | a :: r, h, c, hc => by
  rw [wcount_cons] at h
  by_cases ha : wcB a.toNat = true
  ·rw [if_pos ha, List.length_cons] at h
   rcases List.mem_cons.1 hc with rfl | hc
   ·exact ha
   ·exact wcount_all (l := r) (by omega) c hc
  ·rw [if_neg ha, List.length_cons] at h; omega
theorem name_bytes {l : List UInt8} (h : nameB l = true) : ∀ c ∈ l, 48 ≤ c.toNat := by
 intro c hc
 unfold nameB at h
 simp only [Bool.and_eq_true, decide_eq_true_eq, beq_iff_eq] at h
 obtain ⟨h0, _, h1, _⟩ := h
 cases l with
 | nil => cases hc
 | cons a r =>
  simp only [wordLen] at h1
  by_cases ha : lowB a.toNat = true
  ·rw [if_pos ha, List.length_cons] at h1
   rcases List.mem_cons.1 hc with rfl | hc
   ·simp [lowB] at ha; omega
   ·have := wcount_all (l := r) (by omega) c hc
    simp [wcB, lowB, digB] at this; omega
  ·rw [if_neg ha, List.length_cons] at h1; omega
theorem name_free {l : List UInt8} (h : nameB l = true) {c : UInt8} (hc : c.toNat < 45) : c ∉ l := fun hm => by have := name_bytes h c hm; omega
theorem word_free : ∀ k : Nat, k < 10 → (32 : UInt8) ∉ wAll.getD k [] ∧ (10 : UInt8) ∉ wAll.getD k [] ∧ (wAll.getD k []).length ≤ 8 := by decide
structure Formed (x : Ln) : Prop where
 k0 : 1 ≤ x.kind
 k1 : x.kind ≤ 10
 a0 : -1000000000000 ≤ x.amt
 a1 : x.amt ≤ 1000000000000
 b : bareB x.kind = true → x.code = ⟨#[]⟩
 c : bareB x.kind = false → nameB x.code.data.toList = true
theorem formed_of {x : Ln} (h : formedB x = true) : Formed x := by
 unfold formedB totB at h
 simp only [Bool.and_eq_true, decide_eq_true_eq] at h
 obtain ⟨h1, h2, ⟨h3, h4⟩, h5⟩ := h
 refine ⟨h1, h2, h3, h4, fun hb => ?_, fun hb => ?_⟩
 ·rw [if_pos hb, decide_eq_true_eq] at h5
  obtain ⟨k, ⟨⟨d⟩⟩, a⟩ := x
  have : d.length = 0 := h5
  rw [List.eq_nil_of_length_eq_zero this]
 ·rw [if_neg (by rw [hb]; simp)] at h5; exact h5
theorem Formed.wd {x : Ln} (h : Formed x) : ∃ j : Nat, j < 10 ∧ x.kind = j + 1 ∧ wordL x.kind = wAll.getD j [] := by
 have := h.k0
 have := h.k1
 refine ⟨(x.kind - 1).toNat, by omega, by omega, ?_⟩
 rw [wordL, if_pos h.k0]
theorem name_len {l : List UInt8} (h : nameB l = true) : l.length ≤ 24 := by
 unfold nameB at h
 simp only [Bool.and_eq_true, decide_eq_true_eq] at h
 exact h.2.1
theorem itoa_short (n : Int) (k : Nat) (h : n.natAbs < 10 ^ (k + 1)) : (Lib.itoa n).length ≤ k + 2 := by
 have hd := dec_short n.natAbs k h
 by_cases hn : n < 0
 ·rw [itoa_neg' n hn]; simp; omega
 ·rw [itoa_pos' n (by omega)]; omega
theorem lnT_len {x : Ln} (h : Formed x) : (lnT x).length ≤ 60 := by
 obtain ⟨j, hj, _, hw⟩ := h.wd
 have hf := (word_free j hj).2.2
 rw [← hw] at hf
 have ha : (Lib.itoa x.amt).length ≤ 14 := itoa_short x.amt 12 (by have := h.a0; have := h.a1; omega)
 unfold lnT wordsL
 cases hb : bareB x.kind
 ·have hc := name_len (h.c hb)
  simp [joinBy] at hc ⊢
  omega
 ·simp [joinBy]
  omega
end Go.Proofs.YtogdefomigiepaaGreatDoor
/- Rows of three cells. -/
namespace Go.Proofs.YtogdefomigiepaaGreatDoor
open Go.RowKit

theorem row3 {w : World} {g : Nat} {t : TypeId} {a b c : Value} (h : Row w g t #[a, b, c]) : (w.cell? ⟨g, 0, none⟩ = some a ∧ w.cell? ⟨g, 1, none⟩ = some b ∧ w.cell? ⟨g, 2, none⟩ = some c ∧ g < w.heap.size) ∧ w.frozen? ⟨g, 0, none⟩ = false ∧ w.frozen? ⟨g, 1, none⟩ = false ∧ w.frozen? ⟨g, 2, none⟩ = false := ⟨⟨h.cell 0, h.cell 1, h.cell 2, h.lt⟩, h.frozen 0, h.frozen 1, h.frozen 2⟩
theorem Row.set3 {w : World} {g : Nat} {t : TypeId} {a b c : Value} (h : Row w g t #[a, b, c]) (x y z : Value) : Row (((w.setCell ⟨g, 0, none⟩ x).setCell ⟨g, 1, none⟩ y).setCell ⟨g, 2, none⟩ z) g t #[x, y, z] := ((h.set 0 x).set 1 y).set 2 z
theorem Below.set3 {B : Nat} {w w' : World} {g : Nat} (h : Below B w w') (hg : B ≤ g) (x y z : Value) : Below B w (((w'.setCell ⟨g, 0, none⟩ x).setCell ⟨g, 1, none⟩ y).setCell ⟨g, 2, none⟩ z) := ((h.setCell (p := ⟨g, 0, none⟩) hg _).setCell (p := ⟨g, 1, none⟩) hg _).setCell (p := ⟨g, 2, none⟩) hg _
end Go.Proofs.YtogdefomigiepaaGreatDoor
/-
 DERIVED: THE SHELF's CONTRACTS AT THIS DUMP, IN PLAIN WORDS (tools/lay-plain.mjs out of 'TryzShelf.lean', which tools/lay-shelf.mjs wrote): THE SAME DECLARATIONS UNDER THE SAME NAMES: 'import', 'namespace', 'open', 'def', 'theorem' AND NOTHING ELSE: no command of the shelf's: FOR A HAND-IN. Each laying: the table of numbers ('.._ren') and one theorem, a field a fact of the dump's own or the kernel's comparison; each contract: ONE APPLICATION.
-/
namespace Go.Proofs
open Go.Shelf
def Tryz.lays169_ren : Go.Shelf.Ren := ⟨fun | 169 => 25 | n => n, fun | 70 => 74 | 9 => 9 | 0 => 0 | 72 => 77 | 37 => 75 | 127 => 141 | 3 => 3 | 5 => 5 | n => n, fun | n => n⟩
theorem Tryz.lays169 : Go.Proofs.Lays.n169 Tryz.prog Tryz.lays169_ren := {
 mixed := by kernel_rfl
 f169 := Tryz.func25.trans (congrArg some (by kernel_rfl))
 t0 := Tryz.underlying0
 a0 := Tryz.isAgg0
 z0 := Tryz.sizeOf0
 v0 := Tryz.zeroValue0
 t3 := Tryz.underlying3
 a3 := Tryz.isAgg3
 z3 := Tryz.sizeOf3
 v3 := Tryz.zeroValue3
 t9 := Tryz.underlying9
 a9 := Tryz.isAgg9
 z9 := Tryz.sizeOf9
 v9 := Tryz.zeroValue9
 t37 := Tryz.underlying75
 a37 := Tryz.isAgg75
 z37 := Tryz.sizeOf75
 v37 := Tryz.zeroValue75
 t70 := Tryz.underlying74
 a70 := Tryz.isAgg74
 z70 := Tryz.sizeOf74
 v70 := Tryz.zeroValue74
 t72 := Tryz.underlying77
 a72 := Tryz.isAgg77
 z72 := Tryz.sizeOf77
 v72 := Tryz.zeroValue77
 t127 := Tryz.underlying141
 a127 := Tryz.isAgg141
 z127 := Tryz.sizeOf141
 v127 := Tryz.zeroValue141 }
theorem Tryz.Builder_Extra_169 : Builder.Extra Tryz.prog Tryz.lays169_ren := {
 sizeBuilder := by kernel_rfl
 liesBuilder := by kernel_rfl
 t5 := Tryz.underlying5
 a5 := Tryz.isAgg5
 z5 := Tryz.sizeOf5
 v5 := Tryz.zeroValue5
 infoByte := by kernel_rfl
 cellsByte := by kernel_rfl
 sizeByte := by kernel_rfl
 neB5 := by decide }
open Go.RowKit in
theorem Tryz.Builder_String_any (B b : Nat) (l : List UInt8) (w : World) (h : Lib.IsBuilder 77 5 B b (Lib.byteCells l) w) (hBw : B ≤ w.heap.size) :
  Calls Tryz.prog 25 #[.pointer (some ⟨b, 0, none⟩)] w fun e w' => e = .returned (.string ⟨l.toArray⟩) ∧ Below B w w' := Any.Builder_String_any Tryz.lays169 Tryz.Builder_Extra_169 B b l w h hBw
def Tryz.lays172_ren : Go.Shelf.Ren := ⟨fun | 172 => 113 | 244 => 146 | 245 => 147 | 247 => 173 | 279 => 174 | 280 => 175 | 281 => 176 | 282 => 177 | 287 => 196 | 316 => 197 | 171 => 22 | 205 => 198 | 321 => 204 | 322 => 205 | 243 => 58 | 246 => 109 | 283 => 140 | 284 => 141 | 285 => 142 | 286 => 143 | 129 => 159 | 317 => 165 | 318 => 166 | 319 => 167 | 320 => 168 | 337 => 187 | 338 => 188 | n => n, fun | 9 => 9 | 3 => 3 | 75 => 79 | 76 => 80 | 4 => 4 | 5 => 5 | 167 => 246 | 37 => 75 | 0 => 0 | 85 => 247 | 2 => 2 | 168 => 249 | 53 => 218 | 175 => 260 | 46 => 143 | 210 => 263 | 127 => 141 | 145 => 276 | 143 => 274 | 21 => 21 | 171 => 217 | 173 => 221 | 212 => 243 | 51 => 234 | 20 => 20 | 213 => 244 | 232 => 269 | 233 => 270 | 80 => 89 | n => n, fun | 15 => 3 | 16 => 4 | 17 => 1 | 18 => 5 | 19 => 6 | n => n⟩
def Tryz.laysM246_ren : Go.Shelf.Ren := ⟨fun | 246 => 109 | 283 => 140 | 284 => 141 | 285 => 142 | 286 => 143 | 129 => 159 | 317 => 165 | 318 => 166 | 319 => 167 | 320 => 168 | 337 => 187 | 338 => 188 | n => n, fun | 2 => 2 | 3 => 3 | 9 => 9 | 4 => 4 | 171 => 217 | 0 => 0 | 53 => 218 | 37 => 75 | 5 => 5 | 173 => 221 | 212 => 243 | 51 => 234 | 20 => 20 | 213 => 244 | 46 => 143 | 232 => 269 | 233 => 270 | n => n, fun | 17 => 1 | 18 => 5 | 19 => 6 | n => n⟩
def Tryz.laysM243_ren : Go.Shelf.Ren := ⟨fun | 243 => 58 | 246 => 109 | 283 => 140 | 284 => 141 | 285 => 142 | 286 => 143 | 129 => 159 | 317 => 165 | 318 => 166 | 319 => 167 | 320 => 168 | 337 => 187 | 338 => 188 | n => n, fun | 3 => 3 | 9 => 9 | 2 => 2 | 4 => 4 | 171 => 217 | 0 => 0 | 53 => 218 | 37 => 75 | 5 => 5 | 173 => 221 | 212 => 243 | 51 => 234 | 20 => 20 | 213 => 244 | 46 => 143 | 232 => 269 | 233 => 270 | n => n, fun | 17 => 1 | 18 => 5 | 19 => 6 | n => n⟩
def Tryz.laysM171_ren : Go.Shelf.Ren := ⟨fun | 171 => 22 | 243 => 58 | 246 => 109 | 283 => 140 | 284 => 141 | 285 => 142 | 286 => 143 | 129 => 159 | 317 => 165 | 318 => 166 | 319 => 167 | 320 => 168 | 337 => 187 | 338 => 188 | n => n, fun | 3 => 3 | 9 => 9 | 2 => 2 | 4 => 4 | 171 => 217 | 0 => 0 | 53 => 218 | 37 => 75 | 5 => 5 | 173 => 221 | 212 => 243 | 51 => 234 | 20 => 20 | 213 => 244 | 46 => 143 | 232 => 269 | 233 => 270 | n => n, fun | 17 => 1 | 18 => 5 | 19 => 6 | n => n⟩
theorem Tryz.laysM171 : Go.Proofs.LaysM.n171 Tryz.prog Tryz.laysM171_ren := {
 mixed := by kernel_rfl
 f129 := Tryz.func159.trans (congrArg some (by kernel_rfl))
 f171 := Tryz.func22.trans (congrArg some (by kernel_rfl))
 f243 := Tryz.func58.trans (congrArg some (by kernel_rfl))
 f246 := Tryz.func109.trans (congrArg some (by kernel_rfl))
 f283 := Tryz.func140.trans (congrArg some (by kernel_rfl))
 f284 := Tryz.func141.trans (congrArg some (by kernel_rfl))
 f285 := Tryz.func142.trans (congrArg some (by kernel_rfl))
 f286 := Tryz.func143.trans (congrArg some (by kernel_rfl))
 f317 := Tryz.func165.trans (congrArg some (by kernel_rfl))
 f318 := Tryz.func166.trans (congrArg some (by kernel_rfl))
 f319 := Tryz.func167.trans (congrArg some (by kernel_rfl))
 f320 := Tryz.func168.trans (congrArg some (by kernel_rfl))
 f337 := Tryz.func187.trans (congrArg some (by kernel_rfl))
 f338 := Tryz.func188.trans (congrArg some (by kernel_rfl))
 t0 := Tryz.underlying0
 a0 := Tryz.isAgg0
 z0 := Tryz.sizeOf0
 v0 := Tryz.zeroValue0
 t2 := Tryz.underlying2
 a2 := Tryz.isAgg2
 z2 := Tryz.sizeOf2
 v2 := Tryz.zeroValue2
 t3 := Tryz.underlying3
 a3 := Tryz.isAgg3
 z3 := Tryz.sizeOf3
 v3 := Tryz.zeroValue3
 t4 := Tryz.underlying4
 a4 := Tryz.isAgg4
 z4 := Tryz.sizeOf4
 v4 := Tryz.zeroValue4
 t5 := Tryz.underlying5
 a5 := Tryz.isAgg5
 z5 := Tryz.sizeOf5
 v5 := Tryz.zeroValue5
 t9 := Tryz.underlying9
 a9 := Tryz.isAgg9
 z9 := Tryz.sizeOf9
 v9 := Tryz.zeroValue9
 t20 := Tryz.underlying20
 a20 := Tryz.isAgg20
 z20 := Tryz.sizeOf20
 v20 := Tryz.zeroValue20
 t37 := Tryz.underlying75
 a37 := Tryz.isAgg75
 z37 := Tryz.sizeOf75
 v37 := Tryz.zeroValue75
 t46 := Tryz.underlying143
 a46 := Tryz.isAgg143
 z46 := Tryz.sizeOf143
 v46 := Tryz.zeroValue143
 t51 := Tryz.underlying234
 a51 := Tryz.isAgg234
 z51 := Tryz.sizeOf234
 v51 := Tryz.zeroValue234
 t53 := Tryz.underlying218
 a53 := Tryz.isAgg218
 z53 := Tryz.sizeOf218
 v53 := Tryz.zeroValue218
 t171 := Tryz.underlying217
 a171 := Tryz.isAgg217
 z171 := Tryz.sizeOf217
 v171 := Tryz.zeroValue217
 t173 := Tryz.underlying221
 a173 := Tryz.isAgg221
 z173 := Tryz.sizeOf221
 v173 := Tryz.zeroValue221
 t212 := Tryz.underlying243
 a212 := Tryz.isAgg243
 z212 := Tryz.sizeOf243
 v212 := Tryz.zeroValue243
 t213 := Tryz.underlying244
 a213 := Tryz.isAgg244
 z213 := Tryz.sizeOf244
 t232 := Tryz.underlying269
 a232 := Tryz.isAgg269
 z232 := Tryz.sizeOf269
 v232 := Tryz.zeroValue269
 t233 := Tryz.underlying270
 a233 := Tryz.isAgg270
 z233 := Tryz.sizeOf270
 v233 := Tryz.zeroValue270
 g17 := by kernel_rfl
 g18 := by kernel_rfl
 g19 := by kernel_rfl
 i0 := by kernel_rfl
 i2 := by kernel_rfl
 i3 := by kernel_rfl
 i4 := by kernel_rfl
 i5 := by kernel_rfl
 i9 := by kernel_rfl
 i20 := by kernel_rfl
 i37 := by kernel_rfl
 i46 := by kernel_rfl
 i51 := by kernel_rfl
 i53 := by kernel_rfl
 i171 := by kernel_rfl
 i173 := by kernel_rfl
 i212 := by kernel_rfl
 i232 := by kernel_rfl
 i233 := by kernel_rfl
 m17 := by kernel_rfl
 m18 := by kernel_rfl
 m19 := by kernel_rfl }
open Go.RowKit Go.Sort Go.Lib in
theorem Tryz.strconv_Itoa (n : Int) (h0 : -9223372036854775808 ≤ n) (h1 : n ≤ 9223372036854775807) (w : World) (htab : Lib.TabIs Tryz.prog w "internal/strconv.uint64pow10" .u64 Lib.pow10Tab) :
  Calls Tryz.prog 22 #[.int .i64 n] w fun e w' => e = .returned (.string ⟨(Lib.itoa n).toArray⟩) ∧ ∃ k os, w' = grow (w.drewN k) os := Any.strconv_Itoa Tryz.laysM171 n h0 h1 w htab
def Tryz.laysC172_ren : Go.Shelf.Ren := ⟨fun | 172 => 113 | 244 => 146 | 245 => 147 | 247 => 173 | 279 => 174 | 280 => 175 | 281 => 176 | 282 => 177 | 287 => 196 | 316 => 197 | 171 => 22 | 205 => 198 | 321 => 204 | 322 => 205 | 243 => 58 | 246 => 109 | 283 => 140 | 284 => 141 | 285 => 142 | 286 => 143 | 129 => 159 | 317 => 165 | 318 => 166 | 319 => 167 | 320 => 168 | 337 => 187 | 338 => 188 | n => n, fun | 9 => 9 | 3 => 3 | 75 => 79 | 76 => 80 | 4 => 4 | 5 => 5 | 167 => 246 | 37 => 75 | 0 => 0 | 85 => 247 | 2 => 2 | 168 => 249 | 53 => 218 | 175 => 260 | 46 => 143 | 210 => 263 | 127 => 141 | 145 => 276 | 143 => 274 | 21 => 21 | 171 => 217 | 173 => 221 | 212 => 243 | 51 => 234 | 20 => 20 | 213 => 244 | 232 => 269 | 233 => 270 | 80 => 89 | n => n, fun | 15 => 3 | 16 => 4 | 17 => 1 | 18 => 5 | 19 => 6 | n => n⟩
theorem Tryz.laysC172 : Go.Proofs.LaysC.n172 Tryz.prog Tryz.laysC172_ren := {
 mixed := by kernel_rfl
 f129 := Tryz.func159.trans (congrArg some (by kernel_rfl))
 f171 := Tryz.func22.trans (congrArg some (by kernel_rfl))
 f172 := Tryz.func113.trans (congrArg some (by kernel_rfl))
 f205 := Tryz.func198.trans (congrArg some (by kernel_rfl))
 f243 := Tryz.func58.trans (congrArg some (by kernel_rfl))
 f244 := Tryz.func146.trans (congrArg some (by kernel_rfl))
 f245 := Tryz.func147.trans (congrArg some (by kernel_rfl))
 f246 := Tryz.func109.trans (congrArg some (by kernel_rfl))
 f247 := Tryz.func173.trans (congrArg some (by kernel_rfl))
 f279 := Tryz.func174.trans (congrArg some (by kernel_rfl))
 f280 := Tryz.func175.trans (congrArg some (by kernel_rfl))
 f281 := Tryz.func176.trans (congrArg some (by kernel_rfl))
 f282 := Tryz.func177.trans (congrArg some (by kernel_rfl))
 f283 := Tryz.func140.trans (congrArg some (by kernel_rfl))
 f284 := Tryz.func141.trans (congrArg some (by kernel_rfl))
 f285 := Tryz.func142.trans (congrArg some (by kernel_rfl))
 f286 := Tryz.func143.trans (congrArg some (by kernel_rfl))
 f287 := Tryz.func196.trans (congrArg some (by kernel_rfl))
 f316 := Tryz.func197.trans (congrArg some (by kernel_rfl))
 f317 := Tryz.func165.trans (congrArg some (by kernel_rfl))
 f318 := Tryz.func166.trans (congrArg some (by kernel_rfl))
 f319 := Tryz.func167.trans (congrArg some (by kernel_rfl))
 f320 := Tryz.func168.trans (congrArg some (by kernel_rfl))
 f321 := Tryz.func204.trans (congrArg some (by kernel_rfl))
 f322 := Tryz.func205.trans (congrArg some (by kernel_rfl))
 f337 := Tryz.func187.trans (congrArg some (by kernel_rfl))
 f338 := Tryz.func188.trans (congrArg some (by kernel_rfl))
 t0 := Tryz.underlying0
 a0 := Tryz.isAgg0
 z0 := Tryz.sizeOf0
 v0 := Tryz.zeroValue0
 t2 := Tryz.underlying2
 a2 := Tryz.isAgg2
 z2 := Tryz.sizeOf2
 v2 := Tryz.zeroValue2
 t3 := Tryz.underlying3
 a3 := Tryz.isAgg3
 z3 := Tryz.sizeOf3
 v3 := Tryz.zeroValue3
 t4 := Tryz.underlying4
 a4 := Tryz.isAgg4
 z4 := Tryz.sizeOf4
 v4 := Tryz.zeroValue4
 t5 := Tryz.underlying5
 a5 := Tryz.isAgg5
 z5 := Tryz.sizeOf5
 v5 := Tryz.zeroValue5
 t9 := Tryz.underlying9
 a9 := Tryz.isAgg9
 z9 := Tryz.sizeOf9
 v9 := Tryz.zeroValue9
 t20 := Tryz.underlying20
 a20 := Tryz.isAgg20
 z20 := Tryz.sizeOf20
 v20 := Tryz.zeroValue20
 t21 := Tryz.underlying21
 a21 := Tryz.isAgg21
 z21 := Tryz.sizeOf21
 v21 := Tryz.zeroValue21
 t37 := Tryz.underlying75
 a37 := Tryz.isAgg75
 z37 := Tryz.sizeOf75
 v37 := Tryz.zeroValue75
 t46 := Tryz.underlying143
 a46 := Tryz.isAgg143
 z46 := Tryz.sizeOf143
 v46 := Tryz.zeroValue143
 t51 := Tryz.underlying234
 a51 := Tryz.isAgg234
 z51 := Tryz.sizeOf234
 v51 := Tryz.zeroValue234
 t53 := Tryz.underlying218
 a53 := Tryz.isAgg218
 z53 := Tryz.sizeOf218
 v53 := Tryz.zeroValue218
 t75 := Tryz.underlying79
 a75 := Tryz.isAgg79
 z75 := Tryz.sizeOf79
 v75 := Tryz.zeroValue79
 t76 := Tryz.underlying80
 a76 := Tryz.isAgg80
 z76 := Tryz.sizeOf80
 v76 := Tryz.zeroValue80
 t85 := Tryz.underlying247
 a85 := Tryz.isAgg247
 z85 := Tryz.sizeOf247
 v85 := Tryz.zeroValue247
 t127 := Tryz.underlying141
 a127 := Tryz.isAgg141
 z127 := Tryz.sizeOf141
 v127 := Tryz.zeroValue141
 t143 := Tryz.underlying274
 a143 := Tryz.isAgg274
 z143 := Tryz.sizeOf274
 v143 := Tryz.zeroValue274
 t145 := Tryz.underlying276
 a145 := Tryz.isAgg276
 z145 := Tryz.sizeOf276
 v145 := Tryz.zeroValue276
 t167 := Tryz.underlying246
 a167 := Tryz.isAgg246
 z167 := Tryz.sizeOf246
 v167 := Tryz.zeroValue246
 t168 := Tryz.underlying249
 a168 := Tryz.isAgg249
 z168 := Tryz.sizeOf249
 v168 := Tryz.zeroValue249
 t171 := Tryz.underlying217
 a171 := Tryz.isAgg217
 z171 := Tryz.sizeOf217
 v171 := Tryz.zeroValue217
 t173 := Tryz.underlying221
 a173 := Tryz.isAgg221
 z173 := Tryz.sizeOf221
 v173 := Tryz.zeroValue221
 t175 := Tryz.underlying260
 a175 := Tryz.isAgg260
 z175 := Tryz.sizeOf260
 v175 := Tryz.zeroValue260
 t210 := Tryz.underlying263
 a210 := Tryz.isAgg263
 z210 := Tryz.sizeOf263
 v210 := Tryz.zeroValue263
 t212 := Tryz.underlying243
 a212 := Tryz.isAgg243
 z212 := Tryz.sizeOf243
 v212 := Tryz.zeroValue243
 t213 := Tryz.underlying244
 a213 := Tryz.isAgg244
 z213 := Tryz.sizeOf244
 t232 := Tryz.underlying269
 a232 := Tryz.isAgg269
 z232 := Tryz.sizeOf269
 v232 := Tryz.zeroValue269
 t233 := Tryz.underlying270
 a233 := Tryz.isAgg270
 z233 := Tryz.sizeOf270
 v233 := Tryz.zeroValue270
 g15 := by kernel_rfl
 g16 := by kernel_rfl
 g17 := by kernel_rfl
 g18 := by kernel_rfl
 g19 := by kernel_rfl
 t80 := Tryz.underlying89
 a80 := Tryz.isAgg89
 z80 := Tryz.sizeOf89
 v80 := Tryz.zeroValue89
 i0 := by kernel_rfl
 i2 := by kernel_rfl
 i3 := by kernel_rfl
 i4 := by kernel_rfl
 i5 := by kernel_rfl
 i9 := by kernel_rfl
 i20 := by kernel_rfl
 i21 := by kernel_rfl
 i37 := by kernel_rfl
 i46 := by kernel_rfl
 i51 := by kernel_rfl
 i53 := by kernel_rfl
 i75 := by kernel_rfl
 i76 := by kernel_rfl
 i80 := by kernel_rfl
 i85 := by kernel_rfl
 i127 := by kernel_rfl
 i143 := by kernel_rfl
 i145 := by kernel_rfl
 i167 := by kernel_rfl
 i168 := by kernel_rfl
 i171 := by kernel_rfl
 i173 := by kernel_rfl
 i175 := by kernel_rfl
 i210 := by kernel_rfl
 i212 := by kernel_rfl
 i232 := by kernel_rfl
 i233 := by kernel_rfl
 m15 := by kernel_rfl
 m16 := by kernel_rfl
 m17 := by kernel_rfl
 m18 := by kernel_rfl
 m19 := by kernel_rfl
 c0 := by kernel_rfl
 c2 := by kernel_rfl
 c3 := by kernel_rfl
 c4 := by kernel_rfl
 c5 := by kernel_rfl
 c9 := by kernel_rfl
 c20 := by kernel_rfl
 c21 := by kernel_rfl
 c37 := by kernel_rfl
 c46 := by kernel_rfl
 c51 := by kernel_rfl
 c53 := by kernel_rfl
 c75 := by kernel_rfl
 c76 := by kernel_rfl
 c80 := by kernel_rfl
 c85 := by kernel_rfl
 c127 := by kernel_rfl
 c143 := by kernel_rfl
 c145 := by kernel_rfl
 c167 := by kernel_rfl
 c168 := by kernel_rfl
 c171 := by kernel_rfl
 c173 := by kernel_rfl
 c175 := by kernel_rfl
 c210 := by kernel_rfl
 c212 := by kernel_rfl
 c213 := by kernel_rfl
 c232 := by kernel_rfl
 c233 := by kernel_rfl }
open Go.RowKit in
theorem Tryz.strconv_Atoi_ok (s : ByteArray) (hmax : s.size ≤ 9223372036854775806) (v : Int) (h : Lib.atoiAll s.data.toList = .ok v) (w : World) :
  Calls Tryz.prog 113 #[.string s] w fun e w' => e = .returned (.tuple #[.int .i64 v, .nilIface]) ∧ (w' = w ∨ ∃ t, w' = Lib.bytesWorld w 5 t) := Any.strconv_Atoi_ok Tryz.laysC172 s hmax v h w
open Go.RowKit in
theorem Tryz.strconv_Atoi_syntax_var (s : ByteArray) (hlim : s.size ≤ 281474976710656) (h : Lib.atoiAll s.data.toList = .«syntax») (tp : TypeId) (p : Value) (w : World) (hvar : w.var? Tryz.prog "strconv.ErrSyntax" = some #[.iface tp p]) :
  Calls Tryz.prog 113 #[.string s] w fun e w' => ∃ N, e = .returned (.tuple #[.int .i64 0, .iface 249 (.pointer (some ⟨N, 0, none⟩))]) ∧ w.heap.size ≤ N ∧ w'.heap[N]? = some (.cells #[.string ⟨#[65, 116, 111, 105]⟩, .string s, .iface tp p] 263 (0, 0)) ∧ Below w.heap.size w w' := Any.strconv_Atoi_syntax_var Tryz.laysC172 s hlim h tp p w hvar
open Go.RowKit in
theorem Tryz.strconv_Atoi_range_var (s : ByteArray) (hlim : s.size ≤ 281474976710656) (h : Lib.atoiAll s.data.toList = .range) (tp : TypeId) (p : Value) (w : World) (hvar : w.var? Tryz.prog "strconv.ErrRange" = some #[.iface tp p]) :
  Calls Tryz.prog 113 #[.string s] w fun e w' => ∃ N, e = .returned (.tuple #[.int .i64 (Lib.atoiSat s.data.toList), .iface 249 (.pointer (some ⟨N, 0, none⟩))]) ∧ w.heap.size ≤ N ∧ w'.heap[N]? = some (.cells #[.string ⟨#[65, 116, 111, 105]⟩, .string s, .iface tp p] 263 (0, 0)) ∧ Below w.heap.size w w' := Any.strconv_Atoi_range_var Tryz.laysC172 s hlim h tp p w hvar
def Tryz.lays219_ren : Go.Shelf.Ren := ⟨fun | 219 => 169 | 217 => 189 | 225 => 190 | 224 => 191 | 267 => 192 | 266 => 201 | 314 => 202 | n => n, fun | 9 => 9 | 3 => 3 | 4 => 4 | 5 => 5 | 46 => 143 | 146 => 271 | 51 => 234 | n => n, fun | 1 => 2 | n => n⟩
theorem Tryz.lays219 : Go.Proofs.Lays.n219 Tryz.prog Tryz.lays219_ren := {
 mixed := by kernel_rfl
 f217 := Tryz.func189.trans (congrArg some (by kernel_rfl))
 f219 := Tryz.func169.trans (congrArg some (by kernel_rfl))
 f224 := Tryz.func191.trans (congrArg some (by kernel_rfl))
 f225 := Tryz.func190.trans (congrArg some (by kernel_rfl))
 f266 := Tryz.func201.trans (congrArg some (by kernel_rfl))
 f267 := Tryz.func192.trans (congrArg some (by kernel_rfl))
 f314 := Tryz.func202.trans (congrArg some (by kernel_rfl))
 t3 := Tryz.underlying3
 a3 := Tryz.isAgg3
 z3 := Tryz.sizeOf3
 v3 := Tryz.zeroValue3
 t4 := Tryz.underlying4
 a4 := Tryz.isAgg4
 z4 := Tryz.sizeOf4
 v4 := Tryz.zeroValue4
 t5 := Tryz.underlying5
 a5 := Tryz.isAgg5
 z5 := Tryz.sizeOf5
 v5 := Tryz.zeroValue5
 t9 := Tryz.underlying9
 a9 := Tryz.isAgg9
 z9 := Tryz.sizeOf9
 v9 := Tryz.zeroValue9
 t46 := Tryz.underlying143
 a46 := Tryz.isAgg143
 z46 := Tryz.sizeOf143
 v46 := Tryz.zeroValue143
 t51 := Tryz.underlying234
 a51 := Tryz.isAgg234
 z51 := Tryz.sizeOf234
 v51 := Tryz.zeroValue234
 t146 := Tryz.underlying271
 a146 := Tryz.isAgg271
 z146 := Tryz.sizeOf271
 v146 := Tryz.zeroValue271
 g1 := by kernel_rfl }
open Go.RowKit Go.Lib in
theorem Tryz.stringslite_Index_one (s : ByteArray) (c : UInt8) (w : World) :
  Calls Tryz.prog 169 #[.string s, .string ⟨#[c]⟩] w fun e w' => e = .returned (.int .i64 (Lib.indexByte s.data.toList c)) ∧ w' = w := Any.stringslite_Index_one Tryz.lays219 s c w
def Tryz.lays143_ren : Go.Shelf.Ren := ⟨fun | 143 => 172 | 219 => 169 | 217 => 189 | 225 => 190 | 224 => 191 | 267 => 192 | 266 => 201 | 314 => 202 | n => n, fun | 9 => 9 | 3 => 3 | 4 => 4 | 5 => 5 | 46 => 143 | 146 => 271 | 51 => 234 | n => n, fun | 1 => 2 | n => n⟩
theorem Tryz.lays143 : Go.Proofs.Lays.n143 Tryz.prog Tryz.lays143_ren := {
 mixed := by kernel_rfl
 f143 := Tryz.func172.trans (congrArg some (by kernel_rfl))
 f217 := Tryz.func189.trans (congrArg some (by kernel_rfl))
 f219 := Tryz.func169.trans (congrArg some (by kernel_rfl))
 f224 := Tryz.func191.trans (congrArg some (by kernel_rfl))
 f225 := Tryz.func190.trans (congrArg some (by kernel_rfl))
 f266 := Tryz.func201.trans (congrArg some (by kernel_rfl))
 f267 := Tryz.func192.trans (congrArg some (by kernel_rfl))
 f314 := Tryz.func202.trans (congrArg some (by kernel_rfl))
 t3 := Tryz.underlying3
 a3 := Tryz.isAgg3
 z3 := Tryz.sizeOf3
 v3 := Tryz.zeroValue3
 t4 := Tryz.underlying4
 a4 := Tryz.isAgg4
 z4 := Tryz.sizeOf4
 v4 := Tryz.zeroValue4
 t5 := Tryz.underlying5
 a5 := Tryz.isAgg5
 z5 := Tryz.sizeOf5
 v5 := Tryz.zeroValue5
 t9 := Tryz.underlying9
 a9 := Tryz.isAgg9
 z9 := Tryz.sizeOf9
 v9 := Tryz.zeroValue9
 t46 := Tryz.underlying143
 a46 := Tryz.isAgg143
 z46 := Tryz.sizeOf143
 v46 := Tryz.zeroValue143
 t51 := Tryz.underlying234
 a51 := Tryz.isAgg234
 z51 := Tryz.sizeOf234
 v51 := Tryz.zeroValue234
 t146 := Tryz.underlying271
 a146 := Tryz.isAgg271
 z146 := Tryz.sizeOf271
 v146 := Tryz.zeroValue271
 g1 := by kernel_rfl }
open Go.RowKit Go.Lib in
theorem Tryz.strings_Index_one (s : ByteArray) (c : UInt8) (w : World) :
  Calls Tryz.prog 172 #[.string s, .string ⟨#[c]⟩] w fun e w' => e = .returned (.int .i64 (Lib.indexByte s.data.toList c)) ∧ w' = w := Any.strings_Index_one Tryz.lays143 s c w
def Tryz.lays138_ren : Go.Shelf.Ren := ⟨fun | 138 => 171 | 195 => 193 | 218 => 195 | 143 => 172 | 219 => 169 | 217 => 189 | 225 => 190 | 224 => 191 | 267 => 192 | 266 => 201 | 314 => 202 | n => n, fun | 9 => 9 | 3 => 3 | 4 => 4 | 5 => 5 | 0 => 0 | 46 => 143 | 146 => 271 | 51 => 234 | n => n, fun | 1 => 2 | n => n⟩
theorem Tryz.lays138 : Go.Proofs.Lays.n138 Tryz.prog Tryz.lays138_ren := {
 mixed := by kernel_rfl
 f138 := Tryz.func171.trans (congrArg some (by kernel_rfl))
 f143 := Tryz.func172.trans (congrArg some (by kernel_rfl))
 f195 := Tryz.func193.trans (congrArg some (by kernel_rfl))
 f217 := Tryz.func189.trans (congrArg some (by kernel_rfl))
 f218 := Tryz.func195.trans (congrArg some (by kernel_rfl))
 f219 := Tryz.func169.trans (congrArg some (by kernel_rfl))
 f224 := Tryz.func191.trans (congrArg some (by kernel_rfl))
 f225 := Tryz.func190.trans (congrArg some (by kernel_rfl))
 f266 := Tryz.func201.trans (congrArg some (by kernel_rfl))
 f267 := Tryz.func192.trans (congrArg some (by kernel_rfl))
 f314 := Tryz.func202.trans (congrArg some (by kernel_rfl))
 t0 := Tryz.underlying0
 a0 := Tryz.isAgg0
 z0 := Tryz.sizeOf0
 v0 := Tryz.zeroValue0
 t3 := Tryz.underlying3
 a3 := Tryz.isAgg3
 z3 := Tryz.sizeOf3
 v3 := Tryz.zeroValue3
 t4 := Tryz.underlying4
 a4 := Tryz.isAgg4
 z4 := Tryz.sizeOf4
 v4 := Tryz.zeroValue4
 t5 := Tryz.underlying5
 a5 := Tryz.isAgg5
 z5 := Tryz.sizeOf5
 v5 := Tryz.zeroValue5
 t9 := Tryz.underlying9
 a9 := Tryz.isAgg9
 z9 := Tryz.sizeOf9
 v9 := Tryz.zeroValue9
 t46 := Tryz.underlying143
 a46 := Tryz.isAgg143
 z46 := Tryz.sizeOf143
 v46 := Tryz.zeroValue143
 t51 := Tryz.underlying234
 a51 := Tryz.isAgg234
 z51 := Tryz.sizeOf234
 v51 := Tryz.zeroValue234
 t146 := Tryz.underlying271
 a146 := Tryz.isAgg271
 z146 := Tryz.sizeOf271
 v146 := Tryz.zeroValue271
 g1 := by kernel_rfl }
open Go.RowKit Go.Lib in
theorem Tryz.strings_Count_one (s : ByteArray) (c : UInt8) (w : World) :
  Calls Tryz.prog 171 #[.string s, .string ⟨#[c]⟩] w fun e w' => e = .returned (.int .i64 (Lib.countByte s.data.toList c)) ∧ w' = w := Any.strings_Count_one Tryz.lays138 s c w
def Tryz.lays221_ren : Go.Shelf.Ren := ⟨fun | 221 => 145 | 268 => 170 | 138 => 171 | 143 => 172 | 195 => 193 | 197 => 194 | 218 => 195 | 219 => 169 | 260 => 203 | 217 => 189 | 225 => 190 | 224 => 191 | 267 => 192 | 266 => 201 | 314 => 202 | n => n, fun | 9 => 9 | 3 => 3 | 31 => 101 | 4 => 4 | 0 => 0 | 105 => 258 | 21 => 21 | 5 => 5 | 46 => 143 | 119 => 278 | 139 => 281 | 138 => 280 | 146 => 271 | 51 => 234 | n => n, fun | 1 => 2 | 3 => 7 | 4 => 8 | n => n⟩
theorem Tryz.lays221 : Go.Proofs.Lays.n221 Tryz.prog Tryz.lays221_ren := {
 mixed := by kernel_rfl
 f138 := Tryz.func171.trans (congrArg some (by kernel_rfl))
 f143 := Tryz.func172.trans (congrArg some (by kernel_rfl))
 f195 := Tryz.func193.trans (congrArg some (by kernel_rfl))
 f197 := Tryz.func194.trans (congrArg some (by kernel_rfl))
 f217 := Tryz.func189.trans (congrArg some (by kernel_rfl))
 f218 := Tryz.func195.trans (congrArg some (by kernel_rfl))
 f219 := Tryz.func169.trans (congrArg some (by kernel_rfl))
 f221 := Tryz.func145.trans (congrArg some (by kernel_rfl))
 f224 := Tryz.func191.trans (congrArg some (by kernel_rfl))
 f225 := Tryz.func190.trans (congrArg some (by kernel_rfl))
 f260 := Tryz.func203.trans (congrArg some (by kernel_rfl))
 f266 := Tryz.func201.trans (congrArg some (by kernel_rfl))
 f267 := Tryz.func192.trans (congrArg some (by kernel_rfl))
 f268 := Tryz.func170.trans (congrArg some (by kernel_rfl))
 f314 := Tryz.func202.trans (congrArg some (by kernel_rfl))
 t0 := Tryz.underlying0
 a0 := Tryz.isAgg0
 z0 := Tryz.sizeOf0
 v0 := Tryz.zeroValue0
 t3 := Tryz.underlying3
 a3 := Tryz.isAgg3
 z3 := Tryz.sizeOf3
 v3 := Tryz.zeroValue3
 t4 := Tryz.underlying4
 a4 := Tryz.isAgg4
 z4 := Tryz.sizeOf4
 v4 := Tryz.zeroValue4
 t5 := Tryz.underlying5
 a5 := Tryz.isAgg5
 z5 := Tryz.sizeOf5
 v5 := Tryz.zeroValue5
 t9 := Tryz.underlying9
 a9 := Tryz.isAgg9
 z9 := Tryz.sizeOf9
 v9 := Tryz.zeroValue9
 t21 := Tryz.underlying21
 a21 := Tryz.isAgg21
 z21 := Tryz.sizeOf21
 v21 := Tryz.zeroValue21
 t31 := Tryz.underlying101
 a31 := Tryz.isAgg101
 z31 := Tryz.sizeOf101
 v31 := Tryz.zeroValue101
 t46 := Tryz.underlying143
 a46 := Tryz.isAgg143
 z46 := Tryz.sizeOf143
 v46 := Tryz.zeroValue143
 t51 := Tryz.underlying234
 a51 := Tryz.isAgg234
 z51 := Tryz.sizeOf234
 v51 := Tryz.zeroValue234
 t105 := Tryz.underlying258
 a105 := Tryz.isAgg258
 z105 := Tryz.sizeOf258
 v105 := Tryz.zeroValue258
 t119 := Tryz.underlying278
 a119 := Tryz.isAgg278
 z119 := Tryz.sizeOf278
 t138 := Tryz.underlying280
 a138 := Tryz.isAgg280
 z138 := Tryz.sizeOf280
 v138 := Tryz.zeroValue280
 t139 := Tryz.underlying281
 a139 := Tryz.isAgg281
 z139 := Tryz.sizeOf281
 v139 := Tryz.zeroValue281
 t146 := Tryz.underlying271
 a146 := Tryz.isAgg271
 z146 := Tryz.sizeOf271
 v146 := Tryz.zeroValue271
 g1 := by kernel_rfl
 g3 := by kernel_rfl
 g4 := by kernel_rfl }
end Go.Proofs
/- The table of strconv; strconv.Itoa; texts as results. -/
namespace Go.Proofs.YtogdefomigiepaaGreatDoor
open Go.RowKit Go.Shelf

def Tabs (w : World) : Prop := Lib.TabIs Tryz.prog w "internal/strconv.uint64pow10" .u64 Lib.pow10Tab
theorem var_below {P : Program} {w w' : World} {B : Nat} {name : String} {cs : Array Value} (h : w.var? P name = some cs) (hb : Below B w w') (hB : B = w.heap.size) : w'.var? P name = some cs := by
 subst hB
 unfold World.var? at h ⊢
 cases hg : P.globalNamed name with
 | none => rw [hg] at h; cases h
 | some g =>
  rw [hg] at h
  simp only [Option.bind_some] at h ⊢
  have hlt : g < w.heap.size := by
   rcases Nat.lt_or_ge g w.heap.size with h' | h'
   ·exact h'
   ·rw [Array.getElem?_eq_none h'] at h; cases h
  rw [hb.block g hlt]; exact h
theorem Tabs.below {w w' : World} (h : Tabs w) (hb : Below w.heap.size w w') : Tabs w' := var_below h hb rfl
theorem Itoa_any (n : Int) (w : World) (h0 : -9223372036854775808 ≤ n) (h1 : n ≤ 9223372036854775807) (ht : Tabs w) :
  Calls Tryz.prog 22 #[.int .i64 n] w fun e w' => e = .returned (.string ⟨(Lib.itoa n).toArray⟩) ∧ Below w.heap.size w w' :=
 (Tryz.strconv_Itoa n h0 h1 w ht).mono fun _ w' ⟨he, k, os, hw⟩ => ⟨he, by rw [hw]; exact Lib.below_grow _ _ (Nat.le_refl _) _ _⟩
theorem dec_len (u : Nat) (k : Nat) (h : u < 10 ^ (k + 1)) : (Lib.decDigits u).length ≤ k + 1 := by
 induction k generalizing u with
 | zero =>
  rw [Lib.decDigits]
  simp at h
  simp [h]
 | succ k ih =>
  rw [Lib.decDigits]
  by_cases hu : u < 10
  ·simp [hu]
  ·simp only [hu, dite_false, List.length_append, List.length_singleton]
   have := ih (u / 10) (by rw [Nat.pow_succ] at h; omega)
   omega
theorem itoa_len (n : Int) (h0 : -9223372036854775808 ≤ n) (h1 : n ≤ 9223372036854775807) : (Lib.itoa n).length ≤ 21 := by
 unfold Lib.itoa
 split
 ·have := dec_len n.natAbs 18 (by omega)
  simp only [List.length_cons]; omega
 ·have := dec_len n.toNat 18 (by omega)
  omega
def RetDec (n : Int) (w : World) (e : Ending) (w' : World) : Prop := ∃ s : ByteArray, e = .returned (.string s) ∧ Hid (s.data.toList = Lib.itoa n) ∧ s.size ≤ 21 ∧ Below w.heap.size w w'
theorem ItoaD_any (n : Int) (w : World) (h0 : -9223372036854775808 ≤ n) (h1 : n ≤ 9223372036854775807) (ht : Tabs w) : Calls Tryz.prog 22 #[.int .i64 n] w (RetDec n w) :=
 (Itoa_any n w h0 h1 ht).mono fun _ w' ⟨he, hb⟩ => ⟨_, he, (show (Lib.itoa n).toArray.toList = _ by simp), (by have := itoa_len n h0 h1; simpa [ByteArray.size] using this), hb⟩
def RetTxt (l : List UInt8) (w : World) (e : Ending) (w' : World) : Prop := ∃ s : ByteArray, e = .returned (.string s) ∧ Hid (s.data.toList = l) ∧ Below w.heap.size w w'
theorem RetTxt.of {l : List UInt8} {s : ByteArray} {w w' : World} (h : s.data.toList = l) (hb : Below w.heap.size w w') : RetTxt l w (.returned (.string s)) w' := ⟨s, rfl, h, hb⟩
theorem bytes_ext {s t : ByteArray} (h : s.data.toList = t.data.toList) : s = t := by
 cases s; cases t; congr 1; exact Array.toList_inj.1 h
theorem app_list (s t : ByteArray) : (s ++ t).data.toList = s.data.toList ++ t.data.toList := by rw [ByteArray.data_append, Array.toList_append]
end Go.Proofs.YtogdefomigiepaaGreatDoor
/- Contracts of the reference: Less, Ordered, Filed, Form, Valid. -/
namespace Go.Proofs.YtogdefomigiepaaGreatDoor
open Go.RowKit Go.Sort

def OrdOk (l : List Ln) (k : Nat) : Prop := ∀ j (h : j < l.length), j < k → formB l[j] = true ∧ ∀ h0 : 0 < j, lnLt (l[j - 1]'(by omega)) l[j] = true
theorem ordOk_end {l : List Ln} (h : OrdOk l l.length) : ordB l = true := by
 rw [ordB_iff]
 exact ⟨fun j hj => (h j hj hj).1, fun j hj => (h (j + 1) hj hj).2 (by omega)⟩
theorem ordOk_form {l : List Ln} {k : Nat} (hk : k < l.length) (h : formB l[k] = false) : ordB l = false := by
 rw [Bool.eq_false_iff]
 intro hh
 have := ((ordB_iff _).1 hh).1 k hk
 rw [h] at this; cases this
theorem ordOk_lt {l : List Ln} {k : Nat} (hk : k + 1 < l.length) (h : lnLt (l[k]'(by omega)) l[k + 1] = false) : ordB l = false := by
 rw [Bool.eq_false_iff]
 intro hh
 have := ((ordB_iff _).1 hh).2 k hk
 rw [h] at this; cases this
set_option maxRecDepth 100000 in
set_option maxHeartbeats 4000000 in
theorem Ordered_any (l : List Ln) (v : Value) (w : World) (hv : Sl w 3 v (lns l)) :
  Calls Tryz.prog 27 #[v] w fun e w' => e = .returned (.bool (ordB l)) ∧ Below w.heap.size w w' := by
 have HV := Lib.hid hv
 obtain ⟨A, cap, rfl, h1, h2, _, _⟩ := hv
 rw [lns_len] at h1 HV ⊢
 unfold maxLen at h2
 go_enter Tryz.func27, Tryz.ntmps27
 go_wp2
 go_loopw [3] (fun i wr => ∃ k : Nat, k ≤ l.length ∧ i = .int .i64 k ∧ Hid (Below w.heap.size w wr) ∧ Hid (OrdOk l k)) (fun i _ => l.length - (intOf i).toNat)
 case atStart => exact ⟨0, by omega, rfl, Below.refl _ _, fun j _ h => by omega⟩
 case round =>
  obtain ⟨k, hk, rfl, HB, HK⟩ := hrel
  obtain ⟨wo, rfl⟩ : ∃ wo : World, wo = wr := ⟨_, rfl⟩
  by_cases hlt : k < l.length
  ·obtain ⟨bk, off, rfl, hc⟩ := (HV.out.below HB.out).cells (by rw [lns_len]; omega)
   have hbl := hc.1
   obtain ⟨c0, c1, c2⟩ := hc.ln hlt
   have i1 : (k : Int) < (l.length : Int) := by omega
   have HFD := Lib.hid (fun h => ordOk_form hlt h)
   have HPR : Hid (∀ (j : Nat) (hj : j < l.length), ∀ y : Ext wo, y.val.cell? ⟨bk, off + j * 3, none⟩ = some (.int .i64 (l[j]).kind) ∧ y.val.cell? ⟨bk, off + j * 3 + 1, none⟩ = some (.string (l[j]).code) ∧ y.val.cell? ⟨bk, off + j * 3 + 2, none⟩ = some (.int .i64 (l[j]).amt)) := fun j hj y => ⟨ext_cell hbl (hc.ln hj).1 y, ext_cell hbl (hc.ln hj).2.1 y, ext_cell hbl (hc.ln hj).2.2 y⟩
   obtain ⟨x, hx⟩ : ∃ x, l[k] = x := ⟨_, rfl⟩
   have HX := Lib.hid hx
   rw [hx] at c0 c1 c2 HFD
   have d0 := ext_cell hbl c0
   have d1 := ext_cell hbl c1
   have d2 := ext_cell hbl c2
   have HF := Lib.hid (fun y : Ext wo => refForm_any x y.val)
   have HBY : Hid (∀ y : Ext wo, Below w.heap.size w y.val) := fun y => below_after HB.out y.property HB.out.size
   clear hx hc c0 c1 c2
   cases hf : formB x
   ·rw [hf] at HF
    have HE := Lib.hid (HFD.out hf)
    clear hf HFD HPR
    go_wp2_with fail
    refine region_ext (by kernel_rfl) (by kernel_rfl) ?_
    repeat (go_big_quiet_step ((go_at_call 59; exact ext_call (HF.out _))))
    refine wpQuiet_nil ?_
    rintro _ ⟨y, rfl⟩
    go_wp2
    go_ret
    exact ⟨ret_bool HE.out.symm, HBY.out y⟩
   rw [hf] at HF
   have HFM := Lib.hid hf
   clear hf HFD
   rcases Nat.eq_zero_or_pos k with rfl | hk0
   ·have HN : Hid (OrdOk l (0 + 1)) := fun j hj h => by
     obtain rfl : j = 0 := by omega
     exact ⟨by rw [HX.out]; exact HFM.out, fun h => by omega⟩
    simp only [Nat.zero_mul, Nat.add_zero] at d0 d1 d2
    clear HPR
    go_wp2_with fail
    refine region_ext (by kernel_rfl) (by kernel_rfl) ?_
    repeat (go_big_quiet_step ((go_at_call 59; exact ext_call (HF.out _))))
    refine wpQuiet_nil ?_
    rintro _ ⟨y, rfl⟩
    go_wp2
    go_roundw
    case rel => exact ⟨0 + 1, by omega, by go_num, HBY.out y, HN.out⟩
    case measure => simp [intOf]; omega
   ·obtain ⟨j, rfl⟩ : ∃ j, k = j + 1 := ⟨k - 1, by omega⟩
    have hjl : j < l.length := by omega
    have HP := HPR.out j hjl
    have HOD := Lib.hid (fun h => ordOk_lt (k := j) hlt h)
    rw [HX.out] at HOD
    have HKJ : Hid (lnLt (l[j]'hjl) x = true → OrdOk l (j + 1 + 1)) := fun hl' i hi hik => by
     by_cases e : i = j + 1
     ·subst e
      refine ⟨by rw [HX.out]; exact HFM.out, fun _ => ?_⟩
      rw [HX.out]
      exact hl'
     ·exact HK.out i hi (by omega)
    obtain ⟨y, hy⟩ : ∃ y, l[j] = y := ⟨_, rfl⟩
    rw [hy] at HP HOD HKJ
    have p0 := fun z => (HP z).1
    have p1 := fun z => (HP z).2.1
    have p2 := fun z => (HP z).2.2
    have HLS := Lib.hid (fun z : Ext wo => Less_any y x z.val)
    have i2 : (j : Int) < (l.length : Int) := by omega
    have s2 : IntKind.i64.wrap ((j : Int) + 1 - 1) = (j : Int) := by rw [show (j : Int) + 1 - 1 = (j : Int) by omega]; exact IntWalk.i64_in _ (by omega)
    clear hy HP HPR
    cases hly : lnLt y x
    ·rw [hly] at HLS
     have HE := Lib.hid (HOD.out hly)
     clear hly HOD HKJ
     go_wp2_with fail
     refine region_ext (by kernel_rfl) (by kernel_rfl) ?_
     repeat (go_big_quiet_step (first | (go_at_call 59; exact ext_call (HF.out _)) | (go_at_call 60; exact ext_call (HLS.out _))))
     refine wpQuiet_nil ?_
     rintro _ ⟨z, rfl⟩
     go_wp2
     go_ret
     exact ⟨ret_bool HE.out.symm, HBY.out z⟩
    ·rw [hly] at HLS
     have HN := Lib.hid (HKJ.out hly)
     clear hly HOD HKJ
     go_wp2_with fail
     refine region_ext (by kernel_rfl) (by kernel_rfl) ?_
     repeat (go_big_quiet_step (first | (go_at_call 59; exact ext_call (HF.out _)) | (go_at_call 60; exact ext_call (HLS.out _))))
     refine wpQuiet_nil ?_
     rintro _ ⟨z, rfl⟩
     go_wp2
     go_roundw
     case rel => exact ⟨j + 1 + 1, by omega, by go_num, HBY.out z, HN.out⟩
     case measure => simp [intOf]; omega
  ·obtain rfl : k = l.length := by omega
   have HE := Lib.hid (ordOk_end HK.out)
   go_wp2
   go_ret
   exact ⟨ret_bool HE.out.symm, HB.out⟩
end Go.Proofs.YtogdefomigiepaaGreatDoor
/- Contracts of payrollref1.size and Decimal. -/
namespace Go.Proofs.YtogdefomigiepaaGreatDoor
open Go.RowKit

theorem size_any (n : Int) (w : World) (h0 : -9223372036854775808 ≤ n) (h1 : n ≤ 9223372036854775807) :
  Calls Tryz.prog 61 #[.int .i64 n] w fun e w' => e = .returned (.int .u64 (n.natAbs : Nat)) ∧ w' = w := by
 by_cases hn : n < 0
 ·go_enter Tryz.func61, Tryz.ntmps61
  go_wp2
  go_ret
  exact ⟨ret_int (by omega), rfl⟩
 ·go_enter Tryz.func61, Tryz.ntmps61
  go_wp2
  go_ret
  exact ⟨ret_int (by omega), rfl⟩
theorem run_one (w : World) (x : Int) (h0 : 0 ≤ x) (h1 : x < 256) : (convert 75 9 (.slice (some ⟨w.heap.size, 0, none⟩) 1 1)).run Tryz.prog (w.alloc (.cells #[.int .u8 x] 5)) = .ok (.string ⟨#[UInt8.ofNat x.toNat]⟩) (w.alloc (.cells #[.int .u8 x] 5)) := by
 refine run_convert_bytes_back (P := Tryz.prog) _ _ _ _ ⟨w.heap.size, 0, none⟩ 1 [UInt8.ofNat x.toNat] Tryz.underlying75 Tryz.underlying5 Tryz.underlying9 ?_
 intro j hj
 obtain rfl : j = 0 := by simpa using hj
 have : ((UInt8.ofNat x.toNat).toNat : Int) = x := by rw [UInt8.toNat_ofNat']; omega
 rw [show (⟨w.heap.size, 0, none⟩ : Addr).add 0 = ⟨w.heap.size, 0, none⟩ from rfl, World.cell?_alloc_new]
 simp only [List.getElem_cons_zero, this]; rfl
theorem dec_step (N : Nat) (m : Nat) (l : List UInt8) (h : l = [] ∧ m = N ∨ l ≠ [] ∧ (if m = 0 then l = Lib.decDigits N else Lib.decDigits N = Lib.decDigits m ++ l)) (hg : 0 < m ∨ l = []) :
  UInt8.ofNat (48 + m % 10) :: l ≠ [] ∧ (if m / 10 = 0 then UInt8.ofNat (48 + m % 10) :: l = Lib.decDigits N else Lib.decDigits N = Lib.decDigits (m / 10) ++ UInt8.ofNat (48 + m % 10) :: l) := by
 refine ⟨by simp, ?_⟩
 have key : Lib.decDigits N = Lib.decDigits m ++ l := by
  rcases h with ⟨rfl, rfl⟩ | ⟨hne, h⟩
  ·simp
  ·have : m ≠ 0 := by rcases hg with hg | hg; omega; exact absurd hg hne
   rwa [if_neg this] at h
 by_cases hm : m < 10
 ·rw [if_pos (by omega), key, dec_small m hm, Nat.mod_eq_of_lt hm]; rfl
 ·rw [if_neg (by omega), key, dec_big m (by omega)]; simp
set_option maxRecDepth 100000 in
set_option maxHeartbeats 1600000 in
theorem Decimal_any (n : Int) (w : World) (h0 : -9223372036854775808 ≤ n) (h1 : n ≤ 9223372036854775807) :
  Calls Tryz.prog 28 #[.int .i64 n] w (RetTxt (Lib.itoa n) w) := by
 go_enter Tryz.func28, Tryz.ntmps28
 go_wp2_with fail
 refine (size_any n _ h0 h1).mono ?_
 rintro e w' ⟨rfl, rfl⟩
 obtain ⟨N, hN⟩ : ∃ N, N = n.natAbs := ⟨_, rfl⟩
 rw [← hN]
 have hNl : N < 18446744073709551616 := by omega
 have HN := Lib.hid hN
 clear hN
 go_wp2_with fail
 go_loopw [3, 4] (fun x y wr => ∃ (s : ByteArray) (m : Nat), x = .string s ∧ y = .int .u64 m ∧ m ≤ N ∧ Hid (s.data.toList = [] ∧ m = N ∨ s.data.toList ≠ [] ∧ (if m = 0 then s.data.toList = Lib.decDigits N else Lib.decDigits N = Lib.decDigits m ++ s.data.toList)) ∧ s.size ≤ 20 ∧ Below w'.heap.size w' wr) (fun x y _ => (intOf y).toNat + match x with | .string s => (if s.data.toList = [] then 1 else 0) | _ => 0)
 case atStart => exact ⟨_, N, rfl, rfl, Nat.le_refl _, .inl ⟨rfl, rfl⟩, Nat.zero_le _, Below.refl _ _⟩
 case round =>
  obtain ⟨s, m, rfl, rfl, hm, HR, hsl, hB⟩ := hrel
  have HL : Hid (s.size + (if m = 0 then 0 else 1) ≤ (Lib.decDigits N).length) := by
   have e : s.size = s.data.toList.length := by simp
   have hp : 0 < (Lib.decDigits N).length := List.length_pos_iff.2 (dec_ne N)
   rcases HR.out with ⟨h, rfl⟩ | ⟨_, h⟩
   ·rw [Hid, e, h]; split <;> simp <;> omega
   ·by_cases hz : m = 0
    ·rw [if_pos hz] at h; rw [Hid, if_pos hz, e, h]; omega
    ·rw [if_neg hz] at h
     have := List.length_pos_iff.2 (dec_ne m)
     rw [Hid, if_neg hz, e, h, List.length_append]; omega
  have hN20 := dec_len N 19 (by omega)
  have hCV := run_one wr (48 + (m : Int) % 10) (by omega) (by omega)
  rw [show (48 + (m : Int) % 10).toNat = 48 + m % 10 by omega] at hCV
  obtain ⟨c, hc⟩ : ∃ c : UInt8, c = UInt8.ofNat (48 + m % 10) := ⟨_, rfl⟩
  rw [← hc] at hCV
  have HCC := Lib.hid hc
  clear hc
  by_cases hg : 0 < m ∨ s.data.toList = []
  ·have HS := Lib.hid (dec_step N m s.data.toList HR.out hg)
   rw [← HCC.out] at HS
   have hs1 : s.size ≤ 19 := by
    have := HL.out
    by_cases hz : m = 0
    ·rcases hg with hg | hg
     ·omega
     ·have e2 : s.size = s.data.toList.length := by simp
      rw [hg, List.length_nil] at e2; omega
    ·rw [if_neg hz] at this; omega
   have HB : Hid ((⟨#[c]⟩ ++ s : ByteArray).data.toList = c :: s.data.toList) := by
    rw [Hid, app_list]; rfl
   have fin : ∀ wq, wq = wr.alloc (.cells #[.int .u8 (48 + (m : Int) % 10)] 5) → ∃ (s' : ByteArray) (m' : Nat), (⟨#[c]⟩ ++ s : ByteArray) = s' ∧ ((m / 10 : Nat) : Int) = m' ∧ m' ≤ N ∧ Hid (s'.data.toList = [] ∧ m' = N ∨ s'.data.toList ≠ [] ∧ (if m' = 0 then s'.data.toList = Lib.decDigits N else Lib.decDigits N = Lib.decDigits m' ++ s'.data.toList)) ∧ s'.size ≤ 20 ∧ Below w'.heap.size w' wq := by
    intro wq hq
    subst hq
    refine ⟨_, m / 10, rfl, rfl, by omega, ?_, ?_, hB.alloc hB.size _⟩
    ·rw [Hid, HB.out]; exact .inr HS.out
    ·rw [ByteArray.size_append]; have : (⟨#[c]⟩ : ByteArray).size = 1 := rfl
     omega
   have FIN := Lib.hid fin
   clear fin
   obtain ⟨s', m', e1, e2, h3, h4, h5, h6⟩ := FIN.out _ rfl
   by_cases hm0 : 0 < m
   ·clear hg
    have E1 := Lib.hid e1
    have E2 := Lib.hid e2
    clear e1 e2
    go_wp2_with fail
    go_roundw
    case rel => exact ⟨s', m', by rw [← E1.out], by rw [← E2.out]; go_num, h3, h4, h5, h6⟩
    case measure =>
     simp [intOf]
     split <;> simp <;> omega
   ·obtain rfl : m = 0 := by omega
    have hse : s.data.toList = [] := by rcases hg with h | h; omega; exact h
    obtain rfl : s = ⟨#[]⟩ := bytes_ext hse
    clear hg
    have E1 := Lib.hid e1
    have E2 := Lib.hid e2
    clear e1 e2 hse
    have hCV0 : (convert 75 9 (.slice (some ⟨wr.heap.size, 0, none⟩) 1 1)).run Tryz.prog (wr.alloc (.cells #[.int .u8 48] 5)) = .ok (.string ⟨#[c]⟩) (wr.alloc (.cells #[.int .u8 48] 5)) := hCV
    clear hCV
    go_wp2_with fail
    go_roundw
    case rel => exact ⟨s', m', by rw [← E1.out], by rw [← E2.out]; go_num, h3, h4, h5, h6⟩
    case measure => simp [intOf]
  ·have hm0 : m = 0 := by omega
   subst hm0
   have hse : s.data.toList ≠ [] := by intro h; exact hg (.inr h)
   have HT : Hid (s.data.toList = Lib.decDigits N) := by
    rcases HR.out with ⟨h, _⟩ | ⟨_, h⟩
    ·exact absurd h hse
    ·rw [if_pos rfl] at h; exact h
   have hs0 : 0 < s.size := by
    have e2 : s.size = s.data.toList.length := by simp
    have := List.length_pos_iff.2 hse
    omega
   have t1 := notEmpty hs0
   have t2 := notNil hs0
   clear hg hse
   by_cases hn : n < 0
   ·go_wp2_with fail
    go_ret
    exact RetTxt.of (by rw [app_list, HT.out, HN.out, itoa_neg' n hn]; rfl) hB
   ·go_wp2_with fail
    go_ret
    exact RetTxt.of (by rw [HT.out, HN.out, itoa_pos' n (by omega)]) hB
end Go.Proofs.YtogdefomigiepaaGreatDoor
/- Texts as lists of bytes. -/
namespace Go.Proofs.YtogdefomigiepaaGreatDoor
open Go.RowKit Go.Shelf

def bsOf (l : List UInt8) : ByteArray := ⟨l.toArray⟩
theorem bsOf_list (l : List UInt8) : (bsOf l).data.toList = l := by simp [bsOf]
theorem bsOf_size (l : List UInt8) : (bsOf l).size = l.length := by simp [bsOf, ByteArray.size]
theorem bsOf_eq {s : ByteArray} {l : List UInt8} (h : s.data.toList = l) : s = bsOf l := bytes_ext (h.trans (bsOf_list l).symm)
theorem RetTxt.bs {l : List UInt8} {w w' : World} {e : Ending} (h : RetTxt l w e w') : e = .returned (.string (bsOf l)) ∧ Below w.heap.size w w' := by
 obtain ⟨s, rfl, hs, hb⟩ := h
 exact ⟨by rw [bsOf_eq hs.out], hb⟩
theorem itoa_20 (n : Int) (h0 : -9223372036854775808 ≤ n) (h1 : n ≤ 9223372036854775807) : (bsOf (Lib.itoa n)).size ≤ 21 := by
 rw [bsOf_size]
 have := dec_len n.natAbs 19 (by omega)
 rcases Int.lt_or_le n 0 with h | h
 ·rw [itoa_neg' n h, List.length_cons]; omega
 ·rw [itoa_pos' n h]; omega
end Go.Proofs.YtogdefomigiepaaGreatDoor
/- Contracts of strings.Builder at this program: copyCheck, WriteString (the library's own proofs, turned: the text of copyCheck has no panic that the loader takes). -/
namespace Go.Proofs.YtogdefomigiepaaGreatDoor
open Go.RowKit Go.Shelf

set_option maxHeartbeats 1000000 in
set_option maxRecDepth 100000 in
theorem copyCheck_used (b : Nat) (w : World) (h0 : w.cell? ⟨b, 0, none⟩ = some (.pointer (some ⟨b, 0, none⟩))) :
  Calls Tryz.prog 57 #[.pointer (some ⟨b, 0, none⟩)] w fun e w' => e = .returned (.tuple #[]) ∧ w' = w := by
 obtain ⟨j, hj, _⟩ := Option.map_eq_some_iff.1 (show (Tryz.prog.info? 77).map (·.size) = some 2 by kernel_rfl)
 go_enter Tryz.func57, Tryz.ntmps57
 go_wp2
 rw [Lib.run_neq_ptr_same w _ Tryz.underlying74 hj]
 go_wp2
 go_end0
 exact ⟨rfl, rfl⟩

set_option maxHeartbeats 1000000 in
set_option maxRecDepth 100000 in
theorem copyCheck_fresh (b : Nat) (w : World) (h0 : w.cell? ⟨b, 0, none⟩ = some (.pointer none)) (hsh : w.shape? b = some (77, 2)) (hfz : w.frozen? ⟨b, 0, none⟩ = false) :
  Calls Tryz.prog 57 #[.pointer (some ⟨b, 0, none⟩)] w fun e w' => e = .returned (.tuple #[]) ∧ w' = w.setCell ⟨b, 0, none⟩ (.pointer (some ⟨b, 0, none⟩)) := by
 obtain ⟨j, hj, hjs⟩ := Option.map_eq_some_iff.1 (show (Tryz.prog.info? 77).map (·.size) = some 2 by kernel_rfl)
 go_enter Tryz.func57, Tryz.ntmps57
 go_wp2
 rw [Lib.run_to_unsafe w ⟨b, 0, none⟩ Tryz.underlying74 Tryz.underlying189 hj (by rw [hjs]; decide) hsh (Nat.zero_lt_succ 1)]
 simp only [Result.andThen]
 rw [Oper.upon_value]
 go_wp2
 rw [run_callFunc_extern Tryz.func108 (by kernel_rfl) (by kernel_rfl) (by kernel_rfl) (e := Extern.AbiNoEscape.same) (by kernel_rfl)]
 rw [Lib.run_noEscape]
 simp only [Result.andThen]
 rw [Oper.upon_value]
 go_wp2
 rw [Lib.run_from_unsafe w ⟨b, 0, none⟩ Tryz.underlying189 Tryz.underlying74 hj hsh (by kernel_rfl)]
 simp only [Result.andThen]
 rw [Oper.upon_value]
 go_wp2
 go_end0
 exact ⟨rfl, rfl⟩

theorem copyCheck_any (B b : Nat) (bs : List Value) (w : World) (h : Lib.IsBuilder 77 5 B b bs w) :
  Calls Tryz.prog 57 #[.pointer (some ⟨b, 0, none⟩)] w fun e w' => e = .returned (.tuple #[]) ∧ (Lib.BuilderAt 77 5 B b (.pointer (some ⟨b, 0, none⟩)) bs w' ∧ Below B w w' ∧ Lib.OthersKept 5 (some b) w w') := by
 rcases h with h | h
 ·refine (copyCheck_fresh b w h.cell0 h.shape h.frozen0).mono ?_
  rintro e w' ⟨rfl, rfl⟩
  exact ⟨rfl, h.used _, (Below.refl B w).setCell (p := ⟨b, 0, none⟩) h.1 _, (Lib.OthersKept.refl _ _ w).setCell ⟨b, 0, none⟩ rfl _⟩
 ·refine (copyCheck_used b w h.cell0).mono ?_
  rintro e w' ⟨rfl, rfl⟩
  exact ⟨rfl, h, Below.refl B _, Lib.OthersKept.refl _ _ _⟩

set_option maxHeartbeats 1000000 in
set_option maxRecDepth 100000 in
theorem WriteString_any (B b : Nat) (bs : List Value) (s : ByteArray) (w : World) (h : Lib.IsBuilder 77 5 B b bs w) (hlen : bs.length + s.size ≤ 140737488355328) (hBw : B ≤ w.heap.size) :
  Calls Tryz.prog 21 #[.pointer (some ⟨b, 0, none⟩), .string s] w fun e w' => e = .returned (.tuple #[.int .i64 s.size, .nilIface]) ∧ (Lib.BuilderAt 77 5 B b (.pointer (some ⟨b, 0, none⟩)) (bs ++ Lib.strCells s) w' ∧ Below B w w' ∧ Lib.OthersKept 5 (some b) w w') := by
 obtain ⟨i0, hi, hz0, hz1, hz2⟩ := info_parts (show (Tryz.prog.info? 5).map (fun i => (i.zero, i.size, i.bytes)) = some (some (.int .u8 0), 1, 1) by kernel_rfl)
 go_enter Tryz.func21, Tryz.ntmps21
 go_wp2_with (go_at_call 57; refine (copyCheck_any B b bs _ h).mono ?_)
 rintro e w1 ⟨rfl, h1, hb1, hk1⟩
 obtain ⟨hB, v, hbk, hown, hne⟩ := h1
 have c0 : w1.cell? ⟨b, 0, none⟩ = some (.pointer (some ⟨b, 0, none⟩)) := by rw [Lib.cell_of_heap hbk]; rfl
 have c1 : w1.cell? ⟨b, 1, none⟩ = some v := by rw [Lib.cell_of_heap hbk]; rfl
 go_wp2_with (at_builtin; refine Lib.wpList_append_own_string _ rfl _ _ 75 9 rfl B 5 i0 Tryz.underlying75 Tryz.underlying9 hi hz0 hz1 hz2 _ _ _ rfl hown s rfl ?c3 ?c4 ?c5 ?_)
 case c3 => unfold maxLen; omega
 case c4 => omega
 case c5 => have := hb1.size; omega
 intro v' w2 hown' hgrow _
 have hlt : b < w1.heap.size := by
  rcases Nat.lt_or_ge b w1.heap.size with h' | h'
  ·exact h'
  ·simp [Array.getElem?_eq_none h'] at hbk
 have hb2 : w2.heap[b]? = some (.cells #[.pointer (some ⟨b, 0, none⟩), v] 77 (0, 0)) := by
  rw [hgrow.block b hlt (fun e => hne e.symm)]
  exact hbk
 have d0 : w2.cell? ⟨b, 0, none⟩ = some (.pointer (some ⟨b, 0, none⟩)) := by rw [Lib.cell_of_heap hb2]; rfl
 have d1 : w2.cell? ⟨b, 1, none⟩ = some v := by rw [Lib.cell_of_heap hb2]; rfl
 have f1 : w2.frozen? ⟨b, 1, none⟩ = false := Lib.frozen_of_heap hb2 1
 obtain ⟨ao, n', cap, rfl⟩ : ∃ ao n' cap, v' = .slice ao n' cap := by
  rcases hown'.2 with ⟨hv, _⟩ | ⟨g, cap, cur, hv, _⟩
  ·exact ⟨_, _, _, hv⟩
  ·exact ⟨_, _, _, hv⟩
 go_wp2
 go_ret2
 refine ⟨rfl, ?_, ?_, (hk1.grown hgrow fun g hg => ?_).setCell ⟨b, 1, none⟩ rfl _⟩
 ·exact Lib.BuilderAt.put (T := 77) (e := 5) hB hb2 (bs' := bs ++ Lib.strCells s) (by simpa [Lib.strCells_length] using hown') (by decide)
 ·exact (hb1.grown hgrow (by have := hb1.size; omega) (fun k hk => (hown.lt k hk).1)).setCell (p := ⟨b, 1, none⟩) hB _
 ·rcases hown.2 with ⟨rfl, _⟩ | ⟨g', cap', cur, rfl, _, hg', _⟩
  ·cases hg
  ·injection hg with hg
   subst hg
   exact ⟨_, _, hg'⟩
end Go.Proofs.YtogdefomigiepaaGreatDoor
/- A strings.Builder that holds a text: WriteString, String. -/
namespace Go.Proofs.YtogdefomigiepaaGreatDoor
open Go.RowKit Go.Shelf

def Bd (w : World) (b : Nat) (t : List UInt8) : Prop := Lib.IsBuilder 77 5 b b (Lib.byteCells t) w
theorem Bd.kept {w w' : World} {b : Nat} {t : List UInt8} (h : Bd w b t) (hb : Below w.heap.size w w') : Bd w' b t := by
 have key : ∀ p, Lib.BuilderAt 77 5 b b p (Lib.byteCells t) w → Lib.BuilderAt 77 5 b b p (Lib.byteCells t) w' := by
  intro p h
  have hl := h.lt
  obtain ⟨hB, v, hk, ho, hne⟩ := h
  refine ⟨hB, v, (hb.block b hl).trans hk, ho.kept (row := none) ⟨hb.os, hb.tape, hb.output, hb.size, fun k hk _ => hb.block k hk⟩ ?_, hne⟩
  cases hv : v.ownBlock
  ·exact .inl rfl
  ·exact .inr (by simp)
 rcases h with h | h
 ·exact .inl (key _ h)
 ·exact .inr (key _ h)
theorem Bd.lt {w : World} {b : Nat} {t : List UInt8} (h : Bd w b t) : b < w.heap.size := by
 rcases h with h | h <;> exact h.lt
theorem Bd.new (w : World) : Bd (w.alloc (.cells #[.pointer none, .slice none 0 0] 77)) w.heap.size [] :=
 .inl ⟨Nat.le_refl _, _, heap_alloc_new w _, World.ownsRow_nil _ _ _ _, by simp [Value.ownBlock]⟩
theorem WriteS_any (b : Nat) (t : List UInt8) (s : ByteArray) (w : World) (h : Bd w b t) (hlen : t.length + s.size ≤ 140737488355328) :
  Calls Tryz.prog 21 #[.pointer (some ⟨b, 0, none⟩), .string s] w fun e w' => e = .returned (.tuple #[.int .i64 s.size, .nilIface]) ∧ Bd w' b (t ++ s.data.toList) ∧ Below b w w' ∧ Lib.OthersKept 5 (some b) w w' := by
 refine (WriteString_any b b _ s w h (by rw [Lib.byteCells_length]; exact hlen) (Nat.le_of_lt h.lt)).mono ?_
 rintro e w' ⟨rfl, h1, h2, h3⟩
 refine ⟨rfl, .inr ?_, h2, h3⟩
 rw [Lib.strCells_eq] at h1
 simpa [Lib.byteCells] using h1
theorem Row.others {w w' : World} {g b : Nat} {t : TypeId} {cs : Array Value} (h : Row w g t cs) (hk : Lib.OthersKept 5 (some b) w w') (hb : g ≠ b) (ht : t ≠ 5) : Row w' g t cs :=
 hk g _ h (fun e => hb (by injection e)) (fun c fz e => ht (by injection e))
theorem BString_any (b : Nat) (t : List UInt8) (w : World) (h : Bd w b t) :
  Calls Tryz.prog 25 #[.pointer (some ⟨b, 0, none⟩)] w fun e w' => e = .returned (.string ⟨t.toArray⟩) ∧ Below b w w' :=
 Tryz.Builder_String_any b b t w h (Nat.le_of_lt h.lt)

end Go.Proofs.YtogdefomigiepaaGreatDoor
/- Contract of filing.Encode. -/
namespace Go.Proofs.YtogdefomigiepaaGreatDoor
open Go.RowKit Go.Shelf

theorem code_len {x : Ln} (h : Formed x) : x.code.size ≤ 24 := by
 cases hb : bareB x.kind
 ·have := name_len (h.c hb)
  simpa using this
 ·rw [h.b hb]; decide
end Go.Proofs.YtogdefomigiepaaGreatDoor
/- Contracts of the reference: Word, Text, Encode. -/
namespace Go.Proofs.YtogdefomigiepaaGreatDoor
open Go.RowKit Go.Shelf

theorem word_at (j : Nat) (h : j < 10) : (#[Value.string ⟨#[101, 97, 114, 110, 105, 110, 103]⟩, .string ⟨#[98, 101, 110, 101, 102, 105, 116]⟩, .string ⟨#[98, 101, 102, 111, 114, 101]⟩, .string ⟨#[108, 101, 118, 121]⟩, .string ⟨#[101, 109, 112, 108, 111, 121, 101, 114]⟩, .string ⟨#[116, 97, 120]⟩, .string ⟨#[97, 116, 116, 97, 99, 104, 101, 100]⟩, .string ⟨#[97, 102, 116, 101, 114]⟩, .string ⟨#[110, 101, 116]⟩, .string ⟨#[115, 104, 111, 114, 116]⟩] : Array Value)[j]? = some (.string (bsOf (wAll.getD j []))) := by
 match j, h with
 | 0, _ => rfl
 | 1, _ => rfl
 | 2, _ => rfl
 | 3, _ => rfl
 | 4, _ => rfl
 | 5, _ => rfl
 | 6, _ => rfl
 | 7, _ => rfl
 | 8, _ => rfl
 | 9, _ => rfl
theorem wordL_out {k : Int} (h : k < 1 ∨ 10 < k) : wordL k = [] := by
 unfold wordL
 rcases h with h | h
 ·rw [if_neg (by omega)]
 ·rw [if_pos (by omega), List.getD, List.getElem?_eq_none]
  ·rfl
  ·show wAll.length ≤ _
   have : wAll.length = 10 := rfl
   omega
theorem wordR_any (k : Int) (w : World) (h0 : -9223372036854775808 ≤ k) (h1 : k ≤ 9223372036854775807) :
  Calls Tryz.prog 63 #[.int .i64 k] w fun e w' => e = .returned (.string (bsOf (wordL k))) ∧ Below w.heap.size w w' := by
 by_cases q0 : k < 1
 ·have H : Hid (bsOf (wordL k) = ⟨#[]⟩) := by rw [Hid, wordL_out (.inl q0)]; rfl
  go_enter Tryz.func63, Tryz.ntmps63
  go_wp2
  go_ret
  exact ⟨by rw [H.out]; rfl, (Below.refl _ _).alloc (Nat.le_refl _) _⟩
 by_cases q1 : 10 < k
 ·have H : Hid (bsOf (wordL k) = ⟨#[]⟩) := by rw [Hid, wordL_out (.inr q1)]; rfl
  go_enter Tryz.func63, Tryz.ntmps63
  go_wp2
  go_ret
  exact ⟨by rw [H.out]; rfl, (Below.refl _ _).alloc (Nat.le_refl _) _⟩
 obtain ⟨j, hj⟩ : ∃ j : Nat, k = (j : Int) + 1 := ⟨(k - 1).toNat, by omega⟩
 subst hj
 have hj10 : j < 10 := by omega
 have H : Hid (wordL ((j : Int) + 1) = wAll.getD j []) := by
  unfold wordL
  rw [Hid, if_pos (by omega), show ((j : Int) + 1 - 1).toNat = j by omega]
 have HC := Lib.hid (word_at j hj10)
 have s1 : IntKind.i64.wrap ((j : Int) + 1 - 1) = (j : Int) := by rw [show (j : Int) + 1 - 1 = (j : Int) by omega]; exact IntWalk.i64_in _ (by omega)
 have s2 : ((j : Int) + 1 - 1) = (j : Int) := by omega
 have c0 : ∀ (o : Array Value), o[j]? = some (.string (bsOf (wAll.getD j []))) → (w.alloc (.cells o 9)).cell? ⟨w.heap.size, j, none⟩ = some (.string (bsOf (wAll.getD j []))) := fun o ho => by
  rw [World.cell?_alloc_new]; exact ho
 have c1 := c0 _ HC.out
 clear c0
 go_enter Tryz.func63, Tryz.ntmps63
 go_wp2
 go_ret
 exact ⟨by rw [H.out]; rfl, (Below.refl _ _).alloc (Nat.le_refl _) _⟩
theorem word_sz {x : Ln} (h : Formed x) : (bsOf (wordL x.kind)).size ≤ 8 := by
 obtain ⟨j, hj, _, hw⟩ := h.wd
 have hf := word_free j hj
 rw [bsOf_size, hw]
 exact hf.2.2
theorem lnT_bare {x : Ln} (h : bareB x.kind = true) : lnT x ++ [10] = wordL x.kind ++ [32] ++ Lib.itoa x.amt ++ [10] := by
 rw [lnT, wordsL, if_pos h]; simp [joinBy]
theorem lnT_code {x : Ln} (h : bareB x.kind = false) : lnT x ++ [10] = wordL x.kind ++ [32] ++ x.code.data.toList ++ [32] ++ Lib.itoa x.amt ++ [10] := by
 rw [lnT, wordsL, h]; simp [joinBy]
set_option maxRecDepth 100000 in
set_option maxHeartbeats 2000000 in
theorem Text_any (x : Ln) (w : World) (hf : Formed x) :
  Calls Tryz.prog 30 #[.agg #[.int .i64 x.kind, .string x.code, .int .i64 x.amt]] w fun e w' => e = .returned (.string (bsOf (lnT x ++ [10]))) ∧ Below w.heap.size w w' := by
 have a0 := hf.a0
 have a1 := hf.a1
 have k0 := hf.k0
 have k1 := hf.k1
 have hB := (Below.refl w.heap.size w).alloc (Nat.le_refl _) (.cells #[.int .i64 x.kind, .string x.code, .int .i64 x.amt] 45)
 have hr := Row.new w 45 #[.int .i64 x.kind, .string x.code, .int .i64 x.amt]
 obtain ⟨w1, hw1⟩ : ∃ w1, w.alloc (.cells #[.int .i64 x.kind, .string x.code, .int .i64 x.amt] 45) = w1 := ⟨_, rfl⟩
 rw [hw1] at hB hr
 obtain ⟨⟨y0, y1, y2, yl⟩, -⟩ := row3 hr
 have z0 := ext_cell yl y0
 have z1 := ext_cell yl y1
 have z2 := ext_cell yl y2
 have HW := Lib.hid (fun y : Ext w1 => wordR_any x.kind y.val (by omega) (by omega))
 have HD : Hid (∀ y : Ext w1, Calls Tryz.prog 28 #[.int .i64 x.amt] y.val fun e w' => e = .returned (.string (bsOf (Lib.itoa x.amt))) ∧ Below y.val.heap.size y.val w') := fun y => (Decimal_any x.amt y.val (by omega) (by omega)).mono fun _ _ h => h.bs
 have s1 := word_sz hf
 have s2 := itoa_20 x.amt (by omega) (by omega)
 have s3 := code_len hf
 have HBY : Hid (∀ y : Ext w1, Below w.heap.size w y.val) := fun y => below_after hB y.property hB.size
 obtain ⟨W, hW⟩ : ∃ W, wordL x.kind = W := ⟨_, rfl⟩
 obtain ⟨I, hI⟩ : ∃ I, Lib.itoa x.amt = I := ⟨_, rfl⟩
 rw [hW] at HW s1
 rw [hI] at HD s2
 have HIW := Lib.hid (And.intro hW hI)
 clear hB hr hW hI hf
 go_enter Tryz.func30, Tryz.ntmps30
 go_wp2_with fail
 cases hb : bareB x.kind
 ·have HT : Hid (lnT x ++ [10] = W ++ [32] ++ x.code.data.toList ++ [32] ++ I ++ [10]) := by rw [Hid, lnT_code hb, HIW.out.1, HIW.out.2]
  refine (refBare_any x.kind _).mono ?_
  rintro e w' ⟨rfl, rfl⟩
  rw [hb]
  clear hb y0 y1 y2
  go_wp2_with fail
  refine region_ext (by kernel_rfl) (by kernel_rfl) ?_
  repeat (go_big_quiet_step (first | (go_at_call 63; exact ext_call (HW.out _)) | (go_at_call 28; exact ext_call (HD.out _))))
  refine wpQuiet_nil ?_
  rintro _ ⟨y, rfl⟩
  go_wp2
  refine bodyPost_ret (v := .string _) (by simp [results, Tryz.results30, go_sem]; rfl) rfl ?_
  refine ⟨?_, HBY.out y⟩
  congr 2
  refine bsOf_eq ?_
  rw [HT.out]
  simp only [app_list, bsOf_list]
 ·have HT : Hid (lnT x ++ [10] = W ++ [32] ++ I ++ [10]) := by rw [Hid, lnT_bare hb, HIW.out.1, HIW.out.2]
  refine (refBare_any x.kind _).mono ?_
  rintro e w' ⟨rfl, rfl⟩
  rw [hb]
  clear hb y0 y1 y2
  go_wp2_with fail
  refine region_ext (by kernel_rfl) (by kernel_rfl) ?_
  repeat (go_big_quiet_step (first | (go_at_call 63; exact ext_call (HW.out _)) | (go_at_call 28; exact ext_call (HD.out _))))
  refine wpQuiet_nil ?_
  rintro _ ⟨y, rfl⟩
  go_wp2
  refine bodyPost_ret (v := .string _) (by simp [results, Tryz.results30, go_sem]; rfl) rfl ?_
  refine ⟨?_, HBY.out y⟩
  congr 2
  refine bsOf_eq ?_
  rw [HT.out]
  simp only [app_list, bsOf_list]
end Go.Proofs.YtogdefomigiepaaGreatDoor
