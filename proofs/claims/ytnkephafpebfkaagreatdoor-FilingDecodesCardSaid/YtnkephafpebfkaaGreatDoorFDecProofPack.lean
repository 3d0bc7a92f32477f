/- Proved: the tied card on FilingDecodes: whatever the arguments (a slice of numbers, a string), where the listed package variables hold what the program's text lays, the law returns true, and each argument reads as before. -/
import Derived.Test.YtnkephafpebfkaaGreatDoorRtS
import Derived.Test.YtnkephafpebfkaaGreatDoorNumS
import Derived.Test.YtnkephafpebfkaaGreatDoorProg
import Derived.Lib.SplitLaws
import Derived.LoopTactic
import Derived.Deep.CutBlock
import Derived.Deep.DeepCutAuto
import Derived.Test.YtnkephafpebfkaaGreatDoorLineR
import Derived.Test.YtnkephafpebfkaaGreatDoorRow3
import Derived.Test.YtnkephafpebfkaaGreatDoorExt
import Derived.Test.YtnkephafpebfkaaGreatDoorSet1
import Derived.Test.YtnkephafpebfkaaGreatDoorFv
import Derived.Sort.Walk0
import Derived.IntWalk
import Derived.Test.YtnkephafpebfkaaGreatDoorBs
import Derived.Test.YtnkephafpebfkaaGreatDoorFe
import Derived.Test.YtnkephafpebfkaaGreatDoorSpl
import Derived.Test.YtnkephafpebfkaaGreatDoorQt
import Derived.Deep.RegionWith
import Derived.Test.YtnkephafpebfkaaGreatDoorFpa
import Derived.Test.YtnkephafpebfkaaGreatDoorAuS
import Derived.Deep.RegionHeld3
import Derived.Test.YtnkephafpebfkaaGreatDoorRgS
import Derived.Test.YtnkephafpebfkaaGreatDoorRNx
import Derived.Test.YtnkephafpebfkaaGreatDoorDkC
import Derived.Test.YtnkephafpebfkaaGreatDoorDmg
import Derived.Test.YtnkephafpebfkaaGreatDoorRSm
import Derived.Test.YtnkephafpebfkaaGreatDoorOpenS
import Derived.Test.YtnkephafpebfkaaGreatDoorDoorT
import Derived.Test.YtnkephafpebfkaaGreatDoorLaw
import Derived.Test.YtnkephafpebfkaaGreatDoorCards
import Derived.SevenTiedAt
/- How ref43.Decode reads a text: no program in sight. -/
namespace Go.Proofs.YtnkephafpebfkaaGreatDoor

theorem split_snoc (c : UInt8) : ∀ b : List UInt8, splitBy c (b ++ [c]) = splitBy c b ++ [[]]
  | [] => by rw [List.nil_append]; unfold splitBy; rw [if_pos rfl]; rfl
  | x :: r => by
    have ih := split_snoc c r
    rw [List.cons_append]
    conv => lhs; unfold splitBy
    conv => rhs; unfold splitBy
    by_cases hx : x = c
    · rw [if_pos hx, if_pos hx, ih]; rfl
    · rw [if_neg hx, if_neg hx, ih]
      cases hr : splitBy c r with
      | nil => exact absurd hr (splitBy_ne c r)
      | cons h t => rfl
theorem split_ret {r : Ret} (h : RetOk r) : splitBy 10 (retT r) = retL r ++ [[]] := by
  rw [retT_join, split_snoc, split_join (retL_ne r) h.lines]
theorem join_nil_snoc (c : UInt8) : ∀ ls : List (List UInt8), ls ≠ [] → joinBy c (ls ++ [[]]) = joinBy c ls ++ [c]
  | [], h => absurd rfl h
  | [a], _ => by simp [joinBy]
  | a :: b :: r, _ => by
    have ih := join_nil_snoc c (b :: r) (by simp)
    rw [List.cons_append, join_cons (l := (b :: r) ++ [[]]) (by simp), ih, join_cons (l := b :: r) (by simp), List.append_assoc]
    rfl
/-- the text of no valid return -/
def NoRet (s : List UInt8) : Prop := ∀ r, retB r = true → s ≠ retT r
theorem noRet_dec {s : List UInt8} (hl : s.length ≤ 65536) (h : NoRet s) : decE s = 6 ∧ decR s = ⟨0, 0, []⟩ :=
  ⟨decE_no hl h, decR_no (by rw [decE_no hl h]; decide)⟩
section
variable {s : List UInt8} {ls : List (List UInt8)} {rest : List UInt8}
theorem lines_eq (h : splitBy 10 s = ls ++ [rest]) {r : Ret} (hr : retB r = true) (e : s = retT r) : ls = retL r ∧ rest = [] := by
  rw [e, split_ret ((retB_iff r).1 hr)] at h
  obtain ⟨h1, h2⟩ := List.append_inj' h rfl
  simp only [List.cons.injEq, and_true] at h2
  exact ⟨h1.symm, h2.symm⟩
theorem no_rest (h : splitBy 10 s = ls ++ [rest]) (hr : ¬ rest = []) : NoRet s := fun _ h1 e => hr (lines_eq h h1 e).2
theorem no_short (h : splitBy 10 s = ls ++ [rest]) (hr : ls.length < 2) : NoRet s := fun r h1 e => by
  have := (lines_eq h h1 e).1
  rw [this] at hr
  simp [retL] at hr; omega
theorem no_end (h : splitBy 10 s = ls ++ [rest]) {x : List UInt8} (hx : ls[ls.length - 1]? = some x) (hr : ¬ x = wEnd) : NoRet s := fun r h1 e => by
  have := (lines_eq h h1 e).1
  rw [this] at hx
  apply hr
  simp [retL] at hx
  exact hx.symm
theorem head_eq (h : splitBy 10 s = ls ++ [rest]) {x : List UInt8} (hx : ls[0]? = some x) {r : Ret} (hr : retB r = true) (e : s = retT r) : splitBy 32 x = [wRet, Lib.itoa r.p, wVer, Lib.itoa r.v] := by
  have := (lines_eq h hr e).1
  rw [this] at hx
  simp [retL] at hx
  rw [← hx, headR_words]
theorem no_head (h : splitBy 10 s = ls ++ [rest]) {x : List UInt8} (hx : ls[0]? = some x) {W : List (List UInt8)} (hW : splitBy 32 x = W) (hr : ¬ W.length = 4 ∨ ¬ W.getD 0 [] = wRet ∨ ¬ W.getD 2 [] = wVer ∨ numZ (W.getD 1 []) = none ∨ numZ (W.getD 3 []) = none) : NoRet s := fun r h1 e => by
  have hh := head_eq h hx h1 e
  rw [hW] at hh
  subst hh
  have ho := (retB_iff r).1 h1
  have h2 := ho.p0; have h3 := ho.p1; have h4 := ho.v0; have h5 := ho.v1
  rcases hr with hr | hr | hr | hr | hr
  · exact hr rfl
  · exact hr rfl
  · exact hr rfl
  · have : numZ (Lib.itoa r.p) = some r.p := numZ_iff.2 ⟨rfl, by omega, by omega⟩
    rw [show ([wRet, Lib.itoa r.p, wVer, Lib.itoa r.v].getD 1 []) = Lib.itoa r.p from rfl, this] at hr; cases hr
  · have : numZ (Lib.itoa r.v) = some r.v := numZ_iff.2 ⟨rfl, by omega, by omega⟩
    rw [show ([wRet, Lib.itoa r.p, wVer, Lib.itoa r.v].getD 3 []) = Lib.itoa r.v from rfl, this] at hr; cases hr
theorem mid_eq (h : splitBy 10 s = ls ++ [rest]) {r : Ret} (hr : retB r = true) (e : s = retT r) {i : Nat} (h0 : 1 ≤ i) (hi : i + 1 < ls.length) : ∃ x ∈ r.l, ls[i]? = some (lnT x) := by
  have := (lines_eq h hr e).1
  subst this
  have hl : (retL r).length = r.l.length + 2 := by simp [retL]
  obtain ⟨j, rfl⟩ : ∃ j, i = j + 1 := ⟨i - 1, by omega⟩
  have hj : j < r.l.length := by omega
  refine ⟨r.l[j], List.getElem_mem hj, ?_⟩
  have : (retL r)[j + 1]? = (r.l.map lnT ++ [wEnd])[j]? := by
    show (headR r.p r.v :: r.l.map lnT ++ [wEnd])[j + 1]? = _
    rw [List.cons_append, List.getElem?_cons_succ]
  rw [this, List.getElem?_append_left (by simpa using hj), List.getElem?_map, List.getElem?_eq_getElem hj]
  rfl
/-- the line that some words are -/
def IsLn (W : List (List UInt8)) (x : Ln) : Prop := formB x = true ∧ W = wordsL x
def NoLine (W : List (List UInt8)) : Prop := ∀ x, formB x = true → ¬ W = wordsL x
theorem no_line (h : splitBy 10 s = ls ++ [rest]) {i : Nat} (h0 : 1 ≤ i) (hi : i + 1 < ls.length) {y : List UInt8} (hy : ls[i]? = some y) (hn : NoLine (splitBy 32 y)) : NoRet s := fun r h1 e => by
  obtain ⟨x, hx, hm⟩ := mid_eq h h1 e h0 hi
  rw [hm] at hy
  injection hy with hy
  subst hy
  have hf := ((retB_iff r).1 h1).f x hx
  exact hn x hf (lnT_words (formed_of (formB_formed hf)))
/-- where the loop stands: so many lines are read -/
def RdI (ls : List (List UInt8)) (i : Nat) (acc : List Ln) : Prop := 1 ≤ i ∧ acc.length + 1 = i ∧ (∀ x ∈ acc, formB x = true) ∧ ∀ j (h : j < acc.length), ls[j + 1]? = some (lnT acc[j])
theorem rdI_start (ls : List (List UInt8)) : RdI ls 1 [] := ⟨Nat.le_refl _, rfl, (fun _ h => by cases h), fun j h => by simp at h⟩
theorem RdI.next {ls : List (List UInt8)} {i : Nat} {acc : List Ln} (h : RdI ls i acc) {y : List UInt8} (hy : ls[i]? = some y) {x : Ln} (hx : IsLn (splitBy 32 y) x) : RdI ls (i + 1) (acc ++ [x]) := by
  obtain ⟨h1, h2, h3, h4⟩ := h
  refine ⟨by omega, by simp; omega, ?_, ?_⟩
  · intro z hz
    rcases List.mem_append.1 hz with hz | hz
    · exact h3 z hz
    · rw [List.mem_singleton.1 hz]; exact hx.1
  · intro j hj
    simp only [List.length_append, List.length_cons, List.length_nil, Nat.zero_add] at hj
    by_cases hl : j < acc.length
    · rw [List.getElem_append_left hl]; exact h4 j hl
    · obtain rfl : j = acc.length := by omega
      rw [h2, hy]
      simp only [List.getElem_concat_length]
      rw [← join_split 32 y, hx.2]; rfl
theorem rdI_mid {ls : List (List UInt8)} {acc : List Ln} (hl : 2 ≤ ls.length) (h : RdI ls (ls.length - 1) acc) : (ls.drop 1).take (ls.length - 2) = acc.map lnT := by
  obtain ⟨h1, h2, h3, h4⟩ := h
  apply List.ext_getElem?
  intro j
  by_cases hj : j < acc.length
  · rw [List.getElem?_take, if_pos (by omega), List.getElem?_drop, Nat.add_comm 1 j, h4 j hj, List.getElem?_map, List.getElem?_eq_getElem hj]; rfl
  · rw [List.getElem?_eq_none (by simp; omega), List.getElem?_eq_none (by simp; omega)]
theorem map_inj {a b : List Ln} (ha : ∀ x ∈ a, Formed x) (hb : ∀ x ∈ b, Formed x) (h : a.map lnT = b.map lnT) : a = b := by
  induction a generalizing b with
  | nil => cases b with
    | nil => rfl
    | cons y t => cases h
  | cons x r ih => cases b with
    | nil => cases h
    | cons y t =>
      simp only [List.map_cons, List.cons.injEq] at h
      rw [lnT_inj (ha x (by simp)) (hb y (by simp)) h.1, ih (fun z hz => ha z (by simp [hz])) (fun z hz => hb z (by simp [hz])) h.2]
/-- the end: the return that was read, if it is valid -/
theorem end_dec (h : splitBy 10 s = ls ++ [rest]) (hrest : rest = []) (hl : 2 ≤ ls.length) (he : ls[ls.length - 1]? = some wEnd) {x : List UInt8} (hx : ls[0]? = some x) {a b : Int} {wa wb : List UInt8}
    (hW : splitBy 32 x = [wRet, wa, wVer, wb]) (ha : numZ wa = some a) (hb : numZ wb = some b) {acc : List Ln} (hacc : RdI ls (ls.length - 1) acc) (hs : s.length ≤ 65536) :
    (retB ⟨a, b, acc⟩ = true → decE s = 0 ∧ decR s = ⟨a, b, acc⟩) ∧ (retB ⟨a, b, acc⟩ = false → NoRet s) := by
  have hm := rdI_mid hl hacc
  have h0 : ls.getD 0 [] = x := by simp [List.getD, hx]
  have h6 : ls.getD (ls.length - 1) [] = wEnd := by simp [List.getD, he]
  have hp := parts2 [] hl
  rw [h0, h6, hm] at hp
  have hxe : x = headR a b := by
    rw [← join_split 32 x, hW, (numZ_iff.1 ha).1, (numZ_iff.1 hb).1]; rfl
  have hls : ls = retL ⟨a, b, acc⟩ := by rw [hp, hxe]; rfl
  refine ⟨fun hr => ?_, fun hr r h1 e => ?_⟩
  · have hse : s = retT ⟨a, b, acc⟩ := by
      rw [retT_join, ← hls, ← join_nil_snoc 10 ls (by intro e; rw [e] at hl; simp at hl), ← join_split 10 s, h, hrest]
    rw [hse]; exact dec_of hr
  · have e1 := (lines_eq h h1 e).1
    have e2 := head_eq h hx h1 e
    rw [hW] at e2
    simp only [List.cons.injEq, and_true, true_and] at e2
    have ho := (retB_iff r).1 h1
    have h2 := ho.p0; have h3 := ho.p1; have h4 := ho.v0; have h5 := ho.v1
    have q1 : numZ (Lib.itoa r.p) = some r.p := numZ_iff.2 ⟨rfl, by omega, by omega⟩
    have q2 : numZ (Lib.itoa r.v) = some r.v := numZ_iff.2 ⟨rfl, by omega, by omega⟩
    rw [e2.1, q1] at ha
    rw [e2.2, q2] at hb
    injection ha with ha
    injection hb with hb
    have e3 : acc.map lnT = r.l.map lnT := by
      rw [hls] at e1
      have : (headR a b :: acc.map lnT ++ [wEnd]) = headR r.p r.v :: r.l.map lnT ++ [wEnd] := e1
      rw [List.cons_append, List.cons_append] at this
      injection this with _ this
      exact (List.append_inj' this rfl).1
    have e4 := map_inj (fun z hz => formed_of (formB_formed (hacc.2.2.1 z hz))) (fun z hz => formed_of (formB_formed (ho.f z hz))) e3
    obtain ⟨p, v, l⟩ := r
    simp only at ha hb e4
    subst ha hb e4
    rw [h1] at hr; cases hr
end
end Go.Proofs.YtnkephafpebfkaaGreatDoor
/- How ref34.Line reads words: no program in sight. -/
namespace Go.Proofs.YtnkephafpebfkaaGreatDoor

theorem wordL_at {j : Nat} (h : j < 10) : wordL ((j : Int) + 1) = wAll.getD j [] := by
  unfold wordL
  rw [if_pos (by omega), show ((j : Int) + 1 - 1).toNat = j by omega]
theorem wordsL_head (x : Ln) : ∃ r, wordsL x = wordL x.kind :: r := by
  unfold wordsL; split
  · exact ⟨_, rfl⟩
  · exact ⟨_, rfl⟩
/-- a line's kind is told by its first word -/
theorem kind_of {x : Ln} (h : formB x = true) {j : Nat} (hj : j < 10) {a : List UInt8} {r : List (List UInt8)} (hw : a :: r = wordsL x) (ha : a = wAll.getD j []) : x.kind = (j : Int) + 1 := by
  have hf := formed_of (formB_formed h)
  obtain ⟨k, hk, hkk, hv⟩ := hf.wd
  obtain ⟨q, hq⟩ := wordsL_head x
  rw [hq] at hw
  injection hw with hw _
  rw [ha, hv] at hw
  rw [hkk, word_inj j hj k hk hw]
theorem noLn_kind {a : List UInt8} {r : List (List UInt8)} (h : ∀ j : Nat, j < 10 → ¬ a = wAll.getD j []) : NoLine (a :: r) := fun x hx e => by
  obtain ⟨k, hk, hkk, hv⟩ := (formed_of (formB_formed hx)).wd
  obtain ⟨q, hq⟩ := wordsL_head x
  rw [hq] at e
  injection e with e _
  exact h k hk (by rw [e, hv])
section
variable {j : Nat} {a : List UInt8} {r : List (List UInt8)}
theorem noLn_bare (hj : j < 10) (ha : a = wAll.getD j []) (hb : bareB ((j : Int) + 1) = true) (hl : ¬ (a :: r).length = 2) : NoLine (a :: r) := fun x hx e => by
  have hk := kind_of hx hj e ha
  apply hl
  rw [e, wordsL, hk, if_pos hb]; rfl
theorem noLn_full (hj : j < 10) (ha : a = wAll.getD j []) (hb : bareB ((j : Int) + 1) = false) (hl : ¬ (a :: r).length = 3) : NoLine (a :: r) := fun x hx e => by
  have hk := kind_of hx hj e ha
  apply hl
  rw [e, wordsL, hk, hb]; rfl
theorem amt_num {x : Ln} (h : formB x = true) : numZ (Lib.itoa x.amt) = some x.amt := by
  have hf := formed_of (formB_formed h)
  have := hf.a0; have := hf.a1
  exact numZ_iff.2 ⟨rfl, by omega, by omega⟩
theorem ln_bare (hj : j < 10) (ha : a = wAll.getD j []) (hb : bareB ((j : Int) + 1) = true) {b : List UInt8} :
    (numZ b = none → NoLine [a, b]) ∧ ∀ n, numZ b = some n → (formB ⟨(j : Int) + 1, ⟨#[]⟩, n⟩ = true → IsLn [a, b] ⟨(j : Int) + 1, ⟨#[]⟩, n⟩) ∧ (formB ⟨(j : Int) + 1, ⟨#[]⟩, n⟩ = false → NoLine [a, b]) := by
  have key : ∀ x, formB x = true → [a, b] = wordsL x → x.kind = (j : Int) + 1 ∧ x.code = ⟨#[]⟩ ∧ numZ b = some x.amt := fun x hx e => by
    have hk := kind_of hx hj e ha
    have hf := formed_of (formB_formed hx)
    rw [wordsL, hk, if_pos hb] at e
    simp only [List.cons.injEq, and_true] at e
    exact ⟨hk, hf.b (by rw [hk]; exact hb), by rw [e.2]; exact amt_num hx⟩
  refine ⟨fun hn x hx e => ?_, fun n hn => ⟨fun hf => ⟨hf, ?_⟩, fun hf x hx e => ?_⟩⟩
  · rw [(key x hx e).2.2] at hn; cases hn
  · rw [wordsL, hb, if_pos rfl, wordL_at hj, ← ha, (numZ_iff.1 hn).1]
  · obtain ⟨h1, h2, h3⟩ := key x hx e
    rw [hn] at h3
    injection h3 with h3
    obtain ⟨k, c, m⟩ := x
    simp only at h1 h2 h3
    subst h1 h2 h3
    rw [hx] at hf; cases hf
theorem ln_full (hj : j < 10) (ha : a = wAll.getD j []) (hb : bareB ((j : Int) + 1) = false) {c : ByteArray} {b : List UInt8} :
    (numZ b = none → NoLine [a, c.data.toList, b]) ∧ ∀ n, numZ b = some n → (formB ⟨(j : Int) + 1, c, n⟩ = true → IsLn [a, c.data.toList, b] ⟨(j : Int) + 1, c, n⟩) ∧ (formB ⟨(j : Int) + 1, c, n⟩ = false → NoLine [a, c.data.toList, b]) := by
  have key : ∀ x, formB x = true → [a, c.data.toList, b] = wordsL x → x.kind = (j : Int) + 1 ∧ x.code = c ∧ numZ b = some x.amt := fun x hx e => by
    have hk := kind_of hx hj e ha
    rw [wordsL, hk, hb] at e
    simp only [Bool.false_eq_true, if_false, List.cons.injEq, and_true] at e
    refine ⟨hk, ?_, by rw [e.2.2]; exact amt_num hx⟩
    have h2 := e.2.1
    obtain ⟨k, ⟨⟨d⟩⟩, m⟩ := x
    obtain ⟨⟨q⟩⟩ := c
    simp at h2
    simp [h2]
  refine ⟨fun hn x hx e => ?_, fun n hn => ⟨fun hf => ⟨hf, ?_⟩, fun hf x hx e => ?_⟩⟩
  · rw [(key x hx e).2.2] at hn; cases hn
  · rw [wordsL, hb]
    simp only [Bool.false_eq_true, if_false]
    rw [wordL_at hj, ← ha, (numZ_iff.1 hn).1]
  · obtain ⟨h1, h2, h3⟩ := key x hx e
    rw [hn] at h3
    injection h3 with h3
    obtain ⟨k, c', m⟩ := x
    simp only at h1 h2 h3
    subst h1 h2 h3
    rw [hx] at hf; cases hf
end
end Go.Proofs.YtnkephafpebfkaaGreatDoor
/- Contract of ref34.Number. -/
namespace Go.Proofs.YtnkephafpebfkaaGreatDoor
open Go.RowKit

theorem head_bytes (s : ByteArray) (h : 0 < s.size) : s.data.toList = s[0] :: (s.extract 1 s.size).data.toList := by
  have e : (s.extract 1 s.size).data.toList = s.data.toList.drop 1 := Lib.extract_to_end s 1
  rw [e]
  have hl : 0 < s.data.toList.length := by simpa using h
  have := List.drop_eq_getElem_cons hl
  rw [List.drop_zero] at this
  rw [this]; rfl
theorem ng_short {s : ByteArray} (h : s.size ≤ 1) : ngB s.data.toList = false := by
  have : s.data.toList.length = s.size := by simp
  rw [ngB, Bool.and_eq_false_iff]; left; rw [decide_eq_false_iff_not]; omega
theorem ng_long {s : ByteArray} (h : 0 < s.size) (h1 : 1 < s.size) : ngB s.data.toList = (((s[0].toNat : Int)) == 45) := by
  have hl : s.data.toList.length = s.size := by simp
  rw [ngB, decide_eq_true (by omega), Bool.true_and, head_bytes s h]
  rw [Bool.eq_iff_iff]
  simp only [List.head?_cons, Option.some.injEq, decide_eq_true_eq, beq_iff_eq]
  constructor
  · intro e; rw [e]; rfl
  · intro e; apply UInt8.toNat_inj.1; have : (45 : UInt8).toNat = 45 := rfl; omega
/-- the digits' text -/
def dgS (s : ByteArray) : ByteArray := if ngB s.data.toList then s.extract 1 s.size else s
theorem dgS_list (s : ByteArray) : (dgS s).data.toList = dgL s.data.toList := by
  unfold dgS dgL
  cases ngB s.data.toList
  · rfl
  · have e : (s.extract 1 s.size).data.toList = s.data.toList.drop 1 := Lib.extract_to_end s 1
    simp only [if_true]
    rw [e, List.drop_one]
theorem dgS_size (s : ByteArray) : (dgS s).size ≤ s.size := by
  unfold dgS; split
  · rw [ByteArray.size_extract]; omega
  · omega
theorem take_bytes (s : ByteArray) (k : Nat) (h : k < s.size) : s.data.toList.take (k + 1) = s.data.toList.take k ++ [s[k]] := by
  rw [List.take_succ_eq_append_getElem (by simpa using h)]; rfl
theorem mem_bytes (s : ByteArray) (k : Nat) (h : k < s.size) : s[k] ∈ s.data.toList := by
  have : s.data.toList[k]'(by simpa using h) = s[k] := rfl
  rw [← this]; exact List.getElem_mem _
set_option maxRecDepth 100000 in
set_option maxHeartbeats 2000000 in
theorem Number_any (s : ByteArray) (w : World) (hs : s.size ≤ 1000000000) :
    Calls Tryz.prog 46 #[.string s] w fun e w' => e = .returned (.tuple #[.int .i64 ((numZ s.data.toList).getD 0), .bool (numZ s.data.toList).isSome]) ∧ w = w' := by
  obtain ⟨ng, hng⟩ : ∃ ng, ngB s.data.toList = ng := ⟨_, rfl⟩
  have HNG := Lib.hid hng
  go_enter Tryz.func46, Tryz.ntmps46
  clear hng
  go_upto_region 1 with (fail)
  go_cut [4] (fun a wx => a = .bool ng ∧ w = wx)
  case first =>
    by_cases h1 : s.size ≤ 1
    · have hd : decide ((1 : Int) < (s.size : Int)) = false := by simp; omega
      obtain rfl : ng = false := HNG.out.symm.trans (ng_short h1)
      go_wp2
      go_meet
      exact ⟨rfl, rfl⟩
    · have h0 : 0 < s.size := by omega
      have hd : decide ((1 : Int) < (s.size : Int)) = true := by simp; omega
      have HQ : Hid (((s[0].toNat : Int) == 45) = ng) := (ng_long h0 (by omega)).symm.trans HNG.out
      cases hq : ((s[0].toNat : Int) == 45)
      · obtain rfl : ng = false := HQ.out.symm.trans hq
        go_wp2
        go_meet
        exact ⟨rfl, rfl⟩
      · obtain rfl : ng = true := HQ.out.symm.trans hq
        go_wp2
        go_meet
        exact ⟨rfl, rfl⟩
  case rest =>
    obtain ⟨rfl, rfl⟩ := hcut
    have HDL := Lib.hid (dgS_list s)
    have HDE : Hid (dgS s = if ng then s.extract 1 s.size else s) := by rw [Hid, dgS, HNG.out]
    have hdz := dgS_size s
    obtain ⟨d, hd⟩ : ∃ d, dgS s = d := ⟨_, rfl⟩
    rw [hd] at HDL HDE hdz
    clear hd
    go_upto_if 17 with (fail)
    go_cut [5] (fun b wx => b = .string d ∧ w = wx)
    case first =>
      cases ng
      · have hE : s = d := HDE.out.symm
        have HE := Lib.hid hE
        clear hE
        go_wp2
        go_meet
        exact ⟨by rw [HE.out], rfl⟩
      · have hE : s.extract 1 s.size = d := HDE.out.symm
        have HE := Lib.hid hE
        have h1 : 1 < s.size := by
          have := HNG.out
          rw [ngB, Bool.and_eq_true, decide_eq_true_eq] at this
          have hl : s.data.toList.length = s.size := by simp
          omega
        clear hE
        go_wp2
        go_meet
        exact ⟨by rw [HE.out], rfl⟩
    case rest =>
      obtain ⟨rfl, rfl⟩ := hcut
      have hdl : (dgL s.data.toList).length = d.size := by rw [← HDL.out]; simp
      have HLN := Lib.hid hdl
      clear hdl HDE
      have HQ0 : Hid (0 < d.size → (dgL s.data.toList).head? = (d.data.toList).head?) := fun _ => by rw [HDL.out]
      obtain ⟨bd, hbd⟩ : ∃ bd : Bool, decide (d.size = 0 ∨ 19 < d.size ∨ (d.size = 19 ∧ ¬ d.data.toList = topD) ∨ (d.data.toList.head? = some 48 ∧ (1 < d.size ∨ ng = true))) = bd := ⟨_, rfl⟩
      have HBD := Lib.hid hbd
      clear hbd
      go_upto_region 5 with (fail)
      go_cut [48] (fun c wx => c = .bool bd ∧ w = wx)
      case first =>
        have HT : Hid ((d.size = 0 ∨ 19 < d.size ∨ (d.size = 19 ∧ ¬ d.data.toList = topD) ∨ (d.data.toList.head? = some 48 ∧ (1 < d.size ∨ ng = true))) → bd = true) := fun h => by rw [← HBD.out]; exact decide_eq_true h
        have HF : Hid (¬ (d.size = 0 ∨ 19 < d.size ∨ (d.size = 19 ∧ ¬ d.data.toList = topD) ∨ (d.data.toList.head? = some 48 ∧ (1 < d.size ∨ ng = true))) → bd = false) := fun h => by rw [← HBD.out]; exact decide_eq_false h
        clear HBD
        by_cases h0 : d.size = 0
        · obtain rfl : bd = true := HT.out (.inl h0)
          obtain rfl := size_zero h0
          clear h0
          go_wp2
          go_meet
          exact ⟨rfl, rfl⟩
        have hpos : 0 < d.size := by omega
        have t1 := notEmpty hpos
        have t2 := notNil hpos
        have HH := Lib.hid (show d.data.toList.head? = some d[0] by rw [head_bytes d hpos]; rfl)
        by_cases h19 : 19 < d.size
        · obtain rfl : bd = true := HT.out (.inr (.inl h19))
          have hd1 : decide ((19 : Int) < (d.size : Int)) = true := by simp; omega
          clear h0 h19
          go_wp2
          go_meet
          exact ⟨rfl, rfl⟩
        have hd1 : decide ((19 : Int) < (d.size : Int)) = false := by simp; omega
        have HR : Hid (¬ (d.size = 19 ∧ ¬ d.data.toList = topD) → bd = decide (d[0] = 48 ∧ (1 < d.size ∨ ng = true))) := fun hn => by
          by_cases hc : d[0] = 48 ∧ (1 < d.size ∨ ng = true)
          · rw [decide_eq_true hc]; exact HT.out (.inr (.inr (.inr ⟨by rw [HH.out, hc.1], hc.2⟩)))
          · rw [decide_eq_false hc]
            refine HF.out ?_
            rintro (h | h | h | h)
            · exact h0 h
            · exact h19 h
            · exact hn h
            · refine hc ⟨?_, h.2⟩
              have := h.1
              rw [HH.out] at this
              exact Option.some.inj this
        by_cases hs19 : d.size = 19
        · have i19 : (((d.size : Int)) == 19) = true := by simp; omega
          have hd2 : decide ((1 : Int) < (d.size : Int)) = true := by simp; omega
          by_cases htop : d.data.toList = topD
          · have t3 : (d.toList == [49, 48, 48, 48, 48, 48, 48, 48, 48, 48, 48, 48, 48, 48, 48, 48, 48, 48, 48]) = true := by rw [ByteArray.toList_eq, htop]; rfl
            have t4 : d.toList = [49, 48, 48, 48, 48, 48, 48, 48, 48, 48, 48, 48, 48, 48, 48, 48, 48, 48, 48] := by simpa using t3
            have e0 : d[0] = 49 := by
              have := HH.out
              rw [htop] at this
              exact (Option.some.inj this).symm
            have z0 : (((d[0]).toNat : Int) == 48) = false := by rw [e0]; rfl
            obtain rfl : bd = false := by rw [HR.out (fun h => h.2 htop), e0]; simp
            clear htop h0 h19 hs19 e0
            go_wp2
            go_meet
            exact ⟨rfl, rfl⟩
          · have t3 : (d.toList == [49, 48, 48, 48, 48, 48, 48, 48, 48, 48, 48, 48, 48, 48, 48, 48, 48, 48, 48]) = false := by
              rw [ByteArray.toList_eq]
              have : ¬ d.data.toList = [49, 48, 48, 48, 48, 48, 48, 48, 48, 48, 48, 48, 48, 48, 48, 48, 48, 48, 48] := htop
              simpa using this
            have t4 : ¬ d.toList = [49, 48, 48, 48, 48, 48, 48, 48, 48, 48, 48, 48, 48, 48, 48, 48, 48, 48, 48] := by simpa using t3
            obtain rfl : bd = true := HT.out (.inr (.inr (.inl ⟨hs19, htop⟩)))
            clear htop h0 h19 hs19
            go_wp2
            go_meet
            exact ⟨rfl, rfl⟩
        have i19 : (((d.size : Int)) == 19) = false := by simp; omega
        have HR2 := Lib.hid (HR.out (fun h => hs19 h.1))
        cases z0 : (((d[0]).toNat : Int) == 48)
        · obtain rfl : bd = false := by
            rw [HR2.out, decide_eq_false]
            rintro ⟨e, -⟩
            rw [e] at z0; cases z0
          clear h0 h19 hs19
          go_wp2
          go_meet
          exact ⟨rfl, rfl⟩
        · have e48 : d[0] = 48 := by
            apply UInt8.toNat_inj.1
            have h48 : (48 : UInt8).toNat = 48 := rfl
            simp only [beq_iff_eq] at z0
            omega
          have HE := Lib.hid e48
          clear e48
          by_cases hd2 : 1 < d.size
          · have hd3 : decide ((1 : Int) < (d.size : Int)) = true := by simp; omega
            obtain rfl : bd = true := by rw [HR2.out, decide_eq_true ⟨HE.out, .inl hd2⟩]
            clear h0 h19 hs19
            go_wp2
            go_meet
            exact ⟨rfl, rfl⟩
          · have hd3 : decide ((1 : Int) < (d.size : Int)) = false := by simp; omega
            obtain rfl : bd = ng := by
              rw [HR2.out]
              cases ng
              · rw [decide_eq_false]; rintro ⟨-, h | h⟩
                · exact hd2 h
                · cases h
              · rw [decide_eq_true ⟨HE.out, .inr rfl⟩]
            clear h0 h19 hs19
            cases bd
            all_goals
              go_wp2
              go_meet
              exact ⟨rfl, rfl⟩
      case rest =>
        obtain ⟨rfl, rfl⟩ := hcut
        cases bd
        rotate_left
        · have hb := of_decide_eq_true HBD.out
          have HN : Hid (numZ s.data.toList = none) := num_bad fun h => by
            have hL := HLN.out
            rcases hb with h0 | h0 | ⟨h0, h1⟩ | ⟨h0, h1⟩
            · exact h.ne (List.eq_nil_of_length_eq_zero (by omega))
            · have := h.le; omega
            · exact h1 (by rw [HDL.out]; exact h.top (by omega))
            · have := h.lead (by rw [← HDL.out]; exact h0)
              rw [HNG.out] at this
              rcases h1 with h1 | h1
              · omega
              · rw [h1] at this; cases this.2
          clear hb
          go_wp2
          go_ret2
          exact ⟨by rw [HN.out]; rfl, rfl⟩
        · have hb := of_decide_eq_false HBD.out
          have HOK : Hid ((∀ c ∈ d.data.toList, isD c) → NumOk s.data.toList) := fun hd => by
            have hL := HLN.out
            refine ⟨fun e => hb (.inl (by rw [e] at hL; simpa using hL.symm)), by rw [hL]; rcases Nat.lt_or_ge 19 d.size with h | h; exact absurd (.inr (.inl h)) hb; exact h, fun h => ?_, fun h => ?_, by rw [← HDL.out]; exact hd⟩
            · rw [← HDL.out]
              exact Classical.byContradiction fun hn => hb (.inr (.inr (.inl ⟨by omega, hn⟩)))
            · have h48 : d.data.toList.head? = some 48 := by rw [HDL.out]; exact h
              have hno : ¬ (1 < d.size ∨ ng = true) := fun hh => hb (.inr (.inr (.inr ⟨h48, hh⟩)))
              have hz : ¬ d.size = 0 := fun hh => hb (.inl hh)
              refine ⟨by rw [hL]; have := fun h => hno (.inl h); omega, ?_⟩
              rw [HNG.out]
              cases ng
              · rfl
              · exact absurd (.inr rfl) hno
          have hz : ¬ d.size = 0 := fun hh => hb (.inl hh)
          have hz19 : d.size ≤ 19 := by rcases Nat.lt_or_ge 19 d.size with h | h; exact absurd (.inr (.inl h)) hb; exact h
          have HSM : Hid (∀ i, i ≤ d.size → (∀ c ∈ d.data.toList.take i, isD c) → vD 0 (d.data.toList.take i) ≤ 1000000000000000000) := fun i hi hd => by
            by_cases h19 : d.size = 19
            · have : d.data.toList = topD := Classical.byContradiction fun hn => hb (.inr (.inr (.inl ⟨h19, hn⟩)))
              rw [this]; exact top_take i (by omega)
            · have hl : d.data.toList.length = d.size := by simp
              have h1 := vD_lt i (d.data.toList.take i) (by rw [List.length_take]; omega) hd
              have h2 : 10 ^ i ≤ 10 ^ 18 := Nat.pow_le_pow_right (by omega) (by omega)
              omega
          clear hb HBD
          go_wp2_with fail
          go_loop [6, 7] (fun n i => ∃ k : Nat, k ≤ d.size ∧ i = .int .i64 k ∧ n = .int .i64 (vD 0 (d.data.toList.take k) : Nat) ∧ Hid (∀ c ∈ d.data.toList.take k, isD c)) (fun _ i => d.size - (intOf i).toNat)
          case atStart => exact ⟨0, by omega, rfl, rfl, fun c hc => by simp at hc⟩
          case round =>
            obtain ⟨k, hk, rfl, rfl, HD⟩ := hrel
            by_cases hlt : k < d.size
            · by_cases hd : 48 ≤ d[k].toNat ∧ d[k].toNat ≤ 57
              · have z1 : decide (((d[k]).toNat : Int) < 48) = false := by simp; omega
                have z2 : decide ((57 : Int) < ((d[k]).toNat : Int)) = false := by simp; omega
                have HD2 : Hid (∀ c ∈ d.data.toList.take (k + 1), isD c) := fun c hc => by
                  rw [take_bytes d k hlt] at hc
                  rcases List.mem_append.1 hc with hc | hc
                  · exact HD.out c hc
                  · rw [List.mem_singleton.1 hc]; exact hd
                have HV : Hid (vD 0 (d.data.toList.take (k + 1)) = vD 0 (d.data.toList.take k) * 10 + ((d[k]).toNat - 48)) := by rw [Hid, take_bytes d k hlt, vD_snoc]
                have hv2 := HSM.out (k + 1) hlt HD2.out
                rw [HV.out] at hv2
                obtain ⟨x, hx⟩ : ∃ x, vD 0 (d.data.toList.take k) = x := ⟨_, rfl⟩
                rw [hx] at hv2 HV ⊢
                obtain ⟨c, hc⟩ : ∃ c, d[k].toNat = c := ⟨_, rfl⟩
                clear hx
                go_wp2
                go_round
                case rel => exact ⟨k + 1, by omega, by go_num, by rw [HV.out]; congr 1; omega, HD2⟩
                case measure => simp [intOf]; omega
              · have HN : Hid (numZ s.data.toList = none) := num_bad fun h => hd (h.dig _ (by rw [← HDL.out]; exact mem_bytes d k hlt))
                by_cases z1 : ((d[k]).toNat : Int) < 48
                · have z1' : decide (((d[k]).toNat : Int) < 48) = true := decide_eq_true z1
                  clear z1
                  go_wp2
                  go_ret2
                  exact ⟨by rw [HN.out]; rfl, rfl⟩
                · have z1' : decide (((d[k]).toNat : Int) < 48) = false := decide_eq_false z1
                  have z2' : decide ((57 : Int) < ((d[k]).toNat : Int)) = true := by simp; omega
                  clear z1
                  go_wp2
                  go_ret2
                  exact ⟨by rw [HN.out]; rfl, rfl⟩
            · obtain rfl : k = d.size := by omega
              have hall : d.data.toList.take d.size = d.data.toList := List.take_of_length_le (by simp)
              rw [hall] at HD ⊢
              have HNO := Lib.hid (HOK.out HD.out)
              have HVL : Hid (numZ s.data.toList = some (if ng then -(vD 0 d.data.toList : Int) else (vD 0 d.data.toList : Int))) := by
                rw [Hid, num_val HNO.out, HNG.out, HDL.out]
              have hv := HNO.out.val
              rw [← HDL.out] at hv
              obtain ⟨x, hx⟩ : ∃ x, vD 0 d.data.toList = x := ⟨_, rfl⟩
              rw [hx] at hv HVL ⊢
              clear hx hall
              cases ng
              · go_wp2
                go_ret2
                exact ⟨by rw [HVL.out]; rfl, rfl⟩
              · go_wp2
                go_ret2
                exact ⟨by rw [HVL.out]; rfl, rfl⟩
end Go.Proofs.YtnkephafpebfkaaGreatDoor
/- Contracts of the reference: Less, Ordered, Filed, Form, Valid. -/
namespace Go.Proofs.YtnkephafpebfkaaGreatDoor
open Go.RowKit Go.Sort

set_option maxHeartbeats 800000 in
theorem Less_any (a b : Ln) (w : World) :
    Calls Tryz.prog 85 #[.agg #[.int .i64 a.kind, .string a.code, .int .i64 a.amt], .agg #[.int .i64 b.kind, .string b.code, .int .i64 b.amt]] w fun e w' => e = .returned (.bool (lnLt a b)) ∧ Below w.heap.size w w' := by
  by_cases h1 : a.kind < b.kind
  · have H : Hid (lnLt a b = true) := by simp [Hid, lnLt, h1]
    have d1 : decide (a.kind < b.kind) = true := decide_eq_true h1
    go_enter Tryz.func85, Tryz.ntmps85
    go_wp2
    go_ret
    exact ⟨ret_bool H.out.symm, ((Below.refl _ _).alloc (Nat.le_refl _) _).alloc (by simp) _⟩
  have d1 : decide (a.kind < b.kind) = false := decide_eq_false h1
  cases e2 : (a.kind == b.kind)
  · have H : Hid (lnLt a b = false) := by simp [Hid, lnLt, h1, show ¬ a.kind = b.kind by simpa using e2]
    go_enter Tryz.func85, Tryz.ntmps85
    go_wp2
    go_ret
    exact ⟨ret_bool H.out.symm, ((Below.refl _ _).alloc (Nat.le_refl _) _).alloc (by simp) _⟩
  · have H : Hid (lnLt a b = Op.bytesLess a.code.toList b.code.toList) := by
      rw [Hid, bytesLess_eq]
      simp [lnLt, show a.kind = b.kind by simpa using e2]
    go_enter Tryz.func85, Tryz.ntmps85
    go_wp2
    go_ret
    exact ⟨ret_bool H.out.symm, ((Below.refl _ _).alloc (Nat.le_refl _) _).alloc (by simp) _⟩


/-- the lines up to k are in order -/
def OrdOk (l : List Ln) (k : Nat) : Prop := ∀ j (h : j < l.length), j < k → formB l[j] = true ∧ ∀ h0 : 0 < j, lnLt (l[j - 1]'(by omega)) l[j] = true
theorem ordOk_end {l : List Ln} (h : OrdOk l l.length) : ordB l = true := by
  rw [ordB_iff]
  exact ⟨fun j hj => (h j hj hj).1, fun j hj => (h (j + 1) hj hj).2 (by omega)⟩
theorem ordOk_form {l : List Ln} {k : Nat} (hk : k < l.length) (h : formB l[k] = false) : ordB l = false := by
  rw [Bool.eq_false_iff]
  intro hh
  have := ((ordB_iff _).1 hh).1 k hk
  rw [h] at this; cases this
theorem ordOk_lt {l : List Ln} {k : Nat} (hk : k + 1 < l.length) (h : lnLt (l[k]'(by omega)) l[k + 1] = false) : ordB l = false := by
  rw [Bool.eq_false_iff]
  intro hh
  have := ((ordB_iff _).1 hh).2 k hk
  rw [h] at this; cases this
set_option maxRecDepth 100000 in
set_option maxHeartbeats 4000000 in
theorem Ordered_any (l : List Ln) (v : Value) (w : World) (hv : Sl w 3 v (lns l)) :
    Calls Tryz.prog 66 #[v] w fun e w' => e = .returned (.bool (ordB l)) ∧ Below w.heap.size w w' := by
  have HV := Lib.hid hv
  obtain ⟨A, cap, rfl, h1, h2, _, _⟩ := hv
  rw [lns_len] at h1 HV ⊢
  unfold maxLen at h2
  go_enter Tryz.func66, Tryz.ntmps66
  go_wp2
  go_loopw [3] (fun i wr => ∃ k : Nat, k ≤ l.length ∧ i = .int .i64 k ∧ Hid (Below w.heap.size w wr) ∧ Hid (OrdOk l k)) (fun i _ => l.length - (intOf i).toNat)
  case atStart => exact ⟨0, by omega, rfl, Below.refl _ _, fun j _ h => by omega⟩
  case round =>
    obtain ⟨k, hk, rfl, HB, HK⟩ := hrel
    obtain ⟨wo, rfl⟩ : ∃ wo : World, wo = wr := ⟨_, rfl⟩
    by_cases hlt : k < l.length
    · obtain ⟨bk, off, rfl, hc⟩ := (HV.out.below HB.out).cells (by rw [lns_len]; omega)
      have hbl := hc.1
      obtain ⟨c0, c1, c2⟩ := hc.ln hlt
      have i1 : (k : Int) < (l.length : Int) := by omega
      have HFD := Lib.hid (fun h => ordOk_form hlt h)
      have HPR : Hid (∀ (j : Nat) (hj : j < l.length), ∀ y : Ext wo, y.val.cell? ⟨bk, off + j * 3, none⟩ = some (.int .i64 (l[j]).kind) ∧ y.val.cell? ⟨bk, off + j * 3 + 1, none⟩ = some (.string (l[j]).code) ∧ y.val.cell? ⟨bk, off + j * 3 + 2, none⟩ = some (.int .i64 (l[j]).amt)) := fun j hj y => ⟨ext_cell hbl (hc.ln hj).1 y, ext_cell hbl (hc.ln hj).2.1 y, ext_cell hbl (hc.ln hj).2.2 y⟩
      obtain ⟨x, hx⟩ : ∃ x, l[k] = x := ⟨_, rfl⟩
      have HX := Lib.hid hx
      rw [hx] at c0 c1 c2 HFD
      have d0 := ext_cell hbl c0
      have d1 := ext_cell hbl c1
      have d2 := ext_cell hbl c2
      have HF := Lib.hid (fun y : Ext wo => refForm_any x y.val)
      have HBY : Hid (∀ y : Ext wo, Below w.heap.size w y.val) := fun y => below_after HB.out y.property HB.out.size
      clear hx hc c0 c1 c2
      cases hf : formB x
      · rw [hf] at HF
        have HE := Lib.hid (HFD.out hf)
        clear hf HFD HPR
        go_wp2_with fail
        refine region_ext (by kernel_rfl) (by kernel_rfl) ?_
        repeat (go_big_quiet_step ((go_at_call 72; exact ext_call (HF.out _))))
        refine wpQuiet_nil ?_
        rintro _ ⟨y, rfl⟩
        go_wp2
        go_ret
        exact ⟨ret_bool HE.out.symm, HBY.out y⟩
      rw [hf] at HF
      have HFM := Lib.hid hf
      clear hf HFD
      rcases Nat.eq_zero_or_pos k with rfl | hk0
      · have HN : Hid (OrdOk l (0 + 1)) := fun j hj h => by
          obtain rfl : j = 0 := by omega
          exact ⟨by rw [HX.out]; exact HFM.out, fun h => by omega⟩
        simp only [Nat.zero_mul, Nat.add_zero] at d0 d1 d2
        clear HPR
        go_wp2_with fail
        refine region_ext (by kernel_rfl) (by kernel_rfl) ?_
        repeat (go_big_quiet_step ((go_at_call 72; exact ext_call (HF.out _))))
        refine wpQuiet_nil ?_
        rintro _ ⟨y, rfl⟩
        go_wp2
        go_roundw
        case rel => exact ⟨0 + 1, by omega, by go_num, HBY.out y, HN.out⟩
        case measure => simp [intOf]; omega
      · obtain ⟨j, rfl⟩ : ∃ j, k = j + 1 := ⟨k - 1, by omega⟩
        have hjl : j < l.length := by omega
        have HP := HPR.out j hjl
        have HOD := Lib.hid (fun h => ordOk_lt (k := j) hlt h)
        rw [HX.out] at HOD
        have HKJ : Hid (lnLt (l[j]'hjl) x = true → OrdOk l (j + 1 + 1)) := fun hl' i hi hik => by
          by_cases e : i = j + 1
          · subst e
            refine ⟨by rw [HX.out]; exact HFM.out, fun _ => ?_⟩
            rw [HX.out]
            exact hl'
          · exact HK.out i hi (by omega)
        obtain ⟨y, hy⟩ : ∃ y, l[j] = y := ⟨_, rfl⟩
        rw [hy] at HP HOD HKJ
        have p0 := fun z => (HP z).1
        have p1 := fun z => (HP z).2.1
        have p2 := fun z => (HP z).2.2
        have HLS := Lib.hid (fun z : Ext wo => Less_any y x z.val)
        have i2 : (j : Int) < (l.length : Int) := by omega
        have s2 : IntKind.i64.wrap ((j : Int) + 1 - 1) = (j : Int) := by rw [show (j : Int) + 1 - 1 = (j : Int) by omega]; exact IntWalk.i64_in _ (by omega)
        clear hy HP HPR
        cases hly : lnLt y x
        · rw [hly] at HLS
          have HE := Lib.hid (HOD.out hly)
          clear hly HOD HKJ
          go_wp2_with fail
          refine region_ext (by kernel_rfl) (by kernel_rfl) ?_
          repeat (go_big_quiet_step (first | (go_at_call 72; exact ext_call (HF.out _)) | (go_at_call 85; exact ext_call (HLS.out _))))
          refine wpQuiet_nil ?_
          rintro _ ⟨z, rfl⟩
          go_wp2
          go_ret
          exact ⟨ret_bool HE.out.symm, HBY.out z⟩
        · rw [hly] at HLS
          have HN := Lib.hid (HKJ.out hly)
          clear hly HOD HKJ
          go_wp2_with fail
          refine region_ext (by kernel_rfl) (by kernel_rfl) ?_
          repeat (go_big_quiet_step (first | (go_at_call 72; exact ext_call (HF.out _)) | (go_at_call 85; exact ext_call (HLS.out _))))
          refine wpQuiet_nil ?_
          rintro _ ⟨z, rfl⟩
          go_wp2
          go_roundw
          case rel => exact ⟨j + 1 + 1, by omega, by go_num, HBY.out z, HN.out⟩
          case measure => simp [intOf]; omega
    · obtain rfl : k = l.length := by omega
      have HE := Lib.hid (ordOk_end HK.out)
      go_wp2
      go_ret
      exact ⟨ret_bool HE.out.symm, HB.out⟩
theorem Filed_any (k : Int) (w : World) :
    Calls Tryz.prog 67 #[.int .i64 k] w fun e w' => e = .returned (.bool (filedB k)) ∧ w = w' := by
  cases h4 : (k == 4)
  · cases h5 : (k == 5)
    · go_enter Tryz.func67, Tryz.ntmps67
      go_wp2
      go_ret
      exact ⟨ret_bool (by simp at h4 h5; simp [filedB, h4, h5]; rfl), rfl⟩
    · go_enter Tryz.func67, Tryz.ntmps67
      go_wp2
      go_ret
      exact ⟨ret_bool (by simp at h5; simp [filedB, h5]), rfl⟩
  · go_enter Tryz.func67, Tryz.ntmps67
    go_wp2
    go_ret
    exact ⟨ret_bool (by simp at h4; simp [filedB, h4]), rfl⟩
def formR (l : List Ln) : Bool := l.all (fun x => filedB x.kind) && ordB l
set_option maxRecDepth 100000 in
set_option maxHeartbeats 2000000 in
theorem FormL_any (l : List Ln) (v : Value) (w : World) (hv : Sl w 3 v (lns l)) :
    Calls Tryz.prog 42 #[v] w fun e w' => e = .returned (.bool (formR l)) ∧ Below w.heap.size w w' := by
  have HV := Lib.hid hv
  have HO := Lib.hid (Ordered_any l v w hv)
  have HFR : Hid (formR l = (l.all (fun x => filedB x.kind) && ordB l)) := rfl
  obtain ⟨A, cap, rfl, h1, h2, _, _⟩ := hv
  rw [lns_len] at h1 HV HO ⊢
  unfold maxLen at h2
  cases ho : ordB l
  · rw [ho] at HO HFR
    have HE : Hid (formR l = false) := by rw [Hid, HFR.out, Bool.and_false]
    clear ho
    go_enter Tryz.func42, Tryz.ntmps42
    go_wp2_with fail
    refine HO.out.mono ?_
    rintro e w1 ⟨rfl, hb1⟩
    go_wp2
    go_ret
    exact ⟨ret_bool HE.out.symm, hb1⟩
  rw [ho] at HO HFR
  clear ho
  go_enter Tryz.func42, Tryz.ntmps42
  go_wp2_with fail
  refine HO.out.mono ?_
  rintro e w1 ⟨rfl, hb1⟩
  go_wp2_with fail
  go_loopw [3] (fun i wr => ∃ k : Nat, k ≤ l.length ∧ i = .int .i64 k ∧ Hid (Below w.heap.size w wr) ∧ Hid ((l.take k).all (fun x => filedB x.kind) = true)) (fun i _ => l.length - (intOf i).toNat)
  case atStart => exact ⟨0, by omega, rfl, hb1, rfl⟩
  case round =>
    clear hb1
    obtain ⟨k, hk, rfl, HB, HK⟩ := hrel
    obtain ⟨wo, rfl⟩ : ∃ wo : World, wo = wr := ⟨_, rfl⟩
    by_cases hlt : k < l.length
    · obtain ⟨bk, off, rfl, hc⟩ := (HV.out.below HB.out).cells (by rw [lns_len]; omega)
      have hbl := hc.1
      obtain ⟨c0, c1, c2⟩ := hc.ln hlt
      have i1 : (k : Int) < (l.length : Int) := by omega
      have HTK : Hid ((l.take (k + 1)).all (fun x => filedB x.kind) = filedB (l[k]).kind) := by
        rw [Hid, List.take_succ_eq_append_getElem hlt, List.all_append, HK.out]; simp
      have HNO : Hid (filedB (l[k]).kind = false → formR l = false) := fun h => by
        rw [HFR.out, Bool.and_true, Bool.eq_false_iff]
        intro hh
        have := List.all_eq_true.1 hh _ (List.getElem_mem hlt)
        rw [h] at this; cases this
      obtain ⟨x, hx⟩ : ∃ x, l[k] = x := ⟨_, rfl⟩
      rw [hx] at c0 c1 c2 HTK HNO
      have HFI := Lib.hid (Filed_any x.kind wo)
      clear hx hc
      cases hf : filedB x.kind
      · rw [hf] at HFI
        have HE := Lib.hid (HNO.out hf)
        clear hf HNO HTK
        go_wp2_with fail
        refine HFI.out.mono ?_
        rintro e w' ⟨rfl, rfl⟩
        go_wp2
        go_ret
        exact ⟨ret_bool HE.out.symm, HB.out⟩
      · rw [hf] at HFI HTK
        clear hf HNO
        go_wp2_with fail
        refine HFI.out.mono ?_
        rintro e w' ⟨rfl, rfl⟩
        go_wp2
        go_roundw
        case rel => exact ⟨k + 1, by omega, by go_num, HB.out, HTK.out⟩
        case measure => simp [intOf]; omega
    · have hkk : k = l.length := by omega
      have HE : Hid (formR l = true) := by
        have := HK.out
        rw [List.take_of_length_le (by omega)] at this
        rw [Hid, HFR.out, this]; rfl
      subst hkk
      go_wp2
      go_ret
      exact ⟨ret_bool HE.out.symm, HB.out⟩
set_option maxRecDepth 100000 in
set_option maxHeartbeats 2000000 in
theorem refValidR_any (r : Ret) (v : Value) (w : World) (hv : Sl w 3 v (lns r.l)) :
    Calls Tryz.prog 16 #[.agg (r.vals v)] w fun e w' => e = .returned (.bool (retB r)) ∧ Below w.heap.size w w' := by
  have HV := Lib.hid hv
  obtain ⟨A, cap, rfl, h1, h2, _, _⟩ := hv
  rw [lns_len] at h1 HV ⊢
  unfold maxLen at h2
  obtain ⟨n, d, l⟩ := r
  have hvals : Ret.vals ⟨n, d, l⟩ (.slice A l.length cap) = #[.int .i64 n, .int .i64 d, .slice A l.length cap] := rfl
  simp only [hvals] at h1 HV ⊢
  have HRB : Hid (retB ⟨n, d, l⟩ = (decide (0 ≤ n) && (decide (n ≤ 84005) && (decide (1 ≤ d) && (decide (d ≤ 65536) && (decide (l.length ≤ 256) && formR l)))))) := rfl
  clear hvals
  by_cases q1 : 0 ≤ n
  rotate_left
  · have HF : Hid (retB ⟨n, d, l⟩ = false) := by rw [Hid, HRB.out, decide_eq_false q1]; rfl
    go_enter Tryz.func16, Tryz.ntmps16
    go_wp2
    go_ret
    exact ⟨ret_bool HF.out.symm, (Below.refl _ _).alloc (Nat.le_refl _) _⟩
  by_cases q2 : n ≤ 84005
  rotate_left
  · have HF : Hid (retB ⟨n, d, l⟩ = false) := by rw [Hid, HRB.out, decide_eq_false q2]; simp
    go_enter Tryz.func16, Tryz.ntmps16
    go_wp2
    go_ret
    exact ⟨ret_bool HF.out.symm, (Below.refl _ _).alloc (Nat.le_refl _) _⟩
  by_cases q3 : 1 ≤ d
  rotate_left
  · have HF : Hid (retB ⟨n, d, l⟩ = false) := by rw [Hid, HRB.out, decide_eq_false q3]; simp
    go_enter Tryz.func16, Tryz.ntmps16
    go_wp2
    go_ret
    exact ⟨ret_bool HF.out.symm, (Below.refl _ _).alloc (Nat.le_refl _) _⟩
  by_cases q4 : d ≤ 65536
  rotate_left
  · have HF : Hid (retB ⟨n, d, l⟩ = false) := by rw [Hid, HRB.out, decide_eq_false q4]; simp
    go_enter Tryz.func16, Tryz.ntmps16
    go_wp2
    go_ret
    exact ⟨ret_bool HF.out.symm, (Below.refl _ _).alloc (Nat.le_refl _) _⟩
  by_cases q5 : l.length ≤ 256
  rotate_left
  · have HF : Hid (retB ⟨n, d, l⟩ = false) := by rw [Hid, HRB.out, decide_eq_false q5]; simp
    go_enter Tryz.func16, Tryz.ntmps16
    go_wp2
    go_ret
    exact ⟨ret_bool HF.out.symm, (Below.refl _ _).alloc (Nat.le_refl _) _⟩
  have HF : Hid (retB ⟨n, d, l⟩ = formR l) := by
    rw [Hid, HRB.out, decide_eq_true q1, decide_eq_true q2, decide_eq_true q3, decide_eq_true q4, decide_eq_true q5]; rfl
  have hB := (Below.refl w.heap.size w).alloc (Nat.le_refl _) (.cells #[.int .i64 n, .int .i64 d, .slice A l.length cap] 25)
  have HC := Lib.hid (FormL_any l (.slice A l.length cap) _ (HV.out.below hB))
  go_enter Tryz.func16, Tryz.ntmps16
  go_wp2_with fail
  refine HC.out.mono ?_
  rintro e w1 ⟨rfl, hb1⟩
  have hB1 := below_after hB hb1 hB.size
  clear hB hb1
  go_wp2
  go_ret
  exact ⟨ret_bool HF.out.symm, hB1⟩
end Go.Proofs.YtnkephafpebfkaaGreatDoor
/- Contracts of the reference: Word, Text, Encode. -/
namespace Go.Proofs.YtnkephafpebfkaaGreatDoor
open Go.RowKit Go.Shelf

theorem word_at (j : Nat) (h : j < 10) : (#[Value.string ⟨#[101, 97, 114, 110, 105, 110, 103]⟩, .string ⟨#[98, 101, 110, 101, 102, 105, 116]⟩, .string ⟨#[98, 101, 102, 111, 114, 101]⟩, .string ⟨#[108, 101, 118, 121]⟩, .string ⟨#[101, 109, 112, 108, 111, 121, 101, 114]⟩, .string ⟨#[116, 97, 120]⟩, .string ⟨#[97, 116, 116, 97, 99, 104, 101, 100]⟩, .string ⟨#[97, 102, 116, 101, 114]⟩, .string ⟨#[110, 101, 116]⟩, .string ⟨#[115, 104, 111, 114, 116]⟩] : Array Value)[j]? = some (.string (bsOf (wAll.getD j []))) := by
  match j, h with
  | 0, _ => rfl
  | 1, _ => rfl
  | 2, _ => rfl
  | 3, _ => rfl
  | 4, _ => rfl
  | 5, _ => rfl
  | 6, _ => rfl
  | 7, _ => rfl
  | 8, _ => rfl
  | 9, _ => rfl
theorem wordL_out {k : Int} (h : k < 1 ∨ 10 < k) : wordL k = [] := by
  unfold wordL
  rcases h with h | h
  · rw [if_neg (by omega)]
  · rw [if_pos (by omega), List.getD, List.getElem?_eq_none]
    · rfl
    · show wAll.length ≤ _
      have : wAll.length = 10 := rfl
      omega
theorem wordR_any (k : Int) (w : World) (h0 : -9223372036854775808 ≤ k) (h1 : k ≤ 9223372036854775807) :
    Calls Tryz.prog 61 #[.int .i64 k] w fun e w' => e = .returned (.string (bsOf (wordL k))) ∧ Below w.heap.size w w' := by
  by_cases q0 : k < 1
  · have H : Hid (bsOf (wordL k) = ⟨#[]⟩) := by rw [Hid, wordL_out (.inl q0)]; rfl
    go_enter Tryz.func61, Tryz.ntmps61
    go_wp2
    go_ret
    exact ⟨by rw [H.out]; rfl, (Below.refl _ _).alloc (Nat.le_refl _) _⟩
  by_cases q1 : 10 < k
  · have H : Hid (bsOf (wordL k) = ⟨#[]⟩) := by rw [Hid, wordL_out (.inr q1)]; rfl
    go_enter Tryz.func61, Tryz.ntmps61
    go_wp2
    go_ret
    exact ⟨by rw [H.out]; rfl, (Below.refl _ _).alloc (Nat.le_refl _) _⟩
  obtain ⟨j, hj⟩ : ∃ j : Nat, k = (j : Int) + 1 := ⟨(k - 1).toNat, by omega⟩
  subst hj
  have hj10 : j < 10 := by omega
  have H : Hid (wordL ((j : Int) + 1) = wAll.getD j []) := by
    unfold wordL
    rw [Hid, if_pos (by omega), show ((j : Int) + 1 - 1).toNat = j by omega]
  have HC := Lib.hid (word_at j hj10)
  have s1 : IntKind.i64.wrap ((j : Int) + 1 - 1) = (j : Int) := by rw [show (j : Int) + 1 - 1 = (j : Int) by omega]; exact IntWalk.i64_in _ (by omega)
  have s2 : ((j : Int) + 1 - 1) = (j : Int) := by omega
  have c0 : ∀ (o : Array Value), o[j]? = some (.string (bsOf (wAll.getD j []))) → (w.alloc (.cells o 9)).cell? ⟨w.heap.size, j, none⟩ = some (.string (bsOf (wAll.getD j []))) := fun o ho => by
    rw [World.cell?_alloc_new]; exact ho
  have c1 := c0 _ HC.out
  clear c0
  go_enter Tryz.func61, Tryz.ntmps61
  go_wp2
  go_ret
  exact ⟨by rw [H.out]; rfl, (Below.refl _ _).alloc (Nat.le_refl _) _⟩
theorem word_sz {x : Ln} (h : Formed x) : (bsOf (wordL x.kind)).size ≤ 8 := by
  obtain ⟨j, hj, _, hw⟩ := h.wd
  have hf := word_free j hj
  rw [bsOf_size, hw]
  exact hf.2.2
theorem lnT_bare {x : Ln} (h : bareB x.kind = true) : lnT x ++ [10] = wordL x.kind ++ [32] ++ Lib.itoa x.amt ++ [10] := by
  rw [lnT, wordsL, if_pos h]; simp [joinBy]
theorem lnT_code {x : Ln} (h : bareB x.kind = false) : lnT x ++ [10] = wordL x.kind ++ [32] ++ x.code.data.toList ++ [32] ++ Lib.itoa x.amt ++ [10] := by
  rw [lnT, wordsL, h]; simp [joinBy]
set_option maxRecDepth 100000 in
set_option maxHeartbeats 2000000 in
theorem Text_any (x : Ln) (w : World) (hf : Formed x) :
    Calls Tryz.prog 39 #[.agg #[.int .i64 x.kind, .string x.code, .int .i64 x.amt]] w fun e w' => e = .returned (.string (bsOf (lnT x ++ [10]))) ∧ Below w.heap.size w w' := by
  have a0 := hf.a0
  have a1 := hf.a1
  have k0 := hf.k0
  have k1 := hf.k1
  have hB := (Below.refl w.heap.size w).alloc (Nat.le_refl _) (.cells #[.int .i64 x.kind, .string x.code, .int .i64 x.amt] 56)
  have hr := Row.new w 56 #[.int .i64 x.kind, .string x.code, .int .i64 x.amt]
  obtain ⟨w1, hw1⟩ : ∃ w1, w.alloc (.cells #[.int .i64 x.kind, .string x.code, .int .i64 x.amt] 56) = w1 := ⟨_, rfl⟩
  rw [hw1] at hB hr
  obtain ⟨⟨y0, y1, y2, yl⟩, -⟩ := row3 hr
  have z0 := ext_cell yl y0
  have z1 := ext_cell yl y1
  have z2 := ext_cell yl y2
  have HW := Lib.hid (fun y : Ext w1 => wordR_any x.kind y.val (by omega) (by omega))
  have HD : Hid (∀ y : Ext w1, Calls Tryz.prog 38 #[.int .i64 x.amt] y.val fun e w' => e = .returned (.string (bsOf (Lib.itoa x.amt))) ∧ Below y.val.heap.size y.val w') := fun y => (Decimal_any x.amt y.val (by omega) (by omega)).mono fun _ _ h => h.bs
  have s1 := word_sz hf
  have s2 := itoa_20 x.amt (by omega) (by omega)
  have s3 := code_len hf
  have HBY : Hid (∀ y : Ext w1, Below w.heap.size w y.val) := fun y => below_after hB y.property hB.size
  obtain ⟨W, hW⟩ : ∃ W, wordL x.kind = W := ⟨_, rfl⟩
  obtain ⟨I, hI⟩ : ∃ I, Lib.itoa x.amt = I := ⟨_, rfl⟩
  rw [hW] at HW s1
  rw [hI] at HD s2
  have HIW := Lib.hid (And.intro hW hI)
  clear hB hr hW hI hf
  go_enter Tryz.func39, Tryz.ntmps39
  go_wp2_with fail
  cases hb : bareB x.kind
  · have HT : Hid (lnT x ++ [10] = W ++ [32] ++ x.code.data.toList ++ [32] ++ I ++ [10]) := by rw [Hid, lnT_code hb, HIW.out.1, HIW.out.2]
    refine (refBare_any x.kind _).mono ?_
    rintro e w' ⟨rfl, rfl⟩
    rw [hb]
    clear hb y0 y1 y2
    go_wp2_with fail
    refine region_ext (by kernel_rfl) (by kernel_rfl) ?_
    repeat (go_big_quiet_step (first | (go_at_call 61; exact ext_call (HW.out _)) | (go_at_call 38; exact ext_call (HD.out _))))
    refine wpQuiet_nil ?_
    rintro _ ⟨y, rfl⟩
    go_wp2
    refine bodyPost_ret (v := .string _) (by simp [results, Tryz.results39, go_sem]; rfl) rfl ?_
    refine ⟨?_, HBY.out y⟩
    congr 2
    refine bsOf_eq ?_
    rw [HT.out]
    simp only [app_list, bsOf_list]
  · have HT : Hid (lnT x ++ [10] = W ++ [32] ++ I ++ [10]) := by rw [Hid, lnT_bare hb, HIW.out.1, HIW.out.2]
    refine (refBare_any x.kind _).mono ?_
    rintro e w' ⟨rfl, rfl⟩
    rw [hb]
    clear hb y0 y1 y2
    go_wp2_with fail
    refine region_ext (by kernel_rfl) (by kernel_rfl) ?_
    repeat (go_big_quiet_step (first | (go_at_call 61; exact ext_call (HW.out _)) | (go_at_call 38; exact ext_call (HD.out _))))
    refine wpQuiet_nil ?_
    rintro _ ⟨y, rfl⟩
    go_wp2
    refine bodyPost_ret (v := .string _) (by simp [results, Tryz.results39, go_sem]; rfl) rfl ?_
    refine ⟨?_, HBY.out y⟩
    congr 2
    refine bsOf_eq ?_
    rw [HT.out]
    simp only [app_list, bsOf_list]
set_option maxRecDepth 100000 in
set_option maxHeartbeats 4000000 in
theorem refEncodeR_any (r : Ret) (v : Value) (w : World) (hv : Sl w 3 v (lns r.l)) :
    Calls Tryz.prog 14 #[.agg (r.vals v)] w fun e w' => e = .returned (.tuple #[.string (bsOf (encT r)), .int .i64 (encE r)]) ∧ Below w.heap.size w w' := by
  have HV := Lib.hid hv
  obtain ⟨A, cap, rfl, h1, h2, _, _⟩ := hv
  rw [lns_len] at h1 HV ⊢
  unfold maxLen at h2
  obtain ⟨n, d, l⟩ := r
  have hvals : Ret.vals ⟨n, d, l⟩ (.slice A l.length cap) = #[.int .i64 n, .int .i64 d, .slice A l.length cap] := rfl
  simp only [hvals] at h1 HV ⊢
  have hR := Row.new w 25 #[.int .i64 n, .int .i64 d, .slice A l.length cap]
  have hB := (Below.refl w.heap.size w).alloc (Nat.le_refl _) (.cells #[.int .i64 n, .int .i64 d, .slice A l.length cap] 25)
  obtain ⟨w0, hw0⟩ : ∃ w0, w.alloc (.cells #[.int .i64 n, .int .i64 d, .slice A l.length cap] 25) = w0 := ⟨_, rfl⟩
  rw [hw0] at hR hB
  have HVA : Hid (Calls Tryz.prog 16 #[.agg #[.int .i64 n, .int .i64 d, .slice A l.length cap]] w0 fun e w' => e = .returned (.bool (retB ⟨n, d, l⟩)) ∧ Below w0.heap.size w0 w') := refValidR_any ⟨n, d, l⟩ _ w0 (HV.out.below hB)
  clear hvals
  obtain ⟨g, hg⟩ : ∃ g, w.heap.size = g := ⟨_, rfl⟩
  rw [hg] at hR
  obtain ⟨⟨x0, x1, x2, xl⟩, -⟩ := row3 hR
  go_enter Tryz.func14, Tryz.ntmps14
  go_wp2_with fail
  clear hw0 hg x0 x1 x2 xl
  refine HVA.out.mono ?_
  rintro e w1 ⟨rfl, hb1⟩
  have hB1 := below_after hB hb1 hB.size
  have hR1 := hR.below hb1 hR.lt
  clear hB hR hb1 HVA
  cases hfv : retB ⟨n, d, l⟩
  · have HE : Hid (bsOf (encT ⟨n, d, l⟩) = ⟨#[]⟩ ∧ encE ⟨n, d, l⟩ = 1) := ⟨by rw [encT, hfv]; rfl, by rw [encE, hfv]; rfl⟩
    clear hfv
    go_wp2
    refine bodyPost_ret (v := .tuple #[.string ⟨#[]⟩, .int .i64 1]) (by simp [results, Tryz.results14, go_sem]) rfl ?_
    exact ⟨by rw [HE.out.1, HE.out.2], hB1⟩
  have hok := (retB_iff _).1 hfv
  have f1 := hok.p0
  have f2 := hok.p1
  have f3 := hok.v0
  have f4 := hok.v1
  have f5 := hok.n
  simp only at f1 f2 f3 f4 f5
  have HF := Lib.hid (fun x hx => formed_of (formB_formed (hok.f x hx)))
  have HE : Hid (encT ⟨n, d, l⟩ = headR n d ++ [10] ++ lnsT l ++ (wEnd ++ [10]) ∧ encE ⟨n, d, l⟩ = 0) := ⟨by rw [encT, hfv, if_pos rfl, retT_eq], by rw [encE, hfv]; rfl⟩
  have hc : ∀ (x : Int) (w : World), -9223372036854775808 ≤ x → x ≤ 9223372036854775807 → Calls Tryz.prog 38 #[.int .i64 x] w fun e w' => e = .returned (.string (bsOf (Lib.itoa x))) ∧ Below w.heap.size w w' := fun x w g1 g2 => (Decimal_any x w g1 g2).mono fun _ _ h => h.bs
  have HC := Lib.hid hc
  have s1 := itoa_20 n (by omega) (by omega)
  have s2 := itoa_20 d (by omega) (by omega)
  clear hfv hok hc
  obtain ⟨⟨x0, x1, x2, xl⟩, -⟩ := row3 hR1
  have y0 := ext_cell xl x0
  have y1 := ext_cell xl x1
  have hbx : Hid (∀ y : Ext w1, Below w.heap.size w y.val ∧ Row y.val g 25 #[.int .i64 n, .int .i64 d, .slice A l.length cap]) := fun y => ⟨hB1.trans (y.property.mono hB1.size), hR1.below y.property xl⟩
  clear x0 x1 x2
  go_wp2_with fail
  refine region_ext (by kernel_rfl) (by kernel_rfl) ?_
  repeat (go_big_quiet_step ((go_at_call 38; exact ext_call (HC.out _ _ (by omega) (by omega)))))
  refine wpQuiet_nil ?_
  rintro _ ⟨y, rfl⟩
  obtain ⟨hBy, hRy⟩ := hbx.out y
  obtain ⟨hd, hhd⟩ : ∃ hd : ByteArray, (⟨#[114, 101, 116, 117, 114, 110, 32]⟩ ++ bsOf (Lib.itoa n) ++ ⟨#[32, 118, 101, 114, 115, 105, 111, 110, 32]⟩ ++ bsOf (Lib.itoa d) ++ ⟨#[10]⟩ : ByteArray) = hd := ⟨_, rfl⟩
  have hH : hd.data.toList = headR n d ++ [10] := by
    rw [← hhd, headR_eq]; simp only [app_list, bsOf_list]
  have hz0 : hd.size ≤ 500 := by
    rw [← hhd]
    simp only [ByteArray.size_append]
    have a1 : (⟨#[114, 101, 116, 117, 114, 110, 32]⟩ : ByteArray).size = 7 := rfl
    have a2 : (⟨#[32, 118, 101, 114, 115, 105, 111, 110, 32]⟩ : ByteArray).size = 9 := rfl
    have a3 : (⟨#[10]⟩ : ByteArray).size = 1 := rfl
    omega
  have HH := Lib.hid hH
  generalize y.val = w2 at hBy hRy ⊢
  rw [hhd]
  clear hhd hH y0 y1 hbx hB1 hR1 xl s1 s2 y
  have HS0 : Hid (hd.data.toList = headR n d ++ [10] ++ lnsT (l.take 0)) := by rw [Hid, HH.out]; simp [lnsT]
  have HB0 := Lib.hid (And.intro hBy hRy)
  clear hBy hRy HH
  go_wp2_with fail
  go_loopw [4, 5] (fun o i wr => ∃ (s : ByteArray) (k : Nat), o = .string s ∧ i = .int .i64 k ∧ k ≤ l.length ∧ s.size ≤ 500 + 500 * k ∧ Hid (s.data.toList = headR n d ++ [10] ++ lnsT (l.take k)) ∧ Hid (Below w.heap.size w wr ∧ Row wr g 25 #[.int .i64 n, .int .i64 d, .slice A l.length cap])) (fun _ i _ => l.length - (intOf i).toNat)
  case atStart => exact ⟨hd, 0, rfl, rfl, by omega, by omega, HS0.out, HB0.out⟩
  case round =>
    clear HS0 HB0 hz0
    obtain ⟨s, k, rfl, rfl, hk, hsz, HS, HB⟩ := hrel
    obtain ⟨wo, rfl⟩ : ∃ wo : World, wo = wr := ⟨_, rfl⟩
    obtain ⟨⟨x0, x1, x2, xl⟩, -⟩ := row3 HB.out.2
    by_cases hlt : k < l.length
    · obtain ⟨bk, off, rfl, hcw⟩ := HV.out.cells (by rw [lns_len]; omega)
      have hc0 := hcw.below HB.out.1 hcw.1
      have hbl := hc0.1
      obtain ⟨c0, c1, c2⟩ := hc0.ln hlt
      have HTK := Lib.hid (lnsT_snoc hlt)
      have hfx := HF.out _ (List.getElem_mem hlt)
      have hll := lnT_len hfx
      obtain ⟨x, hx⟩ : ∃ x, l[k] = x := ⟨_, rfl⟩
      rw [hx] at c0 c1 c2 HTK hfx hll
      have HTXT := Lib.hid (Text_any x wo hfx)
      have i1 : (k : Int) < (l.length : Int) := by omega
      obtain ⟨T, hT⟩ : ∃ T, bsOf (lnT x ++ [10]) = T := ⟨_, rfl⟩
      have HTL : Hid (T.data.toList = lnT x ++ [10]) := by rw [Hid, ← hT, bsOf_list]
      have htz : T.size ≤ 100 := by rw [← hT, bsOf_size, List.length_append, List.length_singleton]; omega
      rw [hT] at HTXT
      clear hx hcw hc0 hfx hT
      go_wp2_with fail
      refine HTXT.out.mono ?_
      rintro e w3 ⟨rfl, hb3⟩
      have HB3 : Hid (Below w.heap.size w w3 ∧ Row w3 g 25 #[.int .i64 n, .int .i64 d, .slice (some ⟨bk, off, none⟩) l.length cap]) := ⟨below_after HB.out.1 hb3 HB.out.1.size, HB.out.2.below hb3 xl⟩
      clear x0 x1 x2 xl c0 c1 c2 hb3 HTXT HB hbl
      obtain ⟨ns, hns⟩ : ∃ ns : ByteArray, s ++ T = ns := ⟨_, rfl⟩
      have HN : Hid (ns.data.toList = headR n d ++ [10] ++ lnsT (l.take (k + 1))) := by
        rw [Hid, ← hns, HTK.out, app_list, HS.out, HTL.out]; simp only [List.append_assoc]
      have hNz : ns.size ≤ 500 + 500 * (k + 1) := by rw [← hns, ByteArray.size_append]; omega
      have HNS := Lib.hid hns
      clear hns
      go_wp2
      go_roundw
      case rel => exact ⟨ns, k + 1, by rw [HNS.out], by go_num, by omega, hNz, HN.out, HB3.out⟩
      case measure => simp [intOf]; omega
    · obtain rfl : k = l.length := by omega
      have HS1 : Hid (s.data.toList = headR n d ++ [10] ++ lnsT l) := by rw [Hid, HS.out, List.take_length]
      have HBF := Lib.hid HB.out.1
      clear HS HB
      go_wp2
      refine bodyPost_ret (v := .tuple #[.string _, .int .i64 0]) (by simp [results, Tryz.results14, go_sem]; rfl) rfl ?_
      refine ⟨?_, HBF.out⟩
      rw [HE.out.2]
      congr 4
      refine congrArg Value.string (bsOf_eq ?_)
      rw [HE.out.1, app_list, HS1.out]; rfl
end Go.Proofs.YtnkephafpebfkaaGreatDoor
/- Contract of ref34.Line. Written by gen_rfln.py. -/
namespace Go.Proofs.YtnkephafpebfkaaGreatDoor
open Go.RowKit Go.Shelf

/-- the call returns the line that some words are, or says that they are none -/
def LnP (L : List (List UInt8)) (w : World) (e : Ending) (w' : World) : Prop :=
  ∃ (x : Ln) (b : Bool), e = .returned (.tuple #[.agg #[.int .i64 x.kind, .string x.code, .int .i64 x.amt], .bool b]) ∧ ((b = true ∧ IsLn L x) ∨ (b = false ∧ NoLine L)) ∧ Below w.heap.size w w'
/-- the result's box, as at the start -/
structure LnS (w : World) (r : Nat) (wx : World) : Prop where
  res : Row wx r 56 #[.int .i64 0, .string ⟨#[]⟩, .int .i64 0]
  below : Below w.heap.size w wx
theorem LnS.same {w wx w' : World} {r : Nat} (h : LnS w r wx) (hb : Below wx.heap.size wx w') : LnS w r w' := ⟨h.res.below hb h.res.lt, below_after h.below hb h.below.size⟩
theorem str_yes2 {q T : ByteArray} (h : q.data.toList = T.data.toList) : (q.toList == T.toList) = true ∧ q.toList = T.toList := by
  rw [ByteArray.toList_eq, ByteArray.toList_eq, h]; simp
theorem str_no2 {q T : ByteArray} (h : ¬ q.data.toList = T.data.toList) : (q.toList == T.toList) = false ∧ ¬ q.toList = T.toList := by
  rw [ByteArray.toList_eq, ByteArray.toList_eq]; exact ⟨by simpa using h, h⟩
theorem wds3 {W : List ByteArray} (hl : W.length = 3) : ∃ a b c, W = [a, b, c] := by
  match W, hl with
  | [a, b, c], _ => exact ⟨a, b, c, rfl⟩
theorem wds2 {W : List ByteArray} (hl : W.length = 2) : ∃ a b, W = [a, b] := by
  match W, hl with
  | [a, b], _ => exact ⟨a, b, rfl⟩
set_option maxRecDepth 100000 in
set_option maxHeartbeats 8000000 in
theorem refLine_any (W : List ByteArray) (A : Option Addr) (cap : Nat) (w : World) (hv : Sl w 1 (.slice A W.length cap) (txts W)) (h0 : 0 < W.length) (hz : ∀ p ∈ W, p.size ≤ 1000000000) :
    Calls Tryz.prog 47 #[.slice A W.length cap] w (LnP (W.map (·.data.toList)) w) := by
  obtain ⟨bk, off, rfl, hc⟩ := hv.cells (by rw [txts_len]; omega)
  have q0 := hc.txt (k := 0) h0
  rw [Nat.add_zero] at q0
  have hbl := hc.1
  have HC := Lib.hid hc
  have HZ := Lib.hid hz
  obtain ⟨a, ha⟩ : ∃ a, W[0] = a := ⟨_, rfl⟩
  obtain ⟨R, hR⟩ : ∃ R, (W.map (·.data.toList)).drop 1 = R := ⟨_, rfl⟩
  have HWM : Hid (W.map (·.data.toList) = a.data.toList :: R) := by
    rw [Hid, ← hR, ← ha]
    cases W with
    | nil => simp at h0
    | cons x t => rfl
  rw [ha] at q0
  have hr0 := Row.new w 56 #[.int .i64 0, .string ⟨#[]⟩, .int .i64 0]
  have hB0 := (Below.refl w.heap.size w).alloc (Nat.le_refl _) (.cells #[.int .i64 0, .string ⟨#[]⟩, .int .i64 0] 56)
  clear hv hc hz ha hR
  go_enter Tryz.func47, Tryz.ntmps47
  go_wp2_with fail
  obtain ⟨w0, hw0⟩ : ∃ w0, w.alloc (.cells #[.int .i64 0, .string ⟨#[]⟩, .int .i64 0] 56) = w0 := ⟨_, rfl⟩
  rw [hw0] at hr0 hB0 ⊢
  obtain ⟨r, hr⟩ : ∃ r, w.heap.size = r := ⟨_, rfl⟩
  rw [hr] at hr0 ⊢
  have hwr : w.heap.size ≤ r := by omega
  have HS0 : Hid (LnS w r w0) := ⟨hr0, hB0⟩
  clear hw0 hr hr0 hB0
  go_loopw [4] (fun i wr => ∃ j : Nat, j ≤ 10 ∧ i = .int .i64 ((j : Int) + 1) ∧ Hid (LnS w r wr) ∧ Hid (∀ q : Nat, q < j → ¬ a.data.toList = wAll.getD q [])) (fun i _ => 11 - (intOf i).toNat)
  case atStart => exact ⟨0, by omega, rfl, HS0, fun q hq => by omega⟩
  case round =>
    clear HS0
    obtain ⟨j, hj, rfl, HS, HK⟩ := hrel
    obtain ⟨wo, rfl⟩ : ∃ wo : World, wo = wr := ⟨_, rfl⟩
    have hbo := HS.out.below.size
    by_cases hlt : j < 10
    · have i1 : decide ((j : Int) + 1 ≤ 10) = true := by simp; omega
      have HW : Hid (∀ y : Ext wo, Calls Tryz.prog 61 #[.int .i64 ((j : Int) + 1)] y.val fun e w' => e = .returned (.string (bsOf (wordL ((j : Int) + 1)))) ∧ Below y.val.heap.size y.val w') := fun y => wordR_any _ y.val (by omega) (by omega)
      obtain ⟨T, hT⟩ : ∃ T, bsOf (wordL ((j : Int) + 1)) = T := ⟨_, rfl⟩
      have HTL : Hid (T.data.toList = wAll.getD j []) := by rw [Hid, ← hT, bsOf_list, wordL_at hlt]
      rw [hT] at HW
      have hblo := Nat.lt_of_lt_of_le hbl hbo
      have g0 := ext_cell hblo ((HS.out.below.cell (p := ⟨bk, off, none⟩) hbl).trans q0)
      have hbx : Hid (∀ y : Ext wo, LnS w r y.val) := fun y => HS.out.same y.property
      clear hT HS
      go_wp2_with fail
      refine region_ext (by kernel_rfl) (by kernel_rfl) ?_
      repeat (go_big_quiet_step ((go_at_call 61; exact ext_call (HW.out _))))
      refine wpQuiet_nil ?_
      rintro _ ⟨y, rfl⟩
      have HS2 := Lib.hid (hbx.out y)
      generalize y.val = w2 at HS2 ⊢
      clear g0 hbx HW y hbo hblo
      by_cases heq : a.data.toList = T.data.toList
      rotate_left
      · obtain ⟨t3, t4⟩ := str_no2 heq
        have HK2 : Hid (∀ q : Nat, q < j + 1 → ¬ a.data.toList = wAll.getD q []) := fun q hq => by
          by_cases h : q < j
          · exact HK.out q h
          · obtain rfl : q = j := by omega
            rw [← HTL.out]; exact heq
        have s1 : IntKind.i64.wrap ((j : Int) + 1 + 1) = (j : Int) + 1 + 1 := IntWalk.i64_in _ (by omega)
        clear heq
        simp only [t3, Bool.not_false]
        go_wp2
        go_roundw
        case rel => exact ⟨j + 1, by omega, by go_num, HS2, HK2⟩
        case measure => simp [intOf]; omega
      obtain ⟨t3, t4⟩ := str_yes2 heq
      simp only [t3, Bool.not_true]
      have HAT : Hid (a.data.toList = wAll.getD j []) := by rw [Hid, heq, HTL.out]
      have hS2 := HS2.out
      have hb2 := hS2.below.size
      have hal := (Below.refl w2.heap.size w2).alloc (Nat.le_refl _) (.cells #[.int .i64 ((j : Int) + 1), .string ⟨#[]⟩, .int .i64 0] 56)
      have hX := Row.new w2 56 #[.int .i64 ((j : Int) + 1), .string ⟨#[]⟩, .int .i64 0]
      have i2 : ((j : Int) + 1 ≤ 10) := by omega
      go_wp2_with fail
      obtain ⟨w3, hw3⟩ : ∃ w3, w2.alloc (.cells #[.int .i64 ((j : Int) + 1), .string ⟨#[]⟩, .int .i64 0] 56) = w3 := ⟨_, rfl⟩
      rw [hw3] at hal hX ⊢
      obtain ⟨m, hm⟩ : ∃ m, w2.heap.size = m := ⟨_, rfl⟩
      have hS3 := hS2.same hal
      have hrm : r ≠ m := by have := hS2.res.lt; omega
      have hmw : w.heap.size ≤ m := by omega
      have hb3 := hS3.below.size
      have HC3 := Lib.hid (HC.out.below hS3.below hbl)
      have hbl3 := Nat.lt_of_lt_of_le hbl hb3
      rw [hm] at hX ⊢
      clear heq HTL hS2 hal HS2 HK hb2 hb3 hw3 hm t3 t4
      refine (refBare_any _ _).mono ?_
      rintro e w4 ⟨rfl, rfl⟩
      cases hb : bareB ((j : Int) + 1)
      · have HBR := Lib.hid hb
        clear hb
        by_cases hl3 : W.length = 3
        rotate_left
        · have hn : ((W.length : Int) != 3) = true := by simp; omega
          have HN : Hid (NoLine (W.map (·.data.toList))) := by
            rw [Hid, HWM.out]
            refine noLn_full hlt HAT.out HBR.out ?_
            rw [← HWM.out, List.length_map]; exact hl3
          clear hl3
          have HQ := Lib.hid (Below.set3 hS3.below hwr (.int .i64 0) (.string ⟨#[]⟩) (.int .i64 0))
          have HR := Lib.hid (row3 (Row.set3 hS3.res (.int .i64 0) (.string ⟨#[]⟩) (.int .i64 0))).1
          obtain ⟨⟨a0, a1, a2, al⟩, ⟨b0, b1, b2⟩⟩ := row3 hS3.res
          go_wp2
          obtain ⟨z0, z1, z2, -⟩ := HR.out
          refine bodyPost_ret (v := .tuple #[.agg #[.int .i64 0, .string ⟨#[]⟩, .int .i64 0], .bool false]) (by simp only [results, Tryz.results47, go_sem]; simp [z0, z1, z2, go_sem]) rfl ?_
          exact ⟨⟨0, ⟨#[]⟩, 0⟩, false, rfl, .inr ⟨rfl, HN.out⟩, HQ.out⟩
        obtain ⟨a', b, c, rfl⟩ := wds3 hl3
        have zc := HZ.out c (by simp)
        have hS4 : LnS w r (w3.setCell ⟨m, 1, none⟩ (.string b)) := ⟨hS3.res.far (p := ⟨m, 1, none⟩) hrm _, hS3.below.setCell (p := ⟨m, 1, none⟩) hmw _⟩
        have g1 := HC3.out.txt (k := 1) (by simp)
        have g2 := (HC.out.below hS4.below hbl).txt (k := 2) (by simp)
        simp only [List.getElem_cons_succ, List.getElem_cons_zero] at g1 g2
        have HLF := Lib.hid (ln_full hlt HAT.out HBR.out (c := b) (b := c.data.toList))
        have HWE : Hid ([a', b, c].map (·.data.toList) = [a.data.toList, b.data.toList, c.data.toList]) := by
          have := HWM.out
          simp only [List.map_cons, List.map_nil, List.cons.injEq] at this
          rw [Hid]; simp [this.1]
        have hX4 := hX.set 1 (.string b)
        have hX4' : Row (w3.setCell ⟨m, 1, none⟩ (.string b)) m 56 #[.int .i64 ((j : Int) + 1), .string b, .int .i64 0] := hX4
        obtain ⟨⟨x0, x1, x2, xl⟩, ⟨f0, f1, f2⟩⟩ := row3 hX
        have h3 : ([a', b, c] : List ByteArray).length = 3 := rfl
        rw [h3]
        clear hl3 hX hX4 h3
        go_wp2_with fail
        clear x0 x1 x2 xl f0 f1 f2 g1
        obtain ⟨w4, hw4⟩ : ∃ w4, w3.setCell ⟨m, 1, none⟩ (.string b) = w4 := ⟨_, rfl⟩
        rw [hw4] at hS4 hX4' g2 ⊢
        clear hw4 hS3 HC3 hbl3 g2
        refine (Number_any c w4 (by omega)).mono ?_
        rintro e w5 ⟨rfl, rfl⟩
        obtain ⟨o, ho⟩ : ∃ o, numZ c.data.toList = o := ⟨_, rfl⟩
        rw [ho] at HLF ⊢
        clear ho
        cases o with
        | none =>
          simp only [Option.getD_none, Option.isSome_none]
          have HN : Hid (NoLine ([a', b, c].map (·.data.toList))) := by rw [Hid, HWE.out]; exact HLF.out.1 rfl
          have hX5 : Row (w4.setCell ⟨m, 2, none⟩ (.int .i64 0)) m 56 #[.int .i64 ((j : Int) + 1), .string b, .int .i64 0] := hX4'.set 2 (.int .i64 0)
          have hS5 : LnS w r (w4.setCell ⟨m, 2, none⟩ (.int .i64 0)) := ⟨hS4.res.far (p := ⟨m, 2, none⟩) hrm _, hS4.below.setCell (p := ⟨m, 2, none⟩) hmw _⟩
          obtain ⟨⟨x0, x1, x2, xl⟩, ⟨f0, f1, f2⟩⟩ := row3 hX4'
          clear HLF HWE
          go_wp2_with fail
          clear x0 x1 x2 xl f0 f1 f2
          obtain ⟨w5, hw5⟩ : ∃ w5, w4.setCell ⟨m, 2, none⟩ (.int .i64 0) = w5 := ⟨_, rfl⟩
          rw [hw5] at hS5 hX5 ⊢
          have HQR : Hid (Below w.heap.size w (((w5.setCell ⟨r, 0, none⟩ (.int .i64 ((j : Int) + 1))).setCell ⟨r, 1, none⟩ (.string b)).setCell ⟨r, 2, none⟩ (.int .i64 0)).drew ∧ Row (((w5.setCell ⟨r, 0, none⟩ (.int .i64 ((j : Int) + 1))).setCell ⟨r, 1, none⟩ (.string b)).setCell ⟨r, 2, none⟩ (.int .i64 0)).drew r 56 #[.int .i64 ((j : Int) + 1), .string b, .int .i64 0]) := ⟨(Below.set3 hS5.below hwr _ _ _).drew, Row.set3 hS5.res _ _ _⟩
          obtain ⟨⟨x0, x1, x2, xl⟩, ⟨f0, f1, f2⟩⟩ := row3 hX5
          obtain ⟨⟨a0, a1, a2, al⟩, ⟨b0, b1, b2⟩⟩ := row3 hS5.res
          clear hw5 hX4' hS4 hS5 hX5
          go_region
          all_goals
            go_wp2
            obtain ⟨W', hW'⟩ : ∃ W', (((w5.setCell ⟨r, 0, none⟩ (.int .i64 ((j : Int) + 1))).setCell ⟨r, 1, none⟩ (.string b)).setCell ⟨r, 2, none⟩ (.int .i64 0)).drew = W' := ⟨_, rfl⟩
            rw [hW'] at HQR ⊢
            obtain ⟨⟨z0, z1, z2, -⟩, -⟩ := row3 HQR.out.2
            clear hW' x0 x1 x2 xl f0 f1 f2 a0 a1 a2 al b0 b1 b2
            refine bodyPost_ret (v := .tuple #[.agg #[.int .i64 ((j : Int) + 1), .string b, .int .i64 0], .bool false]) (by simp only [results, Tryz.results47, go_sem]; simp [z0, z1, z2, go_sem]) rfl ?_
            exact ⟨⟨(j : Int) + 1, b, 0⟩, false, rfl, .inr ⟨rfl, HN.out⟩, HQR.out.1⟩
        | some n =>
          simp only [Option.getD_some, Option.isSome_some]
          have hX5 : Row (w4.setCell ⟨m, 2, none⟩ (.int .i64 n)) m 56 #[.int .i64 ((j : Int) + 1), .string b, .int .i64 n] := hX4'.set 2 (.int .i64 n)
          have hS5 : LnS w r (w4.setCell ⟨m, 2, none⟩ (.int .i64 n)) := ⟨hS4.res.far (p := ⟨m, 2, none⟩) hrm _, hS4.below.setCell (p := ⟨m, 2, none⟩) hmw _⟩
          obtain ⟨⟨x0, x1, x2, xl⟩, ⟨f0, f1, f2⟩⟩ := row3 hX4'
          go_wp2_with fail
          clear x0 x1 x2 xl f0 f1 f2
          obtain ⟨w5, hw5⟩ : ∃ w5, w4.setCell ⟨m, 2, none⟩ (.int .i64 n) = w5 := ⟨_, rfl⟩
          rw [hw5] at hS5 hX5 ⊢
          have hS6 : LnS w r w5.drew := hS5.same (Below.refl _ _).drew
          have hX6 : Row w5.drew m 56 #[.int .i64 ((j : Int) + 1), .string b, .int .i64 n] := hX5
          have HFO := Lib.hid (refForm_any ⟨(j : Int) + 1, b, n⟩ w5.drew)
          have HOR : Hid ((formB ⟨(j : Int) + 1, b, n⟩ = true ∧ IsLn ([a', b, c].map (·.data.toList)) ⟨(j : Int) + 1, b, n⟩) ∨ (formB ⟨(j : Int) + 1, b, n⟩ = false ∧ NoLine ([a', b, c].map (·.data.toList)))) := by
            rw [Hid, HWE.out]
            cases hf : formB ⟨(j : Int) + 1, b, n⟩
            · exact .inr ⟨rfl, (HLF.out.2 n rfl).2 hf⟩
            · exact .inl ⟨rfl, (HLF.out.2 n rfl).1 hf⟩
          obtain ⟨fb, hfb⟩ : ∃ fb, formB ⟨(j : Int) + 1, b, n⟩ = fb := ⟨_, rfl⟩
          rw [hfb] at HFO HOR
          have HS6 := Lib.hid (And.intro hS6 hX6)
          obtain ⟨⟨x0, x1, x2, xl⟩, ⟨f0, f1, f2⟩⟩ := row3 hX5
          clear hw5 hX4' hS4 HLF HWE hfb hS5 hX5 hS6 hX6
          go_region_with ((go_at_call 72; refine HFO.out.mono ?_; rintro e w6 ⟨rfl, hb6⟩; have hS7 := HS6.out.1.same hb6; have HQ := Lib.hid (Below.set3 hS7.below hwr (.int .i64 ((j : Int) + 1)) (.string b) (.int .i64 n)); have HR := Lib.hid (row3 (Row.set3 hS7.res (.int .i64 ((j : Int) + 1)) (.string b) (.int .i64 n))).1; obtain ⟨⟨k0, k1, k2, kl⟩, ⟨l0, l1, l2⟩⟩ := row3 (HS6.out.2.below hb6 HS6.out.2.lt); obtain ⟨⟨a0, a1, a2, al⟩, ⟨b0, b1, b2⟩⟩ := row3 hS7.res; clear hb6 hS7))
          all_goals
            go_wp2
            obtain ⟨z0, z1, z2, -⟩ := HR.out
            refine bodyPost_ret (v := .tuple #[.agg #[.int .i64 ((j : Int) + 1), .string b, .int .i64 n], .bool fb]) (by simp only [results, Tryz.results47, go_sem]; simp [z0, z1, z2, go_sem]) rfl ?_
            exact ⟨⟨(j : Int) + 1, b, n⟩, fb, rfl, HOR.out, HQ.out⟩
      · have HBR := Lib.hid hb
        clear hb
        by_cases hl2 : W.length = 2
        rotate_left
        · have hn : ((W.length : Int) != 2) = true := by simp; omega
          have HN : Hid (NoLine (W.map (·.data.toList))) := by
            rw [Hid, HWM.out]
            refine noLn_bare hlt HAT.out HBR.out ?_
            rw [← HWM.out, List.length_map]; exact hl2
          clear hl2
          have HQ := Lib.hid (Below.set3 hS3.below hwr (.int .i64 0) (.string ⟨#[]⟩) (.int .i64 0))
          have HR := Lib.hid (row3 (Row.set3 hS3.res (.int .i64 0) (.string ⟨#[]⟩) (.int .i64 0))).1
          obtain ⟨⟨a0, a1, a2, al⟩, ⟨b0, b1, b2⟩⟩ := row3 hS3.res
          go_wp2
          obtain ⟨z0, z1, z2, -⟩ := HR.out
          refine bodyPost_ret (v := .tuple #[.agg #[.int .i64 0, .string ⟨#[]⟩, .int .i64 0], .bool false]) (by simp only [results, Tryz.results47, go_sem]; simp [z0, z1, z2, go_sem]) rfl ?_
          exact ⟨⟨0, ⟨#[]⟩, 0⟩, false, rfl, .inr ⟨rfl, HN.out⟩, HQ.out⟩
        obtain ⟨a', c, rfl⟩ := wds2 hl2
        have zc := HZ.out c (by simp)
        have g2 := HC3.out.txt (k := 1) (by simp)
        simp only [List.getElem_cons_succ, List.getElem_cons_zero] at g2
        have HLF := Lib.hid (ln_bare hlt HAT.out HBR.out (b := c.data.toList))
        have HWE : Hid ([a', c].map (·.data.toList) = [a.data.toList, c.data.toList]) := by
          have := HWM.out
          simp only [List.map_cons, List.map_nil, List.cons.injEq] at this
          rw [Hid]; simp [this.1]
        have h3 : ([a', c] : List ByteArray).length = 2 := rfl
        rw [h3]
        clear hl2 h3
        go_wp2_with fail
        clear HC3 hbl3 g2
        obtain ⟨w4, hw4⟩ : ∃ w4, w4 = w3 := ⟨_, rfl⟩
        subst hw4
        have hS4 := hS3
        have hX4' := hX
        clear hS3 hX
        refine (Number_any c w4 (by omega)).mono ?_
        rintro e w5 ⟨rfl, rfl⟩
        obtain ⟨o, ho⟩ : ∃ o, numZ c.data.toList = o := ⟨_, rfl⟩
        rw [ho] at HLF ⊢
        clear ho
        cases o with
        | none =>
          simp only [Option.getD_none, Option.isSome_none]
          have HN : Hid (NoLine ([a', c].map (·.data.toList))) := by rw [Hid, HWE.out]; exact HLF.out.1 rfl
          have hX5 : Row (w4.setCell ⟨m, 2, none⟩ (.int .i64 0)) m 56 #[.int .i64 ((j : Int) + 1), .string ⟨#[]⟩, .int .i64 0] := hX4'.set 2 (.int .i64 0)
          have hS5 : LnS w r (w4.setCell ⟨m, 2, none⟩ (.int .i64 0)) := ⟨hS4.res.far (p := ⟨m, 2, none⟩) hrm _, hS4.below.setCell (p := ⟨m, 2, none⟩) hmw _⟩
          obtain ⟨⟨x0, x1, x2, xl⟩, ⟨f0, f1, f2⟩⟩ := row3 hX4'
          clear HLF HWE
          go_wp2_with fail
          clear x0 x1 x2 xl f0 f1 f2
          obtain ⟨w5, hw5⟩ : ∃ w5, w4.setCell ⟨m, 2, none⟩ (.int .i64 0) = w5 := ⟨_, rfl⟩
          rw [hw5] at hS5 hX5 ⊢
          have HQR : Hid (Below w.heap.size w (((w5.setCell ⟨r, 0, none⟩ (.int .i64 ((j : Int) + 1))).setCell ⟨r, 1, none⟩ (.string ⟨#[]⟩)).setCell ⟨r, 2, none⟩ (.int .i64 0)).drew ∧ Row (((w5.setCell ⟨r, 0, none⟩ (.int .i64 ((j : Int) + 1))).setCell ⟨r, 1, none⟩ (.string ⟨#[]⟩)).setCell ⟨r, 2, none⟩ (.int .i64 0)).drew r 56 #[.int .i64 ((j : Int) + 1), .string ⟨#[]⟩, .int .i64 0]) := ⟨(Below.set3 hS5.below hwr _ _ _).drew, Row.set3 hS5.res _ _ _⟩
          obtain ⟨⟨x0, x1, x2, xl⟩, ⟨f0, f1, f2⟩⟩ := row3 hX5
          obtain ⟨⟨a0, a1, a2, al⟩, ⟨b0, b1, b2⟩⟩ := row3 hS5.res
          clear hw5 hX4' hS4 hS5 hX5
          go_region
          all_goals
            go_wp2
            obtain ⟨W', hW'⟩ : ∃ W', (((w5.setCell ⟨r, 0, none⟩ (.int .i64 ((j : Int) + 1))).setCell ⟨r, 1, none⟩ (.string ⟨#[]⟩)).setCell ⟨r, 2, none⟩ (.int .i64 0)).drew = W' := ⟨_, rfl⟩
            rw [hW'] at HQR ⊢
            obtain ⟨⟨z0, z1, z2, -⟩, -⟩ := row3 HQR.out.2
            clear hW' x0 x1 x2 xl f0 f1 f2 a0 a1 a2 al b0 b1 b2
            refine bodyPost_ret (v := .tuple #[.agg #[.int .i64 ((j : Int) + 1), .string ⟨#[]⟩, .int .i64 0], .bool false]) (by simp only [results, Tryz.results47, go_sem]; simp [z0, z1, z2, go_sem]) rfl ?_
            exact ⟨⟨(j : Int) + 1, ⟨#[]⟩, 0⟩, false, rfl, .inr ⟨rfl, HN.out⟩, HQR.out.1⟩
        | some n =>
          simp only [Option.getD_some, Option.isSome_some]
          have hX5 : Row (w4.setCell ⟨m, 2, none⟩ (.int .i64 n)) m 56 #[.int .i64 ((j : Int) + 1), .string ⟨#[]⟩, .int .i64 n] := hX4'.set 2 (.int .i64 n)
          have hS5 : LnS w r (w4.setCell ⟨m, 2, none⟩ (.int .i64 n)) := ⟨hS4.res.far (p := ⟨m, 2, none⟩) hrm _, hS4.below.setCell (p := ⟨m, 2, none⟩) hmw _⟩
          obtain ⟨⟨x0, x1, x2, xl⟩, ⟨f0, f1, f2⟩⟩ := row3 hX4'
          go_wp2_with fail
          clear x0 x1 x2 xl f0 f1 f2
          obtain ⟨w5, hw5⟩ : ∃ w5, w4.setCell ⟨m, 2, none⟩ (.int .i64 n) = w5 := ⟨_, rfl⟩
          rw [hw5] at hS5 hX5 ⊢
          have hS6 : LnS w r w5.drew := hS5.same (Below.refl _ _).drew
          have hX6 : Row w5.drew m 56 #[.int .i64 ((j : Int) + 1), .string ⟨#[]⟩, .int .i64 n] := hX5
          have HFO := Lib.hid (refForm_any ⟨(j : Int) + 1, ⟨#[]⟩, n⟩ w5.drew)
          have HOR : Hid ((formB ⟨(j : Int) + 1, ⟨#[]⟩, n⟩ = true ∧ IsLn ([a', c].map (·.data.toList)) ⟨(j : Int) + 1, ⟨#[]⟩, n⟩) ∨ (formB ⟨(j : Int) + 1, ⟨#[]⟩, n⟩ = false ∧ NoLine ([a', c].map (·.data.toList)))) := by
            rw [Hid, HWE.out]
            cases hf : formB ⟨(j : Int) + 1, ⟨#[]⟩, n⟩
            · exact .inr ⟨rfl, (HLF.out.2 n rfl).2 hf⟩
            · exact .inl ⟨rfl, (HLF.out.2 n rfl).1 hf⟩
          obtain ⟨fb, hfb⟩ : ∃ fb, formB ⟨(j : Int) + 1, ⟨#[]⟩, n⟩ = fb := ⟨_, rfl⟩
          rw [hfb] at HFO HOR
          have HS6 := Lib.hid (And.intro hS6 hX6)
          obtain ⟨⟨x0, x1, x2, xl⟩, ⟨f0, f1, f2⟩⟩ := row3 hX5
          clear hw5 hX4' hS4 HLF HWE hfb hS5 hX5 hS6 hX6
          go_region_with ((go_at_call 72; refine HFO.out.mono ?_; rintro e w6 ⟨rfl, hb6⟩; have hS7 := HS6.out.1.same hb6; have HQ := Lib.hid (Below.set3 hS7.below hwr (.int .i64 ((j : Int) + 1)) (.string ⟨#[]⟩) (.int .i64 n)); have HR := Lib.hid (row3 (Row.set3 hS7.res (.int .i64 ((j : Int) + 1)) (.string ⟨#[]⟩) (.int .i64 n))).1; obtain ⟨⟨k0, k1, k2, kl⟩, ⟨l0, l1, l2⟩⟩ := row3 (HS6.out.2.below hb6 HS6.out.2.lt); obtain ⟨⟨a0, a1, a2, al⟩, ⟨b0, b1, b2⟩⟩ := row3 hS7.res; clear hb6 hS7))
          all_goals
            go_wp2
            obtain ⟨z0, z1, z2, -⟩ := HR.out
            refine bodyPost_ret (v := .tuple #[.agg #[.int .i64 ((j : Int) + 1), .string ⟨#[]⟩, .int .i64 n], .bool fb]) (by simp only [results, Tryz.results47, go_sem]; simp [z0, z1, z2, go_sem]) rfl ?_
            exact ⟨⟨(j : Int) + 1, ⟨#[]⟩, n⟩, fb, rfl, HOR.out, HQ.out⟩
    · obtain rfl : j = 10 := by omega
      have HN : Hid (NoLine (W.map (·.data.toList))) := by rw [Hid, HWM.out]; exact noLn_kind HK.out
      have hS3 := HS.out
      clear HS HK
      have HQ := Lib.hid (Below.set3 hS3.below hwr (.int .i64 0) (.string ⟨#[]⟩) (.int .i64 0))
      have HR := Lib.hid (row3 (Row.set3 hS3.res (.int .i64 0) (.string ⟨#[]⟩) (.int .i64 0))).1
      obtain ⟨⟨a0, a1, a2, al⟩, ⟨b0, b1, b2⟩⟩ := row3 hS3.res
      go_wp2
      obtain ⟨z0, z1, z2, -⟩ := HR.out
      refine bodyPost_ret (v := .tuple #[.agg #[.int .i64 0, .string ⟨#[]⟩, .int .i64 0], .bool false]) (by simp only [results, Tryz.results47, go_sem]; simp [z0, z1, z2, go_sem]) rfl ?_
      exact ⟨⟨0, ⟨#[]⟩, 0⟩, false, rfl, .inr ⟨rfl, HN.out⟩, HQ.out⟩
end Go.Proofs.YtnkephafpebfkaaGreatDoor
/- Contracts of ref34.Lines and ref34.Words. -/
namespace Go.Proofs.YtnkephafpebfkaaGreatDoor
open Go.RowKit Go.Shelf

theorem rowTxt : RowTy Tryz.prog 39 9 1 16 := by
  obtain ⟨i, hi, hz, hs, hb⟩ := info_parts (show (Tryz.prog.info? 9).map (fun i => (i.zero, i.size, i.bytes)) = some (some (.string ⟨#[]⟩), 1, 16) by kernel_rfl)
  exact ⟨Tryz.underlying39, ⟨i, _, hi, hz, hs, hb, rfl⟩, by omega⟩
theorem txt_wide (s : ByteArray) : Wide 1 [[.string s]] := fun x hx => by
  obtain rfl := List.mem_singleton.1 hx
  exact ⟨rfl, by simp [Value.oneCell']⟩
theorem extract_list (s : ByteArray) (f k : Nat) : (s.extract f k).data.toList = (s.data.toList.drop f).take (k - f) := by
  simp [ByteArray.data_extract]
/-- where the search for pieces stands: P are done, the next begins at f, k bytes are seen -/
def SpI (c : UInt8) (s : ByteArray) (P : List ByteArray) (f k : Nat) : Prop :=
  f ≤ k ∧ splitBy c s.data.toList = P.map (·.data.toList) ++ splitBy c (s.data.toList.drop f) ∧ c ∉ (s.data.toList.drop f).take (k - f)
theorem spI_start (c : UInt8) (s : ByteArray) : SpI c s [] 0 0 := ⟨Nat.le_refl _, by simp, by simp⟩
theorem take_more {s : ByteArray} {f k : Nat} (hf : f ≤ k) (hk : k < s.size) : (s.data.toList.drop f).take (k + 1 - f) = (s.data.toList.drop f).take (k - f) ++ [s[k]] := by
  rw [show k + 1 - f = (k - f) + 1 by omega, List.take_succ_eq_append_getElem (by simp; omega)]
  congr 1
  simp only [List.getElem_drop, List.cons.injEq, and_true]
  have : f + (k - f) = k := by omega
  simp only [this]; rfl
theorem SpI.no {c : UInt8} {s : ByteArray} {P : List ByteArray} {f k : Nat} (h : SpI c s P f k) (hk : k < s.size) (hc : ¬ s[k] = c) : SpI c s P f (k + 1) := by
  obtain ⟨h1, h2, h3⟩ := h
  refine ⟨by omega, h2, ?_⟩
  rw [take_more h1 hk]
  intro hm
  rcases List.mem_append.1 hm with hm | hm
  · exact h3 hm
  · exact hc (List.mem_singleton.1 hm).symm
theorem SpI.yes {c : UInt8} {s : ByteArray} {P : List ByteArray} {f k : Nat} (h : SpI c s P f k) (hk : k < s.size) (hc : s[k] = c) : SpI c s (P ++ [s.extract f k]) (k + 1) (k + 1) := by
  obtain ⟨h1, h2, h3⟩ := h
  refine ⟨Nat.le_refl _, ?_, by simp⟩
  have e : s.data.toList.drop f = (s.data.toList.drop f).take (k - f) ++ c :: s.data.toList.drop (k + 1) := by
    conv => lhs; rw [← List.take_append_drop (k - f) (s.data.toList.drop f)]
    congr 1
    rw [List.drop_drop, show f + (k - f) = k by omega, List.drop_eq_getElem_cons (by simpa using hk)]
    congr 1
  rw [h2]
  conv => lhs; rw [e]
  rw [split_app _ h3]
  simp
theorem SpI.last {c : UInt8} {s : ByteArray} {P : List ByteArray} {f : Nat} (h : SpI c s P f s.size) : splitBy c s.data.toList = P.map (·.data.toList) ++ [s.data.toList.drop f] := by
  obtain ⟨h1, h2, h3⟩ := h
  rw [List.take_of_length_le (by simp)] at h3
  rw [h2, split_free h3]
/-- the call returns the ended pieces of a text, and whether nothing is left -/
def RetLin (s : ByteArray) (w : World) (e : Ending) (w' : World) : Prop :=
  ∃ P : List ByteArray, ∃ A cap, ∃ rest : List UInt8, e = .returned (.tuple #[.slice A P.length cap, .bool (decide (rest = []))]) ∧ splitBy 10 s.data.toList = P.map (·.data.toList) ++ [rest] ∧ (∀ p ∈ P, p.size ≤ s.size) ∧ P.length ≤ s.size ∧ Sl w' 1 (.slice A P.length cap) (txts P) ∧ Below w.heap.size w w'
theorem piece_le {P : List ByteArray} {s : ByteArray} (h : ∀ p ∈ P, p.size ≤ s.size) (f k : Nat) : ∀ p ∈ P ++ [s.extract f k], p.size ≤ s.size := fun p hp => by
  rcases List.mem_append.1 hp with hp | hp
  · exact h p hp
  · rw [List.mem_singleton.1 hp, ByteArray.size_extract]; omega
theorem byte_ne {x : UInt8} {n : Nat} (hn : n < 256) (h : ¬ (x.toNat : Int) = n) : ¬ x = UInt8.ofNat n := fun e => h (by rw [e, UInt8.toNat_ofNat']; omega)
def LinS (w : World) (c : UInt8) (s : ByteArray) (k f : Nat) (P : List ByteArray) (x : Value) (wr : World) : Prop :=
  SpI c s P f k ∧ (∀ p ∈ P, p.size ≤ s.size) ∧ Own wr w.heap.size 9 1 x (txts P) ∧ Below w.heap.size w wr
set_option maxRecDepth 100000 in
set_option maxHeartbeats 2000000 in
theorem refLines_any (s : ByteArray) (w : World) (hs : s.size ≤ 1000000000) :
    Calls Tryz.prog 44 #[.string s] w (RetLin s w) := by
  go_enter Tryz.func44, Tryz.ntmps44
  go_wp2_with fail
  go_loopw [4, 5, 6] (fun x y z wr => ∃ P : List ByteArray, ∃ f k : Nat, y = .int .i64 f ∧ z = .int .i64 k ∧ f ≤ k ∧ k ≤ s.size ∧ P.length ≤ k ∧ Hid (LinS w 10 s k f P x wr)) (fun _ _ z _ => s.size - (intOf z).toNat)
  case atStart => exact ⟨[], 0, 0, rfl, rfl, by omega, by omega, by simp, spI_start _ _, (fun p hp => by cases hp), Own.nil _ _ _ _, Below.refl _ _⟩
  case round =>
    obtain ⟨P, f, k, rfl, rfl, hf, hk, hP, HS⟩ := hrel
    obtain ⟨wo, rfl⟩ : ∃ wo : World, wo = wr := ⟨_, rfl⟩
    by_cases hlt : k < s.size
    · cases hc : ((s[k].toNat : Int) == 10)
      · have HS2 : Hid (LinS w 10 s (k + 1) f P _ wo) := ⟨HS.out.1.no hlt (fun e => by rw [e] at hc; cases hc), HS.out.2⟩
        go_wp2
        go_roundw
        case rel => exact ⟨P, f, k + 1, rfl, by go_num, by omega, by omega, by omega, HS2⟩
        case measure => simp [intOf]; omega
      · have hb := HS.out.2.2.2.size
        have HI : Hid (SpI 10 s (P ++ [s.extract f k]) (k + 1) (k + 1)) := HS.out.1.yes hlt (by
          apply UInt8.toNat_inj.1
          have h10 : (10 : UInt8).toNat = 10 := rfl
          simp only [beq_iff_eq] at hc
          omega)
        have HZ := Lib.hid (piece_le HS.out.2.1 f k)
        obtain ⟨q, hq⟩ : ∃ q, s.extract f k = q := ⟨_, rfl⟩
        rw [hq] at HI HZ
        go_wp2_with (at_builtin; (refine wpList_append_sl rfl (.tmp 17) (.tmp 22) rfl rowTxt w.heap.size _ _ (txts P) [[.string q]] rfl (HS.out.2.2.1.alloc _) rfl (Sl.one rfl rfl) (txt_wide _) (by rw [txts_len]; simp only [List.length_cons, List.length_nil]; unfold maxLen; omega) (by rw [txts_len]; simp only [List.length_cons, List.length_nil]; omega) (by simp only [World.size_alloc]; omega) ?_); intro v7 w7 hown7 hg7 _; have hb7 := Own.grown (HS.out.2.2.1.alloc _) (HS.out.2.2.2.alloc hb _) hg7 (by simp only [World.size_alloc]; omega); rw [show txts P ++ [[.string q]] = txts (P ++ [q]) by rw [txts_append]; rfl] at hown7; have HN := Lib.hid (And.intro hown7 hb7); clear hown7 hb7 hg7)
        go_roundw
        case rel => exact ⟨P ++ [q], k + 1, k + 1, by go_num, by go_num, by omega, by omega, by rw [List.length_append]; simp only [List.length_cons, List.length_nil]; omega, HI.out, HZ.out, HN.out⟩
        case measure => simp [intOf]; omega
    · obtain rfl : k = s.size := by omega
      have HL := Lib.hid HS.out.1.last
      obtain ⟨A, cap, rfl⟩ := HS.out.2.2.1.form
      rw [txts_len] at HS ⊢
      have HD : Hid ((((f : Int)) == (s.size : Int)) = decide (s.data.toList.drop f = [])) := by
        rw [Hid, Bool.eq_iff_iff]
        simp only [beq_iff_eq, decide_eq_true_eq, List.drop_eq_nil_iff]
        have hl : s.data.toList.length = s.size := by simp
        omega
      go_wp2
      go_ret2
      exact ⟨P, A, cap, _, by rw [← HD.out]; rfl, HL.out, HS.out.2.1, hP, HS.out.2.2.1.sl (by omega), HS.out.2.2.2⟩
set_option maxRecDepth 100000 in
set_option maxHeartbeats 2000000 in
theorem Words_any (s : ByteArray) (w : World) (hs : s.size ≤ 1000000000) :
    Calls Tryz.prog 45 #[.string s] w (RetSpl 32 s w) := by
  go_enter Tryz.func45, Tryz.ntmps45
  go_wp2_with fail
  go_loopw [3, 4, 5] (fun x y z wr => ∃ P : List ByteArray, ∃ f k : Nat, y = .int .i64 f ∧ z = .int .i64 k ∧ k ≤ s.size + 1 ∧ P.length ≤ k ∧ (∀ p ∈ P, p.size ≤ s.size) ∧ Hid (Own wr w.heap.size 9 1 x (txts P) ∧ Below w.heap.size w wr) ∧ ((f ≤ k ∧ k ≤ s.size ∧ Hid (SpI 32 s P f k)) ∨ (k = s.size + 1 ∧ Hid (splitBy 32 s.data.toList = P.map (·.data.toList))))) (fun _ _ z _ => s.size + 1 - (intOf z).toNat)
  case atStart => exact ⟨[], 0, 0, rfl, rfl, by omega, by simp, (fun p hp => by cases hp), ⟨Own.nil _ _ _ _, Below.refl _ _⟩, .inl ⟨by omega, by omega, spI_start _ _⟩⟩
  case round =>
    obtain ⟨P, f, k, rfl, rfl, hk1, hP, hPz, HS, hor⟩ := hrel
    obtain ⟨wo, rfl⟩ : ∃ wo : World, wo = wr := ⟨_, rfl⟩
    have HPZ := Lib.hid hPz
    clear hPz
    rcases hor with ⟨hf, hk, HI⟩ | ⟨hk, HE⟩
    · have hb := HS.out.2.size
      by_cases hlt : k < s.size
      · have he : ((k : Int) == (s.size : Int)) = false := by simp; omega
        cases hc : ((s[k].toNat : Int) == 32)
        · have HI2 : Hid (SpI 32 s P f (k + 1)) := HI.out.no hlt (fun e => by rw [e] at hc; cases hc)
          go_wp2
          go_roundw
          case rel => exact ⟨P, f, k + 1, rfl, by go_num, by omega, by omega, HPZ.out, HS, .inl ⟨by omega, by omega, HI2⟩⟩
          case measure => simp [intOf]; omega
        · have HI2 : Hid (SpI 32 s (P ++ [s.extract f k]) (k + 1) (k + 1)) := HI.out.yes hlt (by
            apply UInt8.toNat_inj.1
            have h32 : (32 : UInt8).toNat = 32 := rfl
            simp only [beq_iff_eq] at hc
            omega)
          have HZ := Lib.hid (piece_le HPZ.out f k)
          obtain ⟨q, hq⟩ : ∃ q, s.extract f k = q := ⟨_, rfl⟩
          rw [hq] at HI2 HZ
          go_wp2_with (at_builtin; (refine wpList_append_sl rfl (.tmp 22) (.tmp 27) rfl rowTxt w.heap.size _ _ (txts P) [[.string q]] rfl (HS.out.1.alloc _) rfl (Sl.one rfl rfl) (txt_wide _) (by rw [txts_len]; simp only [List.length_cons, List.length_nil]; unfold maxLen; omega) (by rw [txts_len]; simp only [List.length_cons, List.length_nil]; omega) (by simp only [World.size_alloc]; omega) ?_); intro v7 w7 hown7 hg7 _; have hb7 := Own.grown (HS.out.1.alloc _) (HS.out.2.alloc hb _) hg7 (by simp only [World.size_alloc]; omega); rw [show txts P ++ [[.string q]] = txts (P ++ [q]) by rw [txts_append]; rfl] at hown7; have HN := Lib.hid (And.intro hown7 hb7); clear hown7 hb7 hg7)
          go_roundw
          case rel => exact ⟨P ++ [q], k + 1, k + 1, by go_num, by go_num, by omega, by rw [List.length_append]; simp only [List.length_cons, List.length_nil]; omega, HZ.out, HN.out, .inl ⟨by omega, by omega, HI2⟩⟩
          case measure => simp [intOf]; omega
      · obtain rfl : k = s.size := by omega
        have HL : Hid (splitBy 32 s.data.toList = (P ++ [s.extract f s.size]).map (·.data.toList)) := by
          rw [Hid, HI.out.last]; simp only [List.map_append, List.map_cons, List.map_nil, Lib.extract_to_end]
        have HZ := Lib.hid (piece_le HPZ.out f s.size)
        obtain ⟨q, hq⟩ : ∃ q, s.extract f s.size = q := ⟨_, rfl⟩
        rw [hq] at HL HZ
        go_wp2_with (at_builtin; (refine wpList_append_sl rfl (.tmp 22) (.tmp 27) rfl rowTxt w.heap.size _ _ (txts P) [[.string q]] rfl (HS.out.1.alloc _) rfl (Sl.one rfl rfl) (txt_wide _) (by rw [txts_len]; simp only [List.length_cons, List.length_nil]; unfold maxLen; omega) (by rw [txts_len]; simp only [List.length_cons, List.length_nil]; omega) (by simp only [World.size_alloc]; omega) ?_); intro v7 w7 hown7 hg7 _; have hb7 := Own.grown (HS.out.1.alloc _) (HS.out.2.alloc hb _) hg7 (by simp only [World.size_alloc]; omega); rw [show txts P ++ [[.string q]] = txts (P ++ [q]) by rw [txts_append]; rfl] at hown7; have HN := Lib.hid (And.intro hown7 hb7); clear hown7 hb7 hg7)
        go_roundw
        case rel => exact ⟨P ++ [q], s.size + 1, s.size + 1, by go_num, by go_num, by omega, by rw [List.length_append]; simp only [List.length_cons, List.length_nil]; omega, HZ.out, HN.out, .inr ⟨rfl, HL⟩⟩
        case measure => simp [intOf]
    · subst hk
      obtain ⟨A, cap, rfl⟩ := HS.out.1.form
      rw [txts_len] at HS ⊢
      go_wp2
      go_ret
      exact ⟨P, A, cap, rfl, HE.out.symm, HPZ.out, hP, HS.out.1.sl (by omega), HS.out.2⟩
end Go.Proofs.YtnkephafpebfkaaGreatDoor
/- Contract of filing.Decode. -/
namespace Go.Proofs.YtnkephafpebfkaaGreatDoor
open Go.RowKit Go.Shelf

/-- the call returns a return and a number -/
def RetRet (f : Ret) (er : Int) (w : World) (e : Ending) (w' : World) : Prop :=
  ∃ v, e = .returned (.tuple #[.agg (f.vals v), .int .i64 er]) ∧ Own w' w.heap.size 56 3 v (lns f.l) ∧ Below w.heap.size w w'
theorem RetRet.no {f : Ret} {er : Int} {w w' : World} (h : f = ⟨0, 0, []⟩) (hb : Below w.heap.size w w') : RetRet f er w (.returned (.tuple #[.agg #[.int .i64 0, .int .i64 0, .slice none 0 0], .int .i64 er])) w' := by
  subst h; exact ⟨_, rfl, Own.nil _ _ _ _, hb⟩
set_option maxRecDepth 100000 in
set_option maxHeartbeats 2000000 in
theorem DecodeR_any (s : ByteArray) (w : World) (hT : Tabs w) (hE : Errs w) :
    Calls Tryz.prog 18 #[.string s] w (RetRet (decR s.data.toList) (decE s.data.toList) w) := by
  have HT := Lib.hid hT
  have HER := Lib.hid hE
  clear hT hE
  have hsz : s.data.toList.length = s.size := by simp
  have hr0 := Row.new w 25 #[.int .i64 0, .int .i64 0, .slice none 0 0]
  have hB0 := (Below.refl w.heap.size w).alloc (Nat.le_refl _) (.cells #[.int .i64 0, .int .i64 0, .slice none 0 0] 25)
  by_cases hl : 65536 < s.size
  · have HD : Hid (decE s.data.toList = 3) := by rw [Hid, decE, if_pos (by omega)]
    have HD2 := Lib.hid (decR_no (s := s.data.toList) (by rw [HD.out]; decide))
    go_enter Tryz.func18, Tryz.ntmps18
    go_wp2
    refine bodyPost_ret (v := .tuple #[.agg #[.int .i64 0, .int .i64 0, .slice none 0 0], .int .i64 3]) (by simp [results, Tryz.results18, go_sem]) rfl ?_
    rw [HD.out]
    exact RetRet.no HD2.out hB0
  have HDE : Hid (decE s.data.toList = match parseR s.data.toList with
    | some r => if retB r then 0 else 6
    | none => 6) := by rw [Hid, decE, if_neg (by omega)]; rfl
  clear hsz
  go_enter Tryz.func18, Tryz.ntmps18
  go_wp2_with fail
  obtain ⟨w0, hw0⟩ : ∃ w0, w.alloc (.cells #[.int .i64 0, .int .i64 0, .slice none 0 0] 25) = w0 := ⟨_, rfl⟩
  rw [hw0] at hr0 hB0 ⊢
  obtain ⟨r, hr⟩ : ∃ r, w.heap.size = r := ⟨_, rfl⟩
  rw [hr] at hr0 ⊢
  have hwr : w.heap.size ≤ r := by omega
  clear hw0
  refine (parseR_any s w0 (HT.out.below hB0) (HER.out.below hB0) (by omega)).mono ?_
  rintro e w1 ⟨hb1, hp⟩
  have hB1 := below_after hB0 hb1 hB0.size
  have hr1 := hr0.below hb1 hr0.lt
  have hz0 := hB0.size
  have hr0l := hr0.lt
  have hs1 := hB1.size
  clear hB0 hr0 hb1
  have H0 : ∀ W er, Below w.heap.size w W → decE s.data.toList = er → er ≠ 0 → RetRet (decR s.data.toList) (decE s.data.toList) w (.returned (.tuple #[.agg #[.int .i64 0, .int .i64 0, .slice none 0 0], .int .i64 er])) W := fun W er hb he hn => by
    rw [he]; exact RetRet.no (decR_no (by rw [he]; exact hn)) hb
  have HNO := Lib.hid H0
  clear H0
  rcases hp with ⟨f, v, hpf, rfl, hown⟩ | ⟨hpf, rfl⟩
  rotate_left
  · have HE : Hid (decE s.data.toList = 6) := by rw [Hid, HDE.out, hpf]
    have hq := Below.set3 hB1 hwr (.int .i64 0) (.int .i64 0) (.slice none 0 0)
    have hQ := (hq.alloc hq.size (.cells #[.int .i64 0, .int .i64 0, .slice none 0 0] 25))
    have hR := ((Row.set3 hr1 (.int .i64 0) (.int .i64 0) (.slice none 0 0)).alloc (.cells #[.int .i64 0, .int .i64 0, .slice none 0 0] 25))
    obtain ⟨⟨a0, a1, a2, al⟩, ⟨b0, b1, b2⟩⟩ := row3 hr1
    have HR := Lib.hid (row3 hR).1
    have HQ := Lib.hid hQ
    clear hq hQ hR hr1 hpf
    go_wp2
    obtain ⟨z0, z1, z2, -⟩ := HR.out
    refine bodyPost_ret (v := .tuple #[.agg #[.int .i64 0, .int .i64 0, .slice none 0 0], .int .i64 6]) (by simp only [results, Tryz.results18, go_sem]; simp [z0, z1, z2, go_sem]) rfl ?_
    exact HNO.out _ 6 HQ.out HE.out (by decide)
  · have HVL : Hid (f.vals v = #[.int .i64 f.p, .int .i64 f.v, v]) := rfl
    rw [HVL.out]
    have HPF := Lib.hid hpf
    have HD2 : Hid (decE s.data.toList = if retB f then 0 else 6) := by rw [Hid, HDE.out, hpf]
    have hsl := hown.sl (by omega)
    obtain ⟨Av, cv, rfl⟩ := hown.form
    rw [lns_len] at hown hsl HVL ⊢
    have hx1 := Row.new w1 25 #[.int .i64 f.p, .int .i64 f.v, .slice Av f.l.length cv]
    have hx3 := (Below.refl w1.heap.size w1).alloc (Nat.le_refl _) (.cells #[.int .i64 f.p, .int .i64 f.v, .slice Av f.l.length cv] 25)
    clear hpf
    obtain ⟨w2, hw2⟩ : ∃ w2, w1.alloc (.cells #[.int .i64 f.p, .int .i64 f.v, .slice Av f.l.length cv] 25) = w2 := ⟨_, rfl⟩
    rw [hw2] at hx1 hx3
    have hB2 := below_after hB1 hx3 hB1.size
    have hr2 := hr1.below hx3 hr1.lt
    have HS2 := Lib.hid (hsl.below hx3)
    have HO2 := Lib.hid (hown.kept hx3)
    have HV : Hid (Calls Tryz.prog 15 #[.agg #[.int .i64 f.p, .int .i64 f.v, .slice Av f.l.length cv]] w2 fun e w' => e = .returned (.bool (retB f)) ∧ Below w2.heap.size w2 w') := ValidR_any f _ w2 HS2.out
    obtain ⟨⟨y0, y1, y2, yl⟩, -⟩ := row3 hx1
    go_wp2_with fail
    refine HV.out.mono ?_
    rintro e w3 ⟨rfl, hb3⟩
    have hB3 := below_after hB2 hb3 hB2.size
    have hr3 := hr2.below hb3 hr2.lt
    have hy1 := hx1.below hb3 hx1.lt
    have HO3 := Lib.hid (HO2.out.kept hb3)
    obtain ⟨b, hb⟩ : ∃ b, w1.heap.size = b := ⟨_, rfl⟩
    rw [hb] at hy1 ⊢
    clear hB2 hr2 hx1 HS2 HO2 hb3 HV y0 y1 y2 yl hw2 hx3 hr1 hB1 hown hsl hb
    obtain ⟨⟨a0, a1, a2, al⟩, ⟨b0, b1, b2⟩⟩ := row3 hr3
    cases hF : retB f
    · rw [hF] at HD2
      have HE : Hid (decE s.data.toList = 6) := HD2.out
      have HQ := Lib.hid (Below.set3 hB3 hwr (.int .i64 0) (.int .i64 0) (.slice none 0 0))
      have HR := Lib.hid (row3 (Row.set3 hr3 (.int .i64 0) (.int .i64 0) (.slice none 0 0))).1
      clear hF hr3 hy1 hB3
      go_wp2
      obtain ⟨z0, z1, z2, -⟩ := HR.out
      refine bodyPost_ret (v := .tuple #[.agg #[.int .i64 0, .int .i64 0, .slice none 0 0], .int .i64 6]) (by simp only [results, Tryz.results18, go_sem]; simp [z0, z1, z2, go_sem]) rfl ?_
      exact HNO.out _ 6 HQ.out HE.out (by decide)
    · rw [hF] at HD2
      have HD3 : Hid (decE s.data.toList = 0) := HD2.out
      obtain ⟨⟨c0, c1, c2, cl⟩, -⟩ := row3 hy1
      have HFI : Hid (decR s.data.toList = f) := by rw [Hid, decR, if_pos HD3.out, HPF.out]
      have hS := Row.set3 hr3 (.int .i64 f.p) (.int .i64 f.v) (.slice Av f.l.length cv)
      have HQ := Lib.hid (Below.set3 hB3 hwr (.int .i64 f.p) (.int .i64 f.v) (.slice Av f.l.length cv))
      have HR := Lib.hid (row3 hS).1
      have HON := Lib.hid (own3 HO3.out (r := r) hr0l (.int .i64 f.p) (.int .i64 f.v) (.slice Av f.l.length cv))
      clear hF hr3 hy1 hS hB3
      go_wp2
      obtain ⟨z0, z1, z2, -⟩ := HR.out
      refine bodyPost_ret (v := .tuple #[.agg #[.int .i64 f.p, .int .i64 f.v, .slice Av f.l.length cv], .int .i64 0]) (by simp only [results, Tryz.results18, go_sem]; simp [z0, z1, z2, go_sem]) rfl ?_
      rw [HD3.out, HFI.out]
      exact ⟨_, rfl, HON.out.more hz0, HQ.out⟩
end Go.Proofs.YtnkephafpebfkaaGreatDoor
/- Contract of ref43.Decode. Written by gen_rfdr.py. -/
namespace Go.Proofs.YtnkephafpebfkaaGreatDoor
open Go.RowKit Go.Shelf

/-- the result lies as at the start; nothing below has turned -/
structure RdS (w : World) (r : Nat) (wx : World) : Prop where
  res : Row wx r 25 #[.int .i64 0, .int .i64 0, .slice none 0 0]
  below : Below w.heap.size w wx
theorem RdS.same {w wx w' : World} {r : Nat} (h : RdS w r wx) (hb : Below wx.heap.size wx w') : RdS w r w' := ⟨h.res.below hb h.res.lt, below_after h.below hb h.below.size⟩
set_option maxRecDepth 100000 in
set_option maxHeartbeats 16000000 in
theorem refDecodeR_any (s : ByteArray) (w : World) (hs0 : s.size ≤ 1000000000) :
    Calls Tryz.prog 19 #[.string s] w (RetRet (decR s.data.toList) (decE s.data.toList) w) := by
  have hsz : s.data.toList.length = s.size := by simp
  have hr0 := Row.new w 25 #[.int .i64 0, .int .i64 0, .slice none 0 0]
  have hB0 := (Below.refl w.heap.size w).alloc (Nat.le_refl _) (.cells #[.int .i64 0, .int .i64 0, .slice none 0 0] 25)
  by_cases hl : 65536 < s.size
  · have HD : Hid (decE s.data.toList = 3) := by rw [Hid, decE, if_pos (by omega)]
    have HD2 := Lib.hid (decR_no (s := s.data.toList) (by rw [HD.out]; decide))
    clear hsz
    go_enter Tryz.func19, Tryz.ntmps19
    go_wp2
    refine bodyPost_ret (v := .tuple #[.agg #[.int .i64 0, .int .i64 0, .slice none 0 0], .int .i64 3]) (by simp [results, Tryz.results19, go_sem]) rfl ?_
    rw [HD.out]
    exact RetRet.no HD2.out hB0
  have HLE : Hid (s.data.toList.length ≤ 65536) := by rw [Hid, hsz]; omega
  clear hsz
  go_enter Tryz.func19, Tryz.ntmps19
  go_wp2_with fail
  obtain ⟨w0, hw0⟩ : ∃ w0, w.alloc (.cells #[.int .i64 0, .int .i64 0, .slice none 0 0] 25) = w0 := ⟨_, rfl⟩
  rw [hw0] at hr0 hB0 ⊢
  obtain ⟨r, hr⟩ : ∃ r, w.heap.size = r := ⟨_, rfl⟩
  rw [hr] at hr0 ⊢
  have hwr : w.heap.size ≤ r := by omega
  have hS0 : RdS w r w0 := ⟨hr0, hB0⟩
  clear hw0 hr hr0 hB0
  refine (refLines_any s w0 (by omega)).mono ?_
  rintro e w1 ⟨P, A1, cap1, rest, rfl, hP, hPs, hPl, hsl1, hb1⟩
  have HSP := Lib.hid hP
  have HPS := Lib.hid hPs
  have HS1 := Lib.hid hsl1
  have hS1 := hS0.same hb1
  have hcm : cap1 ≤ maxLen ∧ P.length ≤ cap1 := by
    obtain ⟨A', cap', hv, k1, k2, _, _⟩ := hsl1
    injection hv with e1 e2 e3
    subst e1 e3
    rw [txts_len] at k1
    exact ⟨k2, k1⟩
  obtain ⟨hcm, hcl⟩ := hcm
  unfold maxLen at hcm
  have HML : Hid ((P.map (·.data.toList)).length = P.length) := List.length_map _
  clear hP hPs hsl1 hb1 hS0
  by_cases hre : rest = []
  rotate_left
  · have hNR := no_rest HSP.out hre
    rw [decide_eq_false hre]
    clear hre
    have HN := Lib.hid (noRet_dec HLE.out hNR)
    have HQ := Lib.hid (Below.set3 hS1.below hwr (.int .i64 0) (.int .i64 0) (.slice none 0 0))
    have HR := Lib.hid (row3 (Row.set3 hS1.res (.int .i64 0) (.int .i64 0) (.slice none 0 0))).1
    obtain ⟨⟨a0, a1, a2, al⟩, ⟨b0, b1, b2⟩⟩ := row3 hS1.res
    clear hNR
    go_wp2
    obtain ⟨z0, z1, z2, -⟩ := HR.out
    refine bodyPost_ret (v := .tuple #[.agg #[.int .i64 0, .int .i64 0, .slice none 0 0], .int .i64 6]) (by simp only [results, Tryz.results19, go_sem]; simp [z0, z1, z2, go_sem]) rfl ?_
    rw [HN.out.1]
    exact RetRet.no HN.out.2 HQ.out
  have HRE := Lib.hid hre
  rw [decide_eq_true hre]
  clear hre
  by_cases hL2 : 2 ≤ P.length
  rotate_left
  · have hNR := no_short HSP.out (by rw [HML.out]; omega)
    have i1 : decide ((P.length : Int) < 2) = true := by simp; omega
    have HN := Lib.hid (noRet_dec HLE.out hNR)
    have HQ := Lib.hid (Below.set3 hS1.below hwr (.int .i64 0) (.int .i64 0) (.slice none 0 0))
    have HR := Lib.hid (row3 (Row.set3 hS1.res (.int .i64 0) (.int .i64 0) (.slice none 0 0))).1
    obtain ⟨⟨a0, a1, a2, al⟩, ⟨b0, b1, b2⟩⟩ := row3 hS1.res
    clear hNR
    go_wp2
    obtain ⟨z0, z1, z2, -⟩ := HR.out
    refine bodyPost_ret (v := .tuple #[.agg #[.int .i64 0, .int .i64 0, .slice none 0 0], .int .i64 6]) (by simp only [results, Tryz.results19, go_sem]; simp [z0, z1, z2, go_sem]) rfl ?_
    rw [HN.out.1]
    exact RetRet.no HN.out.2 HQ.out
  have i1 : decide ((P.length : Int) < 2) = false := by simp; omega
  have i2 : ((P.length : Int) - 1) < (P.length : Int) := by omega
  have i3 : (0 : Int) ≤ ((P.length : Int) - 1) := by omega
  have i4 : ((P.length : Int) - 1).toNat = P.length - 1 := by omega
  obtain ⟨bp, op, rfl, hc⟩ := HS1.out.cells (by rw [txts_len]; omega)
  have q1 := hc.txt (k := P.length - 1) (by omega)
  have hbl := hc.1
  have HEE := Lib.hid (show (P.map (·.data.toList))[(P.map (·.data.toList)).length - 1]? = some (P[P.length - 1]).data.toList by
    rw [List.length_map, List.getElem?_map, List.getElem?_eq_getElem (show P.length - 1 < P.length by omega)]; rfl)
  obtain ⟨pe, hpe⟩ : ∃ pe, P[P.length - 1] = pe := ⟨_, rfl⟩
  rw [hpe] at q1 HEE
  clear hpe
  by_cases hend : pe.data.toList = wEnd
  rotate_left
  · have hNR := no_end HSP.out HEE.out hend
    obtain ⟨t3, t4⟩ := str_no (l := [101, 110, 100]) hend
    clear hend
    have HN := Lib.hid (noRet_dec HLE.out hNR)
    have HQ := Lib.hid (Below.set3 hS1.below hwr (.int .i64 0) (.int .i64 0) (.slice none 0 0))
    have HR := Lib.hid (row3 (Row.set3 hS1.res (.int .i64 0) (.int .i64 0) (.slice none 0 0))).1
    obtain ⟨⟨a0, a1, a2, al⟩, ⟨b0, b1, b2⟩⟩ := row3 hS1.res
    clear hNR
    go_wp2
    obtain ⟨z0, z1, z2, -⟩ := HR.out
    refine bodyPost_ret (v := .tuple #[.agg #[.int .i64 0, .int .i64 0, .slice none 0 0], .int .i64 6]) (by simp only [results, Tryz.results19, go_sem]; simp [z0, z1, z2, go_sem]) rfl ?_
    rw [HN.out.1]
    exact RetRet.no HN.out.2 HQ.out
  obtain ⟨t3, t4⟩ := str_yes (l := [101, 110, 100]) hend
  have HEN : Hid ((P.map (·.data.toList))[(P.map (·.data.toList)).length - 1]? = some wEnd) := by rw [Hid, HEE.out, hend]
  have HC1 := Lib.hid hc
  have q0 := hc.txt (k := 0) (by omega)
  rw [Nat.add_zero] at q0
  have HX0 := Lib.hid (show (P.map (·.data.toList))[0]? = some (P[0]).data.toList by rw [List.getElem?_map, List.getElem?_eq_getElem (show 0 < P.length by omega)]; rfl)
  have z0 := HPS.out _ (List.getElem_mem (show 0 < P.length by omega))
  obtain ⟨p0, hp0⟩ : ∃ x, P[0] = x := ⟨_, rfl⟩
  rw [hp0] at q0 HX0 z0
  clear hp0 hend HEE hc
  have k0 : 0 < P.length := by omega
  go_wp2_with fail
  clear q1 t3 t4 i2 i3 i4 q0
  refine (Words_any p0 w1 (by omega)).mono ?_
  rintro e w3 ⟨W, A3, c3, rfl, hW, hWs, -, hsl3, hb3⟩
  have hS3 := hS1.same hb3
  have HB13 := Lib.hid hb3
  have HW := Lib.hid hW
  have HWS := Lib.hid hWs
  have HSL := Lib.hid hsl3
  clear hb3 hW hWs hsl3
  by_cases hl4 : W.length = 4
  rotate_left
  · have hNR := no_head HSP.out HX0.out HW.out.symm (.inl (by rw [List.length_map]; exact hl4))
    have hne : ((W.length : Int) != 4) = true := by simp; omega
    clear hl4
    have HN := Lib.hid (noRet_dec HLE.out hNR)
    have HQ := Lib.hid (Below.set3 hS3.below hwr (.int .i64 0) (.int .i64 0) (.slice none 0 0))
    have HR := Lib.hid (row3 (Row.set3 hS3.res (.int .i64 0) (.int .i64 0) (.slice none 0 0))).1
    obtain ⟨⟨a0, a1, a2, al⟩, ⟨b0, b1, b2⟩⟩ := row3 hS3.res
    clear hNR
    go_wp2
    obtain ⟨z0, z1, z2, -⟩ := HR.out
    refine bodyPost_ret (v := .tuple #[.agg #[.int .i64 0, .int .i64 0, .slice none 0 0], .int .i64 6]) (by simp only [results, Tryz.results19, go_sem]; simp [z0, z1, z2, go_sem]) rfl ?_
    rw [HN.out.1]
    exact RetRet.no HN.out.2 HQ.out
  obtain ⟨xa, xb, xc, xd, bk, off, hWe, rfl, hk3, ga, gb, gc, gd⟩ := words4 HSL.out hl4
  rw [hl4]
  rw [hWe] at HW
  have zb : xb.size ≤ 1000000000 := by have := HWS.out xb (by rw [hWe]; simp); omega
  have zd : xd.size ≤ 1000000000 := by have := HWS.out xd (by rw [hWe]; simp); omega
  clear hl4 hWe HWS HSL
  have HW4 : Hid (splitBy 32 p0.data.toList = [xa.data.toList, xb.data.toList, xc.data.toList, xd.data.toList]) := HW.out.symm
  clear HW
  by_cases ha : xa.data.toList = wRet
  rotate_left
  · have hNR := no_head HSP.out HX0.out HW4.out (.inr (.inl ha))
    obtain ⟨t3, t4⟩ := str_no (l := [114, 101, 116, 117, 114, 110]) ha
    clear ha
    have HN := Lib.hid (noRet_dec HLE.out hNR)
    have HQ := Lib.hid (Below.set3 hS3.below hwr (.int .i64 0) (.int .i64 0) (.slice none 0 0))
    have HR := Lib.hid (row3 (Row.set3 hS3.res (.int .i64 0) (.int .i64 0) (.slice none 0 0))).1
    obtain ⟨⟨a0, a1, a2, al⟩, ⟨b0, b1, b2⟩⟩ := row3 hS3.res
    clear hNR
    go_wp2
    obtain ⟨z0, z1, z2, -⟩ := HR.out
    refine bodyPost_ret (v := .tuple #[.agg #[.int .i64 0, .int .i64 0, .slice none 0 0], .int .i64 6]) (by simp only [results, Tryz.results19, go_sem]; simp [z0, z1, z2, go_sem]) rfl ?_
    rw [HN.out.1]
    exact RetRet.no HN.out.2 HQ.out
  obtain ⟨t3, t4⟩ := str_yes (l := [114, 101, 116, 117, 114, 110]) ha
  by_cases hcd : xc.data.toList = wVer
  rotate_left
  · have hNR := no_head HSP.out HX0.out HW4.out (.inr (.inr (.inl hcd)))
    obtain ⟨t5, t6⟩ := str_no (l := [118, 101, 114, 115, 105, 111, 110]) hcd
    clear ha hcd
    have HN := Lib.hid (noRet_dec HLE.out hNR)
    have HQ := Lib.hid (Below.set3 hS3.below hwr (.int .i64 0) (.int .i64 0) (.slice none 0 0))
    have HR := Lib.hid (row3 (Row.set3 hS3.res (.int .i64 0) (.int .i64 0) (.slice none 0 0))).1
    obtain ⟨⟨a0, a1, a2, al⟩, ⟨b0, b1, b2⟩⟩ := row3 hS3.res
    clear hNR
    go_wp2
    obtain ⟨z0, z1, z2, -⟩ := HR.out
    refine bodyPost_ret (v := .tuple #[.agg #[.int .i64 0, .int .i64 0, .slice none 0 0], .int .i64 6]) (by simp only [results, Tryz.results19, go_sem]; simp [z0, z1, z2, go_sem]) rfl ?_
    rw [HN.out.1]
    exact RetRet.no HN.out.2 HQ.out
  obtain ⟨t5, t6⟩ := str_yes (l := [118, 101, 114, 115, 105, 111, 110]) hcd
  have HWX : Hid (splitBy 32 p0.data.toList = [wRet, xb.data.toList, wVer, xd.data.toList]) := by rw [Hid, HW4.out, ha, hcd]
  clear ha hcd
  go_wp2_with fail
  refine (Number_any xb w3 (by omega)).mono ?_
  rintro e w3' ⟨rfl, rfl⟩
  clear t3 t4 t5 t6 ga gb gc
  go_wp2_with fail
  refine (Number_any xd w3 (by omega)).mono ?_
  rintro e w3' ⟨rfl, rfl⟩
  clear gd
  have HN1 : Hid (∃ a ok, (numZ xb.data.toList).getD 0 = a ∧ (numZ xb.data.toList).isSome = ok ∧ (ok = true → numZ xb.data.toList = some a) ∧ (ok = false → numZ xb.data.toList = none)) := by
    cases numZ xb.data.toList with
    | none => exact ⟨0, false, rfl, rfl, by simp, by simp⟩
    | some a => exact ⟨a, true, rfl, rfl, by simp, by simp⟩
  have HN2 : Hid (∃ a ok, (numZ xd.data.toList).getD 0 = a ∧ (numZ xd.data.toList).isSome = ok ∧ (ok = true → numZ xd.data.toList = some a) ∧ (ok = false → numZ xd.data.toList = none)) := by
    cases numZ xd.data.toList with
    | none => exact ⟨0, false, rfl, rfl, by simp, by simp⟩
    | some a => exact ⟨a, true, rfl, rfl, by simp, by simp⟩
  obtain ⟨n, ok1, e1, e2, h3, h4⟩ := HN1.out
  rw [e1, e2]
  have HA := Lib.hid (And.intro h3 h4)
  clear e1 e2 h3 h4 HN1
  obtain ⟨d, ok2, e1, e2, h3, h4⟩ := HN2.out
  rw [e1, e2]
  have HB := Lib.hid (And.intro h3 h4)
  clear e1 e2 h3 h4 HN2
  have hs0' : PaS w3 w3.heap.size n d [] (.slice none 0 0) (w3.alloc (.cells #[.int .i64 n, .int .i64 d, .slice none 0 0] 25)) := by
    have hb := ((Below.refl w3.heap.size w3).alloc (Nat.le_refl _) (.cells #[.int .i64 n, .int .i64 d, .slice none 0 0] 25))
    have hr := Row.new w3 25 #[.int .i64 n, .int .i64 d, .slice none 0 0]
    exact ⟨hb, hr, Own.nil _ _ _ _, by simp [Value.ownBlock], Nat.le_refl _⟩
  go_wp2_with fail
  obtain ⟨w4, hw4⟩ : ∃ w4, w3.alloc (.cells #[.int .i64 n, .int .i64 d, .slice none 0 0] 25) = w4 := ⟨_, rfl⟩
  obtain ⟨m, hm⟩ : ∃ m, w3.heap.size = m := ⟨_, rfl⟩
  rw [hm] at hs0'
  rw [hw4] at hs0' ⊢
  rw [hm]
  have hmw : w3.heap.size ≤ m := by omega
  have hs3w := hS3.below.size
  have hmr : ¬ m = r := by have := hS3.res.lt; omega
  have hrm : ¬ r = m := by omega
  have hr3l := hS3.res.lt
  clear hw4 i1
  go_loopw [12] (fun i wr => ∃ j : Nat, ∃ acc : List Ln, ∃ v, 1 ≤ j ∧ j ≤ P.length - 1 ∧ i = .int .i64 j ∧ acc.length ≤ j ∧ Hid (RdI (P.map (·.data.toList)) j acc) ∧ Hid (PaS w3 m n d acc v wr)) (fun i _ => P.length - (intOf i).toNat)
  case atStart => exact ⟨1, [], _, by omega, by omega, rfl, by simp, rdI_start _, hs0'⟩
  case round =>
    clear hs0'
    obtain ⟨j, acc, v, hj1, hj2, rfl, hacc, HI, HS⟩ := hrel
    obtain ⟨wo, rfl⟩ : ∃ wo : World, wo = wr := ⟨_, rfl⟩
    have hSo := hS3.same HS.out.below
    have hb1o := below_after HB13.out HS.out.below HB13.out.size
    have hco := HC1.out.below hb1o HC1.out.1
    have hblo := hco.1
    have hjP : j < P.length := by omega
    have q0 := hco.txt hjP
    have hpz := HPS.out _ (List.getElem_mem hjP)
    by_cases hlt : j < P.length - 1
    · have hji : (j : Int) < (P.length : Int) - 1 := by omega
      have HPJ := Lib.hid (show (P.map (·.data.toList))[j]? = some (P[j]).data.toList by rw [List.getElem?_map, List.getElem?_eq_getElem hjP]; rfl)
      obtain ⟨px, hpx⟩ : ∃ x, P[j] = x := ⟨_, rfl⟩
      rw [hpx] at q0 hpz HPJ
      clear hpx hco hb1o
      go_wp2_with fail
      refine (Words_any px wo (by omega)).mono ?_
      rintro e w5 ⟨W, A3, c3, rfl, hW, hWs, -, hsl3, hb5⟩
      have hS5 := hSo.same hb5
      have HS5 := Lib.hid (HS.out.same hb5)
      have hW0 : 0 < W.length := by
        have : (W.map (·.data.toList)) ≠ [] := by rw [hW]; exact splitBy_ne _ _
        cases W with
        | nil => exact absurd rfl this
        | cons a t => simp
      have HL := Lib.hid (refLine_any W A3 c3 w5 hsl3 hW0 (fun p hp => by have := hWs p hp; omega))
      rw [hW] at HL
      clear hb5 hSo q0 hblo hW hWs hsl3 HS
      go_wp2_with fail
      refine HL.out.mono ?_
      rintro e w6 ⟨x, good, rfl, hor, hb6⟩
      have HOR := Lib.hid hor
      have hS6 := hS5.same hb6
      have HS6 := Lib.hid (HS5.out.same hb6)
      have hal := (Below.refl w6.heap.size w6).alloc (Nat.le_refl _) (.cells #[.int .i64 x.kind, .string x.code, .int .i64 x.amt] 56)
      have hS7 := hS6.same hal
      have HS7 := Lib.hid (HS6.out.same hal)
      have hrx := Row.new w6 56 #[.int .i64 x.kind, .string x.code, .int .i64 x.amt]
      clear hor hb6 hal hS5 HS5 HL hS6
      obtain ⟨⟨y0, y1, y2, yl⟩, -⟩ := row3 hrx
      obtain ⟨w7, hw7⟩ : ∃ w7, w6.alloc (.cells #[.int .i64 x.kind, .string x.code, .int .i64 x.amt] 56) = w7 := ⟨_, rfl⟩
      rw [hw7] at hS7 HS7 y0 y1 y2 yl
      cases good
      · have hNR : NoRet s.data.toList := by
          rcases HOR.out with h | h
          · exact absurd h.1 (by simp)
          · exact no_line HSP.out hj1 (by rw [HML.out]; omega) HPJ.out h.2
        clear hrx y0 y1 y2 yl
        have HN := Lib.hid (noRet_dec HLE.out hNR)
        have HQ := Lib.hid (Below.set3 hS7.below hwr (.int .i64 0) (.int .i64 0) (.slice none 0 0))
        have HR := Lib.hid (row3 (Row.set3 hS7.res (.int .i64 0) (.int .i64 0) (.slice none 0 0))).1
        obtain ⟨⟨a0, a1, a2, al⟩, ⟨b0, b1, b2⟩⟩ := row3 hS7.res
        clear hNR
        go_wp2
        obtain ⟨z0, z1, z2, -⟩ := HR.out
        refine bodyPost_ret (v := .tuple #[.agg #[.int .i64 0, .int .i64 0, .slice none 0 0], .int .i64 6]) (by simp only [results, Tryz.results19, go_sem]; simp [z0, z1, z2, go_sem]) rfl ?_
        rw [HN.out.1]
        exact RetRet.no HN.out.2 HQ.out
      have HIL : Hid (IsLn (splitBy 32 px.data.toList) x) := by
        rcases HOR.out with h | h
        · exact h.2
        · exact absurd h.1 (by simp)
      have HI2 := Lib.hid (HI.out.next HPJ.out HIL.out)
      clear HOR HIL HI hS7
      have gm := HS7.out.box.cell 2
      have fm := HS7.out.box.frozen 2
      have gl := HS7.out.box.lt
      simp only [List.getElem?_toArray, List.getElem?_cons_succ, List.getElem?_cons_zero] at gm
      have hs7 := HS7.out.below.size
      go_wp2_with (at_builtin; (refine wpList_append_sl rfl (.tmp 98) (.tmp 100) rfl rowLn w3.heap.size _ _ (lns acc) [Ln.vals x] rfl (HS7.out.own.alloc _) rfl (Sl.one rfl rfl) (lns_wide [x]) (by simp only [lns_len, List.length_cons, List.length_nil]; unfold maxLen; omega) (by simp only [lns_len, List.length_cons, List.length_nil]; omega) (by simp only [World.size_alloc]; omega) ?_); intro v7 w8 hown7 hg7 hv7; obtain ⟨g7, c7, rfl, hc7⟩ := hown7.form1 (by simp); simp only [List.length_append, lns_len, List.length_cons, List.length_nil, Nat.zero_add] at hown7 hg7 hv7 hc7 ⊢; have H7 := Lib.hid (HS7.out.app x hown7 hg7 hv7); have u2 := H7.out.2.cell 2; have u3 := H7.out.2.frozen 2; have u4 := H7.out.2.lt; simp only [List.getElem?_toArray, List.getElem?_cons_succ, List.getElem?_cons_zero] at u2)
      have R := Lib.hid H7.out.1
      clear gm fm gl y0 y1 y2 yl hown7 hg7 hv7 hw7
      go_roundw
      case rel => exact ⟨j + 1, acc ++ [x], _, by omega, by omega, by go_num, by simp only [List.length_append, List.length_cons, List.length_nil]; omega, HI2, R⟩
      case measure => simp only [intOf]; omega
    · obtain rfl : j = P.length - 1 := by omega
      have hji : ¬ ((P.length - 1 : Nat) : Int) < (P.length : Int) - 1 := by omega
      clear hlt hb1o hco q0 hpz
      obtain ⟨Av, cv, rfl⟩ := HS.out.own.form
      rw [lns_len] at HS
      obtain ⟨⟨x0, x1, x2, xl⟩, -⟩ := row3 HS.out.box
      cases ok1
      · have hNR := no_head HSP.out HX0.out HW4.out (.inr (.inr (.inr (.inl (HA.out.2 rfl)))))
        have HN := Lib.hid (noRet_dec HLE.out hNR)
        have HQ := Lib.hid (Below.set3 hSo.below hwr (.int .i64 0) (.int .i64 0) (.slice none 0 0))
        have HR := Lib.hid (row3 (Row.set3 hSo.res (.int .i64 0) (.int .i64 0) (.slice none 0 0))).1
        obtain ⟨⟨a0, a1, a2, al⟩, ⟨b0, b1, b2⟩⟩ := row3 hSo.res
        clear hNR
        go_wp2
        obtain ⟨z0, z1, z2, -⟩ := HR.out
        refine bodyPost_ret (v := .tuple #[.agg #[.int .i64 0, .int .i64 0, .slice none 0 0], .int .i64 6]) (by simp only [results, Tryz.results19, go_sem]; simp [z0, z1, z2, go_sem]) rfl ?_
        rw [HN.out.1]
        exact RetRet.no HN.out.2 HQ.out
      cases ok2
      · have hNR := no_head HSP.out HX0.out HW4.out (.inr (.inr (.inr (.inr (HB.out.2 rfl)))))
        have HN := Lib.hid (noRet_dec HLE.out hNR)
        have HQ := Lib.hid (Below.set3 hSo.below hwr (.int .i64 0) (.int .i64 0) (.slice none 0 0))
        have HR := Lib.hid (row3 (Row.set3 hSo.res (.int .i64 0) (.int .i64 0) (.slice none 0 0))).1
        obtain ⟨⟨a0, a1, a2, al⟩, ⟨b0, b1, b2⟩⟩ := row3 hSo.res
        clear hNR
        go_wp2
        obtain ⟨z0, z1, z2, -⟩ := HR.out
        refine bodyPost_ret (v := .tuple #[.agg #[.int .i64 0, .int .i64 0, .slice none 0 0], .int .i64 6]) (by simp only [results, Tryz.results19, go_sem]; simp [z0, z1, z2, go_sem]) rfl ?_
        rw [HN.out.1]
        exact RetRet.no HN.out.2 HQ.out
      have HRI : Hid (RdI (P.map (·.data.toList)) ((P.map (·.data.toList)).length - 1) acc) := by rw [Hid, HML.out]; exact HI.out
      have HED := Lib.hid (end_dec HSP.out HRE.out (by rw [HML.out]; omega) HEN.out HX0.out HWX.out (HA.out.1 rfl) (HB.out.1 rfl) HRI.out HLE.out)
      have HVA : Hid (Calls Tryz.prog 16 #[.agg #[.int .i64 n, .int .i64 d, .slice Av acc.length cv]] wo fun e w' => e = .returned (.bool (retB ⟨n, d, acc⟩)) ∧ Below wo.heap.size wo w') := refValidR_any ⟨n, d, acc⟩ _ wo (HS.out.own.sl (by omega))
      clear HI HRI HA HB
      go_wp2_with fail
      refine HVA.out.mono ?_
      rintro e w6 ⟨rfl, hb6⟩
      have hS6 := hSo.same hb6
      have HS6 := Lib.hid (HS.out.same hb6)
      clear x0 x1 x2 xl hb6 HVA HS hSo
      cases hF : retB ⟨n, d, acc⟩
      · have hNR := HED.out.2 hF
        clear hF
        have HN := Lib.hid (noRet_dec HLE.out hNR)
        have HQ := Lib.hid (Below.set3 hS6.below hwr (.int .i64 0) (.int .i64 0) (.slice none 0 0))
        have HR := Lib.hid (row3 (Row.set3 hS6.res (.int .i64 0) (.int .i64 0) (.slice none 0 0))).1
        obtain ⟨⟨a0, a1, a2, al⟩, ⟨b0, b1, b2⟩⟩ := row3 hS6.res
        clear hNR
        go_wp2
        obtain ⟨z0, z1, z2, -⟩ := HR.out
        refine bodyPost_ret (v := .tuple #[.agg #[.int .i64 0, .int .i64 0, .slice none 0 0], .int .i64 6]) (by simp only [results, Tryz.results19, go_sem]; simp [z0, z1, z2, go_sem]) rfl ?_
        rw [HN.out.1]
        exact RetRet.no HN.out.2 HQ.out
      have HE := Lib.hid (HED.out.1 hF)
      clear hF HED
      obtain ⟨⟨b0, b1, b2, bl⟩, -⟩ := row3 HS6.out.box
      obtain ⟨⟨a0, a1, a2, al⟩, ⟨e0, e1, e2⟩⟩ := row3 hS6.res
      have HZ := Lib.hid (row3 (Row.set3 hS6.res (.int .i64 n) (.int .i64 d) (.slice Av acc.length cv))).1
      have HQ := Lib.hid (Below.set3 hS6.below hwr (.int .i64 n) (.int .i64 d) (.slice Av acc.length cv))
      have HON := Lib.hid ((own3 HS6.out.own (r := r) hr3l (.int .i64 n) (.int .i64 d) (.slice Av acc.length cv)).more (show w.heap.size ≤ w3.heap.size by omega))
      clear hS6 HS6
      go_wp2
      obtain ⟨z0, z1, z2, _⟩ := HZ.out
      refine bodyPost_ret (v := .tuple #[.agg #[.int .i64 n, .int .i64 d, .slice Av acc.length cv], .int .i64 0]) (by simp only [results, Tryz.results19, go_sem]; simp [z0, z1, z2, go_sem]) rfl ?_
      rw [HE.out.1, HE.out.2]
      exact ⟨_, rfl, HON.out, HQ.out⟩
end Go.Proofs.YtnkephafpebfkaaGreatDoor
/- filing.Authority: New, Submit. -/
namespace Go.Proofs.YtnkephafpebfkaaGreatDoor
open Go.RowKit Go.Shelf

/-- an authority in block B with its map in block M -/
structure AuthS (w : World) (B M : Nat) (es : List (Ret × Value)) : Prop where
  box : Row w B 89 #[.map (some M)]
  map : w.heap[M]? = some (iObj (es.map entA))
  ln : ∀ p ∈ es, Sl w 3 p.2 (lns p.1.l)
  val : ∀ p ∈ es, retB p.1 = true
  dist : DistR (es.map (·.1))
theorem AuthS.below {w w' : World} {B M : Nat} {es : List (Ret × Value)} (h : AuthS w B M es) (hb : Below w.heap.size w w') : AuthS w' B M es :=
  ⟨h.box.below hb h.box.lt, (hb.block M (lt_of_some h.map)).trans h.map, fun p hp => (h.ln p hp).below hb, h.val, h.dist⟩
theorem grownBy_of_below {w w' : World} {row : Option Nat} (h : Below w.heap.size w w') : w.grownBy w' row := ⟨h.os, h.tape, h.output, h.size, fun k hk _ => h.block k hk⟩
theorem grown_trans' {w w1 w2 : World} {row : Option Nat} (h1 : w.grownBy w1 row) (h2 : w1.grownBy w2 row) : w.grownBy w2 row :=
  ⟨h2.os.trans h1.os, h2.tape.trans h1.tape, h2.output.trans h1.output, Nat.le_trans h1.size h2.size, fun i hi hne => (h2.block i (Nat.lt_of_lt_of_le hi h1.size) hne).trans (h1.block i hi hne)⟩
theorem auth_ty : Tryz.prog.underlying 87 = some (.map 3 25) := Tryz.underlying87
theorem zero_ret (w : World) : (zeroValue 25).run Tryz.prog w = .ok (.agg #[.int .i64 0, .int .i64 0, .slice none 0 0]) w := by kernel_rfl
theorem eq_nil_map (m : Nat) (w : World) : (binOp .eql 87 (.map (some m)) (.map none)).run Tryz.prog w = .ok (.bool false) w := by kernel_rfl
theorem eq_nil_auth (b : Nat) (w : World) : (binOp .eql 44 (.pointer (some ⟨b, 0, none⟩)) (.pointer none)).run Tryz.prog w = .ok (.bool false) w := by kernel_rfl
theorem field_ver (x y : Int) (A : Option Addr) (n c : Nat) (w : World) : (Instr.field 25 (.agg #[.int .i64 x, .int .i64 y, .slice A n c]) 1).run Tryz.prog w = .ok (.int .i64 y) w := by kernel_rfl
theorem NewA_any (w : World) : Calls Tryz.prog 21 #[] w fun e w' => ∃ B M, e = .returned (.pointer (some ⟨B, 0, none⟩)) ∧ AuthS w' B M [] ∧ Below w.heap.size w w' ∧ w.heap.size ≤ M ∧ M < B := by
  have hmm := @run_makeMap Tryz.prog
  go_enter Tryz.func21, Tryz.ntmps21
  go_wp2
  go_ret
  have hb := (Below.refl w.heap.size w).alloc (Nat.le_refl _) (.map #[] 0)
  refine ⟨w.heap.size + 1, w.heap.size, rfl, ⟨?_, ?_, (fun p hp => absurd hp (by simp)), (fun p hp => absurd hp (by simp)), .nil⟩, hb.alloc hb.size _, Nat.le_refl _, by omega⟩
  · have := Row.new (w.alloc (.map #[] 0)) 89 #[.map (some w.heap.size)]
    rwa [World.size_alloc] at this
  · exact (Below.heap_alloc _ _ _ (by simp)).trans (heap_alloc_new w _)
/-- a slice of the call's own does not lie in a map -/
theorem own_not_map {w : World} {base e sz M n : Nat} {v : Value} {es : List (List Value)} {a : Array MapEntry} (h : Own w base e sz v es) (hm : w.heap[M]? = some (.map a n)) : v.ownBlock = none ∨ v.ownBlock ≠ some M := by
  cases hv : v.ownBlock with
  | none => exact .inl rfl
  | some g =>
    refine .inr fun e => ?_
    rcases h.1.2 with ⟨rfl, _⟩ | ⟨g1, c1, cur1, rfl, _, hg1, _⟩
    · simp [Value.ownBlock] at hv
    · simp only [Value.ownBlock, Option.some.injEq] at hv e
      rw [hv, e, hm] at hg1
      cases hg1
/-- the version that the map knows -/
theorem get_ver {w : World} {B M : Nat} {es : List (Ret × Value)} (h : AuthS w B M es) (p : Int) : ∃ (x : Int) (A : Option Addr) (n c : Nat), ((getI (es.map entA) p).getD (.agg #[.int .i64 0, .int .i64 0, .slice none 0 0])) = .agg #[.int .i64 x, .int .i64 (verP (es.map (·.1)) p), .slice A n c] := by
  obtain ⟨h1, h2⟩ := get_ret h.dist p
  cases hh : hasP (es.map (·.1)) p
  · rw [h2 hh, verP_lat, latP_no hh]
    exact ⟨0, none, 0, 0, rfl⟩
  · obtain ⟨v, hv, he⟩ := h1 hh
    obtain ⟨A, n, c, hv'⟩ := (h.ln _ hv).is
    rw [he, verP_lat]
    simp only at hv'
    exact ⟨_, A, n, c, by rw [Option.getD_some, Ret.vals, hv']⟩
/-- what Submit leaves -/
def SubT (w : World) (B M : Nat) (es : List (Ret × Value)) (s : List UInt8) (e : Ending) (w' : World) : Prop :=
  ∃ es', e = .returned (.int .i64 (subE (es.map (·.1)) s)) ∧ AuthS w' B M es' ∧ es'.map (·.1) = subA (es.map (·.1)) s ∧ w.grownBy w' (some M) ∧ ∀ p ∈ es', p ∈ es ∨ Own w' w.heap.size 56 3 p.2 (lns p.1.l)
set_option maxRecDepth 100000 in
set_option maxHeartbeats 4000000 in
theorem SubmitA_any (B M : Nat) (es : List (Ret × Value)) (s : ByteArray) (w : World) (hb : AuthS w B M es) (hT : Tabs w) (hE : Errs w) :
    Calls Tryz.prog 24 #[.pointer (some ⟨B, 0, none⟩), .string s] w (SubT w B M es s.data.toList) := by
  have HS : Hid (subE (es.map (·.1)) s.data.toList = if decE s.data.toList = 0 then (if (decR s.data.toList).v ≤ verP (es.map (·.1)) (decR s.data.toList).p then 8 else if verP (es.map (·.1)) (decR s.data.toList).p + 1 < (decR s.data.toList).v then 16 else 0) else decE s.data.toList) := rfl
  have HF : Hid (subA (es.map (·.1)) s.data.toList = if subE (es.map (·.1)) s.data.toList = 0 then putR (es.map (·.1)) (decR s.data.toList) else (es.map (·.1))) := rfl
  have HB := Lib.hid hb
  clear hb
  have hq := eq_nil_auth B
  have HD := Lib.hid (DecodeR_any s w hT hE)
  obtain ⟨f, hf⟩ : ∃ f, decR s.data.toList = f := ⟨_, rfl⟩
  obtain ⟨er, her⟩ : ∃ er, decE s.data.toList = er := ⟨_, rfl⟩
  rw [hf, her] at HD
  rw [hf, her] at HS
  rw [hf] at HF
  have HFV : Hid (er = 0 → retB f = true) := fun h => by
    have := (decE_ok (her.trans h)).2
    rwa [hf] at this
  clear hf her
  go_enter Tryz.func24, Tryz.ntmps24
  go_wp2_with fail
  refine HD.out.mono ?_
  rintro e w1 ⟨v, rfl, hown, hb1⟩
  have hvl : f.vals v = #[.int .i64 f.p, .int .i64 f.v, v] := rfl
  rw [hvl]
  clear hvl hq
  have hB1 := HB.out.below hb1
  obtain ⟨Av, cv, rfl⟩ := hown.form
  rw [lns_len] at hown ⊢
  have hs1 := hb1.size
  by_cases h0 : er = 0
  rotate_left
  · have hne : (er != 0) = true := by simpa using h0
    have HS2 : Hid (subE (es.map (·.1)) s.data.toList = er) := by rw [Hid, HS.out, if_neg h0]
    have HF2 : Hid (subA (es.map (·.1)) s.data.toList = es.map (·.1)) := by rw [Hid, HF.out, HS2.out, if_neg h0]
    have HBN := Lib.hid (hB1.below ((Below.refl w1.heap.size w1).alloc (Nat.le_refl _) (.cells #[.int .i64 f.p, .int .i64 f.v, .slice Av f.l.length cv] 25)))
    have HG : Hid (w.grownBy (w1.alloc (.cells #[.int .i64 f.p, .int .i64 f.v, .slice Av f.l.length cv] 25)) (some M)) := grownBy_of_below (hb1.alloc hs1 _)
    clear h0 hB1 hown
    go_wp2
    go_ret
    exact ⟨es, by rw [HS2.out]; rfl, HBN.out, HF2.out.symm, HG.out, fun p hp => .inl hp⟩
  · subst h0
    have hfv := (retB_iff _).1 (HFV.out (by trivial))
    have hv0 := hfv.v0
    have hv1 := hfv.v1
    have hx := Row.new w1 25 #[.int .i64 f.p, .int .i64 f.v, .slice Av f.l.length cv]
    have hal := (Below.refl w1.heap.size w1).alloc (Nat.le_refl _) (.cells #[.int .i64 f.p, .int .i64 f.v, .slice Av f.l.length cv] 25)
    have hB2 := hB1.below hal
    have hb2 := below_after hb1 hal hs1
    have hO2 := Lib.hid (hown.kept hal)
    obtain ⟨x, A', n', c', hget⟩ := get_ver hB1 f.p
    obtain ⟨kv, hkv⟩ : ∃ kv, verP (es.map (·.1)) f.p = kv := ⟨_, rfl⟩
    have hkvb : 0 ≤ kv ∧ kv ≤ 65536 := by
      rw [← hkv, verP_lat]
      cases hh : hasP (es.map (·.1)) f.p
      · rw [latP_no hh]; simp
      · obtain ⟨q, hq, he⟩ := List.mem_map.1 (latP_mem hh).1
        have := (retB_iff _).1 (hB1.val q hq)
        have a0 := this.v0
        have a1 := this.v1
        rw [← he]; omega
    rw [hkv] at hget HS
    clear hkv
    obtain ⟨k0, k1⟩ := hkvb
    clear hfv
    go_wp2_with fail
    obtain ⟨w2, hw2⟩ : ∃ w2, w1.alloc (.cells #[.int .i64 f.p, .int .i64 f.v, .slice Av f.l.length cv] 25) = w2 := ⟨_, rfl⟩
    rw [hw2] at hx hal hB2 hb2 hO2 ⊢
    obtain ⟨b, hbb⟩ : ∃ b, w1.heap.size = b := ⟨_, rfl⟩
    rw [hbb] at hx ⊢
    have HB2 := Lib.hid hB2
    have E1 := fun y : Ext w2 => (run_lookup_i auth_ty (zero_ret y.val) (hB2.below y.property).map f.p).2
    rw [hget] at E1
    have c0 := hB2.box.cell 0
    have cl := hB2.box.lt
    simp only [List.getElem?_toArray, List.getElem?_cons_zero] at c0
    obtain ⟨⟨d0, d1, d2, dl⟩, -⟩ := row3 hx
    have HX := Lib.hid hx
    have y0 := ext_cell cl c0
    have y1 := ext_cell dl d0
    have y2 := ext_cell dl d1
    have y3 := ext_cell dl d2
    clear hx hw2 hB1 hB2 hown hget hal hbb c0 d0 d1 d2
    have EF := fun W => field_ver x kv A' n' c' W
    refine region_ext (by kernel_rfl) (by kernel_rfl) ?_
    repeat (go_big_quiet_step (fail))
    refine wpQuiet_nil ?_
    rintro _ ⟨y, rfl⟩
    have hb3 := below_after hb2 y.property hb2.size
    have hB3 := HB2.out.below y.property
    have hx3 := HX.out.below y.property HX.out.lt
    have HO3 : Hid (Own y.val w.heap.size 56 3 (.slice Av f.l.length cv) (lns f.l)) := hO2.out.kept y.property
    generalize y.val = w3 at hb3 hB3 hx3 HO3 ⊢
    clear E1 EF y0 y1 y2 y3 y cl dl HB2 HX hO2 hb2
    have c0 := hB3.box.cell 0
    have cl := hB3.box.lt
    simp only [List.getElem?_toArray, List.getElem?_cons_zero] at c0
    obtain ⟨⟨d0, d1, d2, dl⟩, -⟩ := row3 hx3
    by_cases hle : f.v ≤ kv
    · have HS2 : Hid (subE (es.map (·.1)) s.data.toList = 8) := by rw [Hid, HS.out, if_pos (by trivial), if_pos hle]
      have HF2 : Hid (subA (es.map (·.1)) s.data.toList = es.map (·.1)) := by rw [Hid, HF.out, HS2.out, if_neg (by decide)]
      have hd : decide (f.v ≤ kv) = true := decide_eq_true hle
      have HG : Hid (w.grownBy w3 (some M)) := grownBy_of_below hb3
      have HBN := Lib.hid hB3
      clear hle hB3 hx3
      go_wp2
      go_ret
      exact ⟨es, by rw [HS2.out]; rfl, HBN.out, HF2.out.symm, HG.out, fun p hp => .inl hp⟩
    have hd : decide (f.v ≤ kv) = false := decide_eq_false hle
    by_cases hgt : kv + 1 < f.v
    · have HS2 : Hid (subE (es.map (·.1)) s.data.toList = 16) := by rw [Hid, HS.out, if_pos (by trivial), if_neg hle, if_pos hgt]
      have HF2 : Hid (subA (es.map (·.1)) s.data.toList = es.map (·.1)) := by rw [Hid, HF.out, HS2.out, if_neg (by decide)]
      have HG : Hid (w.grownBy w3 (some M)) := grownBy_of_below hb3
      have HBN := Lib.hid hB3
      clear hle hB3 hx3
      go_wp2
      go_ret
      exact ⟨es, by rw [HS2.out]; rfl, HBN.out, HF2.out.symm, HG.out, fun p hp => .inl hp⟩
    have HS2 : Hid (subE (es.map (·.1)) s.data.toList = 0) := by rw [Hid, HS.out, if_pos (by trivial), if_neg hle, if_neg hgt]
    have HF2 : Hid (subA (es.map (·.1)) s.data.toList = putR (es.map (·.1)) f) := by rw [Hid, HF.out, HS2.out, if_pos rfl]
    have qm := eq_nil_map M
    clear hle
    go_wp2_with fail
    have y0 := ext_cell cl c0
    have y1 := ext_cell dl d0
    have y2 := ext_cell dl d1
    have y3 := ext_cell dl d2
    have HB3 := Lib.hid hB3
    have HX3 := Lib.hid hx3
    have hbM : b ≠ M := fun e => by have := hx3; unfold Row at this; rw [e, hB3.map] at this; cases this
    have hBM : B ≠ M := fun e => by have := hB3.box; unfold Row at this; rw [e, hB3.map] at this; cases this
    clear c0 d0 d1 d2 hB3 hx3
    refine region_ext_tail 7 (by kernel_rfl) (by kernel_rfl) ?_
    simp only [List.take_succ_cons, List.take_zero, List.drop_succ_cons, List.drop_zero]
    repeat (go_big_quiet_step (fail))
    refine wpQuiet_nil ?_
    rintro _ ⟨y, rfl⟩
    have hB4 := HB3.out.below y.property
    have hb4 := below_after hb3 y.property hb3.size
    have HO4 := Lib.hid (HO3.out.kept y.property)
    generalize y.val = w4 at hB4 hb4 HO4 ⊢
    clear y0 y1 y2 y3 y HB3 HX3 HO3 hb3
    have hput := putI_ents hB4.dist f (.slice Av f.l.length cv)
    have hM4 := lt_of_some hB4.map
    have E3 := run_update_i auth_ty hB4.map f.p (.agg #[.int .i64 f.p, .int .i64 f.v, .slice Av f.l.length cv])
    rw [show (Value.agg #[.int .i64 f.p, .int .i64 f.v, .slice Av f.l.length cv]) = .agg (f.vals (.slice Av f.l.length cv)) from rfl, hput] at E3
    rw [show (Value.agg (f.vals (.slice Av f.l.length cv))) = .agg #[.int .i64 f.p, .int .i64 f.v, .slice Av f.l.length cv] from rfl] at E3
    have hg5 : w4.grownBy (setB w4 M (iObj ((putE es f (.slice Av f.l.length cv)).map entA))) (some M) := setB_grown
    have hm5 : (setB w4 M (iObj ((putE es f (.slice Av f.l.length cv)).map entA))).heap[M]? = some (iObj ((putE es f (.slice Av f.l.length cv)).map entA)) := setB_at hM4
    obtain ⟨w5, hw5⟩ : ∃ w5, setB w4 M (iObj ((putE es f (.slice Av f.l.length cv)).map entA)) = w5 := ⟨_, rfl⟩
    rw [hw5] at E3 hg5 hm5
    have HEND : Hid (AuthS w5 B M (putE es f (.slice Av f.l.length cv)) ∧ w.grownBy w5 (some M) ∧ Own w5 w.heap.size 56 3 (.slice Av f.l.length cv) (lns f.l)) := by
      refine ⟨⟨hB4.box.keep hg5 (fun e => hBM (Option.some.inj e)), hm5, fun p hp => ?_, fun p hp => ?_, by rw [putE_fst]; exact hB4.dist.put f⟩, ?_, HO4.out.keepG hg5 (own_not_map HO4.out hB4.map)⟩
      · rcases putE_mem hp with hp | rfl
        · exact (hB4.ln p hp).ln_far hg5 (noLn_map hB4.map)
        · exact (HO4.out.sl (by omega)).ln_far hg5 (noLn_map hB4.map)
      · rcases putE_mem hp with hp | rfl
        · exact hB4.val p hp
        · exact HFV.out (by trivial)
      · exact grown_trans' (grownBy_of_below hb4) hg5
    clear hw5 hg5 hm5 hB4 HO4 hput hM4 hb4
    go_wp2
    go_ret
    exact ⟨_, by rw [HS2.out]; rfl, HEND.out.1, by rw [HF2.out, putE_fst], HEND.out.2.1, fun p hp => by
      rcases putE_mem hp with hp | rfl
      · exact .inl hp
      · exact .inr HEND.out.2.2⟩
end Go.Proofs.YtnkephafpebfkaaGreatDoor
/- payrolllaw43.awake: the example of the chapter. -/
namespace Go.Proofs.YtnkephafpebfkaaGreatDoor
open Go.RowKit Go.Shelf

def exR1 : Ret := ⟨5, 1, [⟨6, ⟨#[]⟩, -3⟩]⟩
def exR2 : Ret := ⟨5, 2, []⟩
theorem exR1_val : retB exR1 = true := by decide
theorem exR2_val : retB exR2 = true := by decide
theorem itoa5 : Lib.itoa 5 = [53] := by simp [Lib.itoa, Lib.decDigits]
theorem itoa1 : Lib.itoa 1 = [49] := by simp [Lib.itoa, Lib.decDigits]
theorem itoa2 : Lib.itoa 2 = [50] := by simp [Lib.itoa, Lib.decDigits]
theorem itoam3 : Lib.itoa (-3) = [45, 51] := by simp [Lib.itoa, Lib.decDigits]
theorem exR1_txt : encT exR1 = [114, 101, 116, 117, 114, 110, 32, 53, 32, 118, 101, 114, 115, 105, 111, 110, 32, 49, 10, 116, 97, 120, 32, 45, 51, 10, 101, 110, 100, 10] := by
  rw [encT, exR1_val, if_pos rfl]
  have h : wordsL ⟨6, ⟨#[]⟩, -3⟩ = [wTax, Lib.itoa (-3)] := rfl
  simp only [retT, retL, exR1, headR, lnT, h, List.map_cons, List.map_nil, itoa5, itoa1, itoam3]
  rfl
theorem exR2_txt : encT exR2 = [114, 101, 116, 117, 114, 110, 32, 53, 32, 118, 101, 114, 115, 105, 111, 110, 32, 50, 10, 101, 110, 100, 10] := by
  rw [encT, exR2_val, if_pos rfl]
  simp only [retT, retL, exR2, headR, List.map_nil, itoa5, itoa2]
  rfl
theorem exR1_dec : decE (encT exR1) = 0 ∧ decR (encT exR1) = exR1 := by
  rw [encT, exR1_val, if_pos rfl]; exact dec_of exR1_val
theorem exR2_dec : decE (encT exR2) = 0 ∧ decR (encT exR2) = exR2 := by
  rw [encT, exR2_val, if_pos rfl]; exact dec_of exR2_val
theorem exR_sub : (subE [] (encT exR2) = 16 ∧ subA [] (encT exR2) = []) ∧ (subE [] (encT exR1) = 0 ∧ subA [] (encT exR1) = [exR1]) ∧ (subE [exR1] (encT exR2) = 0 ∧ subA [exR1] (encT exR2) = [exR2]) ∧ (subE [exR2] (encT exR2) = 8 ∧ subA [exR2] (encT exR2) = [exR2]) := by
  have h1 : subE [] (encT exR2) = 16 := by rw [subE, if_pos exR2_dec.1, exR2_dec.2]; decide
  have h2 : subE [] (encT exR1) = 0 := by rw [subE, if_pos exR1_dec.1, exR1_dec.2]; decide
  have h3 : subE [exR1] (encT exR2) = 0 := by rw [subE, if_pos exR2_dec.1, exR2_dec.2]; decide
  have h4 : subE [exR2] (encT exR2) = 8 := by rw [subE, if_pos exR2_dec.1, exR2_dec.2]; decide
  refine ⟨⟨h1, ?_⟩, ⟨h2, ?_⟩, ⟨h3, ?_⟩, h4, ?_⟩
  · rw [subA, h1, if_neg (by decide)]
  · rw [subA, h2, if_pos rfl, exR1_dec.2]; rfl
  · rw [subA, h3, if_pos rfl, exR2_dec.2]; rfl
  · rw [subA, h4, if_neg (by decide)]
theorem exR_enc : encE exR1 = 0 ∧ encE exR2 = 0 := ⟨by rw [encE, exR1_val]; rfl, by rw [encE, exR2_val]; rfl⟩
def exB1 : ByteArray := ⟨#[114, 101, 116, 117, 114, 110, 32, 53, 32, 118, 101, 114, 115, 105, 111, 110, 32, 49, 10, 116, 97, 120, 32, 45, 51, 10, 101, 110, 100, 10]⟩
def exB2 : ByteArray := ⟨#[114, 101, 116, 117, 114, 110, 32, 53, 32, 118, 101, 114, 115, 105, 111, 110, 32, 50, 10, 101, 110, 100, 10]⟩
theorem below_map {w0 w w' : World} {M : Nat} (h : Below w0.heap.size w0 w) (hg : w.grownBy w' (some M)) (hM : w0.heap.size ≤ M) : Below w0.heap.size w0 w' :=
  h.grown hg h.size (fun g hg => by injection hg; omega)
theorem Submit_any (B M : Nat) (es : List (Ret × Value)) (s : ByteArray) (w : World) (hb : AuthS w B M es) (hT : Tabs w) (hE : Errs w) :
    Calls Tryz.prog 24 #[.pointer (some ⟨B, 0, none⟩), .string s] w fun e w' => ∃ es', e = .returned (.int .i64 (subE (es.map (·.1)) s.data.toList)) ∧ AuthS w' B M es' ∧ es'.map (·.1) = subA (es.map (·.1)) s.data.toList ∧ w.grownBy w' (some M) :=
  (SubmitA_any B M es s w hb hT hE).mono fun _ _ ⟨es', h1, h2, h3, h4, _⟩ => ⟨es', h1, h2, h3, h4⟩
set_option maxRecDepth 100000 in
set_option maxHeartbeats 2000000 in
theorem awake_any (w : World) (hT : Tabs w) (hE : Errs w) : Calls Tryz.prog 8 #[] w fun e w' => e = .returned (.bool true) ∧ Below w.heap.size w w' := by
  have HT := Lib.hid hT
  have HER := Lib.hid hE
  clear hT hE
  have hB0 := (Below.refl w.heap.size w).alloc (Nat.le_refl _) (.cells #[.int .i64 6, .string ⟨#[]⟩, .int .i64 (-3)] 56)
  have HEN : Hid (Calls Tryz.prog 13 #[.agg #[.int .i64 5, .int .i64 1, .slice (some ⟨w.heap.size, 0, none⟩) 1 1]] (w.alloc (.cells #[.int .i64 6, .string ⟨#[]⟩, .int .i64 (-3)] 56)) fun e w' => e = .returned (.tuple #[.string exB1, .int .i64 0]) ∧ Below (w.alloc (.cells #[.int .i64 6, .string ⟨#[]⟩, .int .i64 (-3)] 56)).heap.size (w.alloc (.cells #[.int .i64 6, .string ⟨#[]⟩, .int .i64 (-3)] 56)) w') := by
    have := EncodeR_any exR1 (.slice (some ⟨w.heap.size, 0, none⟩) 1 1) (w.alloc (.cells #[.int .i64 6, .string ⟨#[]⟩, .int .i64 (-3)] 56)) (Sl.one rfl rfl) (HT.out.below hB0)
    rw [exR_enc.1, exR1_txt] at this
    exact this
  have HEN2 : Hid (∀ W, Below w.heap.size w W → Calls Tryz.prog 13 #[.agg #[.int .i64 5, .int .i64 2, .slice none 0 0]] W fun e w' => e = .returned (.tuple #[.string exB2, .int .i64 0]) ∧ Below W.heap.size W w') := fun W hW => by
    have := EncodeR_any exR2 (.slice none 0 0) W (Sl.nil _ _) (HT.out.below hW)
    rw [exR_enc.2, exR2_txt] at this
    exact this
  have HTX : Hid (exB1.data.toList = encT exR1) := by rw [Hid, exR1_txt]; rfl
  have HTX2 : Hid (exB2.data.toList = encT exR2) := by rw [Hid, exR2_txt]; rfl
  obtain ⟨tx, htx⟩ : ∃ tx, exB1 = tx := ⟨_, rfl⟩
  obtain ⟨ty, hty⟩ : ∃ ty, exB2 = ty := ⟨_, rfl⟩
  have t3 : (tx.toList == [114, 101, 116, 117, 114, 110, 32, 53, 32, 118, 101, 114, 115, 105, 111, 110, 32, 49, 10, 116, 97, 120, 32, 45, 51, 10, 101, 110, 100, 10]) = true := by
    rw [ByteArray.toList_eq, ← htx]; decide
  have t4 : tx.toList = [114, 101, 116, 117, 114, 110, 32, 53, 32, 118, 101, 114, 115, 105, 111, 110, 32, 49, 10, 116, 97, 120, 32, 45, 51, 10, 101, 110, 100, 10] := by simpa using t3
  rw [htx] at HEN HTX
  rw [hty] at HEN2 HTX2
  clear htx hty
  have HT3 := Lib.hid t3
  have HT4 := Lib.hid t4
  clear t3 t4
  go_enter Tryz.func8, Tryz.ntmps8
  go_wp2_with fail
  refine HEN.out.mono ?_
  rintro e w1 ⟨rfl, hb1⟩
  have hB1 := below_after hB0 hb1 hB0.size
  clear hB0 hb1 HEN
  go_wp2_with fail
  refine (HEN2.out w1 hB1).mono ?_
  rintro e w1' ⟨rfl, hb1⟩
  have hB1' := below_after hB1 hb1 hB1.size
  clear hB1 hb1 HEN2
  go_wp2_with fail
  refine (NewA_any w1').mono ?_
  rintro e w2 ⟨B, M, rfl, hb2, hbl2, hM, hMB⟩
  have hB2 := below_after hB1' hbl2 hB1'.size
  have hMw : w.heap.size ≤ M := by have := hB1'.size; omega
  have HQ : Hid (∀ W, (binOp .neq 44 (.pointer (some ⟨B, 0, none⟩)) (.pointer none)).run Tryz.prog W = .ok (.bool true) W) := fun W => by kernel_rfl
  clear hB1' hbl2 hM
  have t3 := HT3.out
  have t4 := HT4.out
  have hq := HQ.out
  go_wp2_with fail
  clear t3 t4 hq
  refine (Submit_any B M [] ty w2 hb2 (HT.out.below hB2) (HER.out.below hB2)).mono ?_
  rw [HTX2.out]
  rintro e w3 ⟨es3, rfl, hb3, he3, hg3⟩
  rw [show (List.map (fun x : Ret × Value => x.1) []) = [] from rfl] at he3 ⊢
  rw [exR_sub.1.2] at he3
  rw [exR_sub.1.1]
  have hB3 := below_map hB2 hg3 hMw
  clear hb2 hB2 hg3
  go_wp2_with fail
  refine (Submit_any B M es3 tx w3 hb3 (HT.out.below hB3) (HER.out.below hB3)).mono ?_
  rw [HTX.out, he3]
  rintro e w4 ⟨es4, rfl, hb4, he4, hg4⟩
  rw [exR_sub.2.1.2] at he4
  rw [exR_sub.2.1.1]
  have hB4 := below_map hB3 hg4 hMw
  clear hb3 hB3 hg4 he3
  go_wp2_with fail
  refine (Submit_any B M es4 ty w4 hb4 (HT.out.below hB4) (HER.out.below hB4)).mono ?_
  rw [HTX2.out, he4]
  rintro e w5 ⟨es5, rfl, hb5, he5, hg5⟩
  rw [exR_sub.2.2.1.2] at he5
  rw [exR_sub.2.2.1.1]
  have hB5 := below_map hB4 hg5 hMw
  clear hb4 hB4 hg5 he4
  go_wp2_with fail
  refine (Submit_any B M es5 ty w5 hb5 (HT.out.below hB5) (HER.out.below hB5)).mono ?_
  rw [HTX2.out, he5]
  rintro e w6 ⟨es6, rfl, hb6, he6, hg6⟩
  rw [exR_sub.2.2.2.1]
  have hB6 := below_map hB5 hg6 hMw
  clear hb5 hB5 hg6 he5 he6 hb6
  go_wp2
  go_ret
  exact ⟨rfl, hB6⟩
end Go.Proofs.YtnkephafpebfkaaGreatDoor
/- Contract of paygen.Deck.Returns. -/
namespace Go.Proofs.YtnkephafpebfkaaGreatDoor
open Go.RowKit

theorem form_line {k : Int} {c : ByteArray} {a : Int} (hk : 4 ≤ k ∧ k ≤ 6) (h : (k = 6 ∧ c = ⟨#[]⟩) ∨ (k ≠ 6 ∧ nameB c.data.toList = true)) (ha : 1 ≤ a ∧ a ≤ 1000) : formB ⟨k, c, a⟩ = true ∧ filedB k = true := by
  have q3 : totB a = true := by simp [totB]; omega
  have q4 : decide (a ≠ 0) = true := by rw [decide_eq_true_eq]; omega
  have hf : filedB k = true := by simp [filedB]; omega
  have q1 : decide (1 ≤ k) = true := by rw [decide_eq_true_eq]; omega
  have q2 : decide (k ≤ 10) = true := by rw [decide_eq_true_eq]; omega
  refine ⟨?_, hf⟩
  rcases h with ⟨rfl, rfl⟩ | ⟨h6, hn⟩
  · simp only [formB, formedB, q3, q4]; rfl
  · have hb : bareB k = false := by simp [bareB]; omega
    simp only [formB, formedB, q1, q2, q3, q4, hb, hn, Bool.true_and, Bool.and_true]; rfl
theorem own_off {v : Value} {b : Nat} (h : ∀ g, v.ownBlock = some g → g < b) : v.ownBlock = none ∨ v.ownBlock ≠ some b := by
  cases hv : v.ownBlock with
  | none => exact .inl rfl
  | some g => exact .inr fun e => by have := h g hv; injection e with e; omega
/-- returns have been drawn -/
def RetsPost (w : World) (D dr n : Nat) (e : Ending) (w' : World) : Prop :=
  ∃ (x : Value) (ps : List (Ret × Value)) (d : Nat), e = .returned x ∧ GoodRs (ps.map (·.1)) ∧ ps.length ≤ n ∧ RetsOwn w' w.heap.size x ps ∧ Deck w' D d ∧ d ≤ dr + 1 + 10 * n ∧ w.grownBy w' (some D)
/-- where the outer loop stands -/
structure RgL (w : World) (D dr n K : Nat) (x : Value) (k : Nat) (ps : List (Ret × Value)) (d : Nat) (wr : World) : Prop where
  kl : k ≤ K
  good : GoodRs (ps.map (·.1))
  len : ps.length + k ≤ K
  own : RetsOwn wr w.heap.size x ps
  deck : Deck wr D d
  d : d ≤ dr + 1 + 10 * (K - k)
  grown : w.grownBy wr (some D)
set_option maxRecDepth 100000 in
set_option maxHeartbeats 8000000 in
theorem Returns_any (D dr n : Nat) (w : World) (hd : Deck w D dr) (hdr : dr ≤ 1000000) (hn : n ≤ 100) :
    Calls Tryz.prog 27 #[.pointer (some ⟨D, 0, none⟩), .int .i64 n] w (RetsPost w D dr n) := by
  have hD := hd.lt
  go_enter Tryz.func27, Tryz.ntmps27
  go_wp2_with fail
  refine (Next_any D dr _ _ hd (by omega) (by omega) (by omega)).mono ?_
  rintro e w1 ⟨r, ⟨hr1, hr2⟩, rfl, hd1, hg1⟩
  obtain ⟨K, rfl⟩ := Int.eq_ofNat_of_zero_le hr1
  have hKn : K ≤ n := by omega
  have H0 : Hid (RgL w D dr n K (.slice none 0 0) K [] (dr + 1) w1) := ⟨Nat.le_refl _, GoodRs.nil, by simp, ⟨Own.nil _ _ _ _, (fun p hp => by cases hp)⟩, hd1, by omega, hg1⟩
  clear hd hd1 hg1
  go_wp2_with fail
  go_loopw [5, 6] (fun x t wr => ∃ (k : Nat) (ps : List (Ret × Value)) (d : Nat), t = .int .i64 k ∧ Hid (RgL w D dr n K x k ps d wr)) (fun _ t _ => (intOf t).toNat)
  case atStart => exact ⟨K, [], dr + 1, rfl, H0.out⟩
  case round =>
    clear H0
    obtain ⟨k, ps, d, rfl, HL⟩ := hrel
    obtain ⟨wo, rfl⟩ : ∃ wo : World, wo = wr := ⟨_, rfl⟩
    have hk := HL.out.kl
    by_cases hpos : 0 < k
    rotate_left
    · have dp : decide ((0 : Int) < (k : Int)) = false := decide_eq_false (by omega)
      have hk0 : k = 0 := by omega
      go_wp2
      go_ret
      have hl := HL.out.len
      have hdd := HL.out.d
      exact ⟨_, ps, d, rfl, HL.out.good, by omega, HL.out.own, HL.out.deck, by omega, HL.out.grown⟩
    have dp : decide ((0 : Int) < (k : Int)) = true := decide_eq_true (by omega)
    have hdd := HL.out.d
    have hlen := HL.out.len
    have hDo := HL.out.deck.lt
    have h00 : Hid (GoodA [] 4 ∧ Own wo wo.heap.size 56 3 (.slice none 0 0) (lns []) ∧ Deck wo D d ∧ wo.grownBy wo (some D)) := ⟨GoodA.nil, Own.nil _ _ _ _, HL.out.deck, World.grownBy.refl _ _⟩
    go_wp2_with fail
    go_loopw [7, 8] (fun v t wi => ∃ (q : Int) (acc : List Ln) (di : Nat), (4 ≤ q ∧ q ≤ 7) ∧ t = .int .i64 q ∧ (di : Int) ≤ d + 3 * (q - 4) ∧ Hid (GoodA acc q ∧ Own wi wo.heap.size 56 3 v (lns acc) ∧ Deck wi D di ∧ wo.grownBy wi (some D))) (fun _ t _ => (7 - intOf t).toNat)
    case atStart => exact ⟨4, [], d, ⟨by omega, by omega⟩, rfl, by omega, h00.out⟩
    case round =>
      clear h00
      obtain ⟨q, acc, di, ⟨q0, q1⟩, rfl, hdi, HI⟩ := hrel
      obtain ⟨wi, rfl⟩ : ∃ wi : World, wi = wr := ⟨_, rfl⟩
      have hgi := HI.out.2.2.2.size
      by_cases hq : q ≤ 6
      rotate_left
      · have dq : decide (q ≤ 6) = false := decide_eq_false hq
        obtain rfl : q = 7 := by omega
        have hAL := HI.out.1.len
        go_wp2_with fail
        refine (Next_any D di 3 wi HI.out.2.2.1 (by omega) (by omega) (by omega)).mono ?_
        rintro e w2 ⟨pp, ⟨p0, p1⟩, rfl, hd2, hg2⟩
        have hgo2 := gb_trans HI.out.2.2.2 hg2
        have ho2 := (HL.out.own.keepD hgo2 (Nat.lt_of_lt_of_le hD (Nat.le_refl _)))
        have hl2 := HI.out.2.1.keepD2 hg2 hDo
        have hgood := HL.out.good
        have hver := hgood.ver _ rfl pp
        have hln := hgood.lin pp
        have hmm : ∀ z ∈ ps, z.1.l.length ≤ 256 := fun z hz => by
          have := (hgood.mem (List.mem_map.2 ⟨z, hz, rfl⟩)).2.2
          omega
        rw [List.length_map] at hver
        have HO2 := Lib.hid ho2
        have HL2 := Lib.hid hl2
        have HA := Lib.hid HI.out.1
        have hw2 := hgo2.size
        have hD2 := hd2.lt
        have hsl2 := hl2.sl (by omega)
        have hnx := Next38_any ps _ _ pp acc w2 ho2.at hmm hsl2 (by omega) ⟨hver.1, by omega⟩ (by omega)
        have HNX := Lib.hid hnx
        clear hnx ho2 hl2 hmm hsl2 HI hg2
        go_wp2_with fail
        refine HNX.out.mono ?_
        rintro e w3 ⟨hb3, hcase⟩
        have hG3 := gb_trans HL.out.grown (gb_below hgo2 hb3)
        have hd3 := hd2.below hb3
        have HO3 := Lib.hid (HO2.out.kept hb3)
        have hw3 := hb3.size
        clear HNX HO2 HL2 hgo2 hd2 hb3
        rcases hcase with ⟨hne, v3, rfl, hown3⟩ | ⟨heq, rfl⟩
        rotate_left
        · have hal := (Below.refl w3.heap.size w3).alloc (Nat.le_refl _) (.cells #[.int .i64 0, .int .i64 0, .slice none 0 0] 25)
          have HEND : Hid (RgL w D dr n K _ (k - 1) ps (di + 1) (w3.alloc (.cells #[.int .i64 0, .int .i64 0, .slice none 0 0] 25))) := ⟨by omega, hgood, by omega, HO3.out.kept hal, hd3.below hal, by omega, gb_alloc hG3 _⟩
          clear hal heq hG3 hd3 HO3 HL
          go_wp2
          go_roundw
          case rel => exact ⟨k - 1, ps, di + 1, by go_num, HEND.out⟩
          case measure => simp [intOf]; omega
        · have hnr : nextR (ps.map (·.1)) pp acc = ⟨pp, verP (ps.map (·.1)) pp + 1, acc⟩ := rfl
          obtain ⟨A3, c3, rfl⟩ := hown3.form
          rw [lns_len] at hown3 ⊢
          have hrb : retB (nextR (ps.map (·.1)) pp acc) = true := HA.out.ret ⟨p0, by omega⟩ ⟨by omega, by omega⟩
          have hgs := hgood.snoc hrb ⟨p0, by show pp ≤ 2; omega⟩ rfl (by show acc.length ≤ 3; omega)
          have hgs2 : GoodRs ((ps ++ [(nextR (ps.map (·.1)) pp acc, Value.slice A3 acc.length c3)]).map (·.1)) := by simpa using hgs
          obtain ⟨vv, hvv⟩ : ∃ vv, verP (ps.map (·.1)) pp + 1 = vv := ⟨_, rfl⟩
          obtain ⟨nr, hnn⟩ : ∃ nr, nextR (ps.map (·.1)) pp acc = nr := ⟨_, rfl⟩
          rw [hnn] at hnr hgs2
          rw [hnn]
          rw [hvv] at hnr
          have hnl : nr.l = acc := by rw [hnr]
          have hgv : nr.vals (.slice A3 acc.length c3) = #[.int .i64 pp, .int .i64 vv, .slice A3 acc.length c3] := by rw [hnr]; rfl
          rw [hgv]
          have HGV := Lib.hid hgv
          have HGS := Lib.hid hgs2
          have hlo : Own w3 w.heap.size 56 3 (.slice A3 acc.length c3) (lns nr.l) := by rw [hnl]; exact hown3.more (by have := HL.out.grown.size; omega)
          have HLO := Lib.hid hlo
          have hal := (Below.refl w3.heap.size w3).alloc (Nat.le_refl _) (.cells #[.int .i64 pp, .int .i64 vv, .slice A3 acc.length c3] 25)
          have HX1 := Lib.hid (Row.new w3 25 #[.int .i64 pp, .int .i64 vv, .slice A3 acc.length c3])
          have hwl := HL.out.grown.size
          have hpl : ps.length ≤ 100 := by omega
          clear hgs hgs2 hrb hnr hnl hgv hne hown3 hgood hvv hnn hln hver hlo HA
          obtain ⟨w4, hw4⟩ : ∃ w4, w3.alloc (.cells #[.int .i64 pp, .int .i64 vv, .slice A3 acc.length c3] 25) = w4 := ⟨_, rfl⟩
          rw [hw4] at hal HX1
          obtain ⟨⟨y0, y1, y2, yl⟩, -⟩ := row3 HX1.out
          have hw34 := hal.size
          have HO4 := Lib.hid (HO3.out.kept hal)
          have HLO4 := Lib.hid (HLO.out.kept hal)
          have hG4 := gb_below hG3 hal
          have hd4 := hd3.below hal
          have hb5 : Below w4.heap.size w4 (w4.alloc (.cells #[.int .i64 pp, .int .i64 vv, .slice A3 acc.length c3] 25)) := (Below.refl _ _).alloc (Nat.le_refl _) _
          clear HX1 HO3 HLO hG3 hd3 hal
          have hone : Sl (w4.alloc (.cells #[.int .i64 pp, .int .i64 vv, .slice A3 acc.length c3] 25)) 3 (.slice (some ⟨w4.heap.size, 0, none⟩) 1 1) (rets [(nr, .slice A3 acc.length c3)]) := by
            have : rets [(nr, .slice A3 acc.length c3)] = [[.int .i64 pp, .int .i64 vv, .slice A3 acc.length c3]] := by simp [rets, HGV.out]
            rw [this]; exact Sl.one rfl rfl
          have HONE := Lib.hid hone
          clear hone
          go_wp2_with (at_builtin; refine wpList_append_sl rfl (.tmp 50) (.tmp 52) rfl rowRet w.heap.size _ _ (rets ps) (rets [(nr, .slice A3 acc.length c3)]) rfl (HO4.out.own.alloc _) rfl HONE.out (rets_one _ _ ⟨_, _, _, rfl⟩) (by rw [rets_len, rets_len]; unfold maxLen; simp; omega) (by rw [rets_len, rets_len]; simp; omega) (by have := hb5.size; omega) ?_; intro v6 w6 hown6 hg6 _)
          have hR6 := HO4.out.app hb5 HLO4.out hown6 hg6
          have hlt6 := fun g hg => (HO4.out.own.1.lt g hg).1
          have hG6 := gb_new (gb_below hG4 hb5) hg6 hlt6
          have hd6 := (hd4.below hb5).keep hg6 (fun g hg => Nat.lt_of_lt_of_le hD (hlt6 g hg))
          have HEND : Hid (RgL w D dr n K v6 (k - 1) (ps ++ [(nr, .slice A3 acc.length c3)]) (di + 1) w6) := ⟨by omega, HGS.out, by simp; omega, hR6, hd6, by omega, hG6⟩
          clear hw4 y0 y1 y2 yl hR6 hG6 hd6 hown6 hg6 HL hG4 hd4 HO4 HLO4 HONE hlt6
          go_roundw
          case rel => exact ⟨k - 1, _, di + 1, by go_num, HEND.out⟩
          case measure => simp [intOf]; omega
      have dq : decide (q ≤ 6) = true := decide_eq_true hq
      go_wp2_with fail
      refine (Next_any D di 2 wi HI.out.2.2.1 (by omega) (by omega) (by omega)).mono ?_
      rintro e w2 ⟨s, ⟨s0, s1⟩, rfl, hd2, hg2⟩
      cases hs0 : (s == 0)
      rotate_left
      · have HEND : Hid (GoodA acc (q + 1) ∧ Own w2 wo.heap.size 56 3 _ (lns acc) ∧ Deck w2 D (di + 1) ∧ wo.grownBy w2 (some D)) := ⟨HI.out.1.skip, HI.out.2.1.keepD2 hg2 hDo, hd2, gb_trans HI.out.2.2.2 hg2⟩
        clear HI hd2 hg2
        go_wp2
        go_roundw
        case rel => exact ⟨q + 1, acc, di + 1, ⟨by omega, by omega⟩, by go_num, by omega, HEND.out⟩
        case measure => simp [intOf]; omega
      go_wp2_with fail
      refine (Next_any D (di + 1) 1000 w2 hd2 (by omega) (by omega) (by omega)).mono ?_
      rintro e w3 ⟨a, ⟨a0, a1⟩, rfl, hd3, hg3⟩
      have hG3 := gb_trans (gb_trans HI.out.2.2.2 hg2) hg3
      have HO3 := Lib.hid ((HI.out.2.1.keepD2 hg2 hDo).keepD2 hg3 hDo)
      have HA := Lib.hid HI.out.1
      have hAL := HI.out.1.len
      have HLT := Lib.hid (fun g hg => (HO3.out.1.lt g hg).2)
      clear HI hg2 hg3 hd2
      have hal := (Below.refl w3.heap.size w3).alloc (Nat.le_refl _) (.cells #[.int .i64 q, .string ⟨#[]⟩, .int .i64 (1 + a)] 56)
      have hx4 := Row.new w3 56 #[.int .i64 q, .string ⟨#[]⟩, .int .i64 (1 + a)]
      have hG4 := gb_below hG3 hal
      have hd4 := hd3.below hal
      have HO4 := Lib.hid (HO3.out.kept hal)
      have hw3 := hG3.size
      have hD3 := hd3.lt
      obtain ⟨w4, hw4⟩ : ∃ w4, w3.alloc (.cells #[.int .i64 q, .string ⟨#[]⟩, .int .i64 (1 + a)] 56) = w4 := ⟨_, rfl⟩
      rw [hw4] at hx4 hG4 hd4 HO4
      clear hG3 hd3 HO3 hal
      obtain ⟨⟨y0, y1, y2, yl⟩, ⟨f0, f1, f2⟩⟩ := row3 hx4
      obtain ⟨bx, hbx⟩ : ∃ bx, w3.heap.size = bx := ⟨_, rfl⟩
      rw [hbx] at hx4 y0 y1 y2 yl f0 f1 f2 HLT
      have hbw : wo.heap.size ≤ bx := by omega
      have hbD : bx ≠ D := by omega
      by_cases h6 : q = 6
      · have e6 : (q != 6) = false := by simpa using h6
        obtain ⟨hfo, hfi⟩ := form_line (k := q) (c := ⟨#[]⟩) (a := 1 + a) ⟨q0, hq⟩ (.inl ⟨h6, rfl⟩) ⟨by omega, by omega⟩
        have HGA := Lib.hid (HA.out.snoc (x := ⟨q, ⟨#[]⟩, 1 + a⟩) rfl hfi hfo ⟨by show 1 ≤ 1 + a; omega, by show 1 + a ≤ 1000; omega⟩)
        clear h6 hfo hfi HA
        go_wp2_with (at_builtin; refine wpList_append_sl rfl (.tmp 37) (.tmp 39) rfl rowLn wo.heap.size _ _ (lns acc) [Ln.vals ⟨q, ⟨#[]⟩, 1 + a⟩] rfl (HO4.out.alloc _) rfl (Sl.one rfl rfl) (lns_wide [⟨q, ⟨#[]⟩, 1 + a⟩]) (by rw [lns_len]; unfold maxLen; simp; omega) (by rw [lns_len]; simp; omega) (by have := hG4.size; simp only [World.size_alloc]; omega) ?_; intro v6 w6 hown6 hg6 _)
        have hlt6 := fun g hg => (HO4.out.1.lt g hg).1
        have hG6 := gb_new (gb_alloc hG4 _) hg6 hlt6
        have hd6 := (hd4.below ((Below.refl w4.heap.size w4).alloc (Nat.le_refl _) _)).keep hg6 (fun g hg => Nat.lt_of_lt_of_le hDo (hlt6 g hg))
        have HEND : Hid (GoodA (acc ++ [⟨q, ⟨#[]⟩, 1 + a⟩]) (q + 1) ∧ Own w6 wo.heap.size 56 3 v6 (lns (acc ++ [⟨q, ⟨#[]⟩, 1 + a⟩])) ∧ Deck w6 D (di + 1 + 1) ∧ wo.grownBy w6 (some D)) := ⟨HGA.out, by rw [lns_append]; exact hown6, hd6, hG6⟩
        clear hw4 hbx y0 y1 y2 yl f0 f1 f2 hG6 hd6 hown6 hg6 HL hG4 hd4 HO4 hlt6 hx4
        go_roundw
        case rel => exact ⟨q + 1, _, di + 1 + 1, ⟨by omega, by omega⟩, by go_num, by omega, HEND.out⟩
        case measure => simp [intOf]; omega
      · have e6 : (q != 6) = true := by simpa using h6
        have h6' := Lib.hid h6
        clear h6
        go_wp2_with fail
        refine (Code_any D (di + 1 + 1) w4 hd4 (by omega)).mono ?_
        rintro e w5 ⟨c, hc, rfl, d5, hd5, hK5, hg5⟩
        have hx5 := hx4.keep hg5 (fun e => hbD (Option.some.inj e))
        have hG5 := gb_trans hG4 hg5
        have HO5 := Lib.hid (HO4.out.keepD2 hg5 hDo)
        clear hw4 hx4 hG4 hd4 hg5 HO4 y0 y1 y2 yl f0 f1 f2
        obtain ⟨⟨y0, y1, y2, yl⟩, ⟨f0, f1, f2⟩⟩ := row3 hx5
        have hx6 := hx5.set 1 (.string c)
        have hG6 := gb_set (p := ⟨bx, 1, none⟩) hG5 (.inr hbw) (.string c)
        have hK6 := hK5.keep (gb_set (p := ⟨bx, 1, none⟩) (World.grownBy.refl _ (some bx)) (.inl rfl) (.string c)) (fun g hg => by injection hg; omega)
        have HO6 := Lib.hid (HO5.out.keepG (grown_set w5 bx 1 (.string c)) (own_off HLT.out))
        obtain ⟨hfo, hfi⟩ := form_line (k := q) (c := c) (a := 1 + a) ⟨q0, hq⟩ (.inr ⟨h6'.out, hc⟩) ⟨by omega, by omega⟩
        have HGA := Lib.hid (HA.out.snoc (x := ⟨q, c, 1 + a⟩) rfl hfi hfo ⟨by show 1 ≤ 1 + a; omega, by show 1 + a ≤ 1000; omega⟩)
        clear hx5 hG5 HO5 hK5 hfo hfi HA
        obtain ⟨w6, hw6⟩ : ∃ w6, w5.setCell ⟨bx, 1, none⟩ (.string c) = w6 := ⟨_, rfl⟩
        rw [hw6] at hx6 hG6 hK6 HO6
        obtain ⟨⟨u0, u1, u2, ul⟩, -⟩ := row3 hx6
        go_wp2_with (at_builtin; refine wpList_append_sl rfl (.tmp 37) (.tmp 39) rfl rowLn wo.heap.size _ _ (lns acc) [Ln.vals ⟨q, c, 1 + a⟩] rfl (HO6.out.alloc _) rfl (Sl.one rfl rfl) (lns_wide [⟨q, c, 1 + a⟩]) (by rw [lns_len]; unfold maxLen; simp; omega) (by rw [lns_len]; simp; omega) (by have := hG6.size; simp only [World.size_alloc]; omega) ?_; intro v6 w7 hown6 hg6 _)
        have hlt6 := fun g hg => (HO6.out.1.lt g hg).1
        have hG7 := gb_new (gb_alloc hG6 _) hg6 hlt6
        have hd7 := (hK6.below ((Below.refl w6.heap.size w6).alloc (Nat.le_refl _) _)).keep hg6 (fun g hg => Nat.lt_of_lt_of_le hDo (hlt6 g hg))
        have HEND : Hid (GoodA (acc ++ [⟨q, c, 1 + a⟩]) (q + 1) ∧ Own w7 wo.heap.size 56 3 v6 (lns (acc ++ [⟨q, c, 1 + a⟩])) ∧ Deck w7 D d5 ∧ wo.grownBy w7 (some D)) := ⟨HGA.out, by rw [lns_append]; exact hown6, hd7, hG7⟩
        clear hbx hw6 y0 y1 y2 yl f0 f1 f2 u0 u1 u2 ul hG7 hd7 hown6 hg6 HL hG6 hK6 HO6 hlt6 hx6
        go_roundw
        case rel => exact ⟨q + 1, _, d5, ⟨by omega, by omega⟩, by go_num, by omega, HEND.out⟩
        case measure => simp [intOf]; omega
end Go.Proofs.YtnkephafpebfkaaGreatDoor
/- payrolllaw43.drawn. -/
namespace Go.Proofs.YtnkephafpebfkaaGreatDoor
open Go.RowKit

/-- a valid return has been drawn -/
def DrawnPost (w : World) (D dr : Nat) (e : Ending) (w' : World) : Prop :=
  ∃ (f : Ret) (v : Value) (d : Nat), e = .returned (.agg (f.vals v)) ∧ retB f = true ∧ (0 ≤ f.p ∧ f.p ≤ 2) ∧ (1 ≤ f.v ∧ f.v ≤ 4) ∧ f.l.length ≤ 3 ∧ Own w' w.heap.size 56 3 v (lns f.l) ∧ Deck w' D d ∧ d ≤ dr + 13 ∧ w.grownBy w' (some D)
set_option maxRecDepth 100000 in
set_option maxHeartbeats 4000000 in
theorem drawn_any (D dr : Nat) (w : World) (hd : Deck w D dr) (hdr : dr ≤ 900000) :
    Calls Tryz.prog 10 #[.pointer (some ⟨D, 0, none⟩)] w (DrawnPost w D dr) := by
  have hD := hd.lt
  have hr0 := Row.new w 25 #[.int .i64 0, .int .i64 0, .slice none 0 0]
  have hB0 := (Below.refl w.heap.size w).alloc (Nat.le_refl _) (.cells #[.int .i64 0, .int .i64 0, .slice none 0 0] 25)
  go_enter Tryz.func10, Tryz.ntmps10
  go_wp2_with fail
  obtain ⟨w0, hw0⟩ : ∃ w0, w.alloc (.cells #[.int .i64 0, .int .i64 0, .slice none 0 0] 25) = w0 := ⟨_, rfl⟩
  rw [hw0] at hr0 hB0 ⊢
  obtain ⟨r, hr⟩ : ∃ r, w.heap.size = r := ⟨_, rfl⟩
  rw [hr] at hr0 ⊢
  have hwr : w.heap.size ≤ r := by omega
  have hrD : r ≠ D := by omega
  have hd0 : Deck w0 D dr := by rw [← hw0]; exact hd.below ((Below.refl _ _).alloc (Nat.le_refl _) _)
  have hg0 : w.grownBy w0 (some D) := gb_below (World.grownBy.refl _ _) (by rw [← hw0]; exact (Below.refl _ _).alloc (Nat.le_refl _) _)
  clear hw0 hr hd hB0
  refine (Next_any D dr 3 w0 hd0 (by omega) (by omega) (by omega)).mono ?_
  rintro e w1 ⟨p, ⟨p0, p1⟩, rfl, hd1, hg1⟩
  go_wp2_with fail
  refine (Next_any D (dr + 1) 4 w1 hd1 (by omega) (by omega) (by omega)).mono ?_
  rintro e w2 ⟨u, ⟨u0, u1⟩, rfl, hd2, hg2⟩
  have hr2 := (hr0.keep hg1 (fun e => hrD (Option.some.inj e))).keep hg2 (fun e => hrD (Option.some.inj e))
  have hG2 := gb_trans (gb_trans hg0 hg1) hg2
  clear hr0 hd0 hg0 hd1 hg1 hg2
  have hal := (Below.refl w2.heap.size w2).alloc (Nat.le_refl _) (.cells #[.int .i64 p, .int .i64 (1 + u), .slice none 0 0] 25)
  have hx3 := Row.new w2 25 #[.int .i64 p, .int .i64 (1 + u), .slice none 0 0]
  have hr3 := hr2.below hal hr2.lt
  have hG3 := gb_below hG2 hal
  have hd3 := hd2.below hal
  have hr2l := hr2.lt
  have hw2 := hG2.size
  have hD2 := hd2.lt
  clear hr2 hG2 hd2
  go_wp2_with fail
  obtain ⟨w3, hw3⟩ : ∃ w3, w2.alloc (.cells #[.int .i64 p, .int .i64 (1 + u), .slice none 0 0] 25) = w3 := ⟨_, rfl⟩
  rw [hw3] at hx3 hr3 hG3 hd3 hal ⊢
  obtain ⟨m, hm⟩ : ∃ m, w2.heap.size = m := ⟨_, rfl⟩
  rw [hm] at hx3 ⊢
  have hmr : ¬ m = r := by omega
  have hrm : ¬ r = m := by omega
  have hmD : m ≠ D := by omega
  have hwm : w.heap.size ≤ m := by omega
  clear hw3 hm hal
  refine (Returns_any D (dr + 1 + 1) 1 w3 hd3 (by omega) (by omega)).mono ?_
  rintro e w4 ⟨xv, ps, d4, rfl, hgood, hpl, hown, hd4, hdd, hg4⟩
  have hG4 := gb_trans hG3 hg4
  have hr4 := hr3.keep hg4 (fun e => hrD (Option.some.inj e))
  have hx4 := hx3.keep hg4 (fun e => hmD (Option.some.inj e))
  have hw3 := hG3.size
  have hr3l := hr3.lt
  have hm3l := hx3.lt
  clear hr3 hx3 hg4 hd3
  obtain ⟨A4, c4, rfl⟩ := hown.own.form
  rw [rets_len] at hown ⊢
  obtain ⟨⟨a0, a1, a2, al⟩, ⟨b0, b1, b2⟩⟩ := row3 hr4
  obtain ⟨⟨d0, d1, d2, dl⟩, ⟨f0, f1, f2⟩⟩ := row3 hx4
  have hmk : ∀ l : List Ln, ordB l = true → (∀ y ∈ l, filedB y.kind = true) → l.length ≤ 3 → retB ⟨p, 1 + u, l⟩ = true := fun l h1 h2 h3 =>
    (retB_iff _).2 ⟨p0, by show p ≤ 84005; omega, by show 1 ≤ 1 + u; omega, by show 1 + u ≤ 65536; omega, by show l.length ≤ 256; omega, h2, h1⟩
  have HMK := Lib.hid hmk
  have HGD := Lib.hid hgood
  clear hmk hgood
  by_cases h0 : ps.length = 0
  · obtain rfl : ps = [] := List.eq_nil_of_length_eq_zero h0
    have hS := Row.set3 hr4 (.int .i64 p) (.int .i64 (1 + u)) (.slice none 0 0)
    have HG := Lib.hid (gb_set (p := ⟨r, 2, none⟩) (gb_set (p := ⟨r, 1, none⟩) (gb_set (p := ⟨r, 0, none⟩) hG4 (.inr hwr) (.int .i64 p)) (.inr hwr) (.int .i64 (1 + u))) (.inr hwr) (.slice none 0 0))
    have HK := Lib.hid (hd4.keep (gb_set (p := ⟨r, 2, none⟩) (gb_set (p := ⟨r, 1, none⟩) (gb_set (p := ⟨r, 0, none⟩) (World.grownBy.refl _ (some r)) (.inl rfl) (.int .i64 p)) (.inl rfl) (.int .i64 (1 + u))) (.inl rfl) (.slice none 0 0)) (fun g hg => by injection hg; omega))
    have HR := Lib.hid (row3 hS).1
    simp only [List.length_nil] at hown ⊢
    clear hS hr4 hx4 hown hd4 hG4
    go_wp2
    obtain ⟨z0, z1, z2, -⟩ := HR.out
    refine bodyPost_ret (v := .agg #[.int .i64 p, .int .i64 (1 + u), .slice none 0 0]) (by simp only [results, Tryz.results10, go_sem]; simp [z0, z1, z2, go_sem]) rfl ?_
    exact ⟨⟨p, 1 + u, []⟩, .slice none 0 0, d4, rfl, HMK.out [] rfl (fun y hy => by cases hy) (by simp), ⟨p0, by show p ≤ 2; omega⟩, ⟨by show 1 ≤ 1 + u; omega, by show 1 + u ≤ 4; omega⟩, by simp, Own.nil _ _ _ _, HK.out, by omega, HG.out⟩
  · obtain ⟨q, rfl⟩ : ∃ q, ps = [q] := by
      match ps, h0, hpl with
      | [q], _, _ => exact ⟨q, rfl⟩
      | a :: b :: t, _, h => simp at h
    obtain ⟨x, xv⟩ := q
    simp only [List.length_cons, List.length_nil, Nat.zero_add] at hown ⊢
    have hxg := HGD.out 0 (by simp)
    simp only [List.map_cons, List.map_nil, List.getElem_cons_zero] at hxg
    obtain ⟨hx1, -, -, hx3⟩ := hxg
    have hxo := (retB_iff _).1 hx1
    have hln := hown.ln (x, xv) (by simp)
    simp only at hln
    obtain ⟨Ax, cx, rfl⟩ := hln.form
    rw [lns_len] at hln
    obtain ⟨bk, off, rfl, hc⟩ := hown.at.sl.cells (by simp [rets])
    have hc2 := (hc.ret (k := 0) (by simp)).2.2
    simp only [List.getElem_cons_zero, Nat.zero_mul, Nat.add_zero] at hc2
    rw [lns_len] at hc2
    have hbl := hc.1
    have hcap : 1 ≤ c4 := by
      obtain ⟨A', cap', hv, k1, _⟩ := hown.at.sl
      injection hv with e1 e2 e3
      subst e3
      simpa [rets] using k1
    have HOR := Lib.hid hxo.o
    have HKK := Lib.hid hxo.k
    have hne : ∀ z, z < w3.heap.size → Value.ownBlock (.slice Ax x.l.length cx) ≠ some z := fun z hz e => by have := (hln.1.lt z e).1; omega
    have hx5 := hx4.set 2 (.slice Ax x.l.length cx)
    have hr5 := hr4.far (p := ⟨m, 2, none⟩) (show r ≠ m from hrm) (.slice Ax x.l.length cx)
    have hG5 := gb_set (p := ⟨m, 2, none⟩) hG4 (.inr hwm) (.slice Ax x.l.length cx)
    have hK5 := hd4.keep (gb_set (p := ⟨m, 2, none⟩) (World.grownBy.refl _ (some m)) (.inl rfl) (.slice Ax x.l.length cx)) (fun g hg => by injection hg; omega)
    have hO5 := own_setL hln (hne m hm3l) 2 (.slice Ax x.l.length cx)
    have HR := Lib.hid (row3 (Row.set3 hr5 (.int .i64 p) (.int .i64 (1 + u)) (.slice Ax x.l.length cx))).1
    have HG := Lib.hid (gb_set (p := ⟨r, 2, none⟩) (gb_set (p := ⟨r, 1, none⟩) (gb_set (p := ⟨r, 0, none⟩) hG5 (.inr hwr) (.int .i64 p)) (.inr hwr) (.int .i64 (1 + u))) (.inr hwr) (.slice Ax x.l.length cx))
    have HK := Lib.hid (hK5.keep (gb_set (p := ⟨r, 2, none⟩) (gb_set (p := ⟨r, 1, none⟩) (gb_set (p := ⟨r, 0, none⟩) (World.grownBy.refl _ (some r)) (.inl rfl) (.int .i64 p)) (.inl rfl) (.int .i64 (1 + u))) (.inl rfl) (.slice Ax x.l.length cx)) (fun g hg => by injection hg; omega))
    have HO := Lib.hid ((own_set3 hO5 (hne r hr3l) (.int .i64 p) (.int .i64 (1 + u)) (.slice Ax x.l.length cx)).more hw3)
    clear hx5 hr5 hG5 hK5 hO5 hr4 hx4 hown hd4 hG4 hln hne hc hx1 hxo HGD h0
    go_wp2
    obtain ⟨z0, z1, z2, -⟩ := HR.out
    refine bodyPost_ret (v := .agg #[.int .i64 p, .int .i64 (1 + u), .slice Ax x.l.length cx]) (by simp only [results, Tryz.results10, go_sem]; simp [z0, z1, z2, go_sem]) rfl ?_
    exact ⟨⟨p, 1 + u, x.l⟩, .slice Ax x.l.length cx, d4, rfl, HMK.out x.l HOR.out HKK.out hx3, ⟨p0, by show p ≤ 2; omega⟩, ⟨by show 1 ≤ 1 + u; omega, by show 1 + u ≤ 4; omega⟩, hx3, HO.out, HK.out, by omega, HG.out⟩
end Go.Proofs.YtnkephafpebfkaaGreatDoor
/- The law FilingDecodes: it returns true. -/
namespace Go.Proofs.YtnkephafpebfkaaGreatDoor
open Go.RowKit Go.Shelf

theorem encT_len {f : Ret} (h : retB f = true) : (encT f).length ≤ 20000 := by
  rw [encT, h, if_pos rfl]
  exact ((retB_iff f).1 h).len
theorem decR_len (s : List UInt8) : (decR s).l.length ≤ 256 := by
  by_cases h : decE s = 0
  · exact ((retB_iff _).1 (decE_ok h).2).n
  · rw [decR_no h]; simp
/-- where the loop over the texts stands -/
structure FdS (w : World) (g : Nat) (TX : List ByteArray) (wr : World) : Prop where
  below : Below w.heap.size w wr
  txt : CellsAt wr 1 g 0 (txts TX)
theorem FdS.same {w wr w' : World} {g : Nat} {TX : List ByteArray} (h : FdS w g TX wr) (hb : Below wr.heap.size wr w') : FdS w g TX w' := ⟨below_after h.below hb h.below.size, h.txt.below hb h.txt.1⟩

set_option maxRecDepth 100000 in
set_option maxHeartbeats 4000000 in
theorem FilingDecodes_any (v : Value) (zs : List Int) (raw : ByteArray) (w : World) (hT : Tabs w) (hE : Errs w) (hv : Sl w 1 v (ints zs)) :
    Calls Tryz.prog 4 #[v, .string raw] w fun e w' => e = .returned (.bool true) ∧ Below w.heap.size w w' := by
  have HT := Lib.hid hT
  have HER := Lib.hid hE
  have HN := Lib.hid (new_any v zs w hv)
  obtain ⟨A0, c0, rfl, -⟩ := hv
  clear hT hE
  by_cases hr : 1000 < raw.size
  · have i1 : decide ((1000 : Int) < (raw.size : Int)) = true := by simp; omega
    clear HN
    go_enter Tryz.func4, Tryz.ntmps4
    go_wp2_with fail
    refine (awake_any w HT.out HER.out).mono ?_
    rintro e w9 ⟨rfl, hb9⟩
    go_wp2
    go_ret
    exact ⟨rfl, hb9⟩
  have i1 : decide ((1000 : Int) < (raw.size : Int)) = false := by simp; omega
  go_enter Tryz.func4, Tryz.ntmps4
  go_wp2_with fail
  refine HN.out.mono ?_
  rintro e w1 ⟨rfl, hd1, hb1⟩
  clear HN i1
  go_wp2_with fail
  refine (drawn_any w.heap.size 0 w1 hd1 (by omega)).mono ?_
  rintro e w2 ⟨f, v2, dr2, rfl, hG, hfp, hfv, hfl, hown2, hd2, hdr2, hg2⟩
  have hB2 := below_map hb1 hg2 (Nat.le_refl _)
  obtain ⟨A2, c2, rfl⟩ := hown2.form
  rw [lns_len] at hown2 ⊢
  have hgv : f.vals (.slice A2 f.l.length c2) = #[.int .i64 f.p, .int .i64 f.v, .slice A2 f.l.length c2] := rfl
  rw [hgv]
  have HEN : Hid (Calls Tryz.prog 14 #[.agg #[.int .i64 f.p, .int .i64 f.v, .slice A2 f.l.length c2]] w2 fun e w' => e = .returned (.tuple #[.string (bsOf (encT f)), .int .i64 (encE f)]) ∧ Below w2.heap.size w2 w') := refEncodeR_any f _ w2 (hown2.sl (by omega))
  obtain ⟨tx, htx⟩ : ∃ tx : ByteArray, bsOf (encT f) = tx := ⟨_, rfl⟩
  obtain ⟨ef, hef⟩ : ∃ ef, encE f = ef := ⟨_, rfl⟩
  have htz : tx.size ≤ 20000 := by
    have := encT_len hG
    rw [← htx, bsOf_size]; exact this
  rw [htx, hef] at HEN
  clear hgv htx hef hown2 hb1 hd1 hg2
  go_wp2_with fail
  refine HEN.out.mono ?_
  rintro e w3 ⟨rfl, hb3⟩
  have hB3 := below_after hB2 hb3 hB2.size
  have hD3 := hd2.below hb3
  clear hb3 hB2 hd2 HEN
  go_wp2_with fail
  refine (Damage_any w.heap.size dr2 tx w3 hD3 (by omega) (by omega)).mono ?_
  rintro e w4 ⟨t, rfl, htz2, dr3, hdr3, hd4, hg4⟩
  have hB4 := below_map hB3 hg4 (Nat.le_refl _)
  clear hd4 hg4 hB3 hD3
  have hcat : (tx ++ raw).size = tx.size + raw.size := ByteArray.size_append
  have hct := cellsAt_txts w4 9 [tx, t, raw, tx ++ raw]
  simp only [List.map_cons, List.map_nil] at hct
  have hal := (Below.refl w4.heap.size w4).alloc (Nat.le_refl _) (.cells #[.string tx, .string t, .string raw, .string (tx ++ raw)] 9)
  have hB5 := below_after hB4 hal hB4.size
  go_wp2_with fail
  obtain ⟨w5, hw5⟩ : ∃ w5, w4.alloc (.cells #[.string tx, .string t, .string raw, .string (tx ++ raw)] 9) = w5 := ⟨_, rfl⟩
  rw [hw5] at hct hB5 ⊢
  obtain ⟨g, hg⟩ : ∃ g, w4.heap.size = g := ⟨_, rfl⟩
  rw [hg] at hct ⊢
  obtain ⟨TX, hTX⟩ : ∃ TX : List ByteArray, [tx, t, raw, tx ++ raw] = TX := ⟨_, rfl⟩
  have HL4 : Hid (TX.length = 4) := by rw [Hid, ← hTX]; rfl
  have HZ : Hid (∀ s ∈ TX, s.size ≤ 100000) := fun s hs => by
    rw [← hTX] at hs
    simp only [List.mem_cons, List.not_mem_nil, or_false] at hs
    rcases hs with rfl | rfl | rfl | rfl <;> omega
  rw [hTX] at hct
  have HS0 : Hid (FdS w g TX w5) := ⟨hB5, hct⟩
  clear hTX hcat hct hal hB5 hB4 hw5 hg
  go_loopw [9] (fun i wr => ∃ k : Nat, k ≤ 4 ∧ i = .int .i64 k ∧ Hid (FdS w g TX wr)) (fun i _ => 4 - (intOf i).toNat)
  case atStart => exact ⟨0, by omega, rfl, HS0⟩
  case round =>
    clear HS0
    obtain ⟨k, hk, rfl, HS⟩ := hrel
    obtain ⟨wo, rfl⟩ : ∃ wo : World, wo = wr := ⟨_, rfl⟩
    by_cases hlt : k < 4
    · have hl' : k < TX.length := by rw [HL4.out]; exact hlt
      have d0 := HS.out.txt.txt hl'
      have hbl := HS.out.txt.1
      have hsz := HZ.out _ (List.getElem_mem hl')
      rw [Nat.zero_add] at d0
      obtain ⟨s, hs⟩ : ∃ s, TX[k] = s := ⟨_, rfl⟩
      rw [hs] at d0 hsz
      have HK := Lib.hid hl'
      have i1 : (k : Int) < 4 := by omega
      have HD1 := Lib.hid (DecodeR_any s wo (HT.out.below HS.out.below) (HER.out.below HS.out.below))
      obtain ⟨F, hF⟩ : ∃ F, decR s.data.toList = F := ⟨_, rfl⟩
      have HFL : Hid (F.l.length ≤ 256) := by rw [Hid, ← hF]; exact decR_len _
      obtain ⟨er, her⟩ : ∃ er, decE s.data.toList = er := ⟨_, rfl⟩
      have HFE := Lib.hid (And.intro hF her)
      rw [hF, her] at HD1
      clear hs hl' hF her
      go_wp2_with fail
      refine HD1.out.mono ?_
      rintro e wa ⟨va, rfl, howna, hba⟩
      have hSa := HS.out.same hba
      have hsla := howna.sl (by omega)
      obtain ⟨Aa, ca, rfl⟩ := howna.form
      rw [lns_len] at hsla ⊢
      have hgv : F.vals (.slice Aa F.l.length ca) = #[.int .i64 F.p, .int .i64 F.v, .slice Aa F.l.length ca] := rfl
      rw [hgv]
      have hal := (Below.refl wa.heap.size wa).alloc (Nat.le_refl _) (.cells #[.int .i64 F.p, .int .i64 F.v, .slice Aa F.l.length ca] 25)
      have hX := Row.new wa 25 #[.int .i64 F.p, .int .i64 F.v, .slice Aa F.l.length ca]
      have hSb := hSa.same hal
      have hslb := hsla.below hal
      have d1 := (hSb.txt.txt HK.out)
      have HKE : Hid (TX[k]'HK.out = s) := by
        have h1 := HS.out.txt.txt HK.out
        rw [Nat.zero_add] at h1
        rw [d0] at h1
        injection h1 with h1
        injection h1 with h1
        exact h1.symm
      rw [HKE.out, Nat.zero_add] at d1
      have hbl1 := hSb.txt.1
      clear d0 hbl hgv hba howna hSa hsla HD1 HS
      go_wp2_with fail
      obtain ⟨wb, hwb⟩ : ∃ wb, wa.alloc (.cells #[.int .i64 F.p, .int .i64 F.v, .slice Aa F.l.length ca] 25) = wb := ⟨_, rfl⟩
      rw [hwb] at hX hSb hslb hal ⊢
      obtain ⟨x, hx⟩ : ∃ x, wa.heap.size = x := ⟨_, rfl⟩
      rw [hx] at hX ⊢
      clear hwb hx hal d1 hbl1
      have HD2 := Lib.hid (refDecodeR_any s wb (by omega))
      rw [HFE.out.1, HFE.out.2] at HD2
      refine HD2.out.mono ?_
      rintro e wc ⟨vc, rfl, hownc, hbc⟩
      have hSc := hSb.same hbc
      have hXc := hX.below hbc hX.lt
      have hslbc := hslb.below hbc
      have hslc := hownc.sl (by omega)
      obtain ⟨Ac, cc, rfl⟩ := hownc.form
      rw [lns_len] at hslc ⊢
      have hgv : F.vals (.slice Ac F.l.length cc) = #[.int .i64 F.p, .int .i64 F.v, .slice Ac F.l.length cc] := rfl
      rw [hgv]
      have hal := (Below.refl wc.heap.size wc).alloc (Nat.le_refl _) (.cells #[.int .i64 F.p, .int .i64 F.v, .slice Ac F.l.length cc] 25)
      have hY := Row.new wc 25 #[.int .i64 F.p, .int .i64 F.v, .slice Ac F.l.length cc]
      have hXd := hXc.below hal hXc.lt
      have hSd := hSc.same hal
      have hs1 := hslbc.below hal
      have hs2 := hslc.below hal
      obtain ⟨wd, hwd⟩ : ∃ wd, wc.alloc (.cells #[.int .i64 F.p, .int .i64 F.v, .slice Ac F.l.length cc] 25) = wd := ⟨_, rfl⟩
      rw [hwd] at hY hXd hSd hs1 hs2
      have hfl4 := HFL.out
      have HSM : Hid (Calls Tryz.prog 20 #[.agg #[.int .i64 F.p, .int .i64 F.v, .slice Aa F.l.length ca], .agg #[.int .i64 F.p, .int .i64 F.v, .slice Ac F.l.length cc]] wd (SameP wd true)) := by
        have := SameR_any F F (.slice Aa F.l.length ca) (.slice Ac F.l.length cc) wd hs1 hs2 (by omega) (by omega)
        rw [decide_eq_true rfl] at this
        exact this
      have HSD := Lib.hid hSd
      obtain ⟨⟨x0, x1, x2, xl⟩, -⟩ := row3 hXd
      obtain ⟨⟨y0, y1, y2, yl⟩, -⟩ := row3 hY
      clear hgv hal hX hSb hslb hbc hownc hSc hXc hslbc hslc hY hXd hSd hs1 hs2 HD2 HFE hfl4
      go_wp2_with fail
      refine HSM.out.mono ?_
      rintro e we ⟨rfl, hbe⟩
      have HSE := Lib.hid (HSD.out.same hbe)
      clear hwd x0 x1 x2 xl y0 y1 y2 yl hbe HSM HSD
      go_wp2
      go_roundw
      case rel => exact ⟨k + 1, by omega, by go_num, HSE⟩
      case measure => simp [intOf]; omega
    · obtain rfl : k = 4 := by omega
      have hB := HS.out.below
      clear HS
      go_wp2_with fail
      refine (awake_any wo (HT.out.below hB) (HER.out.below hB)).mono ?_
      rintro e w9 ⟨rfl, hb9⟩
      have hB11 := below_after hB hb9 hB.size
      clear hb9 hB
      go_wp2
      go_ret
      exact ⟨rfl, hB11⟩
end Go.Proofs.YtnkephafpebfkaaGreatDoor
namespace Go.Proofs.YtnkephafpebfkaaGreatDoor.lawDecodes
open Go.ChangeShapes Go.WideShapes Go.ChangeAt Go.RowKit Go.Proofs.YtnkephafpebfkaaGreatDoor

theorem own : ownKnob Tryz.prog.godebug = none := by kernel_rfl
theorem laidOut : laidOutB Tryz.prog = true := by kernel_rfl

set_option maxRecDepth 100000 in
theorem lifted (os : Os) (started : os.Started) (H : Type) (enc : TypeId × Value → H) :
    ReturnsInHanded {} Tryz.checked os 4 .any (fun w args => (Rows.filingDecodesSpec.pre enc Tryz.prog Tryz.f4 [] false w args ∧ laidMetH Tryz.prog laidL w) ∧ sizedMet enc Tryz.prog Tryz.f4 (OpenSpec.ofChange Rows.filingDecodesSpec) false w args)
      (Rows.filingDecodesSpec.post enc Tryz.prog Tryz.f4 false true false false) := by
  refine returnsInHanded_of_change_and (C := Tryz.checked) (X := fun w _ => laidMetH Tryz.prog laidL w) (fun _ _ _ hh h => h.of_heap hh) own started (by kernel_rfl) Tryz.func4
    (ChangeSpec.witness_shaped (enc := enc) (C := Tryz.checked) (os := os) (X := fun w _ => laidMetH Tryz.prog laidL w) false (World.laidAll Tryz.prog os laidL) #[.slice none 0 0, .string ⟨#[]⟩] 8 (World.laidAll_os _ _ _) (door_shaped os) (by kernel_rfl) (by kernel_rfl) (by kernel_rfl) (door_met os _)) ?_
  intro W base args ds gs before hval0 hW _ hwt hL _
  have hval : ∀ (j : Nat) t v, Tryz.f4.params[j]? = some t → args[j]? = some v → Value.okWide Tryz.prog W .any base t v := hval0
  have hW' := hW
  obtain ⟨p, q, hA0, hV, rfl, hfz, hnd⟩ := hW
  have hA : DataW.TrodAll enc Tryz.prog W 0 (fun _ => true) true Tryz.f4.params.toList args.toList ds p := hA0
  rw [Tryz.params4] at hA hval
  obtain ⟨v0, vs0, d0, ds0, p0, q0, hargs, rfl, rfl, h0, r0⟩ := trodAll_cons hA
  obtain ⟨v1, vs1, d1, ds1, p1, q1, rfl, rfl, rfl, h1, r1⟩ := trodAll_cons r0
  obtain ⟨rfl, rfl, rfl⟩ := trodAll_nil r1
  obtain rfl : args = #[v0, v1] := by cases args; simp_all
  obtain ⟨rfl, rfl⟩ := trodVars_none hV
  obtain ⟨l0, s0⟩ := open_intsL (hval 0 22 v0 rfl rfl) h0
  obtain ⟨s1, rfl, rfl, rfl, z1⟩ := Go.ChangeMaps.open_string Tryz.underlying9 (hval 1 9 v1 rfl rfl) h1
  obtain ⟨hT, hWd⟩ := of_laid hL
  refine (FilingDecodes_any v0 l0 s1 W hT hWd s0).mono fun e W' ⟨he, hg⟩ => ?_
  subst he
  exact ⟨_, rfl, law_post laidOut rfl rfl Tryz.underlying4 (by decide +kernel) ⟨rfl, rfl, rfl⟩ hW' hg⟩

theorem over : Rows.FilingDecodesSaid :=
  OpenClaim.holds_of_wide 4 Tryz.f4 rfl rfl rfl rfl rfl rfl rfl ⟨rfl, rfl, rfl, rfl, rfl⟩ rfl rfl rfl rfl rfl (by kernel_rfl) Tryz.func4 (by kernel_rfl)
    (of_decide_eq_true (by kernel_rfl)) (by unfold Func.isWrapper; first | (rw [if_pos (by decide +kernel)]; kernel_rfl) | (rw [if_neg (by decide +kernel)]; exact ⟨rfl, rfl⟩))
    (fun os started H enc _ => lifted os started H enc)

/-- THE STATEMENT -/
theorem proved : Rows.FilingDecodesCardSaid :=
  Claim7.holds_tied_plain_at .later [] [.data, .data, .data, .data, .sentinel, .sentinel, .pinned] true (true, "c694d0e3ba76aa5e8513c0435f946f51914e1633ef7e9c66421ef11c968e0b07") true
    over (fun _ h => by cases h) (by kernel_rfl) (fun _ h => by cases h) filingDecodes_row_tie rfl ⟨rfl, rfl⟩ (by kernel_rfl) rfl
    (fun f fn hf hfn => by
      obtain rfl : f = 4 := Option.some.inj ((show Tryz.prog.funcNamed "payroll/payrolllaw43.FilingDecodes" = some 4 by kernel_rfl).symm.trans hf) |>.symm
      obtain rfl : fn = Tryz.f4 := (Option.some.inj (Tryz.func4.symm.trans hfn)).symm
      exact ⟨by kernel_rfl, fun j t ht => by
        rw [Tryz.params4] at ht
        have hm : t ∈ [22, 9] := by simpa using Array.mem_of_getElem? ht
        have hall : ([22, 9].all fun u => !Tryz.prog.wantsStandIn u) = true := by kernel_rfl
        exact (show Tryz.prog.wantsStandIn t = false by simpa using List.all_eq_true.1 hall t hm)⟩)
    (by kernel_rfl)
end Go.Proofs.YtnkephafpebfkaaGreatDoor.lawDecodes
