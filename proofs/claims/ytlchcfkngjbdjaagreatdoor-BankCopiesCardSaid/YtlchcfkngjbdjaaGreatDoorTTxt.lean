/- The texts of payment files: no program in sight. -/
import Derived.Test.YtlchcfkngjbdjaaGreatDoorLinT
import Derived.Test.YtlchcfkngjbdjaaGreatDoorTPay
namespace Go.Proofs.YtlchcfkngjbdjaaGreatDoor

def wFile : List UInt8 := [102, 105, 108, 101]
def wDay : List UInt8 := [100, 97, 121]
def wPay : List UInt8 := [112, 97, 121]
def wTotal : List UInt8 := [116, 111, 116, 97, 108]
def wEnd : List UInt8 := [101, 110, 100]
def pHead : List (List UInt8) := [wFile, [], wDay, []]
def pPay : List (List UInt8) := [wPay, [], []]
def pTotal : List (List UInt8) := [wTotal, [], [], []]
def headL (n d : Int) : List UInt8 := lineP pHead [n, d]
def payL (p : Pay) : List UInt8 := lineP pPay [p.e, p.a]
def totL (c : Ctl) : List UInt8 := lineP pTotal [c.c, c.s, c.h]
/-- the lines of a file with control totals -/
def fileL (f : Fil) (c : Ctl) : List (List UInt8) := headL f.n f.d :: f.l.map payL ++ [totL c, wEnd]
def fileT (f : Fil) (c : Ctl) : List UInt8 := ((fileL f c).map (· ++ [10])).flatten
/-- the text of a file -/
def encT (f : Fil) : List UInt8 := if filB f then fileT f (ofC f.l) else []
def encE (f : Fil) : Int := if filB f then 0 else 1
def paysT (l : List Pay) : List UInt8 := (l.map fun p => payL p ++ [10]).flatten
theorem paysT_snoc {l : List Pay} {k : Nat} (h : k < l.length) : paysT (l.take (k + 1)) = paysT (l.take k) ++ (payL l[k] ++ [10]) := by
  unfold paysT
  rw [List.take_succ_eq_append_getElem h, List.map_append, List.flatten_append]; simp
theorem fileT_eq (f : Fil) (c : Ctl) : fileT f c = headL f.n f.d ++ [10] ++ paysT f.l ++ (totL c ++ [10]) ++ (wEnd ++ [10]) := by
  simp [fileT, fileL, paysT, Function.comp_def]
theorem fill_head (n d : Int) : fillP pHead [n, d] = [wFile, Lib.itoa n, wDay, Lib.itoa d] := rfl
theorem fill_pay (e a : Int) : fillP pPay [e, a] = [wPay, Lib.itoa e, Lib.itoa a] := rfl
theorem fill_total (c s h : Int) : fillP pTotal [c, s, h] = [wTotal, Lib.itoa c, Lib.itoa s, Lib.itoa h] := rfl
theorem free_words : (∀ p ∈ pHead, (32 : UInt8) ∉ p) ∧ (∀ p ∈ pPay, (32 : UInt8) ∉ p) ∧ (∀ p ∈ pTotal, (32 : UInt8) ∉ p) ∧ (∀ p ∈ pHead, (10 : UInt8) ∉ p) ∧ (∀ p ∈ pPay, (10 : UInt8) ∉ p) ∧ (∀ p ∈ pTotal, (10 : UInt8) ∉ p) := by decide
theorem lines_free (f : Fil) (c : Ctl) : ∀ a ∈ fileL f c, (10 : UInt8) ∉ a := fun a ha => by
  obtain ⟨_, _, _, h1, h2, h3⟩ := free_words
  rcases List.mem_append.1 ha with ha | ha
  · rcases List.mem_cons.1 ha with rfl | ha
    · exact lineP_free h1 _
    · obtain ⟨p, _, rfl⟩ := List.mem_map.1 ha
      exact lineP_free h2 _
  · rcases List.mem_cons.1 ha with rfl | ha
    · exact lineP_free h3 _
    · rw [List.mem_singleton.1 ha]; decide

/-- what parse reads -/
def readPays : List (List UInt8) → Option (List Pay)
  | [] => some []
  | a :: r => match readL pPay a with
    | some [e, x] => (match readPays r with
      | some l => some (⟨e, x⟩ :: l)
      | none => none)
    | _ => none
def okPay (p : Pay) : Prop := okN p.e ∧ okN p.a
theorem readL_pay {a : List UInt8} {ns : List Int} : readL pPay a = some ns ↔ ∃ e x, ns = [e, x] ∧ a = payL ⟨e, x⟩ ∧ okN e ∧ okN x := by
  rw [readL_iff (by decide) free_words.2.1]
  constructor
  · rintro ⟨h1, h2, h3⟩
    match ns, h2 with
    | [e, x], _ => exact ⟨e, x, rfl, h1, h3 e (by simp), h3 x (by simp)⟩
  · rintro ⟨e, x, rfl, h1, h2, h3⟩
    exact ⟨h1, rfl, by simp; exact ⟨h2, h3⟩⟩
theorem readL_head {a : List UInt8} {ns : List Int} : readL pHead a = some ns ↔ ∃ n d, ns = [n, d] ∧ a = headL n d ∧ okN n ∧ okN d := by
  rw [readL_iff (by decide) free_words.1]
  constructor
  · rintro ⟨h1, h2, h3⟩
    match ns, h2 with
    | [e, x], _ => exact ⟨e, x, rfl, h1, h3 e (by simp), h3 x (by simp)⟩
  · rintro ⟨e, x, rfl, h1, h2, h3⟩
    exact ⟨h1, rfl, by simp; exact ⟨h2, h3⟩⟩
theorem readL_total {a : List UInt8} {ns : List Int} : readL pTotal a = some ns ↔ ∃ c s h, ns = [c, s, h] ∧ a = totL ⟨c, s, h⟩ ∧ okN c ∧ okN s ∧ okN h := by
  rw [readL_iff (by decide) free_words.2.2.1]
  constructor
  · rintro ⟨h1, h2, h3⟩
    match ns, h2 with
    | [c, s, h], _ => exact ⟨c, s, h, rfl, h1, h3 c (by simp), h3 s (by simp), h3 h (by simp)⟩
  · rintro ⟨c, s, h, rfl, h1, h2, h3, h4⟩
    exact ⟨h1, rfl, by simp; exact ⟨h2, h3, h4⟩⟩
theorem readPays_iff : ∀ {ls : List (List UInt8)} {l : List Pay}, readPays ls = some l ↔ ls = l.map payL ∧ ∀ p ∈ l, okPay p
  | [], l => by
    simp only [readPays, Option.some.injEq]
    constructor
    · rintro rfl; simp
    · rintro ⟨h, _⟩; simpa using h.symm
  | a :: r, l => by
    have ih := fun l => readPays_iff (ls := r) (l := l)
    unfold readPays
    cases ha : readL pPay a with
    | none =>
      simp only [reduceCtorEq, false_iff]
      rintro ⟨h1, h2⟩
      cases l with
      | nil => simp at h1
      | cons p l =>
        simp only [List.map_cons, List.cons.injEq] at h1
        have hp := h2 p (by simp)
        have := readL_pay.2 ⟨p.e, p.a, rfl, h1.1, hp.1, hp.2⟩
        rw [ha] at this; cases this
    | some ns =>
      obtain ⟨e, x, rfl, h1, h2, h3⟩ := readL_pay.1 ha
      simp only
      cases hr : readPays r with
      | none =>
        simp only [reduceCtorEq, false_iff]
        rintro ⟨k1, k2⟩
        cases l with
        | nil => simp at k1
        | cons p l =>
          simp only [List.map_cons, List.cons.injEq] at k1
          have := (ih l).2 ⟨k1.2, fun q hq => k2 q (by simp [hq])⟩
          rw [hr] at this; cases this
      | some m =>
        obtain ⟨q1, q2⟩ := (ih m).1 hr
        simp only [Option.some.injEq]
        constructor
        · rintro rfl
          refine ⟨by rw [List.map_cons, h1, q1], fun p hp => ?_⟩
          rcases List.mem_cons.1 hp with rfl | hp
          · exact ⟨h2, h3⟩
          · exact q2 p hp
        · rintro ⟨k1, k2⟩
          cases l with
          | nil => simp at k1
          | cons p l =>
            simp only [List.map_cons, List.cons.injEq] at k1
            have hp := k2 p (by simp)
            have e1 := readL_pay.2 ⟨p.e, p.a, rfl, k1.1, hp.1, hp.2⟩
            rw [ha] at e1
            have e2 := (ih l).2 ⟨k1.2, fun q hq => k2 q (by simp [hq])⟩
            rw [hr] at e2
            simp only [Option.some.injEq, List.cons.injEq, and_true] at e1 e2
            obtain ⟨pe, pa⟩ := p
            simp only at e1
            rw [e1.1, e1.2, e2]
/-- the file and the control totals of a text -/
def parseF (s : List UInt8) : Option (Fil × Ctl) :=
  if Lib.hasSuffix s [10] then
    (let ls := splitBy 10 (Lib.trimSuffix s [10])
     if 3 ≤ ls.length ∧ ls[ls.length - 1]? = some wEnd then
       match readL pHead (ls.getD 0 []) with
       | some [n, d] => (match readL pTotal (ls.getD (ls.length - 2) []) with
         | some [c, t, h] => (match readPays ((ls.drop 1).take (ls.length - 3)) with
           | some l => some (⟨n, d, l⟩, ⟨c, t, h⟩)
           | none => none)
         | _ => none)
       | _ => none
     else none)
  else none
theorem parts3 {α : Type} (d : α) {ls : List α} (h : 3 ≤ ls.length) : ls = ls.getD 0 d :: ((ls.drop 1).take (ls.length - 3) ++ [ls.getD (ls.length - 2) d, ls.getD (ls.length - 1) d]) := by
  have hl : ((ls.drop 1).take (ls.length - 3)).length = ls.length - 3 := by simp; omega
  apply List.ext_getElem?
  intro i
  match i with
  | 0 => simp [List.getD, List.getElem?_eq_getElem (show 0 < ls.length by omega)]
  | i + 1 =>
    rw [List.getElem?_cons_succ]
    by_cases h1 : i < ls.length - 3
    · rw [List.getElem?_append_left (by omega), List.getElem?_take, if_pos h1, List.getElem?_drop]
      congr 1; omega
    · rw [List.getElem?_append_right (by omega), hl]
      by_cases h2 : i = ls.length - 3
      · have e1 : i - (ls.length - 3) = 0 := by omega
        have e2 : i + 1 = ls.length - 2 := by omega
        rw [e1, e2]
        simp [List.getD, List.getElem?_eq_getElem (show ls.length - 2 < ls.length by omega)]
      · by_cases h3 : i = ls.length - 2
        · have e1 : i - (ls.length - 3) = 1 := by omega
          have e2 : i + 1 = ls.length - 1 := by omega
          rw [e1, e2]
          simp [List.getD, List.getElem?_eq_getElem (show ls.length - 1 < ls.length by omega)]
        · rw [List.getElem?_eq_none (by omega), List.getElem?_eq_none (by simp; omega)]
theorem suffix_iff {s : List UInt8} : Lib.hasSuffix s [10] = true ↔ ∃ b, s = b ++ [10] := by
  unfold Lib.hasSuffix
  rw [List.isSuffixOf_iff_suffix]
  constructor
  · rintro ⟨b, h⟩; exact ⟨b, h.symm⟩
  · rintro ⟨b, h⟩; exact ⟨b, h.symm⟩
theorem trim_app (b : List UInt8) : Lib.trimSuffix (b ++ [10]) [10] = b := by
  rw [Lib.trimSuffix, if_pos (suffix_iff.2 ⟨b, rfl⟩)]
  simp
def okFC (f : Fil) (c : Ctl) : Prop := okN f.n ∧ okN f.d ∧ (∀ p ∈ f.l, okPay p) ∧ okN c.c ∧ okN c.s ∧ okN c.h
theorem fileL_ne (f : Fil) (c : Ctl) : fileL f c ≠ [] := by simp [fileL]
theorem fileT_join (f : Fil) (c : Ctl) : fileT f c = joinBy 10 (fileL f c) ++ [10] := (join_ended (fileL_ne f c)).symm
theorem parseF_iff {s : List UInt8} {f : Fil} {c : Ctl} : parseF s = some (f, c) ↔ s = fileT f c ∧ okFC f c := by
  constructor
  · intro h
    unfold parseF at h
    split at h
    · rename_i hs
      obtain ⟨b, rfl⟩ := suffix_iff.1 hs
      simp only [trim_app] at h
      obtain ⟨ls, hls⟩ : ∃ ls, splitBy 10 b = ls := ⟨_, rfl⟩
      rw [hls] at h
      split at h
      · rename_i hc
        split at h
        · rename_i n d h1
          split at h
          · rename_i x t y h2
            split at h
            · rename_i l h3
              simp only [Option.some.injEq, Prod.mk.injEq] at h
              obtain ⟨rfl, rfl⟩ := h
              obtain ⟨n', d', e1, e2, k1, k2⟩ := readL_head.1 h1
              obtain ⟨c', t', y', e3, e4, k3, k4, k5⟩ := readL_total.1 h2
              obtain ⟨e5, k6⟩ := readPays_iff.1 h3
              simp only [List.cons.injEq, and_true] at e1 e3
              obtain ⟨rfl, rfl⟩ := e1
              obtain ⟨rfl, rfl, rfl⟩ := e3
              refine ⟨?_, k1, k2, k6, k3, k4, k5⟩
              have hp := parts3 [] hc.1
              have e6 : ls.getD (ls.length - 1) [] = wEnd := by rw [List.getD, hc.2]; rfl
              rw [e2, e4, e5, e6] at hp
              rw [fileT_join, ← join_split 10 b, hls, hp]
              simp [fileL]
            · cases h
          · cases h
        · cases h
      · cases h
    · cases h
  · rintro ⟨rfl, k1, k2, k6, k3, k4, k5⟩
    obtain ⟨n, d, l⟩ := f
    obtain ⟨c, t, y⟩ := c
    unfold parseF
    rw [fileT_join, if_pos (suffix_iff.2 ⟨_, rfl⟩)]
    simp only [trim_app]
    rw [split_join (fileL_ne _ _) (lines_free _ _)]
    have hl : (fileL ⟨n, d, l⟩ ⟨c, t, y⟩).length = l.length + 3 := by simp [fileL]
    have g0 : (fileL ⟨n, d, l⟩ ⟨c, t, y⟩).getD 0 [] = headL n d := by simp [fileL]
    have g1 : (fileL ⟨n, d, l⟩ ⟨c, t, y⟩)[l.length + 3 - 1]? = some wEnd := by
      simp [fileL]
    have g2 : (fileL ⟨n, d, l⟩ ⟨c, t, y⟩).getD (l.length + 3 - 2) [] = totL ⟨c, t, y⟩ := by
      simp [fileL]
    have g3 : ((fileL ⟨n, d, l⟩ ⟨c, t, y⟩).drop 1).take (l.length + 3 - 3) = l.map payL := by
      simp [fileL]
    rw [hl, if_pos ⟨by omega, g1⟩, g0, g2, g3, readL_head.2 ⟨n, d, rfl, rfl, k1, k2⟩]
    simp only
    rw [readL_total.2 ⟨c, t, y, rfl, rfl, k3, k4, k5⟩]
    simp only
    rw [readPays_iff.2 ⟨rfl, k6⟩]
/-- what Decode returns -/
def decE (s : List UInt8) : Int := if 262144 < s.length then 3 else
  match parseF s with
  | some (f, c) => if filB f then checkE f.l c else 6
  | none => 6
def decF (s : List UInt8) : Fil := if decE s = 0 then (match parseF s with | some (f, _) => f | none => ⟨0, 0, []⟩) else ⟨0, 0, []⟩
theorem decE_ok {s : List UInt8} : decE s = 0 ↔ s.length ≤ 262144 ∧ ∃ f, s = fileT f (ofC f.l) ∧ filB f = true ∧ decF s = f := by
  constructor
  · intro h
    have h0 := h
    unfold decE at h
    split at h
    · cases h
    · split at h
      · rename_i f c hp
        split at h
        · rename_i hf
          have he := filB_of hf
          unfold checkE at h
          rw [he.2.2.2.2.2.2.1, if_pos rfl] at h
          split at h
          · rename_i hc
            refine ⟨by omega, f, ?_, hf, ?_⟩
            · rw [hc]; exact (parseF_iff.1 hp).1
            · rw [decF, if_pos h0, hp]
          · cases h
        · cases h
      · cases h
  · rintro ⟨hl, f, hs, hf, _⟩
    have he := filB_of hf
    have hb := sum_bounds he.2.2.2.2.2.1
    have hp : parseF s = some (f, ofC f.l) := parseF_iff.2 ⟨hs, by
      refine ⟨⟨by omega, by omega⟩, ⟨by omega, by omega⟩, fun p hp => ?_, ?_⟩
      · have := he.2.2.2.2.2.1 p hp
        unfold payV at this
        exact ⟨⟨by omega, by omega⟩, ⟨by omega, by omega⟩⟩
      · rw [he.2.2.2.2.2.2.2]
        refine ⟨⟨by simp only; omega, by simp only; omega⟩, ⟨by simp only; omega, by simp only; omega⟩, ⟨by simp only; omega, by simp only; omega⟩⟩⟩
    rw [decE, if_neg (by omega), hp]
    simp only [hf, if_true]
    rw [checkE, he.2.2.2.2.2.2.1, if_pos rfl, if_pos rfl]
theorem decF_of {f : Fil} (hf : filB f = true) (hl : (fileT f (ofC f.l)).length ≤ 262144) : decE (encT f) = 0 ∧ decF (encT f) = f := by
  have h1 : encT f = fileT f (ofC f.l) := by rw [encT, if_pos hf]
  rw [h1]
  have he := filB_of hf
  have hb := sum_bounds he.2.2.2.2.2.1
  have hp : parseF (fileT f (ofC f.l)) = some (f, ofC f.l) := parseF_iff.2 ⟨rfl, by
    refine ⟨⟨by omega, by omega⟩, ⟨by omega, by omega⟩, fun p hp => ?_, ?_⟩
    · have := he.2.2.2.2.2.1 p hp
      unfold payV at this
      exact ⟨⟨by omega, by omega⟩, ⟨by omega, by omega⟩⟩
    · rw [he.2.2.2.2.2.2.2]
      refine ⟨⟨by simp only; omega, by simp only; omega⟩, ⟨by simp only; omega, by simp only; omega⟩, ⟨by simp only; omega, by simp only; omega⟩⟩⟩
  have h0 : decE (fileT f (ofC f.l)) = 0 := by
    rw [decE, if_neg (by omega), hp]
    simp only [hf, if_true]
    rw [checkE, he.2.2.2.2.2.2.1, if_pos rfl, if_pos rfl]
  exact ⟨h0, by rw [decF, if_pos h0, hp]⟩
end Go.Proofs.YtlchcfkngjbdjaaGreatDoor
