/- Returns and their texts: no program in sight. -/
import Derived.Test.YtnkephafpebfkaaGreatDoorLnB
import Derived.Test.YtnkephafpebfkaaGreatDoorLinT
import Derived.Test.YtnkephafpebfkaaGreatDoorNumS
namespace Go.Proofs.YtnkephafpebfkaaGreatDoor

/-- a return -/
structure Ret where
  p : Int
  v : Int
  l : List Ln
def Ret.vals (r : Ret) (x : Value) : Array Value := #[.int .i64 r.p, .int .i64 r.v, x]
/-- a kind that is filed -/
def filedB (k : Int) : Bool := decide (k = 4) || (decide (k = 5) || decide (k = 6))
def wLevy : List UInt8 := [108, 101, 118, 121]
def wEmp : List UInt8 := [101, 109, 112, 108, 111, 121, 101, 114]
def wTax : List UInt8 := [116, 97, 120]
def wRet : List UInt8 := [114, 101, 116, 117, 114, 110]
def wVer : List UInt8 := [118, 101, 114, 115, 105, 111, 110]
def wEnd : List UInt8 := [101, 110, 100]
/-- the words of kinds, in their order -/
def wAll : List (List UInt8) := [[101, 97, 114, 110, 105, 110, 103], [98, 101, 110, 101, 102, 105, 116], [98, 101, 102, 111, 114, 101], wLevy, wEmp, wTax, [97, 116, 116, 97, 99, 104, 101, 100], [97, 102, 116, 101, 114], [110, 101, 116], [115, 104, 111, 114, 116]]
def wordL (k : Int) : List UInt8 := if 1 ≤ k then wAll.getD (k - 1).toNat [] else []
def wordsL (x : Ln) : List (List UInt8) := if bareB x.kind then [wordL x.kind, Lib.itoa x.amt] else [wordL x.kind, x.code.data.toList, Lib.itoa x.amt]
/-- the text of a line -/
def lnT (x : Ln) : List UInt8 := joinBy 32 (wordsL x)
def headR (p v : Int) : List UInt8 := joinBy 32 [wRet, Lib.itoa p, wVer, Lib.itoa v]
/-- the lines of a return's text -/
def retL (r : Ret) : List (List UInt8) := headR r.p r.v :: r.l.map lnT ++ [wEnd]
def retT (r : Ret) : List UInt8 := ((retL r).map (· ++ [10])).flatten
/-- a valid return -/
def retB (r : Ret) : Bool := decide (0 ≤ r.p) && (decide (r.p ≤ 84005) && (decide (1 ≤ r.v) && (decide (r.v ≤ 65536) && (decide (r.l.length ≤ 256) && (r.l.all (fun x => filedB x.kind) && ordB r.l)))))
structure RetOk (r : Ret) : Prop where
  p0 : 0 ≤ r.p
  p1 : r.p ≤ 84005
  v0 : 1 ≤ r.v
  v1 : r.v ≤ 65536
  n : r.l.length ≤ 256
  k : ∀ x ∈ r.l, filedB x.kind = true
  o : ordB r.l = true
theorem retB_iff (r : Ret) : retB r = true ↔ RetOk r := by
  unfold retB
  simp only [Bool.and_eq_true, decide_eq_true_eq, List.all_eq_true]
  exact ⟨fun ⟨a, b, c, d, e, f, g⟩ => ⟨a, b, c, d, e, f, g⟩, fun ⟨a, b, c, d, e, f, g⟩ => ⟨a, b, c, d, e, f, g⟩⟩
theorem RetOk.f {r : Ret} (h : RetOk r) : ∀ x ∈ r.l, formB x = true := fun x hx => by
  obtain ⟨i, hi, rfl⟩ := List.getElem_of_mem hx
  exact ((ordB_iff _).1 h.o).1 i hi
def encT (r : Ret) : List UInt8 := if retB r then retT r else []
def encE (r : Ret) : Int := if retB r then 0 else 1

/-- the number of a text that is its decimal -/
def numI (l : List UInt8) : Option Int := match Lib.atoiAll l with
  | .ok v => if Lib.itoa v = l then some v else none
  | _ => none
theorem numI_eq {l : List UInt8} {n : Int} (h : numI l = some n) : l = Lib.itoa n := by
  unfold numI at h
  split at h
  · split at h
    · rename_i hc; injection h with h; subst h; exact hc.symm
    · cases h
  · cases h
theorem numI_itoa {n : Int} (h0 : -9223372036854775808 ≤ n) (h1 : n ≤ 9223372036854775807) : numI (Lib.itoa n) = some n := by
  rw [numI, atoi_itoa n h0 h1]
  exact if_pos rfl
/-- the line of a text -/
def rdLine (a : List UInt8) : Option Ln := match splitBy 32 a with
  | [k, n] => if k = wTax then (match numI n with
    | some v => some ⟨6, ⟨#[]⟩, v⟩
    | none => none) else none
  | [k, c, n] => if k = wLevy then (match numI n with
    | some v => some ⟨4, ⟨c.toArray⟩, v⟩
    | none => none) else if k = wEmp then (match numI n with
    | some v => some ⟨5, ⟨c.toArray⟩, v⟩
    | none => none) else none
  | _ => none
def rdHead (a : List UInt8) : Option (Int × Int) := match splitBy 32 a with
  | [a, b, c, d] => if a = wRet ∧ c = wVer then (match numI b, numI d with
    | some p, some v => some (p, v)
    | _, _ => none) else none
  | _ => none
def rdLns : List (List UInt8) → Option (List Ln)
  | [] => some []
  | a :: r => match rdLine a with
    | some x => (match rdLns r with
      | some l => some (x :: l)
      | none => none)
    | none => none
def parseL (ls : List (List UInt8)) : Option Ret :=
  if 2 ≤ ls.length ∧ ls[ls.length - 1]? = some wEnd then
    match rdHead (ls.getD 0 []) with
    | some (p, v) => (match rdLns ((ls.drop 1).take (ls.length - 2)) with
      | some l => some ⟨p, v, l⟩
      | none => none)
    | none => none
  else none
def parseR (s : List UInt8) : Option Ret := if Lib.hasSuffix s [10] then parseL (splitBy 10 (Lib.trimSuffix s [10])) else none
/-- what Decode returns -/
def decE (s : List UInt8) : Int := if 65536 < s.length then 3 else
  match parseR s with
  | some r => if retB r then 0 else 6
  | none => 6
def decR (s : List UInt8) : Ret := if decE s = 0 then (match parseR s with | some r => r | none => ⟨0, 0, []⟩) else ⟨0, 0, []⟩

theorem rdLine_eq {a : List UInt8} {x : Ln} (h : rdLine a = some x) : a = lnT x := by
  unfold rdLine at h
  have hj := join_split 32 a
  split at h
  · rename_i k n he
    split at h
    · rename_i hk
      split at h
      · rename_i v hv
        injection h with h
        subst h
        rw [he, hk, numI_eq hv] at hj
        exact hj.symm
      · cases h
    · cases h
  · rename_i k c n he
    split at h
    · rename_i hk
      split at h
      · rename_i v hv
        injection h with h
        subst h
        rw [he, hk, numI_eq hv] at hj
        exact hj.symm
      · cases h
    · split at h
      · rename_i hk
        split at h
        · rename_i v hv
          injection h with h
          subst h
          rw [he, hk, numI_eq hv] at hj
          exact hj.symm
        · cases h
      · cases h
  · cases h
theorem wcount_all : ∀ {l : List UInt8}, wcount l = l.length → ∀ c ∈ l, wcB c.toNat = true
  | [], _, c, hc => by cases hc
  | a :: r, h, c, hc => by
    rw [wcount_cons] at h
    by_cases ha : wcB a.toNat = true
    · rw [if_pos ha, List.length_cons] at h
      rcases List.mem_cons.1 hc with rfl | hc
      · exact ha
      · exact wcount_all (l := r) (by omega) c hc
    · rw [if_neg ha, List.length_cons] at h; omega
theorem name_bytes {l : List UInt8} (h : nameB l = true) : ∀ c ∈ l, 48 ≤ c.toNat := by
  intro c hc
  unfold nameB at h
  simp only [Bool.and_eq_true, decide_eq_true_eq, beq_iff_eq] at h
  obtain ⟨h0, _, h1, _⟩ := h
  cases l with
  | nil => cases hc
  | cons a r =>
    simp only [wordLen] at h1
    by_cases ha : lowB a.toNat = true
    · rw [if_pos ha, List.length_cons] at h1
      rcases List.mem_cons.1 hc with rfl | hc
      · simp [lowB] at ha; omega
      · have := wcount_all (l := r) (by omega) c hc
        simp [wcB, lowB, digB] at this; omega
    · rw [if_neg ha, List.length_cons] at h1; omega
theorem name_free {l : List UInt8} (h : nameB l = true) {c : UInt8} (hc : c.toNat < 45) : c ∉ l := fun hm => by have := name_bytes h c hm; omega
theorem word_free : ∀ k : Nat, k < 10 → (32 : UInt8) ∉ wAll.getD k [] ∧ (10 : UInt8) ∉ wAll.getD k [] ∧ (wAll.getD k []).length ≤ 8 := by decide
theorem word_inj : ∀ j : Nat, j < 10 → ∀ k : Nat, k < 10 → wAll.getD j [] = wAll.getD k [] → j = k := by decide
structure Formed (x : Ln) : Prop where
  k0 : 1 ≤ x.kind
  k1 : x.kind ≤ 10
  a0 : -1000000000000 ≤ x.amt
  a1 : x.amt ≤ 1000000000000
  b : bareB x.kind = true → x.code = ⟨#[]⟩
  c : bareB x.kind = false → nameB x.code.data.toList = true
theorem formed_of {x : Ln} (h : formedB x = true) : Formed x := by
  unfold formedB totB at h
  simp only [Bool.and_eq_true, decide_eq_true_eq] at h
  obtain ⟨h1, h2, ⟨h3, h4⟩, h5⟩ := h
  refine ⟨h1, h2, h3, h4, fun hb => ?_, fun hb => ?_⟩
  · rw [if_pos hb, decide_eq_true_eq] at h5
    obtain ⟨k, ⟨⟨d⟩⟩, a⟩ := x
    have : d.length = 0 := h5
    rw [List.eq_nil_of_length_eq_zero this]
  · rw [if_neg (by rw [hb]; simp)] at h5; exact h5
theorem Formed.wd {x : Ln} (h : Formed x) : ∃ j : Nat, j < 10 ∧ x.kind = j + 1 ∧ wordL x.kind = wAll.getD j [] := by
  have := h.k0
  have := h.k1
  refine ⟨(x.kind - 1).toNat, by omega, by omega, ?_⟩
  rw [wordL, if_pos h.k0]
theorem Formed.free {x : Ln} (h : Formed x) : ∀ a ∈ wordsL x, (32 : UInt8) ∉ a ∧ (10 : UInt8) ∉ a := by
  obtain ⟨j, hj, _, hw⟩ := h.wd
  have hf := word_free j hj
  rw [← hw] at hf
  have hn : (32 : UInt8) ∉ Lib.itoa x.amt ∧ (10 : UInt8) ∉ Lib.itoa x.amt := ⟨itoa_free _ (by decide), itoa_free _ (by decide)⟩
  unfold wordsL
  cases hb : bareB x.kind
  · have hc := h.c hb
    have hc2 : (32 : UInt8) ∉ x.code.data.toList ∧ (10 : UInt8) ∉ x.code.data.toList := ⟨name_free hc (by decide), name_free hc (by decide)⟩
    intro a ha
    simp at ha
    rcases ha with rfl | rfl | rfl
    · exact ⟨hf.1, hf.2.1⟩
    · exact hc2
    · exact hn
  · intro a ha
    simp at ha
    rcases ha with rfl | rfl
    · exact ⟨hf.1, hf.2.1⟩
    · exact hn
theorem wordsL_ne (x : Ln) : wordsL x ≠ [] := by unfold wordsL; split <;> simp
theorem lnT_words {x : Ln} (h : Formed x) : splitBy 32 (lnT x) = wordsL x := split_join (wordsL_ne x) fun a ha => (h.free a ha).1
theorem lnT_free {x : Ln} (h : Formed x) : (10 : UInt8) ∉ lnT x := join_free (by decide) fun a ha => (h.free a ha).2
theorem lnT_inj {x y : Ln} (hx : Formed x) (hy : Formed y) (h : lnT x = lnT y) : x = y := by
  have e : wordsL x = wordsL y := by rw [← lnT_words hx, ← lnT_words hy, h]
  obtain ⟨j, hj, hjk, hw⟩ := hx.wd
  obtain ⟨k, hk, hkk, hv⟩ := hy.wd
  have ek : wordL x.kind = wordL y.kind → x.kind = y.kind := fun hh => by
    rw [hw, hv] at hh
    rw [hjk, hkk, word_inj j hj k hk hh]
  have ea : Lib.itoa x.amt = Lib.itoa y.amt → x.amt = y.amt := fun hh => by
    have := hx.a0; have := hx.a1; have := hy.a0; have := hy.a1
    exact itoa_inj (by omega) (by omega) (by omega) (by omega) hh
  have hbx := hx.b
  have hby := hy.b
  obtain ⟨kx, cx, ax⟩ := x
  obtain ⟨ky, cy, ay⟩ := y
  simp only at ek ea hbx hby
  unfold wordsL at e
  simp only at e
  cases h1 : bareB kx <;> cases h2 : bareB ky <;> rw [h1, h2] at e <;> simp at e
  · obtain rfl := ek e.1
    obtain rfl := ea e.2.2
    have : cx = cy := by
      obtain ⟨⟨a⟩⟩ := cx
      obtain ⟨⟨b⟩⟩ := cy
      have := e.2.1
      simp at this
      rw [this]
    rw [this]
  · obtain rfl := ek e.1
    obtain rfl := ea e.2
    rw [hbx h1, hby h2]
theorem filed_cases {k : Int} (h : filedB k = true) : k = 4 ∨ k = 5 ∨ k = 6 := by simpa [filedB] using h
theorem rdLine_lnT {x : Ln} (h : Formed x) (hk : filedB x.kind = true) : rdLine (lnT x) = some x := by
  have e := lnT_words h
  have ha : numI (Lib.itoa x.amt) = some x.amt := by
    have := h.a0; have := h.a1
    exact numI_itoa (by omega) (by omega)
  have hb := h.b
  obtain ⟨k, c, a⟩ := x
  simp only at hk ha hb
  unfold rdLine
  rw [e]
  rcases filed_cases hk with rfl | rfl | rfl
  · have : wordsL ⟨4, c, a⟩ = [wLevy, c.data.toList, Lib.itoa a] := rfl
    rw [this]
    simp [ha]
  · have : wordsL ⟨5, c, a⟩ = [wEmp, c.data.toList, Lib.itoa a] := rfl
    rw [this]
    simp [ha, show ¬ wEmp = wLevy by decide]
  · have : wordsL ⟨6, c, a⟩ = [wTax, Lib.itoa a] := rfl
    rw [this]
    simp [ha, hb rfl]
theorem rdHead_eq {a : List UInt8} {p v : Int} (h : rdHead a = some (p, v)) : a = headR p v := by
  unfold rdHead at h
  have hj := join_split 32 a
  split at h
  · rename_i x b y d he
    split at h
    · rename_i hc
      split at h
      · rename_i q u hq hu
        injection h with h
        injection h with h1 h2
        subst h1 h2
        rw [he, hc.1, hc.2, numI_eq hq, numI_eq hu] at hj
        exact hj.symm
      · cases h
    · cases h
  · cases h
theorem head_free (p v : Int) : ∀ a ∈ [wRet, Lib.itoa p, wVer, Lib.itoa v], (32 : UInt8) ∉ a ∧ (10 : UInt8) ∉ a := by
  intro a ha
  simp at ha
  rcases ha with rfl | rfl | rfl | rfl
  · exact ⟨by decide, by decide⟩
  · exact ⟨itoa_free _ (by decide), itoa_free _ (by decide)⟩
  · exact ⟨by decide, by decide⟩
  · exact ⟨itoa_free _ (by decide), itoa_free _ (by decide)⟩
theorem headR_words (p v : Int) : splitBy 32 (headR p v) = [wRet, Lib.itoa p, wVer, Lib.itoa v] := split_join (by simp) fun a ha => (head_free p v a ha).1
theorem rdHead_headR {p v : Int} (h0 : -9223372036854775808 ≤ p) (h1 : p ≤ 9223372036854775807) (k0 : -9223372036854775808 ≤ v) (k1 : v ≤ 9223372036854775807) : rdHead (headR p v) = some (p, v) := by
  unfold rdHead
  rw [headR_words]
  simp [numI_itoa h0 h1, numI_itoa k0 k1]
theorem rdLns_eq : ∀ {ls : List (List UInt8)} {l : List Ln}, rdLns ls = some l → ls = l.map lnT
  | [], l, h => by
    simp only [rdLns, Option.some.injEq] at h
    subst h; rfl
  | a :: r, l, h => by
    unfold rdLns at h
    split at h
    · rename_i x hx
      split at h
      · rename_i m hm
        injection h with h
        subst h
        rw [List.map_cons, ← rdLns_eq hm, ← rdLine_eq hx]
      · cases h
    · cases h
theorem rdLns_map : ∀ {l : List Ln}, (∀ x ∈ l, Formed x ∧ filedB x.kind = true) → rdLns (l.map lnT) = some l
  | [], _ => rfl
  | x :: r, h => by
    have hx := h x (by simp)
    rw [List.map_cons, rdLns, rdLine_lnT hx.1 hx.2]
    simp only
    rw [rdLns_map fun y hy => h y (by simp [hy])]
theorem parts2 {α : Type} (d : α) {ls : List α} (h : 2 ≤ ls.length) : ls = ls.getD 0 d :: ((ls.drop 1).take (ls.length - 2) ++ [ls.getD (ls.length - 1) d]) := by
  have hl : ((ls.drop 1).take (ls.length - 2)).length = ls.length - 2 := by simp; omega
  apply List.ext_getElem?
  intro i
  match i with
  | 0 => simp [List.getD, List.getElem?_eq_getElem (show 0 < ls.length by omega)]
  | i + 1 =>
    rw [List.getElem?_cons_succ]
    by_cases h1 : i < ls.length - 2
    · rw [List.getElem?_append_left (by omega), List.getElem?_take, if_pos h1, List.getElem?_drop]
      congr 1; omega
    · rw [List.getElem?_append_right (by omega), hl]
      by_cases h2 : i = ls.length - 2
      · have e1 : i - (ls.length - 2) = 0 := by omega
        have e2 : i + 1 = ls.length - 1 := by omega
        rw [e1, e2]
        simp [List.getD, List.getElem?_eq_getElem (show ls.length - 1 < ls.length by omega)]
      · rw [List.getElem?_eq_none (by omega), List.getElem?_eq_none (by simp; omega)]
theorem suffix_iff {s : List UInt8} : Lib.hasSuffix s [10] = true ↔ ∃ b, s = b ++ [10] := by
  unfold Lib.hasSuffix
  rw [List.isSuffixOf_iff_suffix]
  constructor
  · rintro ⟨b, h⟩; exact ⟨b, h.symm⟩
  · rintro ⟨b, h⟩; exact ⟨b, h.symm⟩
theorem trim_app (b : List UInt8) : Lib.trimSuffix (b ++ [10]) [10] = b := by
  rw [Lib.trimSuffix, if_pos (suffix_iff.2 ⟨b, rfl⟩)]
  simp
theorem retL_ne (r : Ret) : retL r ≠ [] := by simp [retL]
theorem retT_join (r : Ret) : retT r = joinBy 10 (retL r) ++ [10] := (join_ended (retL_ne r)).symm
theorem parseL_eq {ls : List (List UInt8)} {r : Ret} (h : parseL ls = some r) : ls = retL r := by
  unfold parseL at h
  split at h
  · rename_i hc
    split at h
    · rename_i p v h1
      split at h
      · rename_i l h2
        injection h with h
        subst h
        have hp := parts2 [] hc.1
        have e6 : ls.getD (ls.length - 1) [] = wEnd := by rw [List.getD, hc.2]; rfl
        rw [rdHead_eq h1, rdLns_eq h2, e6] at hp
        rw [hp]; rfl
      · cases h
    · cases h
  · cases h
theorem parseR_eq {s : List UInt8} {r : Ret} (h : parseR s = some r) : s = retT r := by
  unfold parseR at h
  split at h
  · rename_i hs
    obtain ⟨b, rfl⟩ := suffix_iff.1 hs
    rw [trim_app] at h
    rw [retT_join, ← parseL_eq h, join_split]
  · cases h
theorem RetOk.lines {r : Ret} (h : RetOk r) : ∀ a ∈ retL r, (10 : UInt8) ∉ a := fun a ha => by
  rcases List.mem_append.1 ha with ha | ha
  · rcases List.mem_cons.1 ha with rfl | ha
    · exact join_free (by decide) fun a ha => (head_free _ _ a ha).2
    · obtain ⟨x, hx, rfl⟩ := List.mem_map.1 ha
      exact lnT_free (formed_of (formB_formed (h.f x hx)))
  · rw [List.mem_singleton.1 ha]; decide
theorem parseL_retL {r : Ret} (h : RetOk r) : parseL (retL r) = some r := by
  obtain ⟨p, v, l⟩ := r
  have hl : (retL ⟨p, v, l⟩).length = l.length + 2 := by simp [retL]
  have g0 : (retL ⟨p, v, l⟩).getD 0 [] = headR p v := by simp [retL]
  have g1 : (retL ⟨p, v, l⟩)[l.length + 2 - 1]? = some wEnd := by simp [retL]
  have g3 : ((retL ⟨p, v, l⟩).drop 1).take (l.length + 2 - 2) = l.map lnT := by simp [retL]
  have h1 := h.p0; have h2 := h.p1; have h3 := h.v0; have h4 := h.v1
  simp only at h1 h2 h3 h4
  unfold parseL
  rw [hl, if_pos ⟨by omega, g1⟩, g0, g3, rdHead_headR (by omega) (by omega) (by omega) (by omega)]
  simp only
  rw [rdLns_map fun x hx => ⟨formed_of (formB_formed (h.f x hx)), h.k x hx⟩]
theorem parseR_retT {r : Ret} (h : RetOk r) : parseR (retT r) = some r := by
  unfold parseR
  rw [retT_join, if_pos (suffix_iff.2 ⟨_, rfl⟩), trim_app, split_join (retL_ne _) h.lines]
  exact parseL_retL h
theorem name_len {l : List UInt8} (h : nameB l = true) : l.length ≤ 24 := by
  unfold nameB at h
  simp only [Bool.and_eq_true, decide_eq_true_eq] at h
  exact h.2.1
theorem itoa_short (n : Int) (k : Nat) (h : n.natAbs < 10 ^ (k + 1)) : (Lib.itoa n).length ≤ k + 2 := by
  have hd := dec_short n.natAbs k h
  by_cases hn : n < 0
  · rw [itoa_neg' n hn]; simp; omega
  · rw [itoa_pos' n (by omega)]; omega
theorem lnT_len {x : Ln} (h : Formed x) : (lnT x).length ≤ 60 := by
  obtain ⟨j, hj, _, hw⟩ := h.wd
  have hf := (word_free j hj).2.2
  rw [← hw] at hf
  have ha : (Lib.itoa x.amt).length ≤ 14 := itoa_short x.amt 12 (by have := h.a0; have := h.a1; omega)
  unfold lnT wordsL
  cases hb : bareB x.kind
  · have hc := name_len (h.c hb)
    simp [joinBy] at hc ⊢
    omega
  · simp [joinBy]
    omega
theorem sum_le {l : List (List UInt8)} {n : Nat} (h : ∀ a ∈ l, a.length ≤ n) : l.flatten.length ≤ n * l.length := by
  induction l with
  | nil => simp
  | cons a r ih =>
    have h1 := h a (by simp)
    have h2 := ih fun b hb => h b (by simp [hb])
    rw [List.flatten_cons, List.length_append, List.length_cons, Nat.mul_add, Nat.mul_one]; omega
theorem RetOk.len {r : Ret} (h : RetOk r) : (retT r).length ≤ 20000 := by
  have := sum_le (l := (retL r).map (· ++ [10])) (n := 61) fun a ha => by
    obtain ⟨b, hb, rfl⟩ := List.mem_map.1 ha
    rw [List.length_append, List.length_singleton]
    rcases List.mem_append.1 hb with hb | hb
    · rcases List.mem_cons.1 hb with rfl | hb
      · have h1 := h.p0; have h2 := h.p1; have h3 := h.v0; have h4 := h.v1
        have a1 := itoa_short r.p 6 (by omega)
        have a2 := itoa_short r.v 6 (by omega)
        simp [headR, joinBy, wRet, wVer]
        omega
      · obtain ⟨x, hx, rfl⟩ := List.mem_map.1 hb
        have := lnT_len (formed_of (formB_formed (h.f x hx)))
        omega
    · rw [List.mem_singleton.1 hb]; decide
  have hn := h.n
  have hl : ((retL r).map (· ++ [10])).length = r.l.length + 2 := by simp [retL]
  rw [hl] at this
  unfold retT
  omega
theorem dec_of {r : Ret} (h : retB r = true) : decE (retT r) = 0 ∧ decR (retT r) = r := by
  have ho := (retB_iff r).1 h
  have hp := parseR_retT ho
  have h0 : decE (retT r) = 0 := by
    rw [decE, if_neg (by have := ho.len; omega), hp]
    simp only [h, if_true]
  exact ⟨h0, by rw [decR, if_pos h0, hp]⟩
theorem decE_ok {s : List UInt8} (h : decE s = 0) : s = retT (decR s) ∧ retB (decR s) = true := by
  have h0 := h
  unfold decE at h
  split at h
  · cases h
  · split at h
    · rename_i r hp
      split at h
      · rename_i hr
        have : decR s = r := by rw [decR, if_pos h0, hp]
        rw [this]
        exact ⟨parseR_eq hp, hr⟩
      · cases h
    · cases h
theorem decE_no {s : List UInt8} (hl : s.length ≤ 65536) (h : ∀ r, retB r = true → s ≠ retT r) : decE s = 6 := by
  unfold decE
  rw [if_neg (by omega)]
  split
  · rename_i r hp
    rw [if_neg]
    intro hr
    exact h r hr (parseR_eq hp)
  · rfl
theorem decR_no {s : List UInt8} (h : ¬ decE s = 0) : decR s = ⟨0, 0, []⟩ := by rw [decR, if_neg h]
theorem retT_inj {r q : Ret} (h1 : retB r = true) (h2 : retB q = true) (h : retT r = retT q) : r = q := by
  rw [← (dec_of h1).2, ← (dec_of h2).2, h]
/-- where the loop over the lines stands -/
def LnI (ls : List (List UInt8)) (k : Nat) (acc : List Ln) : Prop := rdLns ls = (rdLns (ls.drop k)).map (acc ++ ·)
theorem lnI_start (ls : List (List UInt8)) : LnI ls 0 [] := by unfold LnI; simp
theorem lnI_no {ls : List (List UInt8)} {k : Nat} {acc : List Ln} (h : LnI ls k acc) (hk : k < ls.length) (hr : rdLine ls[k] = none) : rdLns ls = none := by
  unfold LnI at h
  rw [List.drop_eq_getElem_cons hk, rdLns, hr] at h
  exact h
theorem lnI_next {ls : List (List UInt8)} {k : Nat} {acc : List Ln} (h : LnI ls k acc) (hk : k < ls.length) {x : Ln} (hr : rdLine ls[k] = some x) : LnI ls (k + 1) (acc ++ [x]) := by
  unfold LnI at h ⊢
  rw [List.drop_eq_getElem_cons hk, rdLns, hr] at h
  simp only at h
  rw [h]
  cases rdLns (ls.drop (k + 1)) with
  | none => rfl
  | some r => simp
theorem lnI_end {ls : List (List UInt8)} {acc : List Ln} (h : LnI ls ls.length acc) : rdLns ls = some acc := by
  unfold LnI at h
  rw [h, List.drop_length]
  simp [rdLns]
theorem pl_short {ls : List (List UInt8)} (h : ¬ (2 ≤ ls.length ∧ ls[ls.length - 1]? = some wEnd)) : parseL ls = none := if_neg h
theorem pl_head {ls : List (List UInt8)} (h : 2 ≤ ls.length ∧ ls[ls.length - 1]? = some wEnd) (h1 : rdHead (ls.getD 0 []) = none) : parseL ls = none := by
  rw [parseL, if_pos h, h1]
theorem pl_lns {ls : List (List UInt8)} {p v : Int} (h : 2 ≤ ls.length ∧ ls[ls.length - 1]? = some wEnd) (h1 : rdHead (ls.getD 0 []) = some (p, v)) (h3 : rdLns ((ls.drop 1).take (ls.length - 2)) = none) : parseL ls = none := by
  rw [parseL, if_pos h, h1]; simp only [h3]
theorem pl_ok {ls : List (List UInt8)} {p v : Int} {l : List Ln} (h : 2 ≤ ls.length ∧ ls[ls.length - 1]? = some wEnd) (h1 : rdHead (ls.getD 0 []) = some (p, v)) (h3 : rdLns ((ls.drop 1).take (ls.length - 2)) = some l) : parseL ls = some ⟨p, v, l⟩ := by
  rw [parseL, if_pos h, h1]; simp only [h3]
end Go.Proofs.YtnkephafpebfkaaGreatDoor
