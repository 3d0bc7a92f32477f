/- Texts of fractions: no program in sight. -/
import Derived.Test.YtkdmbkhgcahpiaaDoorRat
import Derived.Test.YtkdmbkhgcahpiaaDoorTxt
import Derived.Lib.IndexMore
namespace Go.Proofs.YtkdmbkhgcahpiaaDoor

/-- the text of a valid fraction -/
def txtF (n d : Int) : List UInt8 := Lib.itoa n ++ if d = 1 then [] else 47 :: Lib.itoa d
def fmtF (n d : Int) : List UInt8 := if vldB n d then txtF n d else []
/-- a fraction and whether a text is its text -/
structure Prs where
  n : Int
  d : Int
  ok : Bool
def prsOf (n d : Int) (s : List UInt8) : Prs := if vldB n d && decide (fmtF n d = s) then ⟨n, d, true⟩ else ⟨0, 0, false⟩
def prsF (s : List UInt8) : Prs :=
  match Lib.atoiAll (Lib.cut s [47]).1 with
  | .ok n => if (Lib.cut s [47]).2.2 then (match Lib.atoiAll (Lib.cut s [47]).2.1 with | .ok d => prsOf n d s | _ => ⟨0, 0, false⟩) else prsOf n 1 s
  | _ => ⟨0, 0, false⟩

theorem index_one_no (l : List UInt8) (c : UInt8) (h : c ∉ l) : Lib.index l [c] = -1 := by
  induction l with
  | nil => rfl
  | cons a r ih =>
    have hne : ¬ c = a := fun e => h (by simp [e])
    have := ih (fun hc => h (by simp [hc]))
    simp [Lib.index, this, hne]
theorem index_one_yes (l t : List UInt8) (c : UInt8) (h : c ∉ l) : Lib.index (l ++ c :: t) [c] = l.length := by
  induction l with
  | nil => simp [Lib.index]
  | cons a r ih =>
    have hne : ¬ c = a := fun e => h (by simp [e])
    have := ih (fun hc => h (by simp [hc]))
    rw [List.cons_append, Lib.index, this]
    simp [hne]
theorem cut_no (l : List UInt8) (c : UInt8) (h : c ∉ l) : Lib.cut l [c] = (l, [], false) := by
  rw [Lib.cut, index_one_no l c h]; rfl
theorem cut_yes (l t : List UInt8) (c : UInt8) (h : c ∉ l) : Lib.cut (l ++ c :: t) [c] = (l, t, true) := by
  rw [Lib.cut, index_one_yes l t c h, if_pos (by omega)]
  simp
theorem slash_not (n : Int) : (47 : UInt8) ∉ Lib.itoa n := by
  intro h
  rcases itoa_bytes n _ h with h | h
  · exact absurd h (by decide)
  · exact absurd h.1 (by decide)
theorem prsOf_yes {n d : Int} {s : List UInt8} (h : vldB n d = true) (hs : fmtF n d = s) : prsOf n d s = ⟨n, d, true⟩ := by
  rw [prsOf, h, hs]; simp
theorem prs_yes {n d : Int} (h : vldB n d = true) : prsF (fmtF n d) = ⟨n, d, true⟩ := by
  obtain ⟨h1, h2, h3, h4, h5⟩ := vld_iff.1 h
  have hf : fmtF n d = Lib.itoa n ++ if d = 1 then [] else 47 :: Lib.itoa d := by rw [fmtF, if_pos h, txtF]
  by_cases hd : d = 1
  · subst hd
    have hf' : fmtF n 1 = Lib.itoa n := by rw [hf]; simp
    have := cut_no _ _ (slash_not n)
    rw [prsF, hf', this]
    simp only [atoi_itoa n (by omega) (by omega), Bool.false_eq_true, if_false]
    exact prsOf_yes h hf'
  · have hf' : fmtF n d = Lib.itoa n ++ 47 :: Lib.itoa d := by rw [hf, if_neg hd]
    have := cut_yes _ (Lib.itoa d) _ (slash_not n)
    rw [prsF, hf', this]
    simp only [atoi_itoa n (by omega) (by omega), atoi_itoa d (by omega) (by omega), if_true]
    exact prsOf_yes h hf'
theorem prsOf_ok {n d : Int} {s : List UInt8} (h : (prsOf n d s).ok = true) : vldB (prsOf n d s).n (prsOf n d s).d = true ∧ fmtF (prsOf n d s).n (prsOf n d s).d = s := by
  unfold prsOf at h ⊢
  by_cases hc : (vldB n d && decide (fmtF n d = s)) = true
  · rw [if_pos hc]
    simp only [Bool.and_eq_true, decide_eq_true_eq] at hc
    exact hc
  · rw [if_neg hc] at h; cases h
theorem prsOf_no {n d : Int} {s : List UInt8} (h : (prsOf n d s).ok = false) : prsOf n d s = ⟨0, 0, false⟩ := by
  unfold prsOf at h ⊢
  split
  · rename_i hc; rw [if_pos hc] at h; cases h
  · rfl
theorem prs_ok {s : List UInt8} (h : (prsF s).ok = true) : vldB (prsF s).n (prsF s).d = true ∧ fmtF (prsF s).n (prsF s).d = s := by
  unfold prsF at h ⊢
  split
  · rename_i n hn
    rw [hn] at h
    simp only at h
    split
    · rename_i hc
      rw [if_pos hc] at h
      split
      · rename_i d hd
        rw [hd] at h
        exact prsOf_ok h
      · rename_i h'
        split at h
        · rename_i d hd; exact absurd hd (h' d)
        · cases h
    · rename_i hc
      rw [if_neg hc] at h
      exact prsOf_ok h
  · rename_i h'
    split at h
    · rename_i n hn; exact absurd hn (h' n)
    · cases h
theorem prs_false {s : List UInt8} (h : (prsF s).ok = false) : prsF s = ⟨0, 0, false⟩ := by
  unfold prsF at h ⊢
  split
  · rename_i n hn
    rw [hn] at h
    simp only at h
    split
    · rename_i hc
      rw [if_pos hc] at h
      split
      · rename_i d hd
        rw [hd] at h
        exact prsOf_no h
      · rfl
    · rename_i hc
      rw [if_neg hc] at h
      exact prsOf_no h
  · rfl
/-- how a text without a fraction reads -/
theorem prs_no {s : List UInt8} (h : ∀ n d, vldB n d = true → fmtF n d ≠ s) : prsF s = ⟨0, 0, false⟩ := by
  refine prs_false ?_
  cases hk : (prsF s).ok
  · rfl
  · obtain ⟨h1, h2⟩ := prs_ok hk
    exact absurd h2 (h _ _ h1)
theorem fmt_ne {n d : Int} (h : vldB n d = true) : fmtF n d ≠ [] := by
  rw [fmtF, if_pos h, txtF]
  intro e
  exact itoa_ne n (List.append_eq_nil_iff.1 e).1
theorem fmt_inv {n d : Int} (h : fmtF n d ≠ []) : vldB n d = true := by
  unfold fmtF at h
  split at h
  · assumption
  · exact absurd rfl h

/-- at most k digits are read -/
def dgR : Nat → Nat → List UInt8 → Nat × List UInt8
  | 0, n, l => (n, l)
  | _ + 1, n, [] => (n, [])
  | k + 1, n, c :: r => if 48 ≤ c.toNat ∧ c.toNat ≤ 57 then dgR k (n * 10 + (c.toNat - 48)) r else (n, c :: r)
def valD (n : Nat) (l : List UInt8) : Nat := l.foldl (fun a c => a * 10 + (c.toNat - 48)) n
theorem dgR_app : ∀ (l t : List UInt8) (k n : Nat), (∀ c ∈ l, 48 ≤ c.toNat ∧ c.toNat ≤ 57) → l.length ≤ k → (∀ c r, t = c :: r → ¬ (48 ≤ c.toNat ∧ c.toNat ≤ 57)) → dgR k n (l ++ t) = (valD n l, t)
  | [], t, k, n, _, _, ht => by
    rw [List.nil_append]
    cases k with
    | zero => rfl
    | succ k =>
      cases t with
      | nil => rfl
      | cons c r => rw [dgR, if_neg (ht c r rfl)]; rfl
  | a :: l, t, 0, n, _, hk, _ => by simp at hk
  | a :: l, t, k + 1, n, hd, hk, ht => by
    rw [List.cons_append, dgR, if_pos (hd a (by simp)), dgR_app l t k _ (fun c hc => hd c (by simp [hc])) (by simpa using hk) ht]
    rfl
theorem valD_dec (u : Nat) : valD 0 (Lib.decDigits u) = u := by
  induction u using Nat.strongRecOn with
  | ind u ih =>
    by_cases hu : u < 10
    · rw [dec_small u hu]
      simp only [valD, List.foldl_cons, List.foldl_nil, digit_nat hu]; omega
    · have := ih (u / 10) (by omega)
      rw [dec_big u (by omega)]
      simp only [valD, List.foldl_append, List.foldl_cons, List.foldl_nil, digit_nat (show u % 10 < 10 by omega)] at this ⊢
      rw [this]; omega
theorem dec_len' (u : Nat) (k : Nat) (h : u < 10 ^ (k + 1)) : (Lib.decDigits u).length ≤ k + 1 := by
  induction k generalizing u with
  | zero => simp at h; rw [dec_small u h]; simp
  | succ k ih =>
    by_cases hu : u < 10
    · rw [dec_small u hu]; simp
    · rw [dec_big u (by omega), List.length_append, List.length_singleton]
      have := ih (u / 10) (by rw [Nat.pow_succ] at h; omega)
      omega
theorem dgR_bound : ∀ (k n : Nat) (l : List UInt8), (dgR k n l).1 < (n + 1) * 10 ^ k
  | 0, n, l => by simp [dgR]
  | k + 1, n, [] => by
    simp only [dgR]
    have : 1 ≤ 10 ^ (k + 1) := Nat.pos_of_ne_zero (by simp)
    have := Nat.mul_le_mul_left (n + 1) this
    omega
  | k + 1, n, c :: r => by
    simp only [dgR]
    split
    · have := dgR_bound k (n * 10 + (c.toNat - 48)) r
      have h2 : (n * 10 + (c.toNat - 48) + 1) * 10 ^ k ≤ (n + 1) * 10 * 10 ^ k := Nat.mul_le_mul_right _ (by omega)
      have h3 : (n + 1) * 10 * 10 ^ k = (n + 1) * 10 ^ (k + 1) := by rw [Nat.pow_succ, Nat.mul_assoc, Nat.mul_comm 10]
      omega
    · have : 1 ≤ 10 ^ (k + 1) := Nat.pos_of_ne_zero (by simp)
      have := Nat.mul_le_mul_left (n + 1) this
      simp only
      omega
/-- what the reference reads -/
def rp0 (s : List UInt8) : List UInt8 := if s.head? = some 45 then s.tail else s
def rpA (s : List UInt8) : Nat × List UInt8 := dgR 13 0 (rp0 s)
def rpB (s : List UInt8) : Nat × List UInt8 := if (rpA s).2.head? = some 47 then dgR 13 0 (rpA s).2.tail else (1, (rpA s).2)
def rpN (s : List UInt8) : Int := if s.head? = some 45 then -((rpA s).1 : Int) else (rpA s).1
theorem rp_valid {n d : Int} (h : vldB n d = true) : (rpB (fmtF n d)).2 = [] ∧ rpN (fmtF n d) = n ∧ ((rpB (fmtF n d)).1 : Int) = d := by
  obtain ⟨h1, h2, h3, h4, h5⟩ := vld_iff.1 h
  obtain ⟨t, ht⟩ : ∃ t, t = (if d = 1 then [] else 47 :: Lib.itoa d : List UInt8) := ⟨_, rfl⟩
  have hf : fmtF n d = Lib.itoa n ++ t := by rw [fmtF, if_pos h, txtF, ht]
  have htl : ∀ c r, t = c :: r → ¬ (48 ≤ c.toNat ∧ c.toNat ≤ 57) := by
    intro c r hc
    rw [ht] at hc
    split at hc
    · cases hc
    · injection hc with e _; subst e; decide
  have hl := dec_len' n.natAbs 12 (by omega)
  have hld := dec_len' d.natAbs 12 (by omega)
  have hA : ∀ k, k = n.natAbs → dgR 13 0 (Lib.decDigits k ++ t) = (k, t) := by
    intro k hk
    subst hk
    rw [dgR_app _ _ _ _ (dec_digits _) (by omega) htl, valD_dec]
  have hkey : rpA (fmtF n d) = (n.natAbs, t) ∧ rpN (fmtF n d) = n := by
    by_cases hn : n < 0
    · have e : fmtF n d = 45 :: (Lib.decDigits n.natAbs ++ t) := by rw [hf, itoa_neg' n hn]; rfl
      have hr : rpA (fmtF n d) = (n.natAbs, t) := by
        rw [rpA, rp0, e]
        exact hA _ rfl
      refine ⟨hr, ?_⟩
      rw [rpN, hr, e]
      simp; omega
    · have e : fmtF n d = Lib.decDigits n.natAbs ++ t := by rw [hf, itoa_pos' n (by omega)]
      have hh : (fmtF n d).head? ≠ some 45 := by
        rw [e]
        cases hd : Lib.decDigits n.natAbs with
        | nil => exact absurd hd (dec_ne _)
        | cons c r =>
          have hc := dec_digits n.natAbs c (by rw [hd]; simp)
          simp only [List.cons_append, List.head?_cons, ne_eq, Option.some.injEq]
          intro e; subst e; exact absurd hc (by decide)
      have hr : rpA (fmtF n d) = (n.natAbs, t) := by
        rw [rpA, rp0, if_neg hh, e]
        exact hA _ rfl
      refine ⟨hr, ?_⟩
      rw [rpN, if_neg hh, hr]
      simp; omega
  obtain ⟨k1, k2⟩ := hkey
  have hB : rpB (fmtF n d) = (d.natAbs, []) := by
    rw [rpB, k1]
    by_cases hd : d = 1
    · rw [if_pos hd] at ht
      subst ht; subst hd; rfl
    · rw [if_neg hd] at ht
      subst ht
      simp only [List.head?_cons, if_true, List.tail_cons]
      rw [itoa_pos' d (by omega)]
      have := dgR_app (Lib.decDigits d.natAbs) [] 13 0 (dec_digits _) (by omega) (fun c r h => by cases h)
      rw [List.append_nil, valD_dec] at this
      exact this
  rw [hB]
  exact ⟨rfl, k2, by omega⟩
def rpOk (s : List UInt8) : Bool := decide ((rpB s).2 = []) && decide (fmtF (rpN s) (rpB s).1 = s) && decide (s ≠ [])
theorem rp_prs (s : List UInt8) : prsF s = if rpOk s then ⟨rpN s, (rpB s).1, true⟩ else ⟨0, 0, false⟩ := by
  by_cases h : rpOk s = true
  · rw [if_pos h]
    simp only [rpOk, Bool.and_eq_true, decide_eq_true_eq] at h
    obtain ⟨⟨_, h2⟩, h3⟩ := h
    have hv : vldB (rpN s) (rpB s).1 = true := fmt_inv (by rw [h2]; exact h3)
    have := prs_yes hv
    rw [h2] at this; exact this
  · rw [if_neg h]
    refine prs_no fun n d hv e => h ?_
    subst e
    obtain ⟨k1, k2, k3⟩ := rp_valid hv
    simp only [rpOk, k1, k2, k3, fmt_ne hv, decide_true, Bool.and_self, ne_eq, not_false_eq_true]
end Go.Proofs.YtkdmbkhgcahpiaaDoor
