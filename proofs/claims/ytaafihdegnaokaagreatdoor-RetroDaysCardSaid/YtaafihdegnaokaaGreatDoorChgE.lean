/- The longest ranges of days with one value, day by day: no program in sight. -/
import Derived.Test.YtaafihdegnaokaaGreatDoorChgD
namespace Go.Proofs.YtaafihdegnaokaaGreatDoor

/-- a list of ranges, with a range behind them: it joins the last one, or not -/
def addS (R : List Pc) (d e v : Int) : List Pc := match R.getLast? with
  | none => [⟨d, e, v⟩]
  | some p => if p.e + 1 = d ∧ p.v = v then R.dropLast ++ [⟨p.b, e, v⟩] else R ++ [⟨d, e, v⟩]
def addD (R : List Pc) (d : Int) : Option Int → List Pc
  | none => R
  | some v => addS R d d v
/-- the longest ranges of n days from f on -/
def runs (V : Int → Option Int) (f : Int) : Nat → List Pc
  | 0 => []
  | n + 1 => addD (runs V f n) (f + n) (V (f + n))

theorem addS_snoc (R : List Pc) (d e v e' : Int) (h : e + 1 = e') : addS (addS R d e v) e' e' v = addS R d e' v := by
  unfold addS
  cases hR : R.getLast? with
  | none => simp [h]
  | some p =>
    by_cases hp : p.e + 1 = d ∧ p.v = v
    · simp only [if_pos hp]
      rw [List.getLast?_append]
      simp [h]
    · simp only [if_neg hp]
      rw [List.getLast?_append]
      simp [h]
theorem runs_none {V : Int → Option Int} {f : Int} {n m : Nat} (hnm : n ≤ m) (h : ∀ x, f + n ≤ x → x < f + m → V x = none) : runs V f m = runs V f n := by
  induction m with
  | zero => obtain rfl : n = 0 := by omega
            rfl
  | succ m ih =>
    by_cases e : n = m + 1
    · rw [e]
    · rw [runs, h (f + m) (by omega) (by omega), addD]
      exact ih (by omega) fun x h1 h2 => h x h1 (by omega)
theorem runs_some {V : Int → Option Int} {f v : Int} {n m : Nat} (hnm : n < m) (h : ∀ x, f + n ≤ x → x < f + m → V x = some v) : runs V f m = addS (runs V f n) (f + n) (f + m - 1) v := by
  induction m with
  | zero => omega
  | succ m ih =>
    rw [runs, h (f + m) (by omega) (by omega), addD]
    by_cases e : n = m
    · subst e
      rw [show f + (↑(n + 1) : Int) - 1 = f + n by omega]
    · rw [ih (by omega) fun x h1 h2 => h x h1 (by omega), addS_snoc _ _ _ _ _ (by omega)]
      congr 1
      omega
theorem addS_len (R : List Pc) (d e v : Int) : (addS R d e v).length ≤ R.length + 1 := by
  unfold addS
  cases hR : R.getLast? with
  | none => simp
  | some p =>
    simp only
    split
    · simp only [List.length_append, List.length_dropLast, List.length_cons, List.length_nil]; omega
    · simp
theorem addS_mem {R : List Pc} {d e v : Int} {p : Pc} (h : p ∈ addS R d e v) : p ∈ R ∨ p.v = v := by
  unfold addS at h
  cases hR : R.getLast? with
  | none => rw [hR] at h; simp only [List.mem_singleton] at h; subst h; exact .inr rfl
  | some q =>
    rw [hR] at h
    simp only at h
    split at h
    · rcases List.mem_append.1 h with h | h
      · exact .inl (List.dropLast_subset _ h)
      · simp only [List.mem_singleton] at h; subst h; exact .inr rfl
    · rcases List.mem_append.1 h with h | h
      · exact .inl h
      · simp only [List.mem_singleton] at h; subst h; exact .inr rfl
/-- how a range behind them is laid: the two ways of the code -/
theorem addS_join {R : List Pc} {d e v : Int} {k : Nat} (hk : R.length = k + 1) (h1 : (R[k]'(by omega)).e + 1 = d) (h2 : (R[k]'(by omega)).v = v) : addS R d e v = R.set k ⟨(R[k]'(by omega)).b, e, v⟩ := by
  unfold addS
  have hl : R.getLast? = some (R[k]'(by omega)) := by
    rw [List.getLast?_eq_getElem?, show R.length - 1 = k by omega, List.getElem?_eq_getElem (by omega)]
  rw [hl]
  simp only [if_pos (And.intro h1 h2)]
  apply List.ext_getElem?
  intro i
  rw [List.getElem?_set]
  by_cases hi : i < k
  · rw [List.getElem?_append_left (by simp; omega), if_neg (by omega), List.getElem?_dropLast, if_pos (by omega)]
  · by_cases e : k = i
    · subst e
      rw [List.getElem?_append_right (by simp; omega)]
      simp [hk]
    · rw [List.getElem?_append_right (by simp; omega), if_neg e, List.getElem?_eq_none (by simp; omega), List.getElem?_eq_none (by omega)]
theorem addS_none (d e v : Int) : addS [] d e v = [⟨d, e, v⟩] := rfl
theorem addS_apart {R : List Pc} {d e v : Int} {k : Nat} (hk : R.length = k + 1) (h : ¬ ((R[k]'(by omega)).e + 1 = d ∧ (R[k]'(by omega)).v = v)) : addS R d e v = R ++ [⟨d, e, v⟩] := by
  unfold addS
  have hl : R.getLast? = some (R[k]'(by omega)) := by
    rw [List.getLast?_eq_getElem?, show R.length - 1 = k by omega, List.getElem?_eq_getElem (by omega)]
  rw [hl]
  simp only [if_neg h]
theorem runs_len (V : Int → Option Int) (f : Int) : ∀ n, (runs V f n).length ≤ n
  | 0 => by simp [runs]
  | n + 1 => by
    have := runs_len V f n
    rw [runs]
    cases V (f + n) with
    | none => rw [addD]; omega
    | some v => have := addS_len (runs V f n) (f + n) (f + n) v; rw [addD]; omega
/-- the days of which two lists of steps have different values -/
def difV (A B : List Chg) (d : Int) : Option Int := if valD A d = valD B d then none else some 0
theorem runs_zero (A B : List Chg) (f : Int) : ∀ n, ∀ p ∈ runs (difV A B) f n, p.v = 0
  | 0, p, h => by simp [runs] at h
  | n + 1, p, h => by
    rw [runs] at h
    unfold difV at h
    split at h
    · exact runs_zero A B f n p h
    · rcases addS_mem h with h | h
      · exact runs_zero A B f n p h
      · exact h
theorem valD_const {L : List Chg} {d e : Int} (hde : d ≤ e) (h : ∀ c ∈ L, ¬ (d < c.f ∧ c.f ≤ e)) : valD L e = valD L d := by
  unfold valD
  congr 2
  apply List.filter_congr
  intro c hc
  have := h c hc
  rw [decide_eq_decide]
  omega
theorem nxt_none {day : Int} : ∀ {L : List Chg} {n : Int}, ∀ c ∈ L, ¬ (day < c.f ∧ c.f < nxtN day L n)
  | [], _, c, hc => by cases hc
  | x :: r, n, c, hc => by
    rw [nxtN, List.foldl_cons]
    intro ⟨h1, h2⟩
    rcases List.mem_cons.1 hc with rfl | hc
    · by_cases h : day < c.f ∧ c.f < n
      · rw [if_pos h] at h2
        have := (nxtN_bounds (L := r) h.1).2
        rw [nxtN] at this
        omega
      · rw [if_neg h] at h2
        by_cases hn : day < n
        · have := (nxtN_bounds (L := r) hn).2
          rw [nxtN] at this
          omega
        · have h3 : ∀ (r : List Chg) (n : Int), ¬ day < n → nxtN day r n ≤ n := fun r n hn => by
            clear h2 h hc
            induction r generalizing n with
            | nil => exact Int.le_refl _
            | cons y s ih =>
              rw [nxtN, List.foldl_cons, if_neg (by omega)]
              exact ih n hn
          have := h3 r n hn
          rw [nxtN] at this
          omega
    · exact nxt_none (L := r) c hc ⟨h1, h2⟩
theorem difV_none {A B : List Chg} {d : Int} (h : valD A d = valD B d) : difV A B d = none := by rw [difV, if_pos h]
theorem difV_some {A B : List Chg} {d : Int} (h : ¬ valD A d = valD B d) : difV A B d = some 0 := by rw [difV, if_neg h]
theorem difV_const {A B : List Chg} {d e : Int} (hde : d ≤ e) (h : ∀ c ∈ A ++ B, ¬ (d < c.f ∧ c.f ≤ e)) : difV A B e = difV A B d := by
  rw [difV, difV, valD_const hde fun c hc => h c (by simp [hc]), valD_const hde fun c hc => h c (by simp [hc])]
/-- one segment in which nothing changes, behind n days -/
theorem dif_none {A B : List Chg} {f d e : Int} {n : Nat} (hd : f + n = d) (hde : d ≤ e) (h : ∀ c ∈ A ++ B, ¬ (d < c.f ∧ c.f ≤ e)) (hv : valD A d = valD B d) : runs (difV A B) f (n + (e + 1 - d).toNat) = runs (difV A B) f n :=
  runs_none (by omega) fun x h1 h2 => by
    rw [difV_const (d := d) (by omega) fun c hc hh => h c hc (by omega)]
    exact difV_none hv
theorem dif_some {A B : List Chg} {f d e : Int} {n : Nat} (hd : f + n = d) (hde : d ≤ e) (h : ∀ c ∈ A ++ B, ¬ (d < c.f ∧ c.f ≤ e)) (hv : ¬ valD A d = valD B d) : runs (difV A B) f (n + (e + 1 - d).toNat) = addS (runs (difV A B) f n) d e 0 := by
  rw [runs_some (n := n) (m := n + (e + 1 - d).toNat) (v := 0) (by omega) fun x h1 h2 => by
    rw [difV_const (d := d) (by omega) fun c hc hh => h c hc (by omega)]
    exact difV_some hv]
  congr 1
  omega
theorem val_none {L : List Chg} {f d e : Int} {n : Nat} (hd : f + n = d) (hde : d ≤ e + 1) (h : ∀ c ∈ L, ¬ (d < c.f ∧ c.f ≤ e)) (hv : valD L d = none) : runs (valD L) f (n + (e + 1 - d).toNat) = runs (valD L) f n :=
  runs_none (by omega) fun x h1 h2 => by
    rw [valD_const (d := d) (by omega) fun c hc hh => h c hc (by omega)]
    exact hv
theorem val_some {L : List Chg} {f d e v : Int} {n : Nat} (hd : f + n = d) (hde : d ≤ e) (h : ∀ c ∈ L, ¬ (d < c.f ∧ c.f ≤ e)) (hv : valD L d = some v) : runs (valD L) f (n + (e + 1 - d).toNat) = addS (runs (valD L) f n) d e v := by
  rw [runs_some (n := n) (m := n + (e + 1 - d).toNat) (v := v) (by omega) fun x h1 h2 => by
    rw [valD_const (d := d) (by omega) fun c hc hh => h c hc (by omega)]
    exact hv]
  congr 1
  omega
theorem addS_bounds {R : List Pc} {d e v lo : Int} (hde : d ≤ e) (hlo : lo ≤ d) (h : ∀ p ∈ R, lo ≤ p.b ∧ p.b ≤ p.e ∧ p.e < d) : ∀ p ∈ addS R d e v, lo ≤ p.b ∧ p.b ≤ p.e ∧ p.e < e + 1 := by
  intro p hp
  unfold addS at hp
  cases hR : R.getLast? with
  | none => rw [hR] at hp; simp only [List.mem_singleton] at hp; subst hp; exact ⟨hlo, hde, by simp only; omega⟩
  | some q =>
    have hq := h q (List.mem_of_getLast? hR)
    rw [hR] at hp
    simp only at hp
    split at hp
    · rcases List.mem_append.1 hp with hp | hp
      · have := h p (List.dropLast_subset _ hp); omega
      · simp only [List.mem_singleton] at hp; subst hp; exact ⟨hq.1, by simp only; omega, by simp only; omega⟩
    · rcases List.mem_append.1 hp with hp | hp
      · have := h p hp; omega
      · simp only [List.mem_singleton] at hp; subst hp; exact ⟨hlo, hde, by simp only; omega⟩
theorem runs_bounds (V : Int → Option Int) (f : Int) : ∀ n : Nat, ∀ p ∈ runs V f n, f ≤ p.b ∧ p.b ≤ p.e ∧ p.e < f + n
  | 0, p, h => by simp [runs] at h
  | n + 1, p, h => by
    rw [runs] at h
    cases hv : V (f + n) with
    | none => rw [hv, addD] at h; have := runs_bounds V f n p h; omega
    | some v =>
      rw [hv, addD] at h
      have := addS_bounds (v := v) (Int.le_refl (f + n)) (by omega) (fun q hq => runs_bounds V f n q hq) p h
      omega
end Go.Proofs.YtaafihdegnaokaaGreatDoor
