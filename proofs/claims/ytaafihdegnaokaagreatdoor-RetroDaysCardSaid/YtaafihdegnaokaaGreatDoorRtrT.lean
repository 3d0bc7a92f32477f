/- Plain: the days on which timelines differ as ascending ranges; what Affected, Changed, Plan and Start come to. -/
import Derived.Test.YtaafihdegnaokaaGreatDoorRtrS
import Derived.Test.YtaafihdegnaokaaGreatDoorPrdS
import Derived.Test.YtaafihdegnaokaaGreatDoorChgQ
import Derived.Test.YtaafihdegnaokaaGreatDoorChgM
namespace Go.Proofs.YtaafihdegnaokaaGreatDoor

def prP (p : Pc) : Int × Int := (p.b, p.e)
theorem addS_joinT {R : List Pc} {d : Int} (hv : ∀ p ∈ R, p.v = 0) (hb : ∀ p ∈ R, p.e < d) : (addS R d d 0).map prP = joinT (R.map prP) (d, d) := by
  unfold addS joinT
  rw [List.getLast?_map]
  cases hR : R.getLast? with
  | none =>
    rw [List.getLast?_eq_none_iff] at hR
    subst hR
    rfl
  | some p =>
    have hp : p ∈ R := List.mem_of_getLast? hR
    have h1 := hb p hp
    have h2 := hv p hp
    simp only [Option.map_some, prP]
    by_cases h : p.e + 1 = d
    · rw [if_pos ⟨h, h2⟩, if_pos (by omega), List.map_append, List.map_dropLast, Int.max_eq_right (by omega)]
      rfl
    · rw [if_neg (fun h' => h h'.1), if_neg (by omega), List.map_append]
      rfl
theorem canon_nil : Canon [] := ⟨(fun _ h => by cases h), List.Pairwise.nil⟩
theorem runs_cov (A B : List Chg) (f : Int) : ∀ n : Nat, Canon ((runs (difV A B) f n).map prP) ∧ ∀ d, Cov ((runs (difV A B) f n).map prP) d ↔ f ≤ d ∧ d < f + n ∧ ¬ valD A d = valD B d
  | 0 => ⟨canon_nil, fun d => ⟨fun h => absurd h (cov_nil d), fun h => by omega⟩⟩
  | n + 1 => by
    obtain ⟨h1, h2⟩ := runs_cov A B f n
    by_cases hv : valD A (f + n) = valD B (f + n)
    · rw [runs, difV_none hv, addD]
      refine ⟨h1, fun d => (h2 d).trans ⟨fun h => ⟨h.1, by omega, h.2.2⟩, fun h => ⟨h.1, ?_, h.2.2⟩⟩⟩
      rcases Int.lt_or_le d (f + n) with h' | h'
      · exact h'
      · obtain rfl : d = f + n := by omega
        exact absurd hv h.2.2
    · rw [runs, difV_some hv, addD, addS_joinT (runs_zero A B f n) (fun p hp => (runs_bounds _ f n p hp).2.2)]
      obtain ⟨k1, k2, _⟩ := join_step (r := (f + n, f + n)) h1 (Int.le_refl _) fun p hp => by
        obtain ⟨q, hq, rfl⟩ := List.mem_map.1 hp
        have := runs_bounds _ f n q hq
        simp only [prP]; omega
      refine ⟨k1, fun d => (k2 d).trans ?_⟩
      rw [h2]
      simp only
      constructor
      · rintro (h | h)
        · exact ⟨h.1, by omega, h.2.2⟩
        · obtain rfl : d = f + n := by omega
          exact ⟨by omega, by omega, hv⟩
      · intro h
        rcases Int.lt_or_le d (f + n) with h' | h'
        · exact .inl ⟨h.1, h', h.2.2⟩
        · exact .inr (by omega)
theorem difR_cov (A B : List Chg) {f t : Int} (h : f ≤ t) : Canon ((difR A B f t).map prP) ∧ ∀ d, Cov ((difR A B f t).map prP) d ↔ f ≤ d ∧ d ≤ t ∧ ¬ valD A d = valD B d := by
  obtain ⟨h1, h2⟩ := runs_cov A B f (t + 1 - f).toNat
  refine ⟨h1, fun d => (h2 d).trans ⟨fun h => ⟨h.1, by omega, h.2.2⟩, fun h => ⟨h.1, by omega, h.2.2⟩⟩⟩
/-- the ranges of one timeline -/
def rngD (l : List Chg) (a b f t : Int) : List (Int × Int) := (difR (inC l a) (inC l b) f t).map prP
/-- the ranges of all timelines, one behind another -/
def allD (xs : List (List Chg)) (a b f t : Int) : List (Int × Int) := xs.flatMap fun l => rngD l a b f t
def DifAt (xs : List (List Chg)) (a b d : Int) : Prop := ∃ l ∈ xs, ¬ valD (inC l a) d = valD (inC l b) d
theorem all_cov (xs : List (List Chg)) (a b : Int) {f t : Int} (h : f ≤ t) (d : Int) : Cov (allD xs a b f t) d ↔ f ≤ d ∧ d ≤ t ∧ DifAt xs a b d := by
  constructor
  · rintro ⟨p, hp, h1, h2⟩
    obtain ⟨l, hl, hm⟩ := List.mem_flatMap.1 hp
    have := ((difR_cov (inC l a) (inC l b) h).2 d).1 ⟨p, hm, h1, h2⟩
    exact ⟨this.1, this.2.1, l, hl, this.2.2⟩
  · rintro ⟨h1, h2, l, hl, hd⟩
    obtain ⟨p, hp, h3⟩ := ((difR_cov (inC l a) (inC l b) h).2 d).2 ⟨h1, h2, hd⟩
    exact ⟨p, List.mem_flatMap.2 ⟨l, hl, hp⟩, h3⟩
theorem rngD_in {l : List Chg} {a b f t : Int} (h : f ≤ t) {r : Int × Int} (hr : r ∈ rngD l a b f t) : f ≤ r.1 ∧ r.1 ≤ r.2 ∧ r.2 ≤ t := by
  obtain ⟨p, hp, rfl⟩ := List.mem_map.1 hr
  have := runs_bounds _ f _ p hp
  simp only [prP]; omega
theorem all_in {xs : List (List Chg)} {a b f t : Int} (h : f ≤ t) {r : Int × Int} (hr : r ∈ allD xs a b f t) : f ≤ r.1 ∧ r.1 ≤ r.2 ∧ r.2 ≤ t := by
  obtain ⟨l, _, hm⟩ := List.mem_flatMap.1 hr
  exact rngD_in h hm
/-- the ranges of Changed -/
def chgJ (xs : List (List Chg)) (a b f t : Int) : List (Int × Int) := joinL ((allD xs a b f t).mergeSort fun p q => decide (p.1 ≤ q.1))
theorem cov_perm {S T : List (Int × Int)} (h : S.Perm T) (d : Int) : Cov S d ↔ Cov T d :=
  ⟨fun ⟨p, hp, h1⟩ => ⟨p, h.mem_iff.1 hp, h1⟩, fun ⟨p, hp, h1⟩ => ⟨p, h.mem_iff.2 hp, h1⟩⟩
theorem chgJ_ok (xs : List (List Chg)) (a b : Int) {f t : Int} (h : f ≤ t) : Canon (chgJ xs a b f t) ∧ ∀ d, Cov (chgJ xs a b f t) d ↔ f ≤ d ∧ d ≤ t ∧ DifAt xs a b d := by
  have hp : ((allD xs a b f t).mergeSort fun p q => decide (p.1 ≤ q.1)).Perm (allD xs a b f t) := List.mergeSort_perm _ _
  have hs : ((allD xs a b f t).mergeSort fun p q => decide (p.1 ≤ q.1)).Pairwise (fun p q => decide (p.1 ≤ q.1) = true) :=
    List.pairwise_mergeSort (fun p q r h1 h2 => by simp only [decide_eq_true_eq] at *; omega) (fun p q => by simp only [Bool.or_eq_true, decide_eq_true_eq]; omega) _
  obtain ⟨k1, k2⟩ := join_ok (S := (allD xs a b f t).mergeSort fun p q => decide (p.1 ≤ q.1)) (fun r hr => (all_in h (hp.mem_iff.1 hr)).2.1) (hs.imp fun hpq => by simpa using hpq)
  exact ⟨k1, fun d => (k2 d).trans ((cov_perm hp d).trans (all_cov xs a b h d))⟩
theorem chgJ_unique {xs : List (List Chg)} {a b f t : Int} (h : f ≤ t) {J : List (Int × Int)} (hJ : Canon J) (hc : ∀ d, Cov J d ↔ Cov (allD xs a b f t) d) : J = chgJ xs a b f t :=
  canon_unique hJ (chgJ_ok xs a b h).1 fun d => (hc d).trans ((all_cov xs a b h d).trans ((chgJ_ok xs a b h).2 d).symm)
theorem chgJ_in {xs : List (List Chg)} {a b f t : Int} (h : f ≤ t) {p : Int × Int} (hp : p ∈ chgJ xs a b f t) : f ≤ p.1 ∧ p.1 ≤ p.2 ∧ p.2 ≤ t := by
  obtain ⟨h1, h2⟩ := chgJ_ok xs a b h
  have h3 := h1.ok p hp
  have h4 := (h2 p.1).1 ⟨p, hp, Int.le_refl _, h3⟩
  have h5 := (h2 p.2).1 ⟨p, hp, h3, Int.le_refl _⟩
  exact ⟨h4.1, h3, h5.2.1⟩
/-- the first error of some timelines -/
def firstE : List (List Chg) → Int
  | [] => 0
  | l :: r => if validE l = 0 then firstE r else validE l
theorem firstE_zero : ∀ {xs : List (List Chg)}, firstE xs = 0 ↔ ∀ l ∈ xs, validE l = 0
  | [] => ⟨fun _ => (fun _ h => by cases h), fun _ => rfl⟩
  | l :: r => by
    unfold firstE
    by_cases h : validE l = 0
    · rw [if_pos h, firstE_zero]
      simp [h]
    · rw [if_neg h]
      simp [h]
theorem firstE_take : ∀ {xs : List (List Chg)} {k : Nat} (hk : k < xs.length), (∀ j (hj : j < k), validE (xs[j]) = 0) → ¬ validE (xs[k]) = 0 → firstE xs = validE (xs[k])
  | [], k, hk, _, _ => by simp at hk
  | l :: r, 0, _, _, h => by
    have h' : ¬ validE l = 0 := h
    unfold firstE; rw [if_neg h']; rfl
  | l :: r, k + 1, hk, h1, h2 => by
    have h' : validE l = 0 := h1 0 (by omega)
    unfold firstE
    rw [if_pos h']
    exact firstE_take (xs := r) (by simpa using hk) (fun j hj => h1 (j + 1) (by omega)) h2
def dayB (d : Int) : Bool := decide (0 ≤ d) && decide (d ≤ 84005)
/-- the error of Changed -/
def chE (xs : List (List Chg)) (f t : Int) : Int := if 64 < xs.length then 3 else if ¬ (0 ≤ f ∧ f ≤ 84005 ∧ 0 ≤ t ∧ t ≤ 84005) then 2 else if t < f then 1 else firstE xs
def chO (xs : List (List Chg)) (a b f t : Int) : List (Int × Int) := if chE xs f t = 0 then chgJ xs a b f t else []
theorem chE_ok {xs : List (List Chg)} {f t : Int} (h : chE xs f t = 0) : xs.length ≤ 64 ∧ (0 ≤ f ∧ f ≤ t ∧ t ≤ 84005) ∧ ∀ l ∈ xs, validE l = 0 := by
  unfold chE at h
  split at h
  · cases h
  · split at h
    · cases h
    · split at h
      · cases h
      · exact ⟨by omega, by omega, firstE_zero.1 h⟩
/-- the periods that a range meets -/
def okR (r : Int × Int) : Bool := decide (r.1 ≤ r.2) && (decide (0 ≤ r.1) && decide (r.2 ≤ 84005))
theorem okR_iff (r : Int × Int) : okR r = true ↔ r.1 ≤ r.2 ∧ 0 ≤ r.1 ∧ r.2 ≤ 84005 := by unfold okR; simp only [Bool.and_eq_true, decide_eq_true_eq]
/-- the days from a period to another one: the error -/
def dyE (k a f c : Int) : Int := if spE k a f ≠ 0 then 2 else if spE k a c ≠ 0 then 2 else if c < f then 1 else 0
theorem dyE_ok {k a f c : Int} (h : dyE k a f c = 0) : CalOk k a ∧ 0 ≤ f ∧ f ≤ c ∧ c < cntP k a := by
  unfold dyE at h
  by_cases h1 : spE k a f = 0
  · by_cases h2 : spE k a c = 0
    · rw [if_neg (by simp [h1]), if_neg (by simp [h2])] at h
      have a1 := spE_ok.1 h1
      have a2 := spE_ok.1 h2
      split at h
      · cases h
      · exact ⟨a1.1, a1.2.1, by omega, a2.2.2⟩
    · rw [if_neg (by simp [h1]), if_pos h2] at h; cases h
  · rw [if_pos h1] at h; cases h
/-- the error of Affected -/
def affE (k a : Int) (R : List (Int × Int)) (f c : Int) : Int := if dyE k a f c ≠ 0 then dyE k a f c else if 1024 < R.length then 3 else if R.all okR then 0 else 2
def hitB (R : List (Int × Int)) (lo hi : Int) : Bool := R.any fun r => decide (r.1 ≤ hi) && decide (lo ≤ r.2)
theorem hitB_iff (R : List (Int × Int)) (lo hi : Int) : hitB R lo hi = true ↔ Hit R lo hi := by
  unfold hitB Hit
  simp only [List.any_eq_true, Bool.and_eq_true, decide_eq_true_eq]
def affO (k a : Int) (R : List (Int × Int)) (f c : Int) : Option Nat := if affE k a R f c = 0 then (List.range (c.toNat + 1)).find? (fun n => decide (f ≤ n) && hitB R (loP k a n) (hiP k a n)) else none
theorem affE_ok {k a : Int} {R : List (Int × Int)} {f c : Int} (h : affE k a R f c = 0) : dyE k a f c = 0 ∧ R.length ≤ 1024 ∧ ∀ r ∈ R, r.1 ≤ r.2 ∧ 0 ≤ r.1 ∧ r.2 ≤ 84005 := by
  unfold affE at h
  by_cases h1 : dyE k a f c = 0
  · rw [if_neg (by simp [h1])] at h
    split at h
    · cases h
    · split at h
      · rename_i h2 h3
        refine ⟨h1, by omega, fun r hr => (okR_iff r).1 (List.all_eq_true.1 h3 r hr)⟩
      · cases h
  · rw [if_pos h1] at h; exact absurd h h1
theorem affO_some {k a : Int} {R : List (Int × Int)} {f c : Int} {n : Nat} (h : affE k a R f c = 0) (h0 : f ≤ n) (h1 : (n : Int) ≤ c) (h2 : Hit R (loP k a n) (hiP k a n)) (h3 : ∀ m : Nat, f ≤ m → m < n → ¬ Hit R (loP k a m) (hiP k a m)) : affO k a R f c = some n := by
  unfold affO
  rw [if_pos h, List.find?_range_eq_some]
  refine ⟨?_, List.mem_range.2 (by omega), fun j hj => ?_⟩
  · rw [decide_eq_true h0, (hitB_iff _ _ _).2 h2]; rfl
  · by_cases hf : f ≤ j
    · have : hitB R (loP k a j) (hiP k a j) = false := by
        cases hb : hitB R (loP k a j) (hiP k a j)
        · rfl
        · exact absurd ((hitB_iff _ _ _).1 hb) (h3 j hf hj)
      rw [this]; simp
    · rw [decide_eq_false hf]; rfl
theorem affO_none {k a : Int} {R : List (Int × Int)} {f c : Int} (h3 : ∀ m : Nat, f ≤ m → (m : Int) ≤ c → ¬ Hit R (loP k a m) (hiP k a m)) (hc : 0 ≤ c) : affO k a R f c = none := by
  unfold affO
  split
  · rw [List.find?_eq_none]
    intro j hj
    have hj' := List.mem_range.1 hj
    by_cases hf : f ≤ j
    · have : hitB R (loP k a j) (hiP k a j) = false := by
        cases hb : hitB R (loP k a j) (hiP k a j)
        · rfl
        · exact absurd ((hitB_iff _ _ _).1 hb) (h3 j hf (by omega))
      rw [this]; simp
    · rw [decide_eq_false hf]; simp
  · rfl
theorem affO_err {k a : Int} {R : List (Int × Int)} {f c : Int} (h : affE k a R f c ≠ 0) : affO k a R f c = none := by unfold affO; rw [if_neg h]
/-- the error of Plan -/
def plE (k a : Int) (xs : List (List Chg)) (f c : Int) : Int := if dyE k a f c ≠ 0 then dyE k a f c else chE xs (spLo k a f) (spHi k a c)
/-- the first period of a plan -/
noncomputable def plB (k a : Int) (xs : List (List Chg)) (n m f c : Int) : Int := match chgJ xs n m (spLo k a f) (spHi k a c) with
  | [] => c
  | p :: _ => ofV k a p.1
noncomputable def plO (k a : Int) (xs : List (List Chg)) (n m f c : Int) : List Int := if plE k a xs f c = 0 then (List.range (c + 1 - plB k a xs n m f c).toNat).map (fun (i : Nat) => plB k a xs n m f c + (i : Int)) else []
theorem plE_ok {k a : Int} {xs : List (List Chg)} {f c : Int} (h : plE k a xs f c = 0) : dyE k a f c = 0 ∧ chE xs (spLo k a f) (spHi k a c) = 0 := by
  unfold plE at h
  by_cases h1 : dyE k a f c = 0
  · rw [if_neg (by simp [h1])] at h; exact ⟨h1, h⟩
  · rw [if_pos h1] at h; exact absurd h h1
/-- the days from a period to another one -/
theorem dy_days {k a f c : Int} (h : dyE k a f c = 0) : ∃ F C : Nat, f = F ∧ c = C ∧ F ≤ C ∧ (C : Int) < cntP k a ∧ CalOk k a ∧ spE k a f = 0 ∧ spE k a c = 0 ∧ spLo k a f = loP k a F ∧ spHi k a f = hiP k a F ∧ spLo k a c = loP k a C ∧ spHi k a c = hiP k a C := by
  obtain ⟨hc, h0, h1, h2⟩ := dyE_ok h
  obtain ⟨F, rfl⟩ : ∃ F : Nat, f = F := ⟨f.toNat, by omega⟩
  obtain ⟨C, rfl⟩ : ∃ C : Nat, c = C := ⟨c.toNat, by omega⟩
  obtain ⟨e1, e2, e3⟩ := sp_ok hc (n := F) (by omega)
  obtain ⟨e4, e5, e6⟩ := sp_ok hc (n := C) (by omega)
  exact ⟨F, C, rfl, rfl, by omega, h2, hc, e1, e4, e2, e3, e5, e6⟩
theorem dy_range {k a f c : Int} (h : dyE k a f c = 0) : 0 ≤ spLo k a f ∧ spLo k a f ≤ spHi k a c ∧ spHi k a c ≤ 84005 := by
  obtain ⟨F, C, rfl, rfl, h1, h2, hc, _, _, e2, _, _, e6⟩ := dy_days h
  rw [e2, e6]
  have a1 := span_ok hc (n := F) (by omega)
  have a2 := span_ok hc h2
  have := hi_mono hc h1
  omega
/-- a day's period, between two periods -/
theorem per_between {k a f c d : Int} (h : dyE k a f c = 0) (h0 : spLo k a f ≤ d) (h1 : d ≤ spHi k a c) : ∃ n : Nat, IsPer k a d n ∧ ofV k a d = n ∧ ofE k a d = 0 ∧ f ≤ n ∧ (n : Int) ≤ c := by
  have hr := dy_range h
  obtain ⟨F, C, rfl, rfl, h2, h3, hc, _, _, e2, _, _, e6⟩ := dy_days h
  rw [e2] at h0 hr
  rw [e6] at h1 hr
  obtain ⟨n, hn, hp⟩ := per_ex hc (d := d) (by omega) (by omega)
  obtain ⟨v1, v2⟩ := of_yes hc (by omega) (by omega) hp
  have := aff_yes hc (R := [(d, d)]) (fun r hr => by rw [List.mem_singleton.1 hr]; exact Int.le_refl _) h2 h3 (d := d) (n := n) ⟨h0, h1, ⟨(d, d), by simp, Int.le_refl _, Int.le_refl _⟩, fun e _ he => by
    rintro ⟨p, hp', q1, q2⟩
    rw [List.mem_singleton.1 hp'] at q1
    simp only at q1; omega⟩ hp
  exact ⟨n, hp, v1, v2, by omega, by omega⟩
theorem of_mono {k a d e : Int} (hc : CalOk k a) (h0 : 0 ≤ d) (h1 : d ≤ e) (h2 : e ≤ 84005) : ofV k a d ≤ ofV k a e := by
  obtain ⟨m, _, hm⟩ := per_ex hc (d := d) h0 (by omega)
  obtain ⟨n, _, hn⟩ := per_ex hc (d := e) (by omega) h2
  rw [(of_yes hc h0 (by omega) hm).1, (of_yes hc (by omega) h2 hn).1]
  rcases Nat.lt_or_ge n m with h | h
  · have := bnd_le hc (show n + 1 ≤ m by omega)
    have := hm.lo; have := hn.hi; omega
  · omega
/-- the first range alone decides -/
theorem aff_first {k a f c : Int} {p : Int × Int} (h : dyE k a f c = 0) (h0 : spLo k a f ≤ p.1) (h1 : p.1 ≤ p.2) (h2 : p.2 ≤ spHi k a c) : affE k a [p] f c = 0 ∧ ∃ n : Nat, affO k a [p] f c = some n ∧ ofV k a p.1 = n ∧ f ≤ n ∧ (n : Int) ≤ c := by
  have hr := dy_range h
  have hE : affE k a [p] f c = 0 := by
    unfold affE
    rw [if_neg (by simp [h]), if_neg (by simp), if_pos]
    simp only [List.all_cons, List.all_nil, Bool.and_true]
    exact (okR_iff p).2 ⟨h1, by omega, by omega⟩
  obtain ⟨n, hp, hv, _, hf, hcn⟩ := per_between h h0 (by omega : p.1 ≤ spHi k a c)
  refine ⟨hE, n, ?_, hv, hf, hcn⟩
  obtain ⟨F, C, rfl, rfl, g2, g3, hc, _, _, e2, _, _, e6⟩ := dy_days h
  rw [e2] at h0 hr
  rw [e6] at h2 hr
  have := aff_yes hc (R := [p]) (fun r hr => by rw [List.mem_singleton.1 hr]; exact h1) g2 g3 (d := p.1) (n := n) ⟨h0, by omega, ⟨p, by simp, Int.le_refl _, h1⟩, fun e _ he => by
    rintro ⟨q, hq, q1, q2⟩
    rw [List.mem_singleton.1 hq] at q1
    omega⟩ hp
  exact affO_some hE hf hcn this.2.2.1 fun m hm1 hm2 => this.2.2.2 m (by omega) hm2
/-- the least of the first days' periods, as the reference looks for it -/
theorem min_first {k a f c : Int} (h : dyE k a f c = 0) : ∀ {J : List (Int × Int)}, Canon J → (∀ p ∈ J, spLo k a f ≤ p.1 ∧ p.1 ≤ p.2 ∧ p.2 ≤ spHi k a c) → ∀ {j : Nat} (_ : j < J.length), ((J.take (j + 1)).foldl (fun m p => min m (ofV k a p.1)) c) = ofV k a (J[0]'(by omega)).1
  | [], _, _, j, hj => by simp at hj
  | p :: J, hJ, hin, j, hj => by
    have h0 := hin p (by simp)
    obtain ⟨n, _, hv, _, _, hcn⟩ := per_between h h0.1 (by omega : p.1 ≤ spHi k a c)
    have hr := dy_range h
    have hc := (dyE_ok h).1
    have key : ∀ (K : List (Int × Int)), (∀ q ∈ K, p.1 ≤ q.1 ∧ q.1 ≤ 84005) → K.foldl (fun m p => min m (ofV k a p.1)) (ofV k a p.1) = ofV k a p.1 := by
      intro K
      induction K with
      | nil => intro _; rfl
      | cons q K ih =>
        intro hq
        have := of_mono hc (d := p.1) (e := q.1) (by omega) (hq q (by simp)).1 (hq q (by simp)).2
        rw [List.foldl_cons, Int.min_eq_left this]
        exact ih fun q' hq' => hq q' (by simp [hq'])
    simp only [List.take_succ_cons, List.foldl_cons, List.getElem_cons_zero]
    rw [Int.min_eq_right (by rw [hv]; exact hcn)]
    refine key _ fun q hq => ?_
    have hq' := List.mem_of_mem_take hq
    have h3 := (List.pairwise_cons.1 hJ.gap).1 q hq'
    have h4 := hin q (by simp [hq'])
    omega
/-- the year of a day -/
noncomputable def yr (d : Int) : Int := open Classical in if h : ∃ y : Int, bg y ≤ d ∧ d < bg (y + 1) then Classical.choose h else 0
theorem yr_eq {d y : Int} (h : bg y ≤ d ∧ d < bg (y + 1)) : yr d = y := by
  unfold yr
  rw [dif_pos ⟨y, h⟩]
  exact year_unique (Classical.choose_spec (⟨y, h⟩ : ∃ y : Int, bg y ≤ d ∧ d < bg (y + 1))) h
/-- the first period of a period's year -/
noncomputable def stV (k a n : Int) : Int := if spE k a n = 0 then ofV k a (bg (yr (spHi k a n))) else 0
end Go.Proofs.YtaafihdegnaokaaGreatDoor
