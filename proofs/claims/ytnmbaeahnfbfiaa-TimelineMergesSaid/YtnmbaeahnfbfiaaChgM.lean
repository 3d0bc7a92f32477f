/- timeline: check, At, Merge. -/
import Derived.Test.YtnmbaeahnfbfiaaChgK
import Derived.Test.YtnmbaeahnfbfiaaChgA
import Derived.Test.YtnmbaeahnfbfiaaChgV
namespace Go.Proofs.Ytnmbaeahnfbfiaa
open Go.RowKit

theorem validE_len {l : List Chg} (h : validE l = 0) : l.length ≤ 1024 := by
  unfold validE at h
  split at h
  · cases h
  · omega
theorem cpt_len : ∀ (l : List Chg), (cpt l).length ≤ l.length
  | [] => by simp [cpt]
  | [x] => by simp [cpt]
  | x :: y :: r => by
    have h := cpt_len (y :: r)
    unfold cpt
    split <;> simp only [List.length_cons] at h ⊢ <;> omega
theorem inC_len (l : List Chg) (kn : Int) : (inC l kn).length ≤ l.length := by
  have h1 : (inC l kn).length ≤ (ascC l).length := List.length_filter_le _ _
  have h2 := ascC_len l
  omega
/-- the error of At -/
def atE (l : List Chg) (day : Int) : Int := if validE l = 0 then (if 0 ≤ day ∧ day ≤ 84005 then 0 else 2) else validE l
/-- the value that At returns -/
def atO (l : List Chg) (day kn : Int) : Option Int := if atE l day = 0 then valD (inC l kn) day else none
def AtP (w : World) (o : Option Int) (er : Int) (e : Ending) (w' : World) : Prop := e = .returned (.tuple #[.int .i64 (o.getD 0), .bool o.isSome, .int .i64 er]) ∧ Below w.heap.size w w'
/-- the error of check -/
def checkE (l : List Chg) (f t : Int) : Int := if validE l = 0 then (if 0 ≤ f ∧ f ≤ 84005 ∧ 0 ≤ t ∧ t ≤ 84005 then (if t < f then 1 else 0) else 2) else validE l

theorem check_any (v : Value) (l : List Chg) (f t : Int) (w : World) (hv : Sl w 4 v (chgs l)) :
    Calls Try.prog 34 #[v, .int .i64 f, .int .i64 t] w fun e w' => e = .returned (.int .i64 (checkE l f t)) ∧ Below w.heap.size w w' := by
  have V := valid_any v l w hv
  by_cases h0 : validE l = 0
  · rw [h0] at V
    have H := Lib.hid V
    clear V
    by_cases hr : 0 ≤ f ∧ f ≤ 84005 ∧ 0 ≤ t ∧ t ≤ 84005
    · have HE : Hid (checkE l f t = if t < f then 1 else 0) := by rw [Hid, checkE, if_pos h0, if_pos hr]
      obtain ⟨r1, r2, r3, r4⟩ := hr
      clear h0
      by_cases ht : t < f
      · go_enter Try.func34, Try.ntmps34
        go_wp2_with (go_at_call 21; (with_reducible refine H.out.mono ?_); rintro e w1 ⟨rfl, hb1⟩)
        go_ret
        exact ⟨ret_int (by rw [HE.out, if_pos ht]), hb1⟩
      · go_enter Try.func34, Try.ntmps34
        go_wp2_with (go_at_call 21; (with_reducible refine H.out.mono ?_); rintro e w1 ⟨rfl, hb1⟩)
        go_ret
        exact ⟨ret_int (by rw [HE.out, if_neg (by omega)]), hb1⟩
    · have HE : Hid (checkE l f t = 2) := by rw [Hid, checkE, if_pos h0, if_neg hr]
      clear h0
      have hr' : f < 0 ∨ (¬ f < 0 ∧ f > 84005) ∨ (¬ f < 0 ∧ ¬ f > 84005 ∧ t < 0) ∨ (¬ f < 0 ∧ ¬ f > 84005 ∧ ¬ t < 0 ∧ t > 84005) := by omega
      clear hr
      rcases hr' with h | ⟨h, h'⟩ | ⟨h, h', h''⟩ | ⟨h, h', h'', h3⟩ <;>
      · go_enter Try.func34, Try.ntmps34
        go_wp2_with (go_at_call 21; (with_reducible refine H.out.mono ?_); rintro e w1 ⟨rfl, hb1⟩)
        go_ret
        exact ⟨ret_int HE.out.symm, hb1⟩
  · have HE : Hid (checkE l f t = validE l) := by rw [Hid, checkE, if_neg h0]
    obtain ⟨er, her⟩ : ∃ er, validE l = er := ⟨_, rfl⟩
    rw [her] at V HE h0
    have hne : (er != 0) = true := by simpa using h0
    have H := Lib.hid V
    clear V her h0
    go_enter Try.func34, Try.ntmps34
    go_wp2_with (go_at_call 21; (with_reducible refine H.out.mono ?_); rintro e w1 ⟨rfl, hb1⟩)
    go_ret
    exact ⟨ret_int HE.out.symm, hb1⟩

theorem At_any (v : Value) (l : List Chg) (day kn : Int) (w : World) (hv : Sl w 4 v (chgs l)) :
    Calls Try.prog 16 #[v, .int .i64 day, .int .i64 kn] w (AtP w (atO l day kn) (atE l day)) := by
  have V := valid_any v l w hv
  have HV := Lib.hid hv
  clear hv
  by_cases h0 : validE l = 0
  · rw [h0] at V
    have H := Lib.hid V
    clear V
    have hl := validE_len h0
    by_cases hr : 0 ≤ day ∧ day ≤ 84005
    · have he : atE l day = 0 := by rw [atE, if_pos h0, if_pos hr]
      rw [he, atO, if_pos he]
      have hil := inC_len l kn
      clear he h0
      obtain ⟨o, ho⟩ : ∃ o, valD (inC l kn) day = o := ⟨_, rfl⟩
      rw [ho]
      have HO := Lib.hid ho
      clear ho
      go_enter Try.func16, Try.ntmps16
      go_wp2_with (go_at_call 21; (with_reducible refine H.out.mono ?_); rintro e w1 ⟨rfl, hb1⟩)
      go_wp2_with (go_at_call 27; (with_reducible refine (steps_any _ l kn _ (HV.out.below hb1) hl).mono ?_); rintro e w2 ⟨x, rfl, hown2, hb2⟩; have hB2 := hb1.trans (hb2.mono hb1.size))
      go_wp2_with (go_at_call 26; (with_reducible refine (at_any _ (inC l kn) day _ (hown2.sl (by omega)) (days_inC l kn) (by omega)).mono ?_); rw [HO.out]; rintro e w3 ⟨rfl, hb3⟩; have hB3 := hB2.trans (hb3.mono hB2.size))
      go_ret3
      exact ⟨rfl, hB3⟩
    · have he : atE l day = 2 := by rw [atE, if_pos h0, if_neg hr]
      rw [he, atO, if_neg (by rw [he]; decide)]
      clear he h0
      have hr' : day < 0 ∨ (¬ day < 0 ∧ day > 84005) := by omega
      clear hr
      rcases hr' with h | ⟨h, h'⟩ <;>
      · go_enter Try.func16, Try.ntmps16
        go_wp2_with (go_at_call 21; (with_reducible refine H.out.mono ?_); rintro e w1 ⟨rfl, hb1⟩)
        go_ret3
        exact ⟨rfl, hb1⟩
  · have he : atE l day = validE l := by rw [atE, if_neg h0]
    rw [he, atO, if_neg (by rw [he]; exact h0)]
    obtain ⟨er, her⟩ : ∃ er, validE l = er := ⟨_, rfl⟩
    rw [her] at V h0 ⊢
    have hne : (er != 0) = true := by simpa using h0
    have H := Lib.hid V
    clear V her h0 he
    go_enter Try.func16, Try.ntmps16
    go_wp2_with (go_at_call 21; (with_reducible refine H.out.mono ?_); rintro e w1 ⟨rfl, hb1⟩)
    go_ret3
    exact ⟨rfl, hb1⟩

/-- the error of Merge -/
def mrgE (a b : List Chg) : Int := if validE a = 0 then (if validE b = 0 then (if 1024 < (ascC (a ++ b)).length then 3 else 0) else validE b) else validE a
def mrgC (a b : List Chg) : List Chg := if mrgE a b = 0 then ascC (a ++ b) else []
theorem Merge_any (va vb : Value) (a b : List Chg) (w : World) (ha : Sl w 4 va (chgs a)) (hb : Sl w 4 vb (chgs b)) :
    Calls Try.prog 12 #[va, vb] w (RetOwn2 w 40 4 (chgs (mrgC a b)) (mrgE a b)) := by
  have fa : ∃ A c, va = .slice A a.length c := by obtain ⟨A, c, h, _⟩ := ha; rw [chgs_len] at h; exact ⟨A, c, h⟩
  have fb : ∃ A c, vb = .slice A b.length c := by obtain ⟨A, c, h, _⟩ := hb; rw [chgs_len] at h; exact ⟨A, c, h⟩
  obtain ⟨A1, c1, rfl⟩ := fa
  obtain ⟨A2, c2, rfl⟩ := fb
  have V := valid_any _ a w ha
  have HA := Lib.hid ha
  have HB := Lib.hid hb
  clear ha hb
  by_cases h0 : validE a = 0
  · rw [h0] at V
    have H := Lib.hid V
    clear V
    by_cases h1 : validE b = 0
    · have H2 : Hid (∀ w1, Sl w1 4 (.slice A2 b.length c2) (chgs b) → Calls Try.prog 21 #[(.slice A2 b.length c2)] w1 fun e w' => e = .returned (.int .i64 0) ∧ Below w1.heap.size w1 w') := fun w1 h => by
        have := valid_any (.slice A2 b.length c2) b w1 h
        rwa [h1] at this
      have HE : Hid (mrgE a b = if 1024 < (ascC (a ++ b)).length then 3 else 0) := by rw [Hid, mrgE, if_pos h0, if_pos h1]
      have hla := validE_len h0
      have hlb := validE_len h1
      clear h0 h1
      obtain ⟨c, hc⟩ : ∃ c, a ++ b = c := ⟨_, rfl⟩
      have HCC := Lib.hid hc
      have hcl : c.length ≤ 2048 := by rw [← hc, List.length_append]; omega
      clear hc
      go_enter Try.func12, Try.ntmps12
      go_wp2_with (go_at_call 21; (with_reducible refine H.out.mono ?_); rintro e w1 ⟨rfl, hb1⟩)
      go_wp2_with (go_at_call 21; (with_reducible refine (H2.out _ (HB.out.below hb1)).mono ?_); rintro e w2 ⟨rfl, hb2⟩; have hB2 := hb1.trans (hb2.mono hb1.size); clear hb1 hb2; have hB3 := hB2.alloc hB2.size (.cells #[(.slice A1 a.length c1), (.slice A2 b.length c2)] 23))
      have QA : Hid ((w2.alloc (.cells #[(.slice A1 a.length c1), (.slice A2 b.length c2)] 23)).cell? ⟨w2.heap.size, 0, none⟩ = some (.slice A1 a.length c1) ∧ (w2.alloc (.cells #[(.slice A1 a.length c1), (.slice A2 b.length c2)] 23)).cell? ⟨w2.heap.size, 1, none⟩ = some (.slice A2 b.length c2)) := ⟨by rw [World.cell?_alloc_new]; rfl, by rw [World.cell?_alloc_new]; rfl⟩
      go_wp2_with (go_at_call 22; go_loud ((with_reducible refine (concatCh_any a b (.slice A1 a.length c1) (.slice A2 b.length c2) w2.heap.size 2 _ QA.out.1 QA.out.2 (HA.out.below hB3) (HB.out.below hB3) hla hlb).mono ?_); rintro e w4 ⟨x4, rfl, hown4, hb4⟩; rw [HCC.out] at hown4; have hB4 := hB3.trans (hb4.mono hB3.size); have hq := hown4.form; rw [chgs_len] at hq; obtain ⟨A4, cap4, rfl⟩ := hq))
      go_wp2_with (go_at_call 23; (with_reducible refine (sortCh_any _ c w.heap.size _ (hown4.more hB3.size) (by omega)).mono ?_); rintro e w5 ⟨rfl, s, hp, hs, hown5, hg5⟩; have hB5 := Own.grown (hown4.more hB3.size) hB4 hg5 hB4.size)
      obtain ⟨r, hr⟩ : ∃ r, ascC (a ++ b) = r := ⟨_, rfl⟩
      have HR := Lib.hid hr
      have HL : Hid (cpt s = r) := by
        rw [← hr]
        exact ascC_unique (asc_cpt hs) fun x => mem_cpt.trans (by rw [HCC.out]; exact hp.mem_iff)
      rw [hr] at HE
      clear hr
      have hsl : s.length ≤ 2048 := by have := hp.length_eq; omega
      clear hs hp hg5 hown4 hb4 hB4 hB3 hB2
      go_wp2_with (go_at_call 25; (with_reducible refine (compactCh_any _ s w.heap.size _ hown5 hB5.size (by omega)).mono ?_); rintro e w6 ⟨x6, rfl, hown6, hb6⟩; have hB6 := hB5.trans hb6; rw [HL.out] at hown6; have hq := hown6.form; rw [chgs_len] at hq; obtain ⟨A6, cap6, rfl⟩ := hq)
      · go_ret2
        have hbig : (1024 : Int) < (r.length : Int) := by omega
        have e1 : mrgE a b = 3 := by rw [HE.out, if_pos (by omega)]
        rw [RetOwn2, e1, mrgC, if_neg (by rw [e1]; decide)]
        exact ⟨_, rfl, Own.nil _ _ _ _, hB6⟩
      · go_ret2
        have hbig : ¬ (1024 : Int) < (r.length : Int) := by omega
        have e1 : mrgE a b = 0 := by rw [HE.out, if_neg (by omega)]
        rw [RetOwn2, e1, mrgC, if_pos e1, HR.out]
        exact ⟨_, rfl, hown6, hB6⟩
    · have HE : Hid (mrgE a b = validE b) := by rw [Hid, mrgE, if_pos h0, if_neg h1]
      obtain ⟨er, her⟩ : ∃ er, validE b = er := ⟨_, rfl⟩
      rw [her] at HE h1
      have H2 : Hid (∀ w1, Sl w1 4 (.slice A2 b.length c2) (chgs b) → Calls Try.prog 21 #[(.slice A2 b.length c2)] w1 fun e w' => e = .returned (.int .i64 er) ∧ Below w1.heap.size w1 w') := fun w1 h => by
        have := valid_any (.slice A2 b.length c2) b w1 h
        rwa [her] at this
      have hne : (er != 0) = true := by simpa using h1
      have HN : Hid (er ≠ 0) := h1
      clear h0 h1 her
      go_enter Try.func12, Try.ntmps12
      go_wp2_with (go_at_call 21; (with_reducible refine H.out.mono ?_); rintro e w1 ⟨rfl, hb1⟩)
      go_wp2_with (go_at_call 21; (with_reducible refine (H2.out _ (HB.out.below hb1)).mono ?_); rintro e w2 ⟨rfl, hb2⟩; have hB2 := hb1.trans (hb2.mono hb1.size))
      go_ret2
      rw [RetOwn2, HE.out, mrgC, if_neg (by rw [HE.out]; exact HN.out)]
      exact ⟨_, rfl, Own.nil _ _ _ _, hB2⟩
  · have HE : Hid (mrgE a b = validE a) := by rw [Hid, mrgE, if_neg h0]
    obtain ⟨er, her⟩ : ∃ er, validE a = er := ⟨_, rfl⟩
    rw [her] at V HE h0
    have hne : (er != 0) = true := by simpa using h0
    have HN : Hid (er ≠ 0) := h0
    have H := Lib.hid V
    clear V her h0
    go_enter Try.func12, Try.ntmps12
    go_wp2_with (go_at_call 21; (with_reducible refine H.out.mono ?_); rintro e w1 ⟨rfl, hb1⟩)
    go_ret2
    rw [RetOwn2, HE.out, mrgC, if_neg (by rw [HE.out]; exact HN.out)]
    exact ⟨_, rfl, Own.nil _ _ _ _, hb1⟩
end Go.Proofs.Ytnmbaeahnfbfiaa
