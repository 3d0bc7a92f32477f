/- payrollref6.value, next, check, At. -/
import Derived.Test.YtnmbaeahnfbfiaaRfI
import Derived.Test.YtnmbaeahnfbfiaaChgR
import Derived.Test.YtnmbaeahnfbfiaaChgE
namespace Go.Proofs.Ytnmbaeahnfbfiaa
open Go.RowKit

theorem valD_upto {L : List Chg} (hs : L.Pairwise (fun a b => a.f < b.f)) {day : Int} {k : Nat} (hk : k ≤ L.length) (h1 : ∀ j (hj : j < L.length), j < k → (L[j]).f ≤ day) (h2 : ∀ h : k < L.length, ¬ (L[k]).f ≤ day) : valD L day = (L.take k).getLast?.map (·.v) := by
  have hn : (L.filter fun c => decide (c.f ≤ day)).length = k := by
    have hle := List.length_filter_le (fun c : Chg => decide (c.f ≤ day)) L
    have h3 := upTo_lt hs day
    rcases Nat.lt_trichotomy (L.filter fun c => decide (c.f ≤ day)).length k with h | h | h
    · have := (h3 _ (by omega)).1 (h1 _ (by omega) h)
      omega
    · exact h
    · exact absurd ((h3 k (by omega)).2 h) (h2 (by omega))
  rw [valD, upTo_take hs day, hn]
def lastV (L : List Chg) (k : Nat) : Option Int := (L.take k).getLast?.map (·.v)
theorem lastV_succ {L : List Chg} {k : Nat} (hk : k < L.length) : lastV L (k + 1) = some (L[k]).v := by
  rw [lastV, List.take_succ_eq_append_getElem hk, List.getLast?_append]; simp
theorem lastV_zero (L : List Chg) : lastV L 0 = none := by simp [lastV]
def VaR (L : List Chg) (day : Int) (v ok i : Value) : Prop :=
  ∃ k : Nat, ∃ o : Option Int, k ≤ L.length ∧ i = .int .i64 k ∧ v = .int .i64 (o.getD 0) ∧ ok = .bool o.isSome ∧ Hid (o = lastV L k) ∧ Hid (∀ j (hj : j < L.length), j < k → (L[j]).f ≤ day)

theorem value_any (v : Value) (L : List Chg) (day : Int) (w : World) (hv : Sl w 4 v (chgs L)) (hs : L.Pairwise (fun a b => a.f < b.f)) (hl : L.length ≤ 1024) :
    Calls Try.prog 45 #[v, .int .i64 day] w (AtPost w (valD L day)) := by
  have fv : ∃ P c, v = .slice P L.length c := by obtain ⟨P, c, h, _⟩ := hv; rw [chgs_len] at h; exact ⟨P, c, h⟩
  obtain ⟨A, cap, rfl⟩ := fv
  have HV := Lib.hid hv
  have HS := Lib.hid hs
  clear hv hs
  go_enter Try.func45, Try.ntmps45
  go_wp2
  go_loop [6, 7, 8] (fun v ok i => VaR L day v ok i) (fun _ _ i => L.length - (intOf i).toNat)
  case atStart => exact ⟨0, none, by omega, rfl, rfl, rfl, (lastV_zero L).symm, fun j _ h => by omega⟩
  case round =>
    obtain ⟨k, o, hk, rfl, rfl, rfl, HO, HJ⟩ := hrel
    by_cases hlt : k < L.length
    · obtain ⟨b, off, rfl, hc0⟩ := HV.out.cells (by rw [chgs_len]; omega)
      obtain ⟨c0, c1, c2, c3⟩ := hc0.chg hlt
      have HL := Lib.hid (lastV_succ hlt)
      obtain ⟨x, hx⟩ : ∃ x, L[k] = x := ⟨_, rfl⟩
      have HX := Lib.hid hx
      rw [hx] at c0 c1 c2 c3 HL
      clear hx hc0
      by_cases hd : x.f ≤ day
      · have HJ2 : Hid (∀ j (hj : j < L.length), j < k + 1 → (L[j]).f ≤ day) := fun j hj h => by
          by_cases e : j = k
          · subst e; rw [HX.out]; exact hd
          · exact HJ.out j hj (by omega)
        go_wp2
        go_round
        case rel => exact ⟨k + 1, some x.v, by omega, by go_num, rfl, rfl, HL.out.symm, HJ2⟩
        case measure => simp [intOf]; omega
      · have HR : Hid (valD L day = o) := by
          rw [Hid, HO.out]
          exact valD_upto HS.out hk HJ.out (fun _ => by rw [HX.out]; exact hd)
        go_wp2
        go_ret2
        rw [AtPost, HR.out]
        exact ⟨rfl, Below.refl _ _⟩
    · have HR : Hid (valD L day = o) := by
        rw [Hid, HO.out]
        exact valD_upto HS.out hk HJ.out (fun h => absurd h hlt)
      go_wp2
      go_ret2
      rw [AtPost, HR.out]
      exact ⟨rfl, Below.refl _ _⟩

theorem nxtN_snoc (day n : Int) {L : List Chg} {k : Nat} (hk : k < L.length) : nxtN day (L.take (k + 1)) n = if day < (L[k]).f ∧ (L[k]).f < nxtN day (L.take k) n then (L[k]).f else nxtN day (L.take k) n := by
  rw [List.take_succ_eq_append_getElem hk, nxtN, List.foldl_append]; rfl
def NxR (L : List Chg) (day tt : Int) (n i : Value) : Prop :=
  ∃ k : Nat, ∃ x : Int, k ≤ L.length ∧ i = .int .i64 k ∧ n = .int .i64 x ∧ Hid (x = nxtN day (L.take k) (tt + 1))
theorem next_any (v : Value) (L : List Chg) (day tt : Int) (w : World) (hv : Sl w 4 v (chgs L)) (hl : L.length ≤ 1024) (h0 : 0 ≤ tt) (h1 : tt ≤ 84005) :
    Calls Try.prog 48 #[v, .int .i64 day, .int .i64 tt] w fun e w' => e = .returned (.int .i64 (nxtN day L (tt + 1))) ∧ w = w' := by
  have fv : ∃ P c, v = .slice P L.length c := by obtain ⟨P, c, h, _⟩ := hv; rw [chgs_len] at h; exact ⟨P, c, h⟩
  obtain ⟨A, cap, rfl⟩ := fv
  have HV := Lib.hid hv
  clear hv
  go_enter Try.func48, Try.ntmps48
  go_wp2
  go_loop [7, 8] (fun n i => NxR L day tt n i) (fun _ i => L.length - (intOf i).toNat)
  case atStart => exact ⟨0, tt + 1, by omega, rfl, rfl, rfl⟩
  case round =>
    obtain ⟨k, x, hk, rfl, rfl, HX⟩ := hrel
    by_cases hlt : k < L.length
    · obtain ⟨b, off, rfl, hc0⟩ := HV.out.cells (by rw [chgs_len]; omega)
      obtain ⟨c0, c1, c2, c3⟩ := hc0.chg hlt
      have HN := Lib.hid (nxtN_snoc day (tt + 1) hlt)
      rw [← HX.out] at HN
      obtain ⟨y, hy⟩ : ∃ y, (L[k]).f = y := ⟨_, rfl⟩
      rw [hy] at c0 HN
      clear hy hc0 c1 c2 c3
      by_cases hd : day < y
      · by_cases hd2 : y < x
        · have HR : Hid (y = nxtN day (L.take (k + 1)) (tt + 1)) := by rw [Hid, HN.out, if_pos ⟨hd, hd2⟩]
          go_wp2
          go_round
          case rel => exact ⟨k + 1, y, by omega, by go_num, rfl, HR⟩
          case measure => simp [intOf]; omega
        · have HR : Hid (x = nxtN day (L.take (k + 1)) (tt + 1)) := by rw [Hid, HN.out, if_neg (fun h => hd2 h.2)]
          go_wp2
          go_round
          case rel => exact ⟨k + 1, x, by omega, by go_num, rfl, HR⟩
          case measure => simp [intOf]; omega
      · have HR : Hid (x = nxtN day (L.take (k + 1)) (tt + 1)) := by rw [Hid, HN.out, if_neg (fun h => hd h.1)]
        go_wp2
        go_round
        case rel => exact ⟨k + 1, x, by omega, by go_num, rfl, HR⟩
        case measure => simp [intOf]; omega
    · have HR : Hid (x = nxtN day L (tt + 1)) := by rw [Hid, HX.out, List.take_of_length_le (by omega)]
      go_wp2
      go_ret
      exact ⟨ret_int HR.out, rfl⟩
theorem refCheck_any (v : Value) (l : List Chg) (f t : Int) (w : World) (hv : Sl w 4 v (chgs l)) :
    Calls Try.prog 47 #[v, .int .i64 f, .int .i64 t] w fun e w' => e = .returned (.int .i64 (checkE l f t)) ∧ Below w.heap.size w w' := by
  have V := refValid_any v l w hv
  by_cases h0 : validE l = 0
  · rw [h0] at V
    have H := Lib.hid V
    clear V
    by_cases hr : 0 ≤ f ∧ f ≤ 84005 ∧ 0 ≤ t ∧ t ≤ 84005
    · have HE : Hid (checkE l f t = if t < f then 1 else 0) := by rw [Hid, checkE, if_pos h0, if_pos hr]
      obtain ⟨r1, r2, r3, r4⟩ := hr
      clear h0
      by_cases ht : t < f
      · go_enter Try.func47, Try.ntmps47
        go_wp2_with (go_at_call 32; (with_reducible refine H.out.mono ?_); rintro e w1 ⟨rfl, hb1⟩)
        go_ret
        exact ⟨ret_int (by rw [HE.out, if_pos ht]), hb1⟩
      · go_enter Try.func47, Try.ntmps47
        go_wp2_with (go_at_call 32; (with_reducible refine H.out.mono ?_); rintro e w1 ⟨rfl, hb1⟩)
        go_ret
        exact ⟨ret_int (by rw [HE.out, if_neg (by omega)]), hb1⟩
    · have HE : Hid (checkE l f t = 2) := by rw [Hid, checkE, if_pos h0, if_neg hr]
      clear h0
      have hr' : f < 0 ∨ (¬ f < 0 ∧ f > 84005) ∨ (¬ f < 0 ∧ ¬ f > 84005 ∧ t < 0) ∨ (¬ f < 0 ∧ ¬ f > 84005 ∧ ¬ t < 0 ∧ t > 84005) := by omega
      clear hr
      rcases hr' with h | ⟨h, h'⟩ | ⟨h, h', h''⟩ | ⟨h, h', h'', h3⟩ <;>
      · go_enter Try.func47, Try.ntmps47
        go_wp2_with (go_at_call 32; (with_reducible refine H.out.mono ?_); rintro e w1 ⟨rfl, hb1⟩)
        go_ret
        exact ⟨ret_int HE.out.symm, hb1⟩
  · have HE : Hid (checkE l f t = validE l) := by rw [Hid, checkE, if_neg h0]
    obtain ⟨er, her⟩ : ∃ er, validE l = er := ⟨_, rfl⟩
    rw [her] at V HE h0
    have hne : (er != 0) = true := by simpa using h0
    have H := Lib.hid V
    clear V her h0
    go_enter Try.func47, Try.ntmps47
    go_wp2_with (go_at_call 32; (with_reducible refine H.out.mono ?_); rintro e w1 ⟨rfl, hb1⟩)
    go_ret
    exact ⟨ret_int HE.out.symm, hb1⟩


theorem refAt_any (v : Value) (l : List Chg) (day kn : Int) (w : World) (hv : Sl w 4 v (chgs l)) :
    Calls Try.prog 28 #[v, .int .i64 day, .int .i64 kn] w (AtP w (atO l day kn) (atE l day)) := by
  have V := refValid_any v l w hv
  have HV := Lib.hid hv
  clear hv
  by_cases h0 : validE l = 0
  · rw [h0] at V
    have H := Lib.hid V
    clear V
    have hl := validE_len h0
    by_cases hr : 0 ≤ day ∧ day ≤ 84005
    · have he : atE l day = 0 := by rw [atE, if_pos h0, if_pos hr]
      rw [he, atO, if_pos he]
      have hil := inC_len l kn
      clear he h0
      obtain ⟨o, ho⟩ : ∃ o, valD (inC l kn) day = o := ⟨_, rfl⟩
      rw [ho]
      have HO := Lib.hid ho
      clear ho
      go_enter Try.func28, Try.ntmps28
      go_wp2_with (go_at_call 32; (with_reducible refine H.out.mono ?_); rintro e w1 ⟨rfl, hb1⟩)
      go_wp2_with (go_at_call 46; (with_reducible refine (in_any _ l kn _ (HV.out.below hb1) hl).mono ?_); rintro e w2 ⟨x, rfl, hown2, hb2⟩; have hB2 := hb1.trans (hb2.mono hb1.size))
      go_wp2_with (go_at_call 45; (with_reducible refine (value_any _ (inC l kn) day _ (hown2.sl (by omega)) (days_inC l kn) (by omega)).mono ?_); rw [HO.out]; rintro e w3 ⟨rfl, hb3⟩; have hB3 := hB2.trans (hb3.mono hB2.size))
      go_ret3
      exact ⟨rfl, hB3⟩
    · have he : atE l day = 2 := by rw [atE, if_pos h0, if_neg hr]
      rw [he, atO, if_neg (by rw [he]; decide)]
      clear he h0
      have hr' : day < 0 ∨ (¬ day < 0 ∧ day > 84005) := by omega
      clear hr
      rcases hr' with h | ⟨h, h'⟩ <;>
      · go_enter Try.func28, Try.ntmps28
        go_wp2_with (go_at_call 32; (with_reducible refine H.out.mono ?_); rintro e w1 ⟨rfl, hb1⟩)
        go_ret3
        exact ⟨rfl, hb1⟩
  · have he : atE l day = validE l := by rw [atE, if_neg h0]
    rw [he, atO, if_neg (by rw [he]; exact h0)]
    obtain ⟨er, her⟩ : ∃ er, validE l = er := ⟨_, rfl⟩
    rw [her] at V h0 ⊢
    have hne : (er != 0) = true := by simpa using h0
    have H := Lib.hid V
    clear V her h0 he
    go_enter Try.func28, Try.ntmps28
    go_wp2_with (go_at_call 32; (with_reducible refine H.out.mono ?_); rintro e w1 ⟨rfl, hb1⟩)
    go_ret3
    exact ⟨rfl, hb1⟩

end Go.Proofs.Ytnmbaeahnfbfiaa
