/- Contracts and plain facts that the laws of this seat share, part 2. -/
import Derived.Test.YtaafihdegnaokaaGreatDoorChgV
import Derived.Test.YtaafihdegnaokaaGreatDoorBaA
import Derived.Test.YtaafihdegnaokaaGreatDoorChgE
import Derived.Test.YtaafihdegnaokaaGreatDoorChgB
import Derived.Test.YtaafihdegnaokaaGreatDoorKit
import Derived.Test.YtaafihdegnaokaaGreatDoorGb
import Derived.Deep.Slices
import Derived.ProofKit
import Derived.Test.YtaafihdegnaokaaGreatDoorProg
import Derived.Test.YtaafihdegnaokaaGreatDoorChgX
import Derived.Test.YtaafihdegnaokaaGreatDoorRtM
import Derived.Test.YtaafihdegnaokaaGreatDoorCal
import Derived.Test.YtaafihdegnaokaaGreatDoorRows
import Derived.Test.YtaafihdegnaokaaGreatDoorTie
import Derived.LaidMore
import Derived.OpenShut
import Derived.Stop.Joined
import Derived.Stop.LaidErr
import Derived.Lib.LaidTab
import Derived.Lay
/- The reference's Valid (as ChgV with the other function). -/
namespace Go.Proofs.YtaafihdegnaokaaGreatDoor
open Go.RowKit

set_option maxHeartbeats 1000000 in
theorem refValid_any (v : Value) (l : List Chg) (w : World) (hv : Sl w 4 v (chgs l)) :
    Calls Tryz.prog 39 #[v] w fun e w' => e = .returned (.int .i64 (validE l)) ∧ Below w.heap.size w w' := by
  obtain ⟨A, cap, rfl, h1, h2, _, h3⟩ := hv
  rw [chgs_len] at h1 ⊢
  unfold maxLen at h2
  have H3 := Lib.hid h3
  clear h3
  by_cases hl : 1024 < l.length
  · have HE : Hid (validE l = 3) := by simp [Hid, validE, hl]
    go_enter Tryz.func39, Tryz.ntmps39
    go_wp2
    go_ret
    exact ⟨ret_int HE.out.symm, Below.refl _ _⟩
  go_enter Tryz.func39, Tryz.ntmps39
  go_wp2
  go_loopw [3] (fun i wr => ∃ k : Nat, k ≤ l.length ∧ i = .int .i64 k ∧ Below w.heap.size w wr ∧ Hid (∀ j, (hj : j < l.length) → j < k → errC l[j] = 0)) (fun i _ => l.length - (intOf i).toNat)
  case atStart => exact ⟨0, by omega, rfl, Below.refl _ _, fun j _ h => by omega⟩
  case round =>
    obtain ⟨k, hk, rfl, hb, HK⟩ := hrel
    by_cases hlt : k < l.length
    · rcases H3.out with h | ⟨b, off, rfl, hc0⟩
      · exact (chgs_pos hlt h).elim
      · obtain ⟨c0, c1, c2, c3⟩ := (hc0.below hb hc0.1).chg hlt
        have hbs := hb.size
        clear H3 hc0
        obtain ⟨x, hx⟩ : ∃ x, l[k] = x := ⟨_, rfl⟩
        have HX := Lib.hid hx
        rw [hx] at c0 c1 c2 c3
        clear hx
        obtain ⟨f, kn, vv, d⟩ := x
        simp only at c0 c1 c2 c3
        by_cases hr : rngC ⟨f, kn, vv, d⟩
        · have hr' := hr
          unfold rngC at hr'
          simp only at hr'
          obtain ⟨r1, r2, r3, r4, r5, r6⟩ := hr'
          have HR := Lib.hid hr
          clear hr
          have hg : ∀ b, (d && (vv != 0)) = b → Hid (errC ⟨f, kn, vv, d⟩ = if b then 1 else 0) := fun b hb => by
            subst hb
            simp [Hid, errC, HR.out]
          have nx : errC ⟨f, kn, vv, d⟩ = 0 → ∀ j, (hj : j < l.length) → j < k + 1 → errC l[j] = 0 := fun he j hj hjk => by
            by_cases hjk' : j = k
            · subst hjk'; rw [HX.out]; exact he
            · exact HK.out j hj (by omega)
          have NX := Lib.hid nx
          have HG := Lib.hid hg
          clear nx hg
          cases d
          · have HE := HG.out _ (Bool.false_and _)
            clear HG
            go_wp2
            go_roundw
            case rel => exact ⟨k + 1, by omega, by go_num, hb.alloc hbs _, NX.out HE.out⟩
            case measure => simp [intOf]; omega
          · cases hv0 : (vv != 0)
            · have HE := HG.out false (by rw [hv0]; rfl)
              clear HG
              go_wp2
              go_roundw
              case rel => exact ⟨k + 1, by omega, by go_num, hb.alloc hbs _, NX.out HE.out⟩
              case measure => simp [intOf]; omega
            · have HE := HG.out true (by rw [hv0]; rfl)
              clear HG
              go_wp2
              go_ret
              exact ⟨ret_int (validE_at (by omega) hlt HK.out (by rw [HX.out]; exact HE.out) (by simp)).symm, hb.alloc hbs _⟩
        · have HE : Hid (errC ⟨f, kn, vv, d⟩ = 2) := by simp [Hid, errC, hr]
          have hr' : f < 0 ∨ 84005 < f ∨ kn < 0 ∨ 2147483647 < kn ∨ vv < -1000000000000 ∨ 1000000000000 < vv := by
            unfold rngC at hr
            simp only at hr
            omega
          clear hr
          have go1 : Hid (∀ w', Below w.heap.size w w' → Ending.returned (.int .i64 2) = .returned (.int .i64 (validE l)) ∧ Below w.heap.size w w') := fun w' hw => ⟨ret_int (validE_at (by omega) hlt HK.out (by rw [HX.out]; exact HE.out) (by simp)).symm, hw⟩
          by_cases q1 : f < 0
          · go_wp2; go_ret; exact go1.out _ (hb.alloc hbs _)
          by_cases q2 : 84005 < f
          · go_wp2; go_ret; exact go1.out _ (hb.alloc hbs _)
          by_cases q3 : kn < 0
          · go_wp2; go_ret; exact go1.out _ (hb.alloc hbs _)
          by_cases q4 : 2147483647 < kn
          · go_wp2; go_ret; exact go1.out _ (hb.alloc hbs _)
          by_cases q5 : vv < -1000000000000
          · go_wp2; go_ret; exact go1.out _ (hb.alloc hbs _)
          have q6 : 1000000000000 < vv := by omega
          clear hr'
          go_wp2; go_ret; exact go1.out _ (hb.alloc hbs _)
    · go_wp2
      go_ret
      exact ⟨ret_int (validE_ok (by omega) fun j hj => HK.out j hj (by omega)).symm, hb⟩

end Go.Proofs.YtaafihdegnaokaaGreatDoor
/- payrollref6.value, next, check, At. -/
namespace Go.Proofs.YtaafihdegnaokaaGreatDoor
open Go.RowKit

theorem valD_upto {L : List Chg} (hs : L.Pairwise (fun a b => a.f < b.f)) {day : Int} {k : Nat} (hk : k ≤ L.length) (h1 : ∀ j (hj : j < L.length), j < k → (L[j]).f ≤ day) (h2 : ∀ h : k < L.length, ¬ (L[k]).f ≤ day) : valD L day = (L.take k).getLast?.map (·.v) := by
  have hn : (L.filter fun c => decide (c.f ≤ day)).length = k := by
    have hle := List.length_filter_le (fun c : Chg => decide (c.f ≤ day)) L
    have h3 := upTo_lt hs day
    rcases Nat.lt_trichotomy (L.filter fun c => decide (c.f ≤ day)).length k with h | h | h
    · have := (h3 _ (by omega)).1 (h1 _ (by omega) h)
      omega
    · exact h
    · exact absurd ((h3 k (by omega)).2 h) (h2 (by omega))
  rw [valD, upTo_take hs day, hn]
def lastV (L : List Chg) (k : Nat) : Option Int := (L.take k).getLast?.map (·.v)
theorem lastV_succ {L : List Chg} {k : Nat} (hk : k < L.length) : lastV L (k + 1) = some (L[k]).v := by
  rw [lastV, List.take_succ_eq_append_getElem hk, List.getLast?_append]; simp
theorem lastV_zero (L : List Chg) : lastV L 0 = none := by simp [lastV]
def VaR (L : List Chg) (day : Int) (v ok i : Value) : Prop :=
  ∃ k : Nat, ∃ o : Option Int, k ≤ L.length ∧ i = .int .i64 k ∧ v = .int .i64 (o.getD 0) ∧ ok = .bool o.isSome ∧ Hid (o = lastV L k) ∧ Hid (∀ j (hj : j < L.length), j < k → (L[j]).f ≤ day)

theorem value_any (v : Value) (L : List Chg) (day : Int) (w : World) (hv : Sl w 4 v (chgs L)) (hs : L.Pairwise (fun a b => a.f < b.f)) (hl : L.length ≤ 1024) :
    Calls Tryz.prog 40 #[v, .int .i64 day] w (AtPost w (valD L day)) := by
  have fv : ∃ P c, v = .slice P L.length c := by obtain ⟨P, c, h, _⟩ := hv; rw [chgs_len] at h; exact ⟨P, c, h⟩
  obtain ⟨A, cap, rfl⟩ := fv
  have HV := Lib.hid hv
  have HS := Lib.hid hs
  clear hv hs
  go_enter Tryz.func40, Tryz.ntmps40
  go_wp2
  go_loop [6, 7, 8] (fun v ok i => VaR L day v ok i) (fun _ _ i => L.length - (intOf i).toNat)
  case atStart => exact ⟨0, none, by omega, rfl, rfl, rfl, (lastV_zero L).symm, fun j _ h => by omega⟩
  case round =>
    obtain ⟨k, o, hk, rfl, rfl, rfl, HO, HJ⟩ := hrel
    by_cases hlt : k < L.length
    · obtain ⟨b, off, rfl, hc0⟩ := HV.out.cells (by rw [chgs_len]; omega)
      obtain ⟨c0, c1, c2, c3⟩ := hc0.chg hlt
      have HL := Lib.hid (lastV_succ hlt)
      obtain ⟨x, hx⟩ : ∃ x, L[k] = x := ⟨_, rfl⟩
      have HX := Lib.hid hx
      rw [hx] at c0 c1 c2 c3 HL
      clear hx hc0
      by_cases hd : x.f ≤ day
      · have HJ2 : Hid (∀ j (hj : j < L.length), j < k + 1 → (L[j]).f ≤ day) := fun j hj h => by
          by_cases e : j = k
          · subst e; rw [HX.out]; exact hd
          · exact HJ.out j hj (by omega)
        go_wp2
        go_round
        case rel => exact ⟨k + 1, some x.v, by omega, by go_num, rfl, rfl, HL.out.symm, HJ2⟩
        case measure => simp [intOf]; omega
      · have HR : Hid (valD L day = o) := by
          rw [Hid, HO.out]
          exact valD_upto HS.out hk HJ.out (fun _ => by rw [HX.out]; exact hd)
        go_wp2
        go_ret2
        rw [AtPost, HR.out]
        exact ⟨rfl, Below.refl _ _⟩
    · have HR : Hid (valD L day = o) := by
        rw [Hid, HO.out]
        exact valD_upto HS.out hk HJ.out (fun h => absurd h hlt)
      go_wp2
      go_ret2
      rw [AtPost, HR.out]
      exact ⟨rfl, Below.refl _ _⟩

theorem nxtN_snoc (day n : Int) {L : List Chg} {k : Nat} (hk : k < L.length) : nxtN day (L.take (k + 1)) n = if day < (L[k]).f ∧ (L[k]).f < nxtN day (L.take k) n then (L[k]).f else nxtN day (L.take k) n := by
  rw [List.take_succ_eq_append_getElem hk, nxtN, List.foldl_append]; rfl
def NxR (L : List Chg) (day tt : Int) (n i : Value) : Prop :=
  ∃ k : Nat, ∃ x : Int, k ≤ L.length ∧ i = .int .i64 k ∧ n = .int .i64 x ∧ Hid (x = nxtN day (L.take k) (tt + 1))
theorem next_any (v : Value) (L : List Chg) (day tt : Int) (w : World) (hv : Sl w 4 v (chgs L)) (hl : L.length ≤ 1024) (h0 : 0 ≤ tt) (h1 : tt ≤ 84005) :
    Calls Tryz.prog 68 #[v, .int .i64 day, .int .i64 tt] w fun e w' => e = .returned (.int .i64 (nxtN day L (tt + 1))) ∧ w = w' := by
  have fv : ∃ P c, v = .slice P L.length c := by obtain ⟨P, c, h, _⟩ := hv; rw [chgs_len] at h; exact ⟨P, c, h⟩
  obtain ⟨A, cap, rfl⟩ := fv
  have HV := Lib.hid hv
  clear hv
  go_enter Tryz.func68, Tryz.ntmps68
  go_wp2
  go_loop [7, 8] (fun n i => NxR L day tt n i) (fun _ i => L.length - (intOf i).toNat)
  case atStart => exact ⟨0, tt + 1, by omega, rfl, rfl, rfl⟩
  case round =>
    obtain ⟨k, x, hk, rfl, rfl, HX⟩ := hrel
    by_cases hlt : k < L.length
    · obtain ⟨b, off, rfl, hc0⟩ := HV.out.cells (by rw [chgs_len]; omega)
      obtain ⟨c0, c1, c2, c3⟩ := hc0.chg hlt
      have HN := Lib.hid (nxtN_snoc day (tt + 1) hlt)
      rw [← HX.out] at HN
      obtain ⟨y, hy⟩ : ∃ y, (L[k]).f = y := ⟨_, rfl⟩
      rw [hy] at c0 HN
      clear hy hc0 c1 c2 c3
      by_cases hd : day < y
      · by_cases hd2 : y < x
        · have HR : Hid (y = nxtN day (L.take (k + 1)) (tt + 1)) := by rw [Hid, HN.out, if_pos ⟨hd, hd2⟩]
          go_wp2
          go_round
          case rel => exact ⟨k + 1, y, by omega, by go_num, rfl, HR⟩
          case measure => simp [intOf]; omega
        · have HR : Hid (x = nxtN day (L.take (k + 1)) (tt + 1)) := by rw [Hid, HN.out, if_neg (fun h => hd2 h.2)]
          go_wp2
          go_round
          case rel => exact ⟨k + 1, x, by omega, by go_num, rfl, HR⟩
          case measure => simp [intOf]; omega
      · have HR : Hid (x = nxtN day (L.take (k + 1)) (tt + 1)) := by rw [Hid, HN.out, if_neg (fun h => hd h.1)]
        go_wp2
        go_round
        case rel => exact ⟨k + 1, x, by omega, by go_num, rfl, HR⟩
        case measure => simp [intOf]; omega
    · have HR : Hid (x = nxtN day L (tt + 1)) := by rw [Hid, HX.out, List.take_of_length_le (by omega)]
      go_wp2
      go_ret
      exact ⟨ret_int HR.out, rfl⟩
theorem refCheck_any (v : Value) (l : List Chg) (f t : Int) (w : World) (hv : Sl w 4 v (chgs l)) :
    Calls Tryz.prog 67 #[v, .int .i64 f, .int .i64 t] w fun e w' => e = .returned (.int .i64 (checkE l f t)) ∧ Below w.heap.size w w' := by
  have V := refValid_any v l w hv
  by_cases h0 : validE l = 0
  · rw [h0] at V
    have H := Lib.hid V
    clear V
    by_cases hr : 0 ≤ f ∧ f ≤ 84005 ∧ 0 ≤ t ∧ t ≤ 84005
    · have HE : Hid (checkE l f t = if t < f then 1 else 0) := by rw [Hid, checkE, if_pos h0, if_pos hr]
      obtain ⟨r1, r2, r3, r4⟩ := hr
      clear h0
      by_cases ht : t < f
      · go_enter Tryz.func67, Tryz.ntmps67
        go_wp2_with (go_at_call 39; (with_reducible refine H.out.mono ?_); rintro e w1 ⟨rfl, hb1⟩)
        go_ret
        exact ⟨ret_int (by rw [HE.out, if_pos ht]), hb1⟩
      · go_enter Tryz.func67, Tryz.ntmps67
        go_wp2_with (go_at_call 39; (with_reducible refine H.out.mono ?_); rintro e w1 ⟨rfl, hb1⟩)
        go_ret
        exact ⟨ret_int (by rw [HE.out, if_neg (by omega)]), hb1⟩
    · have HE : Hid (checkE l f t = 2) := by rw [Hid, checkE, if_pos h0, if_neg hr]
      clear h0
      have hr' : f < 0 ∨ (¬ f < 0 ∧ f > 84005) ∨ (¬ f < 0 ∧ ¬ f > 84005 ∧ t < 0) ∨ (¬ f < 0 ∧ ¬ f > 84005 ∧ ¬ t < 0 ∧ t > 84005) := by omega
      clear hr
      rcases hr' with h | ⟨h, h'⟩ | ⟨h, h', h''⟩ | ⟨h, h', h'', h3⟩ <;>
      · go_enter Tryz.func67, Tryz.ntmps67
        go_wp2_with (go_at_call 39; (with_reducible refine H.out.mono ?_); rintro e w1 ⟨rfl, hb1⟩)
        go_ret
        exact ⟨ret_int HE.out.symm, hb1⟩
  · have HE : Hid (checkE l f t = validE l) := by rw [Hid, checkE, if_neg h0]
    obtain ⟨er, her⟩ : ∃ er, validE l = er := ⟨_, rfl⟩
    rw [her] at V HE h0
    have hne : (er != 0) = true := by simpa using h0
    have H := Lib.hid V
    clear V her h0
    go_enter Tryz.func67, Tryz.ntmps67
    go_wp2_with (go_at_call 39; (with_reducible refine H.out.mono ?_); rintro e w1 ⟨rfl, hb1⟩)
    go_ret
    exact ⟨ret_int HE.out.symm, hb1⟩


theorem refAt_any (v : Value) (l : List Chg) (day kn : Int) (w : World) (hv : Sl w 4 v (chgs l)) :
    Calls Tryz.prog 22 #[v, .int .i64 day, .int .i64 kn] w (AtP w (atO l day kn) (atE l day)) := by
  have V := refValid_any v l w hv
  have HV := Lib.hid hv
  clear hv
  by_cases h0 : validE l = 0
  · rw [h0] at V
    have H := Lib.hid V
    clear V
    have hl := validE_len h0
    by_cases hr : 0 ≤ day ∧ day ≤ 84005
    · have he : atE l day = 0 := by rw [atE, if_pos h0, if_pos hr]
      rw [he, atO, if_pos he]
      have hil := inC_len l kn
      clear he h0
      obtain ⟨o, ho⟩ : ∃ o, valD (inC l kn) day = o := ⟨_, rfl⟩
      rw [ho]
      have HO := Lib.hid ho
      clear ho
      go_enter Tryz.func22, Tryz.ntmps22
      go_wp2_with (go_at_call 39; (with_reducible refine H.out.mono ?_); rintro e w1 ⟨rfl, hb1⟩)
      go_wp2_with (go_at_call 41; (with_reducible refine (in_any _ l kn _ (HV.out.below hb1) hl).mono ?_); rintro e w2 ⟨x, rfl, hown2, hb2⟩; have hB2 := hb1.trans (hb2.mono hb1.size))
      go_wp2_with (go_at_call 40; (with_reducible refine (value_any _ (inC l kn) day _ (hown2.sl (by omega)) (days_inC l kn) (by omega)).mono ?_); rw [HO.out]; rintro e w3 ⟨rfl, hb3⟩; have hB3 := hB2.trans (hb3.mono hB2.size))
      go_ret3
      exact ⟨rfl, hB3⟩
    · have he : atE l day = 2 := by rw [atE, if_pos h0, if_neg hr]
      rw [he, atO, if_neg (by rw [he]; decide)]
      clear he h0
      have hr' : day < 0 ∨ (¬ day < 0 ∧ day > 84005) := by omega
      clear hr
      rcases hr' with h | ⟨h, h'⟩ <;>
      · go_enter Tryz.func22, Tryz.ntmps22
        go_wp2_with (go_at_call 39; (with_reducible refine H.out.mono ?_); rintro e w1 ⟨rfl, hb1⟩)
        go_ret3
        exact ⟨rfl, hb1⟩
  · have he : atE l day = validE l := by rw [atE, if_neg h0]
    rw [he, atO, if_neg (by rw [he]; exact h0)]
    obtain ⟨er, her⟩ : ∃ er, validE l = er := ⟨_, rfl⟩
    rw [her] at V h0 ⊢
    have hne : (er != 0) = true := by simpa using h0
    have H := Lib.hid V
    clear V her h0 he
    go_enter Tryz.func22, Tryz.ntmps22
    go_wp2_with (go_at_call 39; (with_reducible refine H.out.mono ?_); rintro e w1 ⟨rfl, hb1⟩)
    go_ret3
    exact ⟨rfl, hb1⟩

end Go.Proofs.YtaafihdegnaokaaGreatDoor
/- payrollref6.Diff. -/
namespace Go.Proofs.YtaafihdegnaokaaGreatDoor
open Go.RowKit

theorem bool_ne {a b : Bool} (h : (a != b) = true) : (a ^^ b) = true ∧ (a == b) = false := by cases a <;> cases b <;> simp_all
theorem opt_ways2 (o p : Option Int) : (o = p ∧ (o.getD 0 != p.getD 0) = false ∧ (o.isSome != p.isSome) = false) ∨ (¬ o = p ∧ (o.getD 0 != p.getD 0) = true) ∨ (¬ o = p ∧ (o.getD 0 != p.getD 0) = false ∧ (o.isSome != p.isSome) = true) := by
  cases o <;> cases p <;> simp <;> omega
def RdR (w : World) (A B : List Chg) (f t : Int) (r i : Value) (wr : World) : Prop :=
  ∃ n : Nat, ∃ d : Int, d = f + n ∧ d ≤ t + 1 ∧ i = .int .i64 d ∧ Own wr w.heap.size 37 2 r (rngs (runs (difV A B) f n)) ∧ Below w.heap.size w wr

set_option maxRecDepth 10000 in
set_option maxHeartbeats 2000000 in
theorem refDiff_any (v : Value) (l : List Chg) (a b f t : Int) (w : World) (hv : Sl w 4 v (chgs l)) :
    Calls Tryz.prog 38 #[v, .int .i64 a, .int .i64 b, .int .i64 f, .int .i64 t] w (RetOwn2 w 37 2 (rngs (diffC l a b f t)) (checkE l f t)) := by
  have V := refCheck_any v l f t w hv
  have HV := Lib.hid hv
  clear hv
  by_cases h0 : checkE l f t = 0
  · obtain ⟨hl, hf0, hft, ht⟩ := checkE_ok h0
    rw [diffC, if_pos h0, h0]
    rw [h0] at V
    have H := Lib.hid V
    clear V h0
    have hla := inC_len l a
    have hlb := inC_len l b
    have HSA := Lib.hid (days_inC l a)
    have HSB := Lib.hid (days_inC l b)
    obtain ⟨A, hA⟩ : ∃ A, inC l a = A := ⟨_, rfl⟩
    obtain ⟨B, hB⟩ : ∃ B, inC l b = B := ⟨_, rfl⟩
    rw [hA, hB]
    rw [hA] at hla HSA
    rw [hB] at hlb HSB
    have HA := Lib.hid hA
    have HB := Lib.hid hB
    clear hA hB
    go_enter Tryz.func38, Tryz.ntmps38
    go_wp2_with (go_at_call 67; (with_reducible refine H.out.mono ?_); rintro e w1 ⟨rfl, hb1⟩)
    go_wp2_with (go_at_call 41; (with_reducible refine (in_any _ l a _ (HV.out.below hb1) hl).mono ?_); rintro e w2 ⟨x2, rfl, hown2, hb2⟩; rw [HA.out] at hown2; have hB2 := hb1.trans (hb2.mono hb1.size))
    go_wp2_with (go_at_call 41; (with_reducible refine (in_any _ l b _ (HV.out.below hB2) hl).mono ?_); rintro e w3 ⟨x3, rfl, hown3, hb3⟩; rw [HB.out] at hown3; have hB3 := hB2.trans (hb3.mono hB2.size))
    have T2 := Lib.hid ((hown2.sl (by omega)).below hb3)
    have T3 := Lib.hid (hown3.sl (by omega))
    have hz3 := hB3.size
    have HB3 := Lib.hid hB3
    clear hown2 hown3 hb1 hb2 hb3 hB2 hB3
    go_loopw [15, 16] (fun r i wr => RdR w3 A B f t r i wr) (fun _ i _ => (t + 1 - intOf i).toNat)
    case atStart => exact ⟨0, f, by simp, by omega, rfl, Own.nil _ _ _ _, Below.refl _ _⟩
    case round =>
      obtain ⟨n, D, hDn, hD1, rfl, hown, hbl⟩ := hrel
      obtain ⟨wo, rfl⟩ : ∃ wo : World, wo = wr := ⟨_, rfl⟩
      have hbs := hbl.size
      by_cases hlt : D ≤ t
      · obtain ⟨a1, a2⟩ := nxtN_bounds (L := A) (show D < t + 1 by omega)
        obtain ⟨b1, b2⟩ := nxtN_bounds (L := B) (show D < t + 1 by omega)
        have hnone : ∀ c ∈ A ++ B, ¬ (D < c.f ∧ c.f ≤ min (nxtN D A (t + 1)) (nxtN D B (t + 1)) - 1) := fun c hc hh => by
          rcases List.mem_append.1 hc with hc | hc
          · exact nxt_none (L := A) (n := t + 1) c hc ⟨hh.1, by omega⟩
          · exact nxt_none (L := B) (n := t + 1) c hc ⟨hh.1, by omega⟩
        have hms := dif_none (A := A) (B := B) (n := n) hDn.symm (show D ≤ min (nxtN D A (t + 1)) (nxtN D B (t + 1)) - 1 by omega) hnone
        have hmd := dif_some (A := A) (B := B) (n := n) hDn.symm (show D ≤ min (nxtN D A (t + 1)) (nxtN D B (t + 1)) - 1 by omega) hnone
        obtain ⟨p1, hp1⟩ : ∃ x, nxtN D A (t + 1) = x := ⟨_, rfl⟩
        obtain ⟨p2, hp2⟩ : ∃ x, nxtN D B (t + 1) = x := ⟨_, rfl⟩
        rw [hp1] at hms hmd a1 a2
        rw [hp2] at hms hmd b1 b2
        have HP1 := Lib.hid hp1
        have HP2 := Lib.hid hp2
        clear hp1 hp2 hnone
        obtain ⟨E, hE⟩ : ∃ E, min p1 p2 = E + 1 := ⟨min p1 p2 - 1, by omega⟩
        have hE1 : D ≤ E := by omega
        have hE2 : E ≤ t := by omega
        have hD0 : 0 ≤ D := by omega
        have hE0 : 0 ≤ E := by omega
        have hD9 : D ≤ 84005 := by omega
        have hE9 : E ≤ 84005 := by omega
        rw [show min p1 p2 - 1 = E by omega] at hms hmd
        obtain ⟨m, hm⟩ : ∃ m, n + (E + 1 - D).toNat = m := ⟨_, rfl⟩
        rw [hm] at hms hmd
        have hmE : E + 1 = f + m := by omega
        have HMS := Lib.hid hms
        have HMD := Lib.hid hmd
        have HE := Lib.hid hE
        have HDN := Lib.hid hDn
        have HME := Lib.hid hmE
        have hRl : (runs (difV A B) f n).length ≤ 84006 := by have := runs_len (difV A B) f n; omega
        have HV0 := Lib.hid (runs_zero A B f n)
        have HBD : Hid (∀ p ∈ runs (difV A B) f n, f ≤ p.b ∧ p.b ≤ p.e ∧ p.e < D) := fun p hp => by
          have := runs_bounds (difV A B) f n p hp
          omega
        obtain ⟨R, hR⟩ : ∃ R, runs (difV A B) f n = R := ⟨_, rfl⟩
        rw [hR] at HMS HMD HV0 HBD hown hRl
        obtain ⟨o, ho⟩ : ∃ o, valD A D = o := ⟨_, rfl⟩
        obtain ⟨p, hp⟩ : ∃ p, valD B D = p := ⟨_, rfl⟩
        rw [ho, hp] at HMS HMD
        have HO := Lib.hid ho
        have HP := Lib.hid hp
        clear ho hp hR hm hmE hms hmd hDn hE
        obtain ⟨x1, hx1⟩ : ∃ x, o.getD 0 = x := ⟨_, rfl⟩
        obtain ⟨y1, hb1⟩ : ∃ x, o.isSome = x := ⟨_, rfl⟩
        obtain ⟨x2, hx2⟩ : ∃ x, p.getD 0 = x := ⟨_, rfl⟩
        obtain ⟨y2, hb2⟩ : ∃ x, p.isSome = x := ⟨_, rfl⟩
        have hw := opt_ways2 o p
        rw [hx1, hb1, hx2, hb2] at hw
        have HW := Lib.hid hw
        have HX1 := Lib.hid hx1
        have HX2 := Lib.hid hx2
        have HB1 := Lib.hid hb1
        have HB2 := Lib.hid hb2
        clear hw hx1 hb1 hx2 hb2
        have hmin := HE.out
        clear HE

        rcases HW.out with ⟨e1, e2, e3⟩ | ⟨e1, e2⟩ | ⟨e1, e2, e3⟩
        · have HA := Lib.hid (HMS.out e1)
          obtain rfl : x1 = x2 := by rw [← HX1.out, ← HX2.out, e1]
          obtain rfl : y1 = y2 := by rw [← HB1.out, ← HB2.out, e1]
          clear e1 e2 e3 HW HMS HMD
          obtain ⟨A7, cap7, rfl⟩ := hown.form
          rw [rngs_len] at hown ⊢

          go_wp2_with (go_at_call 40; (with_reducible refine (value_any _ A D _ (T2.out.below hbl) HSA.out (by omega)).mono ?_); rw [HO.out]; rintro e w5 ⟨he, hb5⟩; rw [HX1.out, HB1.out] at he; subst he; have hbl5 := hbl.trans (hb5.mono hbs); have hown5 := hown.kept hb5; have hbs5 := hbl5.size; clear hb5)
          go_wp2_with (go_at_call 40; (with_reducible refine (value_any _ B D _ (T3.out.below hbl5) HSB.out (by omega)).mono ?_); rw [HP.out]; rintro e w6 ⟨he, hb6⟩; rw [HX2.out, HB2.out] at he; subst he; have hbl6 := hbl5.trans (hb6.mono hbs5); have hown6 := hown5.kept hb6; have hbs6 := hbl6.size;  have q2 := Lib.hid (T2.out.below hbl6); have q3 := Lib.hid (T3.out.below hbl6); clear hb6 hown5 hbl5 hown hbl)
          go_wp2_with (go_at_call 68; (with_reducible refine (next_any _ A D t _ q2.out (by omega) (by omega) (by omega)).mono ?_); rw [HP1.out]; rintro e w7 ⟨rfl, rfl⟩; clear q2)
          go_wp2_with (go_at_call 68; (with_reducible refine (next_any _ B D t _ q3.out (by omega) (by omega) (by omega)).mono ?_); rw [HP2.out]; rintro e w7 ⟨rfl, rfl⟩; clear q3)
          go_roundw
          case rel => exact ⟨m, E + 1, HME.out, by omega, rfl, by rw [HA.out]; exact hown6, hbl6⟩
          case measure => simp [intOf]; omega
        · have HA := Lib.hid (HMD.out e1)
          clear e1 HW HMS HMD
          rcases Nat.eq_zero_or_pos R.length with h0 | h0
          · obtain rfl : R = [] := List.eq_nil_of_length_eq_zero h0
            have HQ : Hid (rngs (addS [] D E 0) = rngs [] ++ [[.int .i64 D, .int .i64 E]]) := rfl
            clear h0 HV0 HBD
            obtain ⟨A7, cap7, rfl⟩ := hown.form
            rw [rngs_len] at hown ⊢
            simp only [List.length_nil] at hown ⊢
            go_wp2_with (go_at_call 40; (with_reducible refine (value_any _ A D _ (T2.out.below hbl) HSA.out (by omega)).mono ?_); rw [HO.out]; rintro e w5 ⟨he, hb5⟩; rw [HX1.out, HB1.out] at he; subst he; have hbl5 := hbl.trans (hb5.mono hbs); have hown5 := hown.kept hb5; have hbs5 := hbl5.size; clear hb5)
            go_wp2_with (go_at_call 40; (with_reducible refine (value_any _ B D _ (T3.out.below hbl5) HSB.out (by omega)).mono ?_); rw [HP.out]; rintro e w6 ⟨he, hb6⟩; rw [HX2.out, HB2.out] at he; subst he; have hbl6 := hbl5.trans (hb6.mono hbs5); have hown6 := hown5.kept hb6; have hbs6 := hbl6.size;  have q2 := Lib.hid (T2.out.below hbl6); have q3 := Lib.hid (T3.out.below hbl6); clear hb6 hown5 hbl5 hown hbl)
            go_wp2_with (go_at_call 68; (with_reducible refine (next_any _ A D t _ q2.out (by omega) (by omega) (by omega)).mono ?_); rw [HP1.out]; rintro e w7 ⟨rfl, rfl⟩; clear q2)
            go_wp2_with (first | (go_at_call 68; (with_reducible refine (next_any _ B D t _ q3.out (by omega) (by omega) (by omega)).mono ?_); rw [HP2.out]; rintro e w7 ⟨rfl, rfl⟩; clear q3) | (at_builtin; (refine wpList_append_sl rfl (.tmp 91) (.tmp 96) rfl rowRng w3.heap.size _ _ _ [[.int .i64 D, .int .i64 E]] rfl (hown6.alloc _) rfl (Sl.one (by simp) rfl) (rng_wide D E) (by rw [rngs_len]; unfold maxLen; simp <;> omega) (by rw [rngs_len]; simp <;> omega) (by simp; omega) ?_); intro v3 w9 hown3 hg3 _; have hb3 := Own.grown (hown6.alloc _) (hbl6.alloc hbs6 _) hg3 (by simp; omega); rw [← HQ.out] at hown3))
            go_roundw
            case rel => exact ⟨m, E + 1, HME.out, by omega, rfl, by rw [HA.out]; exact hown3, hb3⟩
            case measure => simp [intOf]; omega

          · obtain ⟨j, hj⟩ : ∃ j, R.length = j + 1 := ⟨R.length - 1, by omega⟩
            obtain ⟨g, cap7, rfl, hcap⟩ := hown.some_form (by rw [rngs_len]; exact h0)
            rw [rngs_len, hj] at hown hcap ⊢
            have hjl : j < R.length := by omega
            have HJ := Lib.hid hj
            have hj1 : j + 1 ≤ 84006 := by omega
            have hV := HV0.out _ (List.getElem_mem hjl)
            have hjbd := HBD.out _ (List.getElem_mem hjl)
            obtain ⟨pe, hpe⟩ : ∃ pe, (R[j]).e = pe := ⟨_, rfl⟩
            rw [hpe] at hjbd
            have hpe0 : 0 ≤ pe := by omega
            have hpe1 : pe ≤ 84005 := by omega
            clear hjbd HBD
            have HPE := Lib.hid hpe
            by_cases hjn : pe = D - 1
            · have HQ : Hid (rngs (addS R D E 0) = (rngs R).set j ([.int .i64 (R[j]).b, .int .i64 (R[j]).e].set 1 (.int .i64 E))) := by
                rw [Hid, addS_join hj (by rw [hpe]; omega) hV, rngs, rngs, List.map_set]; rfl
              have hjb : (pe == D - 1) = true := by simpa using hjn
              clear hpe hjn hV HV0 h0 hj
              go_wp2_with (go_at_call 40; (with_reducible refine (value_any _ A D _ (T2.out.below hbl) HSA.out (by omega)).mono ?_); rw [HO.out]; rintro e w5 ⟨he, hb5⟩; rw [HX1.out, HB1.out] at he; subst he; have hbl5 := hbl.trans (hb5.mono hbs); have hown5 := hown.kept hb5; have hbs5 := hbl5.size; clear hb5)
              go_wp2_with (go_at_call 40; (with_reducible refine (value_any _ B D _ (T3.out.below hbl5) HSB.out (by omega)).mono ?_); rw [HP.out]; rintro e w6 ⟨he, hb6⟩; rw [HX2.out, HB2.out] at he; subst he; have hbl6 := hbl5.trans (hb6.mono hbs5); have hown6 := hown5.kept hb6; have hbs6 := hbl6.size; have c5 := hown6.cellE (by omega) (rngs_at hjl) (j := 1) rfl; have f5 := hown6.frozenE (j * 2 + 1); have hz5 := (hown6.lt rfl).2; rw [HPE.out] at c5; have q2 := Lib.hid (T2.out.below hbl6); have q3 := Lib.hid (T3.out.below hbl6); clear hb6 hown5 hbl5 hown hbl)
              go_wp2_with (go_at_call 68; (with_reducible refine (next_any _ A D t _ q2.out (by omega) (by omega) (by omega)).mono ?_); rw [HP1.out]; rintro e w7 ⟨rfl, rfl⟩; clear q2)
              go_wp2_with (go_at_call 68; (with_reducible refine (next_any _ B D t _ q3.out (by omega) (by omega) (by omega)).mono ?_); rw [HP2.out]; rintro e w7 ⟨rfl, rfl⟩; clear q3)

              go_roundw
              case rel => exact ⟨m, E + 1, HME.out, by omega, rfl, by rw [HA.out, HQ.out]; exact (hown6.set1 (by omega) j (rngs_at hjl) 1 (by omega) (.int .i64 E) rfl).1, hown6.grown hbl6 (hown6.set1 (by omega) j (rngs_at hjl) 1 (by omega) (.int .i64 E) rfl).2 hbs6⟩
              case measure => simp [intOf]; omega
            · have HQ : Hid (rngs (addS R D E 0) = rngs R ++ [[.int .i64 D, .int .i64 E]]) := by
                rw [Hid, addS_apart hj (fun h => hjn (by rw [← hpe]; omega)), rngs_append]; rfl
              have hjb : (pe == D - 1) = false := by simpa using hjn
              clear hpe hV HV0 h0 hj hjn
              go_wp2_with (go_at_call 40; (with_reducible refine (value_any _ A D _ (T2.out.below hbl) HSA.out (by omega)).mono ?_); rw [HO.out]; rintro e w5 ⟨he, hb5⟩; rw [HX1.out, HB1.out] at he; subst he; have hbl5 := hbl.trans (hb5.mono hbs); have hown5 := hown.kept hb5; have hbs5 := hbl5.size; clear hb5)
              go_wp2_with (go_at_call 40; (with_reducible refine (value_any _ B D _ (T3.out.below hbl5) HSB.out (by omega)).mono ?_); rw [HP.out]; rintro e w6 ⟨he, hb6⟩; rw [HX2.out, HB2.out] at he; subst he; have hbl6 := hbl5.trans (hb6.mono hbs5); have hown6 := hown5.kept hb6; have hbs6 := hbl6.size; have c5 := hown6.cellE (by omega) (rngs_at hjl) (j := 1) rfl; have f5 := hown6.frozenE (j * 2 + 1); have hz5 := (hown6.lt rfl).2; rw [HPE.out] at c5; have q2 := Lib.hid (T2.out.below hbl6); have q3 := Lib.hid (T3.out.below hbl6); clear hb6 hown5 hbl5 hown hbl)
              go_wp2_with (go_at_call 68; (with_reducible refine (next_any _ A D t _ q2.out (by omega) (by omega) (by omega)).mono ?_); rw [HP1.out]; rintro e w7 ⟨rfl, rfl⟩; clear q2)
              go_wp2_with (first | (go_at_call 68; (with_reducible refine (next_any _ B D t _ q3.out (by omega) (by omega) (by omega)).mono ?_); rw [HP2.out]; rintro e w7 ⟨rfl, rfl⟩; clear q3) | (at_builtin; (refine wpList_append_sl rfl (.tmp 91) (.tmp 96) rfl rowRng w3.heap.size _ _ _ [[.int .i64 D, .int .i64 E]] rfl (hown6.alloc _) rfl (Sl.one (by simp) rfl) (rng_wide D E) (by rw [rngs_len]; unfold maxLen; simp <;> omega) (by rw [rngs_len]; simp <;> omega) (by simp; omega) ?_); intro v3 w9 hown3 hg3 _; have hb3 := Own.grown (hown6.alloc _) (hbl6.alloc hbs6 _) hg3 (by simp; omega); rw [← HQ.out] at hown3))
              go_roundw
              case rel => exact ⟨m, E + 1, HME.out, by omega, rfl, by rw [HA.out]; exact hown3, hb3⟩
              case measure => simp [intOf]; omega
        · obtain ⟨e4, e5⟩ := bool_ne e3
          have HA := Lib.hid (HMD.out e1)
          clear e1 HW HMS HMD
          rcases Nat.eq_zero_or_pos R.length with h0 | h0
          · obtain rfl : R = [] := List.eq_nil_of_length_eq_zero h0
            have HQ : Hid (rngs (addS [] D E 0) = rngs [] ++ [[.int .i64 D, .int .i64 E]]) := rfl
            clear h0 HV0 HBD
            obtain ⟨A7, cap7, rfl⟩ := hown.form
            rw [rngs_len] at hown ⊢
            simp only [List.length_nil] at hown ⊢
            go_wp2_with (go_at_call 40; (with_reducible refine (value_any _ A D _ (T2.out.below hbl) HSA.out (by omega)).mono ?_); rw [HO.out]; rintro e w5 ⟨he, hb5⟩; rw [HX1.out, HB1.out] at he; subst he; have hbl5 := hbl.trans (hb5.mono hbs); have hown5 := hown.kept hb5; have hbs5 := hbl5.size; clear hb5)
            go_wp2_with (go_at_call 40; (with_reducible refine (value_any _ B D _ (T3.out.below hbl5) HSB.out (by omega)).mono ?_); rw [HP.out]; rintro e w6 ⟨he, hb6⟩; rw [HX2.out, HB2.out] at he; subst he; have hbl6 := hbl5.trans (hb6.mono hbs5); have hown6 := hown5.kept hb6; have hbs6 := hbl6.size;  have q2 := Lib.hid (T2.out.below hbl6); have q3 := Lib.hid (T3.out.below hbl6); clear hb6 hown5 hbl5 hown hbl)
            go_wp2_with (go_at_call 68; (with_reducible refine (next_any _ A D t _ q2.out (by omega) (by omega) (by omega)).mono ?_); rw [HP1.out]; rintro e w7 ⟨rfl, rfl⟩; clear q2)
            go_wp2_with (first | (go_at_call 68; (with_reducible refine (next_any _ B D t _ q3.out (by omega) (by omega) (by omega)).mono ?_); rw [HP2.out]; rintro e w7 ⟨rfl, rfl⟩; clear q3) | (at_builtin; (refine wpList_append_sl rfl (.tmp 91) (.tmp 96) rfl rowRng w3.heap.size _ _ _ [[.int .i64 D, .int .i64 E]] rfl (hown6.alloc _) rfl (Sl.one (by simp) rfl) (rng_wide D E) (by rw [rngs_len]; unfold maxLen; simp <;> omega) (by rw [rngs_len]; simp <;> omega) (by simp; omega) ?_); intro v3 w9 hown3 hg3 _; have hb3 := Own.grown (hown6.alloc _) (hbl6.alloc hbs6 _) hg3 (by simp; omega); rw [← HQ.out] at hown3))
            go_roundw
            case rel => exact ⟨m, E + 1, HME.out, by omega, rfl, by rw [HA.out]; exact hown3, hb3⟩
            case measure => simp [intOf]; omega

          · obtain ⟨j, hj⟩ : ∃ j, R.length = j + 1 := ⟨R.length - 1, by omega⟩
            obtain ⟨g, cap7, rfl, hcap⟩ := hown.some_form (by rw [rngs_len]; exact h0)
            rw [rngs_len, hj] at hown hcap ⊢
            have hjl : j < R.length := by omega
            have HJ := Lib.hid hj
            have hj1 : j + 1 ≤ 84006 := by omega
            have hV := HV0.out _ (List.getElem_mem hjl)
            have hjbd := HBD.out _ (List.getElem_mem hjl)
            obtain ⟨pe, hpe⟩ : ∃ pe, (R[j]).e = pe := ⟨_, rfl⟩
            rw [hpe] at hjbd
            have hpe0 : 0 ≤ pe := by omega
            have hpe1 : pe ≤ 84005 := by omega
            clear hjbd HBD
            have HPE := Lib.hid hpe
            by_cases hjn : pe = D - 1
            · have HQ : Hid (rngs (addS R D E 0) = (rngs R).set j ([.int .i64 (R[j]).b, .int .i64 (R[j]).e].set 1 (.int .i64 E))) := by
                rw [Hid, addS_join hj (by rw [hpe]; omega) hV, rngs, rngs, List.map_set]; rfl
              have hjb : (pe == D - 1) = true := by simpa using hjn
              clear hpe hjn hV HV0 h0 hj
              go_wp2_with (go_at_call 40; (with_reducible refine (value_any _ A D _ (T2.out.below hbl) HSA.out (by omega)).mono ?_); rw [HO.out]; rintro e w5 ⟨he, hb5⟩; rw [HX1.out, HB1.out] at he; subst he; have hbl5 := hbl.trans (hb5.mono hbs); have hown5 := hown.kept hb5; have hbs5 := hbl5.size; clear hb5)
              go_wp2_with (go_at_call 40; (with_reducible refine (value_any _ B D _ (T3.out.below hbl5) HSB.out (by omega)).mono ?_); rw [HP.out]; rintro e w6 ⟨he, hb6⟩; rw [HX2.out, HB2.out] at he; subst he; have hbl6 := hbl5.trans (hb6.mono hbs5); have hown6 := hown5.kept hb6; have hbs6 := hbl6.size; have c5 := hown6.cellE (by omega) (rngs_at hjl) (j := 1) rfl; have f5 := hown6.frozenE (j * 2 + 1); have hz5 := (hown6.lt rfl).2; rw [HPE.out] at c5; have q2 := Lib.hid (T2.out.below hbl6); have q3 := Lib.hid (T3.out.below hbl6); clear hb6 hown5 hbl5 hown hbl)
              go_wp2_with (go_at_call 68; (with_reducible refine (next_any _ A D t _ q2.out (by omega) (by omega) (by omega)).mono ?_); rw [HP1.out]; rintro e w7 ⟨rfl, rfl⟩; clear q2)
              go_wp2_with (go_at_call 68; (with_reducible refine (next_any _ B D t _ q3.out (by omega) (by omega) (by omega)).mono ?_); rw [HP2.out]; rintro e w7 ⟨rfl, rfl⟩; clear q3)

              go_roundw
              case rel => exact ⟨m, E + 1, HME.out, by omega, rfl, by rw [HA.out, HQ.out]; exact (hown6.set1 (by omega) j (rngs_at hjl) 1 (by omega) (.int .i64 E) rfl).1, hown6.grown hbl6 (hown6.set1 (by omega) j (rngs_at hjl) 1 (by omega) (.int .i64 E) rfl).2 hbs6⟩
              case measure => simp [intOf]; omega
            · have HQ : Hid (rngs (addS R D E 0) = rngs R ++ [[.int .i64 D, .int .i64 E]]) := by
                rw [Hid, addS_apart hj (fun h => hjn (by rw [← hpe]; omega)), rngs_append]; rfl
              have hjb : (pe == D - 1) = false := by simpa using hjn
              clear hpe hV HV0 h0 hj hjn
              go_wp2_with (go_at_call 40; (with_reducible refine (value_any _ A D _ (T2.out.below hbl) HSA.out (by omega)).mono ?_); rw [HO.out]; rintro e w5 ⟨he, hb5⟩; rw [HX1.out, HB1.out] at he; subst he; have hbl5 := hbl.trans (hb5.mono hbs); have hown5 := hown.kept hb5; have hbs5 := hbl5.size; clear hb5)
              go_wp2_with (go_at_call 40; (with_reducible refine (value_any _ B D _ (T3.out.below hbl5) HSB.out (by omega)).mono ?_); rw [HP.out]; rintro e w6 ⟨he, hb6⟩; rw [HX2.out, HB2.out] at he; subst he; have hbl6 := hbl5.trans (hb6.mono hbs5); have hown6 := hown5.kept hb6; have hbs6 := hbl6.size; have c5 := hown6.cellE (by omega) (rngs_at hjl) (j := 1) rfl; have f5 := hown6.frozenE (j * 2 + 1); have hz5 := (hown6.lt rfl).2; rw [HPE.out] at c5; have q2 := Lib.hid (T2.out.below hbl6); have q3 := Lib.hid (T3.out.below hbl6); clear hb6 hown5 hbl5 hown hbl)
              go_wp2_with (go_at_call 68; (with_reducible refine (next_any _ A D t _ q2.out (by omega) (by omega) (by omega)).mono ?_); rw [HP1.out]; rintro e w7 ⟨rfl, rfl⟩; clear q2)
              go_wp2_with (first | (go_at_call 68; (with_reducible refine (next_any _ B D t _ q3.out (by omega) (by omega) (by omega)).mono ?_); rw [HP2.out]; rintro e w7 ⟨rfl, rfl⟩; clear q3) | (at_builtin; (refine wpList_append_sl rfl (.tmp 91) (.tmp 96) rfl rowRng w3.heap.size _ _ _ [[.int .i64 D, .int .i64 E]] rfl (hown6.alloc _) rfl (Sl.one (by simp) rfl) (rng_wide D E) (by rw [rngs_len]; unfold maxLen; simp <;> omega) (by rw [rngs_len]; simp <;> omega) (by simp; omega) ?_); intro v3 w9 hown3 hg3 _; have hb3 := Own.grown (hown6.alloc _) (hbl6.alloc hbs6 _) hg3 (by simp; omega); rw [← HQ.out] at hown3))
              go_roundw
              case rel => exact ⟨m, E + 1, HME.out, by omega, rfl, by rw [HA.out]; exact hown3, hb3⟩
              case measure => simp [intOf]; omega
      · have hkM : runs (difV A B) f n = difR A B f t := by rw [difR]; congr 1; omega
        rw [hkM] at hown
        clear hkM hDn
        go_wp2
        go_ret2
        exact ⟨_, rfl, hown.more hz3, HB3.out.trans (hbl.mono hz3)⟩
  · have HN : Hid (¬ checkE l f t = 0) := h0
    rw [diffC, if_neg h0]
    obtain ⟨er, her⟩ : ∃ er, checkE l f t = er := ⟨_, rfl⟩
    rw [her] at V h0 ⊢
    have hne : (er != 0) = true := by simpa using h0
    have H := Lib.hid V
    clear V her h0
    go_enter Tryz.func38, Tryz.ntmps38
    go_wp2_with (go_at_call 67; (with_reducible refine H.out.mono ?_); rintro e w1 ⟨rfl, hb1⟩)
    go_ret2
    exact ⟨_, rfl, Own.nil _ _ _ _, hb1⟩
end Go.Proofs.YtaafihdegnaokaaGreatDoor
/- Contracts: the reference's Changed. -/
namespace Go.Proofs.YtaafihdegnaokaaGreatDoor
open Go.RowKit

/-- the end of a range that grows -/
structure EndI (R : List (Int × Int)) (b t e : Int) : Prop where
  lo : b ≤ e
  hi : e ≤ t
  cov : ∀ d, b ≤ d → d ≤ e → Cov R d
theorem end_step {R : List (Int × Int)} {b t e : Int} (h : EndI R b t e) {i : Nat} (hi : i < R.length) (h1 : (R[i]).1 ≤ e + 1) (h2 : e < (R[i]).2) (ht : (R[i]).2 ≤ t) : EndI R b t (R[i]).2 :=
  ⟨by have := h.lo; omega, ht, fun d q1 q2 => by
    rcases Int.lt_or_le e d with h' | h'
    · exact ⟨R[i], List.getElem_mem hi, by omega, q2⟩
    · exact h.cov d q1 h'⟩
theorem end_stop {R : List (Int × Int)} {e : Int} (h : ∀ j (hj : j < R.length), ¬ ((R[j]).1 ≤ e + 1 ∧ e < (R[j]).2)) : ¬ Cov R (e + 1) := by
  rintro ⟨r, hr, h1, h2⟩
  obtain ⟨j, hj, rfl⟩ := List.mem_iff_getElem.1 hr
  exact h j hj ⟨h1, by omega⟩
/-- the last loop: what it has seen -/
structure SeeI (R : List (Int × Int)) (b t e0 : Int) (k : Nat) (e : Int) (m : Bool) : Prop where
  fin : EndI R b t e
  yes : m = true → e0 < e
  no : m = false → e = e0 ∧ ∀ j (hj : j < R.length), j < k → ¬ ((R[j]).1 ≤ e0 + 1 ∧ e0 < (R[j]).2)
theorem see_start {R : List (Int × Int)} {b t e : Int} (h : EndI R b t e) : SeeI R b t e 0 e false := ⟨h, (fun h => by cases h), fun _ => ⟨rfl, fun j _ h => by omega⟩⟩
theorem see_yes {R : List (Int × Int)} {b t e0 e : Int} {k : Nat} {m : Bool} (h : SeeI R b t e0 k e m) (hk : k < R.length) (h1 : (R[k]).1 ≤ e + 1) (h2 : e < (R[k]).2) (ht : (R[k]).2 ≤ t) : SeeI R b t e0 (k + 1) (R[k]).2 true :=
  ⟨end_step h.fin hk h1 h2 ht, fun _ => by
    cases m with
    | false => have := (h.no rfl).1; omega
    | true => have := h.yes rfl; omega, (fun h => by cases h)⟩
theorem see_no {R : List (Int × Int)} {b t e0 e : Int} {k : Nat} {m : Bool} (h : SeeI R b t e0 k e m) (hk : k < R.length) (h1 : ¬ ((R[k]).1 ≤ e + 1 ∧ e < (R[k]).2)) : SeeI R b t e0 (k + 1) e m :=
  ⟨h.fin, h.yes, fun hm => ⟨(h.no hm).1, fun j hj h' => by
    rcases Nat.lt_or_ge j k with h2 | h2
    · exact (h.no hm).2 j hj h2
    · have : j = k := by omega
      subst this
      rw [(h.no hm).1] at h1
      exact h1⟩⟩
/-- where the middle loop stands -/
structure MidI (R : List (Int × Int)) (b t e : Int) (m : Bool) : Prop where
  fin : EndI R b t e
  no : m = false → ¬ Cov R (e + 1)
theorem see_end {R : List (Int × Int)} {b t e0 e : Int} {m : Bool} (h : SeeI R b t e0 R.length e m) : MidI R b t e m :=
  ⟨h.fin, fun hm => by rw [(h.no hm).1]; exact end_stop fun j hj => (h.no hm).2 j hj hj⟩
def bN : Value → Nat
  | .bool true => 1
  | _ => 0
set_option maxRecDepth 100000 in
set_option maxHeartbeats 8000000 in
theorem ChangedR_any (v : Value) (xs : List (Value × List Chg)) (a b f t : Int) (w : World) (hv : Tls w v xs) :
    Calls Tryz.prog 20 #[v, .int .i64 a, .int .i64 b, .int .i64 f, .int .i64 t] w (RetOwn2 w 37 2 (prs (chO (xs.map (·.2)) a b f t)) (chE (xs.map (·.2)) f t)) := by
  have HV := Lib.hid hv
  obtain ⟨A, cap, hvv, -⟩ := hv.sl
  rw [List.length_map] at hvv
  clear hv
  subst hvv
  by_cases h1 : 64 < xs.length
  · have LL := Lib.hid (ch_err3 (a := a) (b := b) (f := f) (t := t) (xs := xs.map (·.2)) (by rw [List.length_map]; exact h1))
    have g1 : decide ((64 : Int) < (xs.length : Int)) = true := decide_eq_true (by omega)
    clear h1
    go_enter Tryz.func20, Tryz.ntmps20
    go_wp2_with fail
    exact bodyPost_ret (v := .tuple #[.slice none 0 0, .int .i64 3]) (by simp [results, Tryz.results20, go_sem]) rfl (by rw [RetOwn2, LL.out.1, LL.out.2]; exact ⟨_, rfl, Own.nil _ _ _ _, Below.refl _ _⟩)
  have g1 : decide ((64 : Int) < (xs.length : Int)) = false := decide_eq_false (by omega)
  by_cases h2 : 0 ≤ f ∧ f ≤ 84005 ∧ 0 ≤ t ∧ t ≤ 84005
  rotate_left
  · have LL := Lib.hid (ch_err2 (a := a) (b := b) (xs := xs.map (·.2)) (by rw [List.length_map]; exact h1) h2)
    have hcase : f < 0 ∨ (0 ≤ f ∧ 84005 < f) ∨ (0 ≤ f ∧ f ≤ 84005 ∧ t < 0) ∨ (0 ≤ f ∧ f ≤ 84005 ∧ 0 ≤ t ∧ 84005 < t) := by omega
    clear h1 h2
    rcases hcase with h3 | ⟨h3, h4⟩ | ⟨h3, h4, h5⟩ | ⟨h3, h4, h5, h6⟩
    · have q0 : decide (f < 0) = true := decide_eq_true (by omega)
      clear h3
      go_enter Tryz.func20, Tryz.ntmps20
      go_wp2_with fail
      exact bodyPost_ret (v := .tuple #[.slice none 0 0, .int .i64 2]) (by simp [results, Tryz.results20, go_sem]) rfl (by rw [RetOwn2, LL.out.1, LL.out.2]; exact ⟨_, rfl, Own.nil _ _ _ _, Below.refl _ _⟩)
    · have q0 : decide (f < 0) = false := decide_eq_false (by omega)
      have q1 : decide (84005 < f) = true := decide_eq_true (by omega)
      clear h3 h4
      go_enter Tryz.func20, Tryz.ntmps20
      go_wp2_with fail
      exact bodyPost_ret (v := .tuple #[.slice none 0 0, .int .i64 2]) (by simp [results, Tryz.results20, go_sem]) rfl (by rw [RetOwn2, LL.out.1, LL.out.2]; exact ⟨_, rfl, Own.nil _ _ _ _, Below.refl _ _⟩)
    · have q0 : decide (f < 0) = false := decide_eq_false (by omega)
      have q1 : decide (84005 < f) = false := decide_eq_false (by omega)
      have q2 : decide (t < 0) = true := decide_eq_true (by omega)
      clear h3 h4 h5
      go_enter Tryz.func20, Tryz.ntmps20
      go_wp2_with fail
      exact bodyPost_ret (v := .tuple #[.slice none 0 0, .int .i64 2]) (by simp [results, Tryz.results20, go_sem]) rfl (by rw [RetOwn2, LL.out.1, LL.out.2]; exact ⟨_, rfl, Own.nil _ _ _ _, Below.refl _ _⟩)
    · have q0 : decide (f < 0) = false := decide_eq_false (by omega)
      have q1 : decide (84005 < f) = false := decide_eq_false (by omega)
      have q2 : decide (t < 0) = false := decide_eq_false (by omega)
      have q3 : decide (84005 < t) = true := decide_eq_true (by omega)
      clear h3 h4 h5 h6
      go_enter Tryz.func20, Tryz.ntmps20
      go_wp2_with fail
      exact bodyPost_ret (v := .tuple #[.slice none 0 0, .int .i64 2]) (by simp [results, Tryz.results20, go_sem]) rfl (by rw [RetOwn2, LL.out.1, LL.out.2]; exact ⟨_, rfl, Own.nil _ _ _ _, Below.refl _ _⟩)
  obtain ⟨r0, r1, r2, r3⟩ := h2
  have q0 : decide (f < 0) = false := decide_eq_false (by omega)
  have q1 : decide (84005 < f) = false := decide_eq_false (by omega)
  have q2 : decide (t < 0) = false := decide_eq_false (by omega)
  have q3 : decide (84005 < t) = false := decide_eq_false (by omega)
  by_cases h3 : t < f
  · have LL := Lib.hid (ch_err1 (a := a) (b := b) (xs := xs.map (·.2)) (by rw [List.length_map]; exact h1) ⟨r0, r1, r2, r3⟩ h3)
    have q4 : decide (t < f) = true := decide_eq_true h3
    clear h1 h3
    go_enter Tryz.func20, Tryz.ntmps20
    go_wp2_with fail
    exact bodyPost_ret (v := .tuple #[.slice none 0 0, .int .i64 1]) (by simp [results, Tryz.results20, go_sem]) rfl (by rw [RetOwn2, LL.out.1, LL.out.2]; exact ⟨_, rfl, Own.nil _ _ _ _, Below.refl _ _⟩)
  have q4 : decide (t < f) = false := decide_eq_false h3
  have HBAD := Lib.hid (fun i (hi : i < xs.length) hj hv => ch_bad (a := a) (b := b) h1 ⟨r0, r1, r2, r3⟩ h3 hi hj hv)
  have HGOOD := Lib.hid (fun hv => ch_good (a := a) (b := b) (xs := xs) h1 ⟨r0, r1, r2, r3⟩ h3 hv)
  have HCK := Lib.hid (fun l : List Chg => check_ok (l := l) ⟨r0, r1, r2, r3⟩ h3)
  have hlen : xs.length ≤ 64 := by omega
  have hft : f ≤ t := by omega
  have HFT := Lib.hid hft
  clear h1 h3
  go_enter Tryz.func20, Tryz.ntmps20
  go_wp2_with fail
  go_loopw [12, 13] (fun r i wr => ∃ k : Nat, k ≤ xs.length ∧ i = .int .i64 k ∧ Hid (Own wr w.heap.size 37 2 r (prs (allK xs a b f t k)) ∧ Below w.heap.size w wr ∧ ∀ j (hj : j < xs.length), j < k → validE (xs[j]).2 = 0)) (fun _ i _ => xs.length - (intOf i).toNat)
  case atStart => exact ⟨0, by omega, rfl, (show Own _ _ _ _ _ (prs []) from Own.nil _ _ _ _), Below.refl _ _, fun j _ h => by omega⟩
  case round =>
    obtain ⟨k, hk, rfl, HI⟩ := hrel
    obtain ⟨wo, rfl⟩ : ∃ wo : World, wo = wr := ⟨_, rfl⟩
    by_cases hlt : k < xs.length
    · obtain ⟨bk, off, hA, hbl, c0, hsl⟩ := (HV.out.below HI.out.2.1).at rfl hlt
      subst hA
      have HB := Lib.hid (HBAD.out k hlt HI.out.2.2)
      have HNX : Hid (validE (xs[k]).2 = 0 → ∀ j (hj : j < xs.length), j < k + 1 → validE (xs[j]).2 = 0) := fun hk' j hj h => by
        rcases Nat.lt_or_ge j k with h' | h'
        · exact HI.out.2.2 j hj h'
        · have : j = k := by omega
          subst this; exact hk'
      have HDI := Lib.hid (refDiff_any _ _ a b f t wo hsl)
      rw [HCK.out] at HDI
      have hl1 := allK_len (xs := xs) (a := a) (b := b) ⟨r0, r3⟩ hk
      have hl2 := rngD_len (xs[k]'hlt).2 (a := a) (b := b) ⟨r0, r3⟩
      have HQ : Hid (prs (allK xs a b f t (k + 1)) = prs (allK xs a b f t k) ++ prs (rngD (xs[k]'hlt).2 a b f t)) := by rw [Hid, allK_step hlt, prs_append]
      have HRD : Hid (validE (xs[k]'hlt).2 = 0 → rngs (diffC (xs[k]'hlt).2 a b f t) = prs (rngD (xs[k]'hlt).2 a b f t)) := fun h => rngs_prs _ (by rw [HCK.out]; exact h)
      obtain ⟨R, hR⟩ : ∃ R, allK xs a b f t k = R := ⟨_, rfl⟩
      obtain ⟨D, hD⟩ : ∃ R, rngD (xs[k]'hlt).2 a b f t = R := ⟨_, rfl⟩
      rw [hR] at HI hl1 HQ
      rw [hD] at hl2 HQ HRD
      obtain ⟨y, hy⟩ : ∃ y, (xs[k]'hlt).1 = y := ⟨_, rfl⟩
      obtain ⟨l, hl⟩ : ∃ y, (xs[k]'hlt).2 = y := ⟨_, rfl⟩
      rw [hy] at c0 hsl HDI
      rw [hl] at hsl HDI HB HNX HRD
      obtain ⟨Ay, cy, rfl, -⟩ := hsl
      have hRl : R.length ≤ 5376384 := by omega
      have HO := Lib.hid HI.out.1
      have HBL := Lib.hid HI.out.2.1
      obtain ⟨Ar, cr, rfl⟩ := HO.out.form
      rw [prs_len] at HO
      have hbs := HBL.out.size
      clear hR hD hy hl hl1 HI
      unfold RetOwn2 at HDI
      simp only [prs_len]
      by_cases h0 : validE l = 0
      · have HN := Lib.hid (HNX.out h0)
        rw [h0, HRD.out h0] at HDI
        clear h0 HB HNX HRD
        go_wp2_with fail
        refine HDI.out.mono ?_
        rintro e w3 ⟨z, rfl, hown3, hb3⟩
        have HB3 := Lib.hid (below_after HBL.out hb3 hbs)
        have hO3 := HO.out.kept hb3
        have hS3 := hown3.sl (by omega)
        obtain ⟨Az, cz, rfl⟩ := hown3.form
        rw [prs_len] at hS3 ⊢
        have hbs3 := HB3.out.size
        clear hb3 hown3 HO
        go_wp2_with (at_builtin; (refine wpList_append_sl rfl (.tmp 64) (.tmp 65) rfl rowRng w.heap.size _ _ _ (prs D) rfl hO3 rfl hS3 (prs_wide D) (by rw [prs_len, prs_len]; unfold maxLen; omega) (by rw [prs_len, prs_len]; omega) (by omega) ?_); intro v5 w5 hown5 hg5 _; have hb5 := Own.grown hO3 HB3.out hg5 hbs3; rw [← HQ.out] at hown5)
        go_roundw
        case rel => exact ⟨k + 1, by omega, by go_num, hown5, hb5, HN.out⟩
        case measure => simp [intOf]; omega
      · have LL := Lib.hid (HB.out h0)
        obtain ⟨E, hE⟩ : ∃ E, validE l = E := ⟨_, rfl⟩
        rw [hE] at HDI LL h0
        have n1 : (E != 0) = true := by simpa using h0
        clear h0 HB HNX hE HRD
        go_wp2_with fail
        refine HDI.out.mono ?_
        rintro e w3 ⟨z, rfl, hown3, hb3⟩
        have HB3 := Lib.hid (below_after HBL.out hb3 hbs)
        clear hb3 hown3 HO
        go_wp2_with fail
        exact bodyPost_ret (v := .tuple #[.slice none 0 0, .int .i64 E]) (by simp [results, Tryz.results20, go_sem]) rfl (by rw [RetOwn2, LL.out.1, LL.out.2]; exact ⟨_, rfl, Own.nil _ _ _ _, HB3.out⟩)
    · obtain rfl : k = xs.length := by omega
      have HG := Lib.hid (HGOOD.out (fun j hj => HI.out.2.2 j hj hj))
      have hl1 := allK_len (xs := xs) (a := a) (b := b) ⟨r0, r3⟩ (Nat.le_refl xs.length)
      rw [allK_end] at hl1 HI
      have HIN := Lib.hid (fun (r : Int × Int) (hr : r ∈ allD (xs.map (·.2)) a b f t) => all_in HFT.out hr)
      obtain ⟨R, hR⟩ : ∃ R, allD (xs.map (·.2)) a b f t = R := ⟨_, rfl⟩
      rw [hR] at HIN HG HI hl1
      have hRl : R.length ≤ 5376384 := by omega
      have HX := Lib.hid (HI.out.1.sl (by omega))
      have HBL := Lib.hid HI.out.2.1
      obtain ⟨Ar, cr, rfl⟩ := HI.out.1.form
      rw [prs_len] at HX
      simp only [prs_len]
      have HST : Hid (OutI R [] f) := out_start fun r hr => (HIN.out r hr).1
      clear HI HGOOD HBAD hl1 hR hlen
      go_wp2_with fail
      go_loopw [16, 17] (fun o i wr => ∃ (at' : Int) (out : List (Int × Int)), (f ≤ at' ∧ at' ≤ t + 1) ∧ out.length ≤ (at' - f).toNat ∧ i = .int .i64 at' ∧ Hid (Own wr wo.heap.size 37 2 o (prs out) ∧ Below wo.heap.size wo wr ∧ OutI R out at')) (fun _ i _ => (t + 2 - intOf i).toNat)
      case atStart => exact ⟨f, [], ⟨by omega, by omega⟩, by simp, rfl, Own.nil _ _ _ _, Below.refl _ _, HST.out⟩
      case round =>
        clear HST
        obtain ⟨z, out, ⟨hz0, hz1⟩, hol, rfl, HI⟩ := hrel
        obtain ⟨wp, rfl⟩ : ∃ wp : World, wp = wr := ⟨_, rfl⟩
        have hX := HX.out.below HI.out.2.1
        have e1 : IntKind.i64.wrap (t + 1) = t + 1 := IntWalk.i64_in _ (by omega)
        have HXP := Lib.hid hX
        have HO := Lib.hid HI.out.1
        have HBP := Lib.hid HI.out.2.1
        have HOI := Lib.hid HI.out.2.2
        have H0 : Hid (BegI R 0 z t (t + 1)) := beg_start R z t
        obtain ⟨Ao, co, rfl⟩ := HO.out.form
        rw [prs_len] at HO
        simp only [prs_len]
        clear hX HI
        go_wp2_with fail
        go_loop [18, 19] (fun p i => ∃ (k : Nat) (b' : Int), k ≤ R.length ∧ i = .int .i64 k ∧ p = .int .i64 b' ∧ Hid (BegI R k z t b')) (fun _ i => R.length - (intOf i).toNat)
        case atStart => exact ⟨0, t + 1, by omega, rfl, rfl, H0.out⟩
        case round =>
          clear H0
          obtain ⟨k, b', hk, rfl, rfl, HK⟩ := hrel
          by_cases hlt : k < R.length
          · obtain ⟨bk, off, rfl, hcl⟩ := HXP.out.cells (by rw [prs_len]; omega)
            obtain ⟨c0, c1⟩ := hcl.pr hlt
            have hbl := hcl.1
            have hrr := HIN.out _ (List.getElem_mem hlt)
            have HNO := Lib.hid (fun h => beg_no HK.out hlt h)
            have HYS := Lib.hid (fun h => beg_yes HK.out hlt h hrr.2.1)
            obtain ⟨x, hx⟩ : ∃ x, (R[k]'hlt).1 = x := ⟨_, rfl⟩
            obtain ⟨y, hy⟩ : ∃ x, (R[k]'hlt).2 = x := ⟨_, rfl⟩
            rw [hx] at c0 HYS
            rw [hy] at c1 HNO HYS
            have i1 : (k : Int) < (R.length : Int) := by omega
            clear hcl hx hy HK hrr
            by_cases h1 : z ≤ y
            · have g2 : decide (z ≤ y) = true := decide_eq_true h1
              obtain ⟨M, hM⟩ : ∃ M, max x z = M := ⟨_, rfl⟩
              obtain ⟨N, hN⟩ : ∃ N, min b' M = N := ⟨_, rfl⟩
              have HN := Lib.hid (HYS.out h1)
              rw [hM, hN] at HN
              clear h1 HNO HYS
              go_wp2
              go_round
              case rel => exact ⟨k + 1, N, by omega, by go_num, rfl, HN.out⟩
              case measure => simp [intOf]; omega
            · have g2 : decide (z ≤ y) = false := decide_eq_false h1
              have HN := Lib.hid (HNO.out h1)
              clear h1 HNO HYS
              go_wp2
              go_round
              case rel => exact ⟨k + 1, b', by omega, by go_num, rfl, HN.out⟩
              case measure => simp [intOf]; omega
          · obtain rfl : k = R.length := by omega
            have HE := Lib.hid (beg_end HK.out)
            have hb1 := HK.out.le
            clear HK
            by_cases hbt : t < b'
            · have g2 : decide (t < b') = true := decide_eq_true hbt
              have HF : Hid (chO (xs.map (·.2)) a b f t = out) := by
                obtain ⟨k1, k2⟩ := out_end HOI.out (fun d d1 d2 => HE.out.2 d d1 (by omega)) (fun r hr => (HIN.out r hr).2.2)
                exact HG.out.2 out k1 k2
              have HO2 := Lib.hid (HO.out.more HBL.out.size)
              have HB2 := Lib.hid (below_after HBL.out HBP.out (HBL.out.size))
              clear hbt HE HOI HO hb1
              go_wp2_with fail
              exact bodyPost_ret (v := .tuple #[.slice Ao out.length co, .int .i64 0]) (by simp [results, Tryz.results20, go_sem]) rfl (by rw [RetOwn2, HG.out.1, HF.out]; exact ⟨_, rfl, HO2.out, HB2.out⟩)
            · have g2 : decide (t < b') = false := decide_eq_false hbt
              have hzb : z ≤ b' ∧ Cov R b' := by
                rcases HE.out.1 with h | h
                · omega
                · exact h
              have HEI : Hid (MidI R b' t b' true) := ⟨⟨Int.le_refl _, by omega, fun d d1 d2 => by
                have : d = b' := by omega
                rw [this]; exact hzb.2⟩, (fun h => by cases h)⟩
              have hzb1 := hzb.1
              have hbt' : b' ≤ t := by omega
              clear hbt hzb hb1
              go_wp2_with fail
              go_loop [20, 21] (fun p q => ∃ (e : Int) (m : Bool), p = .int .i64 e ∧ q = .bool m ∧ Hid (MidI R b' t e m)) (fun p q => 2 * (t - intOf p).toNat + bN q)
              case atStart => exact ⟨b', true, rfl, rfl, HEI.out⟩
              case round =>
                clear HEI
                obtain ⟨e, m, rfl, rfl, HM⟩ := hrel
                have he0 := HM.out.fin.lo
                have he1 := HM.out.fin.hi
                cases m with
                | true =>
                  have HS0 : Hid (SeeI R b' t e 0 e false) := see_start HM.out.fin
                  clear HM
                  go_wp2_with fail
                  go_loop [20, 21, 22] (fun p q i => ∃ (k : Nat) (e' : Int) (m : Bool), k ≤ R.length ∧ i = .int .i64 k ∧ p = .int .i64 e' ∧ q = .bool m ∧ Hid (SeeI R b' t e k e' m)) (fun _ _ i => R.length - (intOf i).toNat)
                  case atStart => exact ⟨0, e, false, by omega, rfl, rfl, rfl, HS0.out⟩
                  case round =>
                    clear HS0
                    obtain ⟨k, e', m, hk, rfl, rfl, rfl, HS⟩ := hrel
                    have he2 := HS.out.fin.lo
                    have he3 := HS.out.fin.hi
                    by_cases hlt : k < R.length
                    · obtain ⟨bk, off, rfl, hcl⟩ := HXP.out.cells (by rw [prs_len]; omega)
                      obtain ⟨c0, c1⟩ := hcl.pr hlt
                      have hbl := hcl.1
                      have hrr := (HIN.out _ (List.getElem_mem hlt)).2.2
                      have HNO := Lib.hid (fun h => see_no HS.out hlt h)
                      have HYS := Lib.hid (fun h1 h2 => see_yes HS.out hlt h1 h2 hrr)
                      obtain ⟨x, hx⟩ : ∃ x, (R[k]'hlt).1 = x := ⟨_, rfl⟩
                      obtain ⟨y, hy⟩ : ∃ x, (R[k]'hlt).2 = x := ⟨_, rfl⟩
                      rw [hx] at c0 HYS HNO
                      rw [hy] at c1 HNO HYS
                      have i1 : (k : Int) < (R.length : Int) := by omega
                      have e2 : IntKind.i64.wrap (e' + 1) = e' + 1 := IntWalk.i64_in _ (by omega)
                      clear hcl hx hy HS hrr
                      by_cases h1 : x ≤ e' + 1
                      · have g3 : decide (x ≤ e' + 1) = true := decide_eq_true h1
                        by_cases h2 : e' < y
                        · have g4 : decide (e' < y) = true := decide_eq_true h2
                          have HN := Lib.hid (HYS.out h1 h2)
                          clear h1 h2 HNO HYS
                          go_wp2
                          go_round
                          case rel => exact ⟨k + 1, y, true, by omega, by go_num, rfl, rfl, HN.out⟩
                          case measure => simp [intOf]; omega
                        · have g4 : decide (e' < y) = false := decide_eq_false h2
                          have HN := Lib.hid (HNO.out fun h => h2 h.2)
                          clear h1 h2 HNO HYS
                          go_wp2
                          go_round
                          case rel => exact ⟨k + 1, e', m, by omega, by go_num, rfl, rfl, HN.out⟩
                          case measure => simp [intOf]; omega
                      · have g3 : decide (x ≤ e' + 1) = false := decide_eq_false h1
                        have HN := Lib.hid (HNO.out fun h => h1 h.1)
                        clear h1 HNO HYS
                        go_wp2
                        go_round
                        case rel => exact ⟨k + 1, e', m, by omega, by go_num, rfl, rfl, HN.out⟩
                        case measure => simp [intOf]; omega
                    · obtain rfl : k = R.length := by omega
                      have HN := Lib.hid (see_end HS.out)
                      have HME : Hid (2 * (t - e').toNat + bN (.bool m) < 2 * (t - e).toNat + 1) := by
                        cases m with
                        | true =>
                          have := HS.out.yes rfl
                          unfold Hid
                          simp only [bN]; omega
                        | false =>
                          have := (HS.out.no rfl).1
                          unfold Hid
                          simp only [bN]; omega
                      clear HS
                      go_wp2
                      go_round
                      case rel => exact ⟨e', m, rfl, rfl, HN.out⟩
                      case measure => simpa [intOf, bN] using HME.out
                | false =>
                  have HOS := Lib.hid (out_step HOI.out hzb1 he0 (fun d d1 d2 => HE.out.2 d d1 d2) HM.out.fin.cov (HM.out.no rfl))
                  have e2 : IntKind.i64.wrap (e + 1) = e + 1 := IntWalk.i64_in _ (by omega)
                  have hol2 : out.length ≤ 84006 := by omega
                  have hbs := HBP.out.size
                  clear HM HOI HE
                  go_wp2_with (at_builtin; (refine wpList_append_sl rfl (.tmp 126) (.tmp 130) rfl rowRng wo.heap.size _ _ _ [[.int .i64 b', .int .i64 e]] rfl (HO.out.alloc _) rfl (Sl.one (by simp) rfl) (pr_wide b' e) (by rw [prs_len]; unfold maxLen; simp <;> omega) (by rw [prs_len]; simp <;> omega) (by simp; omega) ?_); intro v3 w3 hown3 hg3 _; have hb3 := Own.grown (HO.out.alloc _) (HBP.out.alloc hbs _) hg3 (by simp; omega))
                  go_roundw
                  case rel => exact ⟨e + 1, out ++ [(b', e)], ⟨by omega, by omega⟩, by simp; omega, rfl, by rw [prs_append]; exact hown3, hb3, HOS.out⟩
                  case measure => simp [intOf]; omega
end Go.Proofs.YtaafihdegnaokaaGreatDoor
/- Contracts: the reference's Plan. -/
namespace Go.Proofs.YtaafihdegnaokaaGreatDoor
open Go.RowKit

/-- the least period among the first ranges -/
noncomputable def mnP (k a c : Int) (J : List (Int × Int)) (i : Nat) : Int := (J.take i).foldl (fun m p => min m (ofV k a p.1)) c
theorem mnP_zero (k a c : Int) (J : List (Int × Int)) : mnP k a c J 0 = c := by simp [mnP]
theorem mnP_step {k a c : Int} {J : List (Int × Int)} {i : Nat} (hi : i < J.length) : mnP k a c J (i + 1) = min (mnP k a c J i) (ofV k a (J[i]).1) := by
  unfold mnP
  rw [List.take_succ_eq_append_getElem hi, List.foldl_append]; rfl
theorem plB_min {k a : Int} {xs : List (List Chg)} {n m f c : Int} (h : dyE k a f c = 0) {J : List (Int × Int)} (hJ : chgJ xs n m (spLo k a f) (spHi k a c) = J) :
    mnP k a c J J.length = plB k a xs n m f c ∧ f ≤ plB k a xs n m f c ∧ plB k a xs n m f c ≤ c := by
  have hfc := (dyE_ok h).2.2.1
  have hok := (chgJ_ok xs n m (dy_range h).2.1).1
  have hin := fun p (hp : p ∈ chgJ xs n m (spLo k a f) (spHi k a c)) => chgJ_in (dy_range h).2.1 hp
  rw [hJ] at hok hin
  cases J with
  | nil => rw [plB_nil hJ]; exact ⟨by simp [mnP], hfc, Int.le_refl _⟩
  | cons p J' =>
    rw [plB_cons hJ]
    have h1 := min_first h hok hin (j := J'.length) (by simp)
    obtain ⟨h2, h3, h4⟩ := hin p (by simp)
    obtain ⟨_, n', _, hv, h5, h6⟩ := aff_first h h2 h3 h4
    refine ⟨?_, by omega, by omega⟩
    unfold mnP
    exact h1
theorem canon_len : ∀ {J : List (Int × Int)} {lo : Int}, Canon J → (∀ p ∈ J, lo ≤ p.1 ∧ p.2 ≤ 84005) → J.length ≤ (84006 - lo).toNat
  | [], _, _, _ => by simp
  | p :: J, lo, h, hin => by
    have h0 := hin p (by simp)
    have h1 := h.ok p (by simp)
    have := canon_len (J := J) (lo := p.2 + 2) h.tail fun q hq => ⟨by have := (List.pairwise_cons.1 h.gap).1 q hq; omega, (hin q (by simp [hq])).2⟩
    rw [List.length_cons]
    omega
set_option maxRecDepth 100000 in
set_option maxHeartbeats 4000000 in
theorem PlanR_any (k a : Int) (v : Value) (xs : List (Value × List Chg)) (n m f c : Int) (w : World) (hv : Tls w v xs) :
    Calls Tryz.prog 24 #[.agg #[.int .i64 k, .int .i64 a], v, .int .i64 n, .int .i64 m, .int .i64 f, .int .i64 c] w (RetOwn2 w 3 1 (ints (plO k a (xs.map (·.2)) n m f c)) (plE k a (xs.map (·.2)) f c)) := by
  have HC := Lib.hid (CBox.new w k a)
  have HV := Lib.hid hv
  have HS1 := Lib.hid (fun w => SpanR_any k a f w)
  have HS2 := Lib.hid (fun w => SpanR_any k a c w)
  unfold SpP at HS1 HS2
  obtain ⟨A, cap, hvv, -⟩ := hv.sl
  rw [List.length_map] at hvv
  clear hv
  subst hvv
  by_cases h1 : spE k a f = 0
  rotate_left
  · have e1 := (dy_err1 (c := c) h1).1
    have LL := Lib.hid (pl_err (n := n) (m := m) ((plE_days (xs.map (·.2)) (by rw [e1]; decide)).trans e1) (by decide))
    rw [sp_two h1] at HS1
    obtain ⟨L1, hL1⟩ : ∃ x, spLo k a f = x := ⟨_, rfl⟩
    obtain ⟨G1, hG1⟩ : ∃ x, spHi k a f = x := ⟨_, rfl⟩
    rw [hL1, hG1] at HS1
    clear h1 hL1 hG1 e1
    go_enter Tryz.func24, Tryz.ntmps24
    go_wp2_with (go_at_call 30; refine (HS1.out _).mono ?_; rintro e w1 ⟨rfl, hb1⟩; have HC1 := Lib.hid (HC.out.below hb1); clear hb1)
    exact bodyPost_ret (v := .tuple #[.slice none 0 0, .int .i64 2]) (by simp [results, Tryz.results24, go_sem]) rfl (by rw [RetOwn2, LL.out.1, LL.out.2]; exact ⟨_, rfl, Own.nil _ _ _ _, (HC1.out.alloc _).bl⟩)
  rw [h1] at HS1
  obtain ⟨L1, hL1⟩ : ∃ x, spLo k a f = x := ⟨_, rfl⟩
  obtain ⟨G1, hG1⟩ : ∃ x, spHi k a f = x := ⟨_, rfl⟩
  rw [hL1, hG1] at HS1
  have A1 := Lib.hid h1
  have HL1 := Lib.hid hL1
  clear hL1 hG1 h1
  by_cases h2 : spE k a c = 0
  rotate_left
  · have e1 := (dy_err2 A1.out h2).1
    have LL := Lib.hid (pl_err (n := n) (m := m) ((plE_days (xs.map (·.2)) (by rw [e1]; decide)).trans e1) (by decide))
    rw [sp_two h2] at HS2
    obtain ⟨L2, hL2⟩ : ∃ x, spLo k a c = x := ⟨_, rfl⟩
    obtain ⟨G2, hG2⟩ : ∃ x, spHi k a c = x := ⟨_, rfl⟩
    rw [hL2, hG2] at HS2
    clear h2 hL2 hG2 e1
    go_enter Tryz.func24, Tryz.ntmps24
    go_wp2_with fail
    refine (HS1.out _).mono ?_
    rintro e w1 ⟨rfl, hb1⟩
    have HC1 := Lib.hid ((HC.out.below hb1).alloc (.cells #[.int .i64 L1, .int .i64 G1] 37))
    obtain ⟨⟨c0, c1⟩, l1⟩ := (HC.out.below hb1).facts
    have HR1 := Lib.hid (Row.new w1 37 #[.int .i64 L1, .int .i64 G1])
    clear hb1
    go_wp2_with fail
    refine (HS2.out _).mono ?_
    rintro e w2 ⟨rfl, hb2⟩
    have HC2 := Lib.hid ((HC1.out.below hb2).alloc (.cells #[.int .i64 L2, .int .i64 G2] 37))
    have hR2 := HR1.out.below hb2 HR1.out.lt
    have r0 : w2.cell? ⟨w1.heap.size, 0, none⟩ = some (.int .i64 L1) := hR2.cell 0
    have r1 : w2.cell? ⟨w1.heap.size, 1, none⟩ = some (.int .i64 G1) := hR2.cell 1
    have rl := hR2.lt
    clear hb2 c0 c1 l1 hR2
    go_wp2_with fail
    exact bodyPost_ret (v := .tuple #[.slice none 0 0, .int .i64 2]) (by simp [results, Tryz.results24, go_sem]) rfl (by rw [RetOwn2, LL.out.1, LL.out.2]; exact ⟨_, rfl, Own.nil _ _ _ _, HC2.out.bl⟩)
  rw [h2] at HS2
  obtain ⟨L2, hL2⟩ : ∃ x, spLo k a c = x := ⟨_, rfl⟩
  obtain ⟨G2, hG2⟩ : ∃ x, spHi k a c = x := ⟨_, rfl⟩
  rw [hL2, hG2] at HS2
  have HL2 := Lib.hid hG2
  have A2 := Lib.hid h2
  clear hL2 hG2 h2
  by_cases h3 : c < f
  · have e1 := (dy_err3 A1.out A2.out h3).1
    have LL := Lib.hid (pl_err (n := n) (m := m) ((plE_days (xs.map (·.2)) (by rw [e1]; decide)).trans e1) (by decide))
    have g3 : decide (c < f) = true := decide_eq_true h3
    clear h3 e1
    go_enter Tryz.func24, Tryz.ntmps24
    go_wp2_with fail
    refine (HS1.out _).mono ?_
    rintro e w1 ⟨rfl, hb1⟩
    have HC1 := Lib.hid ((HC.out.below hb1).alloc (.cells #[.int .i64 L1, .int .i64 G1] 37))
    obtain ⟨⟨c0, c1⟩, l1⟩ := (HC.out.below hb1).facts
    have HR1 := Lib.hid (Row.new w1 37 #[.int .i64 L1, .int .i64 G1])
    clear hb1
    go_wp2_with fail
    refine (HS2.out _).mono ?_
    rintro e w2 ⟨rfl, hb2⟩
    have HC2 := Lib.hid ((HC1.out.below hb2).alloc (.cells #[.int .i64 L2, .int .i64 G2] 37))
    have hR2 := HR1.out.below hb2 HR1.out.lt
    have r0 : w2.cell? ⟨w1.heap.size, 0, none⟩ = some (.int .i64 L1) := hR2.cell 0
    have r1 : w2.cell? ⟨w1.heap.size, 1, none⟩ = some (.int .i64 G1) := hR2.cell 1
    have rl := hR2.lt
    clear hb2 c0 c1 l1 hR2
    go_wp2_with fail
    exact bodyPost_ret (v := .tuple #[.slice none 0 0, .int .i64 1]) (by simp [results, Tryz.results24, go_sem]) rfl (by rw [RetOwn2, LL.out.1, LL.out.2]; exact ⟨_, rfl, Own.nil _ _ _ _, HC2.out.bl⟩)
  have g3 : decide (c < f) = false := decide_eq_false h3
  have h0 := (dy_good A1.out A2.out h3).1
  have HCH := Lib.hid (fun W h => ChangedR_any (.slice A xs.length cap) xs n m (spLo k a f) (spHi k a c) W h)
  by_cases hc0 : chE (xs.map (·.2)) (spLo k a f) (spHi k a c) = 0
  rotate_left
  · have LL := Lib.hid (pl_err (n := n) (m := m) (plE_chg (xs.map (·.2)) h0) hc0)
    obtain ⟨E, hE⟩ : ∃ E, chE (xs.map (·.2)) (spLo k a f) (spHi k a c) = E := ⟨_, rfl⟩
    obtain ⟨J, hJ⟩ : ∃ E, chO (xs.map (·.2)) n m (spLo k a f) (spHi k a c) = E := ⟨_, rfl⟩
    rw [hE, hJ] at HCH
    rw [hE] at LL hc0
    rw [HL1.out, HL2.out] at HCH
    have n1 : (E != 0) = true := by simpa using hc0
    clear hE hJ h0 hc0 h3
    unfold RetOwn2 at HCH
    go_enter Tryz.func24, Tryz.ntmps24
    go_wp2_with fail
    refine (HS1.out _).mono ?_
    rintro e w1 ⟨rfl, hb1⟩
    have HC1 := Lib.hid ((HC.out.below hb1).alloc (.cells #[.int .i64 L1, .int .i64 G1] 37))
    obtain ⟨⟨c0, c1⟩, l1⟩ := (HC.out.below hb1).facts
    have HR1 := Lib.hid (Row.new w1 37 #[.int .i64 L1, .int .i64 G1])
    clear hb1
    go_wp2_with fail
    refine (HS2.out _).mono ?_
    rintro e w2 ⟨rfl, hb2⟩
    have HC2 := Lib.hid ((HC1.out.below hb2).alloc (.cells #[.int .i64 L2, .int .i64 G2] 37))
    have hR2 := HR1.out.below hb2 HR1.out.lt
    have r0 : w2.cell? ⟨w1.heap.size, 0, none⟩ = some (.int .i64 L1) := hR2.cell 0
    have r1 : w2.cell? ⟨w1.heap.size, 1, none⟩ = some (.int .i64 G1) := hR2.cell 1
    have rl := hR2.lt
    clear hb2 c0 c1 l1 hR2
    go_wp2_with fail
    refine (HCH.out _ (HV.out.below HC2.out.bl)).mono ?_
    rintro e w3 ⟨x, rfl, hown3, hb3⟩
    have HC3 := Lib.hid (HC2.out.below hb3)
    clear hb3 hown3
    go_wp2_with fail
    exact bodyPost_ret (v := .tuple #[.slice none 0 0, .int .i64 E]) (by simp [results, Tryz.results24, go_sem]) rfl (by rw [RetOwn2, LL.out.1, LL.out.2]; exact ⟨_, rfl, Own.nil _ _ _ _, HC3.out.bl⟩)
  have hp0 : plE k a (xs.map (·.2)) f c = 0 := (plE_chg _ h0).trans hc0
  have hchO : chO (xs.map (·.2)) n m (spLo k a f) (spHi k a c) = chgJ (xs.map (·.2)) n m (spLo k a f) (spHi k a c) := by unfold chO; rw [if_pos hc0]
  rw [hc0, hchO] at HCH
  have hcc := dyE_ok h0
  have hcp := cnt_pos hcc.1
  have hJin := fun p (hp : p ∈ chgJ (xs.map (·.2)) n m (spLo k a f) (spHi k a c)) => chgJ_in (dy_range h0).2.1 hp
  obtain ⟨J, hJ⟩ : ∃ E, chgJ (xs.map (·.2)) n m (spLo k a f) (spHi k a c) = E := ⟨_, rfl⟩
  obtain ⟨hb1, hb2, hb3⟩ := plB_min h0 hJ
  obtain ⟨b, hb⟩ : ∃ b, plB k a (xs.map (·.2)) n m f c = b := ⟨_, rfl⟩
  have LL := Lib.hid (pl_good hp0 hb)
  rw [hb] at hb1 hb2 hb3
  have HMN := Lib.hid hb1
  obtain ⟨C, rfl⟩ : ∃ C : Nat, c = C := ⟨c.toNat, by omega⟩
  have hC9 : C ≤ 13000 := by omega
  obtain ⟨N, hN⟩ : ∃ N : Nat, ((C : Int) + 1 - b).toNat = N := ⟨_, rfl⟩
  rw [hN] at LL
  have hN1 : b + N = (C : Int) + 1 := by omega
  have hb0 : 0 ≤ b := by omega
  have HN1 := Lib.hid hN1
  have hN9 : N ≤ 13001 := by omega
  rw [hJ] at HCH
  rw [HL1.out, HL2.out] at HCH
  have hJl : Hid (J.length ≤ 84006) := by
    have hr := dy_range h0
    have hok := (chgJ_ok (xs.map (·.2)) n m hr.2.1).1
    rw [hJ] at hok hJin
    exact canon_len hok (lo := 0) (fun p hp => by have := hJin p hp; omega)
  clear hb hJ h0 hc0 h3 hp0 hchO hcc hcp hb1 hN hN1 hJin
  unfold RetOwn2 at HCH
  go_enter Tryz.func24, Tryz.ntmps24
  go_wp2_with fail
  refine (HS1.out _).mono ?_
  rintro e w1 ⟨rfl, hb1⟩
  have HC1 := Lib.hid ((HC.out.below hb1).alloc (.cells #[.int .i64 L1, .int .i64 G1] 37))
  obtain ⟨⟨c0, c1⟩, l1⟩ := (HC.out.below hb1).facts
  have HR1 := Lib.hid (Row.new w1 37 #[.int .i64 L1, .int .i64 G1])
  clear hb1
  go_wp2_with fail
  refine (HS2.out _).mono ?_
  rintro e w2 ⟨rfl, hb2⟩
  have HC2 := Lib.hid ((HC1.out.below hb2).alloc (.cells #[.int .i64 L2, .int .i64 G2] 37))
  have hR2 := HR1.out.below hb2 HR1.out.lt
  have r0 : w2.cell? ⟨w1.heap.size, 0, none⟩ = some (.int .i64 L1) := hR2.cell 0
  have r1 : w2.cell? ⟨w1.heap.size, 1, none⟩ = some (.int .i64 G1) := hR2.cell 1
  have rl := hR2.lt
  clear hb2 c0 c1 l1 hR2
  go_wp2_with fail
  refine (HCH.out _ (HV.out.below HC2.out.bl)).mono ?_
  rintro e w3 ⟨x, rfl, hown3, hb4⟩
  have HC3 := Lib.hid (HC2.out.below hb4)
  have HX := Lib.hid (hown3.sl (by omega))
  obtain ⟨Ax, cx, rfl⟩ := hown3.form
  rw [prs_len] at HX
  simp only [prs_len]
  have hJ9 := hJl.out
  clear hb4 hown3 HC1 HC2 r0 r1 rl
  go_wp2_with fail
  go_loopw [20, 21] (fun p t wr => ∃ i : Nat, i ≤ J.length ∧ t = .int .i64 i ∧ p = .int .i64 (mnP k a (C : Int) J i) ∧ Hid (CBox w wr k a ∧ Sl wr 2 (.slice Ax J.length cx) (prs J))) (fun _ t _ => J.length - (intOf t).toNat)
  case atStart => exact ⟨0, by omega, rfl, by rw [mnP_zero], HC3.out, HX.out⟩
  case round =>
    clear HX HC3
    obtain ⟨i, hi, rfl, rfl, HI⟩ := hrel
    obtain ⟨wo, rfl⟩ : ∃ wo : World, wo = wr := ⟨_, rfl⟩
    by_cases hlt : i < J.length
    · obtain ⟨bk, off, rfl, hcl⟩ := HI.out.2.cells (by rw [prs_len]; omega)
      obtain ⟨c0, -⟩ := hcl.pr hlt
      have hbl := hcl.1
      obtain ⟨⟨d0, d1⟩, l1⟩ := HI.out.1.facts
      have HST := Lib.hid (mnP_step (k := k) (a := a) (c := (C : Int)) hlt)
      have HOF := Lib.hid (fun w => OfR_any k a (J[i]'hlt).1 w)
      obtain ⟨x, hx⟩ : ∃ x, (J[i]'hlt).1 = x := ⟨_, rfl⟩
      rw [hx] at c0 HST HOF
      obtain ⟨V, hV⟩ : ∃ y, ofV k a x = y := ⟨_, rfl⟩
      obtain ⟨E, hE⟩ : ∃ y, ofE k a x = y := ⟨_, rfl⟩
      rw [hV] at HST HOF
      rw [hE] at HOF
      obtain ⟨Y, hY⟩ : ∃ y, mnP k a (C : Int) J i = y := ⟨_, rfl⟩
      rw [hY] at HST ⊢
      obtain ⟨M, hM⟩ : ∃ y, min Y V = y := ⟨_, rfl⟩
      rw [hM] at HST
      have i1 : (i : Int) < (J.length : Int) := by omega
      clear hcl hx hV hE hY
      go_wp2_with fail
      go_region_with ((go_at_call 42; refine (HOF.out _).mono ?_; rintro e w4 ⟨rfl, hb4⟩))
      all_goals
        have H4 : Hid (CBox w w4 k a ∧ Sl w4 2 (.slice (some ⟨bk, off, none⟩) J.length cx) (prs J)) := by
          have hd := ((Below.refl wo.heap.size wo).drew).trans (hb4.mono (Nat.le_refl _))
          exact ⟨HI.out.1.below hd, HI.out.2.below hd⟩
        clear hb4 HI d0 d1 l1 c0
        go_wp2_with fail
        exact ⟨⟨i + 1, by omega, by go_num, by rw [HST.out], H4.out⟩, by simp [intOf]; omega⟩
    · obtain rfl : i = J.length := by omega
      rw [HMN.out]
      have HBL := Lib.hid HI.out.1.bl
      clear HI
      have H7 : Hid (Own wo w.heap.size 3 1 (.slice none 0 0) (ints (plL b 0)) ∧ Below w.heap.size w wo) := ⟨(show Own _ _ _ _ _ (ints []) from Own.nil _ _ _ _), HBL.out⟩
      have hN1 := HN1.out
      go_wp2_with fail
      go_loopw [24, 25] (fun r t wr => ∃ i : Nat, i ≤ N ∧ t = .int .i64 (b + (i : Int)) ∧ Hid (Own wr w.heap.size 3 1 r (ints (plL b i)) ∧ Below w.heap.size w wr)) (fun _ t _ => (b + N - intOf t).toNat)
      case atStart => exact ⟨0, by omega, by simp, H7.out⟩
      case round =>
        clear H7
        obtain ⟨i, hi, rfl, HI⟩ := hrel
        obtain ⟨wp, rfl⟩ : ∃ wo : World, wo = wr := ⟨_, rfl⟩
        obtain ⟨Ar, cr, rfl⟩ := HI.out.1.form
        rw [ints_len, plL_len] at HI
        simp only [ints_len, plL_len]
        have hbs := HI.out.2.size
        by_cases hlt : i < N
        · have g9 : decide (b + (i : Int) ≤ (C : Int)) = true := decide_eq_true (by omega)
          have e3 : IntKind.i64.wrap (b + (i : Int) + 1) = b + ((i + 1 : Nat) : Int) := by rw [show b + (i : Int) + 1 = b + ((i + 1 : Nat) : Int) by omega]; exact IntWalk.i64_in _ (by omega)
          go_wp2_with (at_builtin; (refine wpList_append_sl rfl (.tmp 87) (.tmp 89) rfl rowInt w.heap.size _ _ _ [[.int .i64 (b + (i : Int))]] rfl (HI.out.1.alloc _) rfl (Sl.one rfl rfl) (ints_wide [b + (i : Int)]) (by rw [ints_len, plL_len]; unfold maxLen; simp <;> omega) (by rw [ints_len, plL_len]; simp <;> omega) (by simp <;> omega) ?_); intro v3 w5 hown3 hg3 _; have H3 : Hid (Own w5 w.heap.size 3 1 v3 (ints (plL b (i + 1))) ∧ Below w.heap.size w w5) := ⟨by rw [plL_step, ints_append]; exact hown3, Own.grown (HI.out.1.alloc _) (HI.out.2.alloc hbs _) hg3 (by simp <;> omega)⟩; clear hown3 hg3)
          go_roundw
          case rel => exact ⟨i + 1, by omega, rfl, H3.out⟩
          case measure => simp [intOf]; omega
        · obtain rfl : N = i := by omega
          have g9 : decide (b + ((N : Nat) : Int) ≤ (C : Int)) = false := decide_eq_false (by omega)
          go_wp2_with fail
          exact bodyPost_ret (v := .tuple #[.slice Ar N cr, .int .i64 0]) (by simp [results, Tryz.results24, go_sem]) rfl (by rw [RetOwn2, LL.out.1, LL.out.2]; exact ⟨_, rfl, HI.out.1, HI.out.2⟩)
end Go.Proofs.YtaafihdegnaokaaGreatDoor
/- A region that draws its order, walked in the order of its text: stretches of operations that only read or call quietly, and between them single operations that nothing can pass. -/
namespace Go.Proofs.YtaafihdegnaokaaGreatDoor
open Go.RowKit

section
variable {P : Program} {ops : Array Oper} {md : Region.Mode} {w : World}

/-- each of k .. n-1 is waited for on the way to n -/
def sinkFrom (md : Region.Mode) (ops : Array Oper) (k n : Nat) : Bool :=
  (List.range n).all fun i => decide (i < k) || (List.range (n + 1)).any fun j => decide (i < j) && Region.waitsFor md ops j i
/-- each behind n waits for n or for one behind it -/
def chainFrom (md : Region.Mode) (ops : Array Oper) (n : Nat) : Bool :=
  (List.range ops.size).all fun t => decide (t ≤ n) || (List.range t).any fun j => decide (n ≤ j) && Region.waitsFor md ops t j
/-- the first s from k on can be taken in the text's order -/
def headFrom (md : Region.Mode) (ops : Array Oper) : Nat → Nat → Array Bool → Bool
  | 0, k, listed => decide (Region.ready md ops listed = [k])
  | s + 1, k, listed => (Region.ready md ops listed).contains k && Region.free md ops listed k && headFrom md ops s (k + 1) (listed.setIfInBounds k true)
def setFrom (s k : Nat) (listed : Array Bool) : Array Bool := match s with
  | 0 => listed
  | s + 1 => setFrom s (k + 1) (listed.setIfInBounds k true)
def mixB (md : Region.Mode) (ops : Array Oper) : List Nat → Nat → Array Bool → Bool
  | [], _, _ => false
  | [_], k, listed => Region.lexFrom md ops (ops.size - k) k listed
  | s :: t :: r, k, listed => decide (k + s < ops.size) && sinkFrom md ops k (k + s) && chainFrom md ops (k + s) && headFrom md ops s k listed && mixB md ops (t :: r) (k + s + 1) ((setFrom s k listed).setIfInBounds (k + s) true)
/-- the walk -/
def wpMix (P : Program) (ops : Array Oper) (Q : Exit → Act → World → Prop) : List Nat → List Oper → Act → World → Prop
  | [], _, _, _ => False
  | [_], l, a, w => wpStill P ops w (fun a' => Q .normal a' w) l a
  | s :: t :: r, l, a, w => wpStill P ops w (fun a' => wpList P ops (Exit.then (fun a'' w'' => wpMix P ops Q (t :: r) (l.drop (s + 1)) a'' w'') Q) ((l.drop s).take 1) a' w) (l.take s) a

theorem tail_waits' {k n : Nat} {listed : Array Bool} (hs : sinkFrom md ops k n = true) (hc : chainFrom md ops n = true) (inv : HeadInv md ops n listed) :
    ∀ (d i : Nat), n - i = d → k ≤ i → i < n → listed.getD i true = false → ∀ t, n ≤ t → t ∉ Region.ready md ops listed := by
  intro d
  induction d using Nat.strongRecOn with
  | _ d ih =>
    intro i hd hki hi hun t ht hr
    obtain ⟨_, ot, hot, hall⟩ := mem_ready.1 hr
    have htlt : t < ops.size := (Array.getElem?_eq_some_iff.1 hot).1
    by_cases htn : t = n
    · subst htn
      have h1 := List.all_eq_true.1 hs i (List.mem_range.2 hi)
      simp only [Bool.or_eq_true, decide_eq_true_eq] at h1
      rcases h1 with h1 | h1
      · omega
      obtain ⟨j, hj, hj2⟩ := List.any_eq_true.1 h1
      simp only [Bool.and_eq_true, decide_eq_true_eq] at hj2
      obtain ⟨oj, hoj, e, he, hb, hon⟩ := Region.waitsFor_spec hj2.2
      have hjle : j ≤ t := by have := List.mem_range.1 hj; omega
      by_cases hjt : j = t
      · subst hjt
        have : oj = ot := Option.some.inj (hoj.symm.trans hot)
        subst this
        have h2 := hall e he hb
        rw [hon, getD_both hun] at h2
        cases h2
      · cases hl : listed.getD j false with
        | true =>
          have h2 := inv.closed j oj hoj hl e he hb
          rw [hon, getD_both hun] at h2
          cases h2
        | false =>
          have hjs : j < listed.size := by rw [inv.size]; omega
          exact ih (t - j) (by omega) j rfl (by omega) (by omega) (getD_in hjs hl) t (Nat.le_refl _) hr
    · have h1 := List.all_eq_true.1 hc t (List.mem_range.2 htlt)
      simp only [Bool.or_eq_true, decide_eq_true_eq] at h1
      rcases h1 with h1 | h1
      · omega
      · obtain ⟨j, hj, hj2⟩ := List.any_eq_true.1 h1
        simp only [Bool.and_eq_true, decide_eq_true_eq] at hj2
        obtain ⟨o', ho', e, he, hb, hon⟩ := Region.waitsFor_spec hj2.2
        have : o' = ot := Option.some.inj (ho'.symm.trans hot)
        subst this
        have h2 := hall e he hb
        have hjt := List.mem_range.1 hj
        rw [hon, getD_both (inv.tail j hj2.1 (by omega))] at h2
        cases h2

theorem wpAnyL_first' {k n i : Nat} {oi : Oper} {v : Value} {L : Array Bool → Act → Prop} (hi : ops[i]? = some oi) (hsel : ∀ (j : Nat) (o : Oper) cs b, ops[j]? = some o → o.op ≠ .select cs b)
    (hs : sinkFrom md ops k n = true) (hc : chainFrom md ops n = true) (hki : k ≤ i) (hin : i < n)
    (hdone : ∀ listed a, L listed a → ∀ j ∈ Region.ready md ops listed, n ≤ j) :
    ∀ (f : Nat) (listed : Array Bool) (a : Act), HeadInv md ops n listed →
      (∀ j oj, ops[j]? = some oj → j ≠ i → listed.getD j true = false → (∀ e ∈ oj.after, Region.binds md e = true → e.on ≠ i) → oi.apart ops oj = true) →
      i ∈ Region.ready md ops listed → YieldsAt P ops w oi v a →
      wpAnyL P md ops w n L f (listed.setIfInBounds i true) (a.put oi.dst v) → wpAnyL P md ops w n L (f + 1) listed a := by
  intro f
  induction f with
  | zero =>
    intro listed a inv _ hr hy H
    have hun := (mem_ready.1 hr).1
    refine ⟨fun h => (by rw [h] at hr; cases hr), fun j hj => ?_⟩
    have hjn : j < n := by
      rcases Nat.lt_or_ge j n with h | h
      · exact h
      · exact absurd hj (tail_waits' hs hc inv _ i rfl hki hin hun j h)
    refine ⟨hjn, ?_⟩
    by_cases hji : j = i
    · subst hji; exact hy.stOp hi H
    · have := hdone _ _ H j (ready_mono hj hji)
      omega
  | succ f ih =>
    intro listed a inv hfree hr hy H
    have hun := (mem_ready.1 hr).1
    refine ⟨fun h => (by rw [h] at hr; cases hr), fun j hj => ?_⟩
    have hjn : j < n := by
      rcases Nat.lt_or_ge j n with h | h
      · exact h
      · exact absurd hj (tail_waits' hs hc inv _ i rfl hki hin hun j h)
    refine ⟨hjn, ?_⟩
    by_cases hji : j = i
    · subst hji; exact hy.stOp hi H
    · have h1 := (H.2 j (ready_mono hj hji)).2
      obtain ⟨hjun, oj, hoj, hall⟩ := mem_ready.1 hj
      have hnot : ∀ e ∈ oj.after, Region.binds md e = true → e.on ≠ i := fun e he hb heq => by
        have h1 := hall e he hb
        rw [heq, getD_both hun] at h1
        cases h1
      have h2 := stOp_put hoj (hfree j oj hoj hji hjun hnot) (fun cs b => hsel i oi cs b hi) (fun cs b => hsel j oj cs b hoj) hy h1
      have hfree' : ∀ q oq, ops[q]? = some oq → q ≠ i → (listed.setIfInBounds j true).getD q true = false →
          (∀ e ∈ oq.after, Region.binds md e = true → e.on ≠ i) → oi.apart ops oq = true := fun q oq hq hqi hun hno => by
        refine hfree q oq hq hqi ?_ hno
        by_cases hjq : j = q
        · subst hjq; exact hjun
        · rw [getD_set_ne true hjq] at hun; exact hun
      refine stOp_mono (fun a' h3 => ih (listed.setIfInBounds j true) a' (inv.set hj hjn) hfree' (ready_mono hr (Ne.symm hji)) h3.1 ?_) h2
      rw [Array.setIfInBounds_comm _ _ hji]
      exact h3.2

theorem wpAnyL_lex' {k0 n : Nat} {Lq : Act → Prop} (hsel : Region.noSelect ops = true) (hs : sinkFrom md ops k0 n = true) (hc : chainFrom md ops n = true) (F : Array Bool) (hF : Region.ready md ops F = [n]) :
    ∀ (l : List Oper) (k : Nat) (listed : Array Bool) (a : Act), (∀ j, j < l.length → l[j]? = ops[k + j]?) → k + l.length = n → k0 ≤ k → HeadInv md ops n listed →
    headFrom md ops l.length k listed = true → setFrom l.length k listed = F → wpStill P ops w Lq l a →
    wpAnyL P md ops w n (fun listed' a' => listed' = F ∧ HeadInv md ops n listed' ∧ Lq a') l.length listed a
  | [], k, listed, a, _, hk, _, inv, hB, hset, h => ⟨hset, inv, h⟩
  | o :: l, k, listed, a, hl, hk, hk0, inv, hB, hset, h => by
    have h0 : ops[k]? = some o := by simpa using (hl 0 (by simp)).symm
    simp only [List.length_cons, headFrom, Bool.and_eq_true] at hB
    obtain ⟨⟨hr, hf⟩, hB'⟩ := hB
    have hkn : k < n := by simp only [List.length_cons] at hk; omega
    have hr' : k ∈ Region.ready md ops listed := by simpa using hr
    have hst : stOp P ops w k (wpStill P ops w Lq l) a := by unfold stOp; simp only [h0]; exact h
    obtain ⟨v, hy, hK⟩ := yieldsAt_of_stOp h0 hst
    exact wpAnyL_first' h0 (Region.noSelect_spec hsel) hs hc hk0 hkn (fun listed' a' hL j hj => by rw [hL.1, hF] at hj; simp at hj; omega) l.length listed a inv (Region.free_spec h0 hf) hr' hy
      (wpAnyL_lex' hsel hs hc F hF l (k + 1) _ _ (fun j hj => by have := hl (j + 1) (by simp; omega); simpa [Nat.add_assoc, Nat.add_comm 1 j] using this) (by simp only [List.length_cons] at hk; omega) (by omega) (inv.set hr' hkn) hB' hset hK)

theorem headFrom_ready : ∀ (s k : Nat) (listed : Array Bool), headFrom md ops s k listed = true → Region.ready md ops (setFrom s k listed) = [k + s]
  | 0, k, listed, h => by simpa [headFrom, setFrom] using h
  | s + 1, k, listed, h => by
    simp only [headFrom, Bool.and_eq_true] at h
    have := headFrom_ready s (k + 1) _ h.2
    rw [setFrom, this]; congr 1; omega

/-- what is listed is closed, and is just the first k -/
def Firsts (md : Region.Mode) (ops : Array Oper) (k : Nat) (listed : Array Bool) : Prop :=
  listed.size = ops.size ∧ (∀ j oj, ops[j]? = some oj → listed.getD j false = true → ∀ e ∈ oj.after, Region.binds md e = true → listed.getD e.on false = true) ∧ ∀ t, k ≤ t → t < ops.size → listed.getD t true = false
theorem Firsts.next {n : Nat} {listed : Array Bool} (h : HeadInv md ops n listed) (hr : Region.ready md ops listed = [n]) : Firsts md ops (n + 1) (listed.setIfInBounds n true) := by
  have hn : n ∈ Region.ready md ops listed := by rw [hr]; simp
  obtain ⟨_, oi, hoi, hall⟩ := mem_ready.1 hn
  refine ⟨by simp [h.size], fun j oj hj hl e he hb => ?_, fun t ht ht' => by rw [getD_set_ne true (by omega)]; exact h.tail t (by omega) ht'⟩
  by_cases hij : n = j
  · subst hij
    have : oj = oi := Option.some.inj (hj.symm.trans hoi)
    subst this
    exact getD_set_true (hall e he hb)
  · rw [getD_set_ne false hij] at hl
    exact getD_set_true (h.closed j oj hj hl e he hb)

theorem wp_then {o : Oper} {a : Act} {next K : Act → World → Prop} {Q : Exit → Act → World → Prop} (h : o.wp P a w next (Exit.then K Q)) : o.wp P a w next Q := by
  unfold Oper.wp at *
  generalize (execOp a.eval o).run P w = r at *
  cases r with
  | ok n w' => cases n <;> exact h
  | halt x w' => cases x <;> exact h
theorem wpOp_then {i : Nat} {a : Act} {next K : Act → World → Prop} {Q : Exit → Act → World → Prop} (h : wpOp P ops (Exit.then K Q) i next a w) : wpOp P ops Q i next a w := by
  unfold wpOp at *
  revert h
  cases ops[i]? with
  | none => exact id
  | some o =>
    intro h
    simp only at *
    split
    · rename_i hw
      rw [if_pos hw] at h
      rcases h with h | h
      · exact .inl (wp_then h)
      · exact .inr ⟨h.1, h.2⟩
    · rename_i hw
      rwa [if_neg hw] at h
theorem wpAny_of_mix {Q : Exit → Act → World → Prop} (hsel : Region.noSelect ops = true) : ∀ (ph : List Nat) (l : List Oper) (k : Nat) (listed : Array Bool) (a : Act) (w : World), k + l.length = ops.size → (∀ j, l[j]? = ops[k + j]?) → Firsts md ops k listed →
    mixB md ops ph k listed = true → wpMix P ops Q ph l a w → wpAny P md ops Q l.length listed a w
  | [], _, _, _, _, _, _, _, _, hB, _ => by cases hB
  | [s], l, k, listed, a, w, hk, hl, _, hB, h => by
    refine wpAny_of_still (Q := fun a' => Q .normal a' w) (fun _ h => h) _ _ _ ?_
    refine wpAnyS_lex hsel l k listed a hl ?_ h
    simp only [mixB] at hB
    rwa [show ops.size - k = l.length by omega] at hB
  | s :: t :: r, l, k, listed, a, w, hk, hl, hfs, hB, h => by
    simp only [mixB, Bool.and_eq_true, decide_eq_true_eq] at hB
    obtain ⟨⟨⟨⟨hn, hs⟩, hc⟩, hh⟩, hrest⟩ := hB
    have hsl : s < l.length := by omega
    have htl : (l.take s).length = s := by simp; omega
    have inv : HeadInv md ops (k + s) listed := ⟨hfs.1, hfs.2.1, fun t ht ht' => hfs.2.2 t (by omega) ht'⟩
    have hF := headFrom_ready s k listed hh
    have H := wpAnyL_lex' (P := P) (w := w) hsel hs hc _ hF (l.take s) k listed a (fun j hj => by
      have hj' : j < s := by rw [htl] at hj; exact hj
      rw [List.getElem?_take, if_pos hj']; exact hl j) (by omega) (Nat.le_refl _) inv (by rw [htl]; exact hh) (by rw [htl]) h
    have := wpAny_of_head (Q' := Q) (g := l.length - s) (fun listed' a' hL => by
      obtain ⟨rfl, inv', hL⟩ := hL
      have hg : l.length - s = (l.length - s - 1) + 1 := by omega
      rw [hg]
      refine ⟨fun h1 => (by rw [hF] at h1; cases h1), fun i hi => ?_⟩
      rw [hF] at hi
      have hik : i = k + s := by simpa using hi
      subst hik
      have ho : ops[k + s]? = some l[s] := by rw [← hl s]; exact List.getElem?_eq_getElem hsl
      have hd1 : (l.drop s).take 1 = [l[s]] := by rw [List.drop_eq_getElem_cons hsl]; rfl
      rw [hd1] at hL
      have hw : wpOp P ops (Exit.then (fun a'' w'' => wpMix P ops Q (t :: r) (l.drop (s + 1)) a'' w'') Q) (k + s) (wpList P ops (Exit.then (fun a'' w'' => wpMix P ops Q (t :: r) (l.drop (s + 1)) a'' w'') Q) []) a' w := by unfold wpOp; simp only [ho]; exact hL
      refine wpOp_mono (fun a'' w'' h' => ?_) (wpOp_then hw)
      have h2 := wpAny_of_mix hsel (t :: r) (l.drop (s + 1)) (k + s + 1) _ a'' w'' (by rw [List.length_drop]; omega) (fun j => by rw [List.getElem?_drop, hl]; congr 1; omega) (Firsts.next inv' hF) hrest h'
      rwa [List.length_drop, show l.length - (s + 1) = l.length - s - 1 by omega] at h2) _ _ _ H
    rw [htl, show s + (l.length - s) = l.length by omega] at this
    exact this

/-- the region, by its stretches: ph counts the quiet operations ahead of each single one, and those at the end -/
theorem region_mix {id : Nat} {Q : Exit → Act → World → Prop} {a : Act} {l : List Oper} (ph : List Nat) (hm : P.follows .mixedOrders = true) (hs : Region.noSelect l.toArray = true)
    (hB : mixB .any l.toArray ph 0 (Array.replicate l.toArray.size false) = true) (h : wpMix P l.toArray Q ph l a w.drew) : (Code.region id l.toArray true).wp P Q a w := by
  refine wp_region_any hm ?_
  have := wpAny_of_mix (P := P) (md := .any) (Q := Q) hs ph l 0 (Array.replicate l.toArray.size false) a w.drew (by simp) (fun j => by simp) ⟨by simp, fun j oj _ hl => (by rw [getD_replicate_false] at hl; cases hl), fun t _ ht => getD_in (by simpa using ht) (getD_replicate_false _ _)⟩ hB h
  simpa using this
end

end Go.Proofs.YtaafihdegnaokaaGreatDoor
/- Opening a law's arguments: slices, numbers. -/
namespace Go.Proofs.YtaafihdegnaokaaGreatDoor
open Go.ChangeShapes Go.WideShapes Go.ChangeAt Go.RowKit Go.Deep

section
variable {H : Type} {enc : TypeId × Value → H} {P : Program} {w : World} {base b0 : Nat} {spare : Nat → Bool} {held : Bool} {r : Reach}
/-- a slice whose elements open as f x -/
theorem open_sl {α : Type} [Inhabited α] (f : α → List Value) {t e : TypeId} {sz : Nat} {v : Value} {d : DataW H} {ps : List MemPlace} (ht : P.underlying t = some (.slice e)) (hc : P.cellsOf e = sz) (hsz : 0 < sz)
    (hval : Value.okWide P w r b0 t v) (hd : DataW.Trod enc P w base spare held t v d ps) (hf : ∀ n cs y, DataW.trod enc P w base spare held n e cs = some y → ∃ x, cs = f x) :
    ∃ l : List α, Sl w sz v (l.map f) := by
  obtain ⟨A, len, cap, rfl⟩ := okWide_slice ht hval
  obtain ⟨fuel, hd⟩ := hd
  rcases open_slice ht hd with ⟨h0, _⟩ | ⟨a, len', cap', m, n, D, Pl, h0, hb, hl, hm, hmm, _, hx⟩
  · simp [Value.cells] at h0
    obtain ⟨rfl, rfl, rfl⟩ := h0
    exact ⟨[], Sl.nil _ _⟩
  · simp [Value.cells] at h0
    obtain ⟨rfl, rfl, rfl⟩ := h0
    have hlm : len ≤ m := by rw [hmm]; split <;> omega
    obtain ⟨V, hV⟩ := choose_lt (α := α) (n := len) (p := fun i x => w.cells? base (a.add (i * sz)) sz = some (f x)) (fun i hi => by
      obtain ⟨cs', h1, h2⟩ := hx i (by omega)
      obtain ⟨x, rfl⟩ := hf _ _ _ h2
      rw [hc] at h1
      exact ⟨x, h1⟩)
    refine ⟨(List.range len).map V, some a, cap, by simp, by simpa using hl, hm, (fun h => by cases h), ?_⟩
    by_cases hz : len = 0
    · left; subst hz; rfl
    · right
      have g0 := hV 0 (by omega)
      obtain ⟨_, hl0, hc0⟩ := World.cells?_some g0
      have h00 := hc0 0 hsz
      obtain ⟨u0, hu0⟩ : ∃ u, (f (V 0))[0]? = some u := ⟨_, List.getElem?_eq_getElem (by omega)⟩
      rw [hu0] at h00
      obtain ⟨b, off, spot⟩ := a
      have hspot : spot = none := by simpa [Addr.add] using World.cell?_spot h00
      subst hspot
      refine ⟨b, off, rfl, ?_, fun i x hi j u hj => ?_⟩
      · rcases Nat.lt_or_ge b w.heap.size with hlt | hge
        · exact hlt
        · simp [Addr.add, World.cell?, Array.getElem?_eq_none hge] at h00
      · simp only [List.getElem?_map, Option.map_eq_some_iff] at hi
        obtain ⟨y, ⟨k, hk, rfl⟩, rfl⟩ := hi
        obtain ⟨hi1, hi2⟩ := List.getElem?_eq_some_iff.1 hk
        simp only [List.length_range, List.getElem_range] at hi1 hi2
        subst hi2
        obtain ⟨_, hl1, hc1⟩ := World.cells?_some (hV i hi1)
        have hj1 : j < sz := by have := (List.getElem?_eq_some_iff.1 hj).1; omega
        have := hc1 j hj1
        rw [hj] at this
        rw [← this]
        congr 1
        by_cases q1 : i * sz = 0 <;> by_cases q2 : j = 0 <;> simp [Addr.add, q1, q2] <;> omega
end
section
variable {H : Type} {enc : TypeId × Value → H} {w : World} {base b0 : Nat} {spare : Nat → Bool} {held : Bool} {r : Reach}
set_option maxRecDepth 100000 in
theorem cellsInt : Tryz.prog.cellsOf 3 = 1 := by kernel_rfl
set_option maxRecDepth 100000 in
theorem open_intsL {v : Value} {d : DataW H} {ps : List MemPlace} (hval : Value.okWide Tryz.prog w r b0 22 v) (hd : DataW.Trod enc Tryz.prog w base spare held 22 v d ps) :
    ∃ zs : List Int, Sl w 1 v (ints zs) := by
  refine open_sl (fun z : Int => [.int .i64 z]) Tryz.underlying22 cellsInt (by omega) hval hd fun n cs y h => ?_
  obtain ⟨z, rfl, _⟩ := DataW.trod_int Tryz.underlying3 h
  exact ⟨z, rfl⟩
/-- one field of a struct -/
theorem field_ofL {fs : Array Field} {xs : List (DataW H × List MemPlace)} {m : Nat} {cs : List Value} (hlen : xs.length = fs.size) (hf : ∀ (i : Nat) (f : Field), fs[i]? = some f → DataW.trod enc Tryz.prog w base spare held m f.type ((cs.drop f.offset).take (Tryz.prog.cellsOf f.type)) = xs[i]?)
    (i : Nat) (t : TypeId) (off c : Nat) (h : (fs[i]?).map (fun f => (f.type, f.offset)) = some (t, off)) (hc : Tryz.prog.cellsOf t = c) : ∃ y, DataW.trod enc Tryz.prog w base spare held m t ((cs.drop off).take c) = some y := by
  obtain ⟨f, hi, he⟩ := Option.map_eq_some_iff.1 h
  injection he with h1 h2
  subst h1 h2 hc
  have hl : i < xs.length := by rw [hlen]; exact (Array.getElem?_eq_some_iff.1 hi).1
  exact ⟨xs[i], by rw [hf i f hi, List.getElem?_eq_getElem hl]⟩
end
theorem wf_in {n : Int} (h : (Lit.int .i64 n).wf = true) : -9223372036854775808 ≤ n ∧ n ≤ 9223372036854775807 := by
  simp only [Lit.wf, Bool.and_eq_true, decide_eq_true_eq] at h
  have e1 : IntKind.i64.min = -9223372036854775808 := rfl
  have e2 : IntKind.i64.max = 9223372036854775807 := rfl
  omega
end Go.Proofs.YtaafihdegnaokaaGreatDoor
/- Opening a law's arguments: slices of changes. -/
namespace Go.Proofs.YtaafihdegnaokaaGreatDoor
open Go.ChangeShapes Go.WideShapes Go.ChangeAt Go.RowKit Go.Deep

section
variable {H : Type} {enc : TypeId × Value → H} {w : World} {base b0 : Nat} {spare : Nat → Bool} {held : Bool} {r : Reach}
set_option maxRecDepth 100000 in
theorem cellsChg : Tryz.prog.cellsOf 66 = 4 ∧ Tryz.prog.cellsOf 4 = 1 := ⟨by kernel_rfl, by kernel_rfl⟩
set_option maxRecDepth 100000 in
theorem cells_chg {n : Nat} {cs : List Value} {y : DataW H × List MemPlace} (h : DataW.trod enc Tryz.prog w base spare held n 66 cs = some y) : ∃ x : Chg, cs = x.vals := by
  obtain ⟨xs, m, _, rfl, hl, hlen, hf⟩ := DataW.trod_struct Tryz.underlying66 h
  have hl' : cs.length = 4 := hl.trans cellsChg.1
  match cs, hl' with
  | [c0, c1, c2, c3], _ =>
    obtain ⟨y0, h0⟩ := field_ofL hlen hf 0 3 0 1 rfl cellsInt
    obtain ⟨y1, h1⟩ := field_ofL hlen hf 1 3 1 1 rfl cellsInt
    obtain ⟨y2, h2⟩ := field_ofL hlen hf 2 3 2 1 rfl cellsInt
    obtain ⟨y3, h3⟩ := field_ofL hlen hf 3 4 3 1 rfl cellsChg.2
    obtain ⟨a, e0, _⟩ := DataW.trod_int Tryz.underlying3 h0
    obtain ⟨b, e1, _⟩ := DataW.trod_int Tryz.underlying3 h1
    obtain ⟨c, e2, _⟩ := DataW.trod_int Tryz.underlying3 h2
    obtain ⟨d, e3, _⟩ := DataW.trod_bool Tryz.underlying4 h3
    simp at e0 e1 e2 e3
    subst e0 e1 e2 e3
    exact ⟨⟨a, b, c, d⟩, rfl⟩
set_option maxRecDepth 100000 in
theorem open_chgs {v : Value} {d : DataW H} {ps : List MemPlace} (hval : Value.okWide Tryz.prog w r b0 49 v) (hd : DataW.Trod enc Tryz.prog w base spare held 49 v d ps) :
    ∃ l : List Chg, Sl w 4 v (chgs l) :=
  open_sl Chg.vals Tryz.underlying49 cellsChg.1 (by omega) hval hd fun _n _cs _y h => cells_chg h
end
end Go.Proofs.YtaafihdegnaokaaGreatDoor
/- Opening a law's arguments: slices of slices of changes, ranges, pay calendars. -/
namespace Go.Proofs.YtaafihdegnaokaaGreatDoor
open Go.ChangeShapes Go.WideShapes Go.ChangeAt Go.RowKit Go.Deep

section
variable {H : Type} {enc : TypeId × Value → H} {P : Program} {w : World} {base b0 : Nat} {spare : Nat → Bool} {held : Bool} {r : Reach}
/-- a slice whose elements open as f x with Q x -/
theorem open_slP {α : Type} [Inhabited α] (f : α → List Value) (Q : α → Prop) {t e : TypeId} {sz : Nat} {v : Value} {d : DataW H} {ps : List MemPlace} (ht : P.underlying t = some (.slice e)) (hc : P.cellsOf e = sz) (hsz : 0 < sz)
    (hval : Value.okWide P w r b0 t v) (hd : DataW.Trod enc P w base spare held t v d ps) (hf : ∀ n cs y, DataW.trod enc P w base spare held n e cs = some y → ∃ x, Q x ∧ cs = f x) :
    ∃ l : List α, Sl w sz v (l.map f) ∧ ∀ x ∈ l, Q x := by
  obtain ⟨A, len, cap, rfl⟩ := okWide_slice ht hval
  obtain ⟨fuel, hd⟩ := hd
  rcases open_slice ht hd with ⟨h0, _⟩ | ⟨a, len', cap', m, n, D, Pl, h0, hb, hl, hm, hmm, _, hx⟩
  · simp [Value.cells] at h0
    obtain ⟨rfl, rfl, rfl⟩ := h0
    exact ⟨[], Sl.nil _ _, fun _ h => by cases h⟩
  · simp [Value.cells] at h0
    obtain ⟨rfl, rfl, rfl⟩ := h0
    have hlm : len ≤ m := by rw [hmm]; split <;> omega
    obtain ⟨V, hV⟩ := choose_lt (α := α) (n := len) (p := fun i x => w.cells? base (a.add (i * sz)) sz = some (f x) ∧ Q x) (fun i hi => by
      obtain ⟨cs', h1, h2⟩ := hx i (by omega)
      obtain ⟨x, hq, rfl⟩ := hf _ _ _ h2
      rw [hc] at h1
      exact ⟨x, h1, hq⟩)
    refine ⟨(List.range len).map V, ⟨some a, cap, by simp, by simpa using hl, hm, (fun h => by cases h), ?_⟩, fun x hx => by
      obtain ⟨i, hi, rfl⟩ := List.mem_map.1 hx
      exact (hV i (List.mem_range.1 hi)).2⟩
    by_cases hz : len = 0
    · left; subst hz; rfl
    · right
      have g0 := (hV 0 (by omega)).1
      obtain ⟨_, hl0, hc0⟩ := World.cells?_some g0
      have h00 := hc0 0 hsz
      obtain ⟨u0, hu0⟩ : ∃ u, (f (V 0))[0]? = some u := ⟨_, List.getElem?_eq_getElem (by omega)⟩
      rw [hu0] at h00
      obtain ⟨b, off, spot⟩ := a
      have hspot : spot = none := by simpa [Addr.add] using World.cell?_spot h00
      subst hspot
      refine ⟨b, off, rfl, ?_, fun i x hi j u hj => ?_⟩
      · rcases Nat.lt_or_ge b w.heap.size with hlt | hge
        · exact hlt
        · simp [Addr.add, World.cell?, Array.getElem?_eq_none hge] at h00
      · simp only [List.getElem?_map, Option.map_eq_some_iff] at hi
        obtain ⟨y, ⟨k, hk, rfl⟩, rfl⟩ := hi
        obtain ⟨hi1, hi2⟩ := List.getElem?_eq_some_iff.1 hk
        simp only [List.length_range, List.getElem_range] at hi1 hi2
        subst hi2
        obtain ⟨_, hl1, hc1⟩ := World.cells?_some (hV i hi1).1
        have hj1 : j < sz := by have := (List.getElem?_eq_some_iff.1 hj).1; omega
        have := hc1 j hj1
        rw [hj] at this
        rw [← this]
        congr 1
        by_cases q1 : i * sz = 0 <;> by_cases q2 : j = 0 <;> simp [Addr.add, q1, q2] <;> omega
/-- a slice whose elements open as f x, read off its one cell -/
theorem open_slc {α : Type} [Inhabited α] (f : α → List Value) {t e : TypeId} {sz fuel : Nat} {cs : List Value} {x : DataW H × List MemPlace} (ht : P.underlying t = some (.slice e)) (hc : P.cellsOf e = sz) (hsz : 0 < sz)
    (hd : DataW.trod enc P w base spare held fuel t cs = some x) (hf : ∀ n cs y, DataW.trod enc P w base spare held n e cs = some y → ∃ x, cs = f x) :
    ∃ v, ∃ l : List α, cs = [v] ∧ Sl w sz v (l.map f) := by
  rcases open_slice ht hd with ⟨rfl, _⟩ | ⟨a, len, cap, m, n, D, Pl, rfl, hb, hl, hm, hmm, _, hx⟩
  · exact ⟨_, [], rfl, Sl.nil _ _⟩
  · have hlm : len ≤ m := by rw [hmm]; split <;> omega
    obtain ⟨V, hV⟩ := choose_lt (α := α) (n := len) (p := fun i x => w.cells? base (a.add (i * sz)) sz = some (f x)) (fun i hi => by
      obtain ⟨cs', h1, h2⟩ := hx i (by omega)
      obtain ⟨x, rfl⟩ := hf _ _ _ h2
      rw [hc] at h1
      exact ⟨x, h1⟩)
    refine ⟨_, (List.range len).map V, rfl, some a, cap, by simp, by simpa using hl, hm, (fun h => by cases h), ?_⟩
    by_cases hz : len = 0
    · left; subst hz; rfl
    · right
      have g0 := hV 0 (by omega)
      obtain ⟨_, hl0, hc0⟩ := World.cells?_some g0
      have h00 := hc0 0 hsz
      obtain ⟨u0, hu0⟩ : ∃ u, (f (V 0))[0]? = some u := ⟨_, List.getElem?_eq_getElem (by omega)⟩
      rw [hu0] at h00
      obtain ⟨b, off, spot⟩ := a
      have hspot : spot = none := by simpa [Addr.add] using World.cell?_spot h00
      subst hspot
      refine ⟨b, off, rfl, ?_, fun i x hi j u hj => ?_⟩
      · rcases Nat.lt_or_ge b w.heap.size with hlt | hge
        · exact hlt
        · simp [Addr.add, World.cell?, Array.getElem?_eq_none hge] at h00
      · simp only [List.getElem?_map, Option.map_eq_some_iff] at hi
        obtain ⟨y, ⟨k, hk, rfl⟩, rfl⟩ := hi
        obtain ⟨hi1, hi2⟩ := List.getElem?_eq_some_iff.1 hk
        simp only [List.length_range, List.getElem_range] at hi1 hi2
        subst hi2
        obtain ⟨_, hl1, hc1⟩ := World.cells?_some (hV i hi1)
        have hj1 : j < sz := by have := (List.getElem?_eq_some_iff.1 hj).1; omega
        have := hc1 j hj1
        rw [hj] at this
        rw [← this]
        congr 1
        by_cases q1 : i * sz = 0 <;> by_cases q2 : j = 0 <;> simp [Addr.add, q1, q2] <;> omega
end
section
variable {H : Type} {enc : TypeId × Value → H} {w : World} {base b0 : Nat} {spare : Nat → Bool} {held : Bool} {r : Reach}
set_option maxRecDepth 100000 in
theorem cellsRng : Tryz.prog.cellsOf 37 = 2 := by kernel_rfl
set_option maxRecDepth 100000 in
theorem cellsChgs : Tryz.prog.cellsOf 49 = 1 := by kernel_rfl
set_option maxRecDepth 100000 in
theorem cells_rng {n : Nat} {cs : List Value} {y : DataW H × List MemPlace} (h : DataW.trod enc Tryz.prog w base spare held n 37 cs = some y) : ∃ x : Int × Int, cs = prV x := by
  obtain ⟨xs, m, _, rfl, hl, hlen, hf⟩ := DataW.trod_struct Tryz.underlying37 h
  have hl' : cs.length = 2 := hl.trans cellsRng
  match cs, hl' with
  | [c0, c1], _ =>
    obtain ⟨y0, h0⟩ := field_ofL hlen hf 0 3 0 1 rfl cellsInt
    obtain ⟨y1, h1⟩ := field_ofL hlen hf 1 3 1 1 rfl cellsInt
    obtain ⟨a, e0, _⟩ := DataW.trod_int Tryz.underlying3 h0
    obtain ⟨b, e1, _⟩ := DataW.trod_int Tryz.underlying3 h1
    simp at e0 e1
    subst e0 e1
    exact ⟨⟨a, b⟩, rfl⟩
set_option maxRecDepth 100000 in
theorem open_rngs {v : Value} {d : DataW H} {ps : List MemPlace} (hval : Value.okWide Tryz.prog w r b0 35 v) (hd : DataW.Trod enc Tryz.prog w base spare held 35 v d ps) :
    ∃ l : List (Int × Int), Sl w 2 v (prs l) :=
  open_sl prV Tryz.underlying35 cellsRng (by omega) hval hd fun _n _cs _y h => cells_rng h
set_option maxRecDepth 100000 in
theorem open_tls {v : Value} {d : DataW H} {ps : List MemPlace} (hval : Value.okWide Tryz.prog w r b0 41 v) (hd : DataW.Trod enc Tryz.prog w base spare held 41 v d ps) :
    ∃ xs : List (Value × List Chg), Tls w v xs := by
  obtain ⟨l, h1, h2⟩ := open_slP (fun x : Value × List Chg => [x.1]) (fun x => Sl w 4 x.1 (chgs x.2)) Tryz.underlying41 cellsChgs (by omega) hval hd fun n cs y h => by
    obtain ⟨v, l, rfl, hs⟩ := open_slc Chg.vals Tryz.underlying49 cellsChg.1 (by omega) h fun _ _ _ h => cells_chg h
    exact ⟨(v, l), hs, rfl⟩
  exact ⟨l, h1, h2⟩
set_option maxRecDepth 100000 in
theorem open_cal {v : Value} {d : DataW H} {ps : List MemPlace} (hval : Value.okWide Tryz.prog w r b0 24 v) (hd : DataW.Trod enc Tryz.prog w base spare held 24 v d ps) :
    ∃ a b : Int, v = .agg #[.int .i64 a, .int .i64 b] ∧ (-9223372036854775808 ≤ a ∧ a ≤ 9223372036854775807) ∧ (-9223372036854775808 ≤ b ∧ b ≤ 9223372036854775807) := by
  obtain ⟨cs, rfl, hsz⟩ := okWide_struct Tryz.underlying24 hval
  obtain ⟨n, h⟩ := hd
  obtain ⟨xs, m, _, _, hl, hlen, hf⟩ := DataW.trod_struct Tryz.underlying24 h
  have hc2 : Tryz.prog.cellsOf 24 = 2 := by kernel_rfl
  obtain ⟨l⟩ := cs
  have hl' : l.length = 2 := hl.trans hc2
  match l, hl' with
  | [c0, c1], _ =>
    obtain ⟨y0, h0⟩ := field_ofL hlen hf 0 3 0 1 rfl cellsInt
    obtain ⟨y1, h1⟩ := field_ofL hlen hf 1 3 1 1 rfl cellsInt
    obtain ⟨a, e0, _, wa⟩ := DataW.trod_int Tryz.underlying3 h0
    obtain ⟨b, e1, _, wb⟩ := DataW.trod_int Tryz.underlying3 h1
    simp [Value.cells] at e0 e1
    subst e0 e1
    exact ⟨a, b, rfl, wf_in wa, wf_in wb⟩
end
end Go.Proofs.YtaafihdegnaokaaGreatDoor
/- What the listed variable holds: the table of the months' lengths. -/
namespace Go.Proofs.YtaafihdegnaokaaGreatDoor
open Go.ChangeShapes Go.WideShapes Go.ChangeAt Go.RowKit

/-- the listed variables -/
def laidL : List (String × DataW Unit) := [("payroll/calendar.lengths", Rows.laid_payroll_calendar_lengths)]
set_option maxRecDepth 100000 in
theorem door_met (os : Os) (args : Array Value) : laidMetH Tryz.prog laidL ((World.laidAll Tryz.prog os laidL).forCall (fun _ _ => 0) ⟨#[], args, []⟩).memory := by
  rw [MakeChecks.laidMetH_plain _ _ _ (by kernel_rfl)]; exact laidMet_laidAll _ (by kernel_rfl) (by kernel_rfl)
set_option maxRecDepth 100000 in
theorem door_shaped (os : Os) : (World.laidAll Tryz.prog os laidL).Shaped Tryz.prog := World.shaped_of_ZipB (by kernel_rfl) (by kernel_rfl)
theorem of_laid {W : World} (h : laidMetH Tryz.prog laidL W) : LenT W := by
  rw [MakeChecks.laidMetH_plain _ _ _ (by kernel_rfl)] at h
  have h3 : laidMet Tryz.prog (("payroll/calendar.lengths", Lib.tabData .i64 lenL) :: []) W := h
  exact Lib.tabIs_of_head (g := 0) (by kernel_rfl) (by kernel_rfl) (Tryz.underlying92) Tryz.underlying3 (by kernel_rfl) (by kernel_rfl) h3
end Go.Proofs.YtaafihdegnaokaaGreatDoor
/- The last step of each law: it returned true, and nothing that was there has turned. -/
namespace Go.Proofs.YtaafihdegnaokaaGreatDoor
open Go.ChangeShapes Go.WideShapes Go.ChangeAt Go.RowKit

section
variable {H : Type} {enc : TypeId × Value → H} {P : Program}
/-- all arguments read as they did -/
theorem trodAll_below (hl : laidOutB P = true) {W W' : World} (hb : Below W.heap.size W W') : ∀ (ts : List TypeId) (vs : List Value) (ds : List (DataW H)) (ps : List MemPlace),
    (∀ t ∈ ts, P.readableRec t = true ∧ t < P.types.size) → (∀ x ∈ ps, x.block < W.heap.size) → DataW.TrodAll enc P W 0 (fun _ => true) true ts vs ds ps → DataW.TrodAll enc P W' 0 (fun b => decide (b < W.heap.size)) true ts vs ds ps
  | [], [], [], _, _, _, h => h
  | t :: ts, v :: vs, d :: ds, ps, hr, hlt, h => by
    obtain ⟨p, q, h1, h2, rfl⟩ := h
    refine ⟨p, q, Below.trod hl (hr t (by simp)).1 (hr t (by simp)).2 h1 hb fun x hx => hlt x (by simp [hx]), trodAll_below hl hb ts vs ds q (fun t ht => hr t (by simp [ht])) (fun x hx => hlt x (by simp [hx])) h2, rfl⟩
  | [], _ :: _, _, _, _, _, h => h.elim
  | [], [], _ :: _, _, _, _, h => h.elim
  | _ :: _, [], _, _, _, _, h => h.elim
  | _ :: _, _ :: _, [], _, _, _, h => h.elim

/-- the post of a law: true; each argument as it was -/
theorem law_post {f : Func} {s : ChangeSpec} {T : TypeId} {W W' : World} {args : Array Value} {ds gs : List (DataW H)} {before : List MemPlace}
    (hl : laidOutB P = true) (hvars : s.vars = []) (hres : f.resultTypes = #[T]) (hT : P.underlying T = some .bool) (hrd : ∀ t ∈ f.params.toList, P.readableRec t = true ∧ t < P.types.size)
    (hfn : (s.fn H (ds ++ gs)).results = [.lit (.bool true)] ∧ (s.fn H (ds ++ gs)).args = ds ∧ (s.fn H (ds ++ gs)).vars = [])
    (hW : DataW.Whole enc P f.params.toList s.vars false W args.toList ds gs before) (hb : Below W.heap.size W W') :
    s.post enc P f false true false false W args (.bool true) W' := by
  have hlt : ∀ p ∈ before, p.block < W.heap.size := fun p hp => hW.lt p hp
  have hW' := hW
  obtain ⟨p, q, hA, hV, rfl, _, _⟩ := hW'
  rw [hvars] at hV
  obtain ⟨rfl, rfl⟩ := trodVars_none hV
  rw [List.append_nil] at hlt hW
  refine ⟨ds, [], p, [], p, [], hW, ?_, ?_, ?_, World.keptBut_mono (fun x hx => ⟨hx, .inr (.inl hx)⟩) (hb.frame (· ∈ p)), fun h => by cases h⟩
  · rw [hfn.1, hres]
    exact trodAll_mk1 (shut_bool hT true)
  · rw [hfn.2.1]
    exact trodAll_below hl hb _ _ _ _ hrd hlt hA
  · rw [hfn.2.2, hvars]
    rfl
end

end Go.Proofs.YtaafihdegnaokaaGreatDoor
