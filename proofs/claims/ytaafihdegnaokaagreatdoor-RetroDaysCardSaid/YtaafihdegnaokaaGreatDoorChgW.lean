/- Changes in memory; cmp.Compare, cmp.Or at four, number, compare; Valid and the reference's Valid and Compare. -/
import Derived.Test.YtaafihdegnaokaaGreatDoorChgS
import Derived.Test.YtaafihdegnaokaaGreatDoorSlice
import Derived.Test.YtaafihdegnaokaaGreatDoorProg
import Derived.Deep.RegionWith
import Derived.Deep.RegionHeld3
import Derived.KernelRfl
import Derived.Sort.Grow
import Derived.StillTailTactics
namespace Go.Proofs.YtaafihdegnaokaaGreatDoor
open Go.RowKit Go.Sort

def Chg.vals (c : Chg) : List Value := [.int .i64 c.f, .int .i64 c.k, .int .i64 c.v, .bool c.d]
def chgs (l : List Chg) : List (List Value) := l.map Chg.vals
theorem chgs_len (l : List Chg) : (chgs l).length = l.length := by simp [chgs]
theorem chgs_at {l : List Chg} {k : Nat} (h : k < l.length) : (chgs l)[k]? = some (l[k]).vals := by simp [chgs, h]
theorem CellsAt.chg {w : World} {b off : Nat} {l : List Chg} (h : CellsAt w 4 b off (chgs l)) {k : Nat} (hk : k < l.length) :
    w.cell? ⟨b, off + k * 4, none⟩ = some (.int .i64 (l[k]).f) ∧ w.cell? ⟨b, off + k * 4 + 1, none⟩ = some (.int .i64 (l[k]).k) ∧ w.cell? ⟨b, off + k * 4 + 2, none⟩ = some (.int .i64 (l[k]).v) ∧ w.cell? ⟨b, off + k * 4 + 3, none⟩ = some (.bool (l[k]).d) :=
  ⟨h.2 k _ (chgs_at hk) 0 _ rfl, h.2 k _ (chgs_at hk) 1 _ rfl, h.2 k _ (chgs_at hk) 2 _ rfl, h.2 k _ (chgs_at hk) 3 _ rfl⟩
theorem chgs_pos {l : List Chg} {k : Nat} (hlt : k < l.length) (h : chgs l = []) : False := by
  have := congrArg List.length h
  rw [chgs_len] at this; simp only [List.length_nil] at this; omega
theorem chgs_wide (l : List Chg) : Wide 4 (chgs l) := fun x hx => by
  obtain ⟨p, _, rfl⟩ := List.mem_map.1 hx
  exact ⟨rfl, by simp [Chg.vals, Value.oneCell']⟩
theorem chgs_append (l m : List Chg) : chgs (l ++ m) = chgs l ++ chgs m := by simp [chgs]
theorem rowChg : RowTy Tryz.prog 49 66 4 32 := by
  obtain ⟨i, hi, hz, hs, hb⟩ := info_parts (show (Tryz.prog.info? 66).map (fun i => (i.zero, i.size, i.bytes)) = some (some (.agg #[.int .i64 0, .int .i64 0, .int .i64 0, .bool false]), 4, 32) by kernel_rfl)
  exact ⟨Tryz.underlying49, ⟨i, _, hi, hz, hs, hb, rfl⟩, by omega⟩

/-- -1, 0 or 1 -/
def cmpI (a b : Int) : Int := if a < b then -1 else if b < a then 1 else 0
def orI (a b : Int) : Int := if a = 0 then b else a

theorem nanI_any (a : Int) (w : World) : Calls Tryz.prog 90 #[.int .i64 a] w fun e w' => e = .returned (.bool false) ∧ w = w' := by
  go_enter Tryz.func90, Tryz.ntmps90
  go_wp2
  go_ret
  exact ⟨by simp, rfl⟩
theorem cmpI_any (a b : Int) (w : World) : Calls Tryz.prog 66 #[.int .i64 a, .int .i64 b] w fun e w' => e = .returned (.int .i64 (cmpI a b)) ∧ w = w' := by
  by_cases h1 : a < b
  · have H : Hid (cmpI a b = -1) := by rw [Hid, cmpI, if_pos h1]
    go_enter Tryz.func66, Tryz.ntmps66
    go_wp2_with (go_at_call 90; refine (nanI_any _ _).mono ?_; rintro e w' ⟨rfl, rfl⟩)
    go_ret
    exact ⟨ret_int H.out.symm, rfl⟩
  · by_cases h2 : b < a
    · have H : Hid (cmpI a b = 1) := by rw [Hid, cmpI, if_neg h1, if_pos h2]
      go_enter Tryz.func66, Tryz.ntmps66
      go_wp2_with (go_at_call 90; refine (nanI_any _ _).mono ?_; rintro e w' ⟨rfl, rfl⟩)
      go_ret
      exact ⟨ret_int H.out.symm, rfl⟩
    · have H : Hid (cmpI a b = 0) := by rw [Hid, cmpI, if_neg h1, if_neg h2]
      go_enter Tryz.func66, Tryz.ntmps66
      go_wp2_with (go_at_call 90; refine (nanI_any _ _).mono ?_; rintro e w' ⟨rfl, rfl⟩)
      go_ret
      exact ⟨ret_int H.out.symm, rfl⟩
theorem number_any (b : Bool) (w : World) : Calls Tryz.prog 96 #[.bool b] w fun e w' => e = .returned (.int .i64 (nb b)) ∧ w = w' := by
  cases b
  · go_enter Tryz.func96, Tryz.ntmps96
    go_wp2
    go_ret
    exact ⟨by simp [nb], rfl⟩
  · go_enter Tryz.func96, Tryz.ntmps96
    go_wp2
    go_ret
    exact ⟨by simp [nb], rfl⟩

/-- the first value that is not zero -/
def orL : List Int → Int
  | [] => 0
  | a :: r => if a = 0 then orL r else a
theorem orL_at {l : List Int} {k : Nat} (hk : k < l.length) (h : ∀ j, (hj : j < l.length) → j < k → l[j] = 0) (hn : l[k] ≠ 0) : orL l = l[k] := by
  induction l generalizing k with
  | nil => simp at hk
  | cons a r ih =>
    cases k with
    | zero => simp only [List.getElem_cons_zero] at hn ⊢; rw [orL, if_neg hn]
    | succ k =>
      have h0 := h 0 (by simp) (by omega)
      simp only [List.getElem_cons_zero] at h0
      rw [orL, if_pos h0]
      simpa using ih (k := k) (by simpa using hk) (fun j hj hjk => h (j + 1) (Nat.succ_lt_succ hj) (by omega)) (by simpa using hn)
theorem orL_none {l : List Int} (h : ∀ j, (hj : j < l.length) → l[j] = 0) : orL l = 0 := by
  induction l with
  | nil => rfl
  | cons a r ih =>
    have h0 := h 0 (by simp)
    simp only [List.getElem_cons_zero] at h0
    rw [orL, if_pos h0]
    exact ih fun j hj => h (j + 1) (Nat.succ_lt_succ hj)
theorem orL_cmp (a b : Chg) : orL [cmpI a.f b.f, cmpI a.k b.k, cmpI (nb a.d) (nb b.d), cmpI a.v b.v] = cmpC a b := by
  have key : ∀ x y : Int, cmpI x y = if x < y then -1 else if y < x then 1 else 0 := fun _ _ => rfl
  simp only [orL, key, cmpC, ltC]
  repeat' split
  all_goals first | rfl | omega
set_option maxHeartbeats 400000 in
theorem orL_any (l : List Int) (g c : Nat) (w : World) (hl : l.length < 9223372036854775807) (H : Hid (∀ k, (hk : k < l.length) → w.cell? ⟨g, k, none⟩ = some (.int .i64 l[k]))) :
    Calls Tryz.prog 65 #[.slice (some ⟨g, 0, none⟩) l.length c] w fun e w' => e = .returned (.int .i64 (orL l)) ∧ w = w' := by
  go_enter Tryz.func65, Tryz.ntmps65
  go_wp2
  go_loop [8] (fun i => ∃ k : Nat, k ≤ l.length ∧ i = .int .i64 k ∧ Hid (∀ j, (hj : j < l.length) → j < k → l[j] = 0)) (fun i => l.length - (intOf i).toNat)
  case atStart => exact ⟨0, by omega, rfl, (fun j _ h => by omega)⟩
  case round =>
    obtain ⟨k, hk, rfl, HA⟩ := hrel
    by_cases hlt : k < l.length
    · have c0 := H.out k hlt
      cases ha : (l[k] != 0)
      · go_wp2
        go_round
        case rel =>
          refine ⟨k + 1, by omega, by go_num, fun j hj hjk => ?_⟩
          by_cases hjk' : j = k
          · subst hjk'; simpa using ha
          · exact HA.out j hj (by omega)
        case measure => simp [intOf]; omega
      · go_wp2
        go_ret
        exact ⟨ret_int (orL_at hlt HA.out (by simpa using ha)).symm, rfl⟩
    · go_wp2
      go_ret
      exact ⟨ret_int (orL_none fun j hj => HA.out j hj (by omega)).symm, rfl⟩

set_option maxRecDepth 100000 in
set_option maxHeartbeats 1000000 in
theorem compare_any (a b : Chg) (w : World) : Calls Tryz.prog 82 #[.agg #[.int .i64 a.f, .int .i64 a.k, .int .i64 a.v, .bool a.d], .agg #[.int .i64 b.f, .int .i64 b.k, .int .i64 b.v, .bool b.d]] w fun e w' => e = .returned (.int .i64 (cmpC a b)) ∧ ∃ q os, w' = grow (w.drewN q) os := by
  rw [← orL_cmp]
  go_enter Tryz.func82, Tryz.ntmps82
  go_wp2
  refine region_tail 22 (by kernel_rfl) (by kernel_rfl) ?_
  simp only [List.take_succ_cons, List.take_zero, List.drop_succ_cons, List.drop_zero]
  repeat still_step
  still_call ((cmpI_any _ _ _).mono fun _ _ h => ⟨h.1, h.2.symm⟩)
  repeat still_step
  still_call ((cmpI_any _ _ _).mono fun _ _ h => ⟨h.1, h.2.symm⟩)
  repeat still_step
  still_call ((number_any _ _).mono fun _ _ h => ⟨h.1, h.2.symm⟩)
  repeat still_step
  still_call ((number_any _ _).mono fun _ _ h => ⟨h.1, h.2.symm⟩)
  repeat still_step
  still_call ((cmpI_any _ _ _).mono fun _ _ h => ⟨h.1, h.2.symm⟩)
  repeat still_step
  still_call ((cmpI_any _ _ _).mono fun _ _ h => ⟨h.1, h.2.symm⟩)
  refine wpStill_nil ?_
  go_wp2_with (go_at_call 65; refine (orL_any [cmpI a.f b.f, cmpI a.k b.k, cmpI (nb a.d) (nb b.d), cmpI a.v b.v] _ _ _ (by simp) ?_).mono ?_; (intro k hk; rcases k with _ | _ | _ | _ | k; (simp [go_sem]); (simp [go_sem]); (simp [go_sem]); (simp [go_sem]); (simp at hk; omega)); rintro e w' ⟨rfl, rfl⟩)
  go_ret
  exact ⟨rfl, 1, _, by rw [alloc_eq_grow, alloc_eq_grow, alloc_eq_grow, grow_grow, grow_grow]; rfl⟩

end Go.Proofs.YtaafihdegnaokaaGreatDoor
