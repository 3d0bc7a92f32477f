/- Contracts of cmp.Compare, cmp.Or and payslip.order. -/
import Derived.Test.YtjbhabfflcbebaaGreatLns
import Derived.Deep.RegionWith
import Derived.Deep.RegionHeld3
import Derived.Sort.Grow
import Derived.StillTailTactics
namespace Go.Proofs.YtjbhabfflcbebaaGreat
open Go.RowKit Go.Sort

/-- -1, 0 or 1 -/
def cmpI (a b : Int) : Int := if a < b then -1 else if b < a then 1 else 0
def cmpS (a b : ByteArray) : Int := if Op.bytesLess a.toList b.toList then -1 else if a.toList == b.toList then 0 else 1
def orI (a b : Int) : Int := if a = 0 then b else a
def cmpLn (a b : Ln) : Int := orI (cmpI a.kind b.kind) (cmpS a.code b.code)

theorem nanI_any (a : Int) (w : World) : Calls Tryz.prog 74 #[.int .i64 a] w fun e w' => e = .returned (.bool false) ∧ w = w' := by
  go_enter Tryz.func74, Tryz.ntmps74
  go_wp2
  go_ret
  exact ⟨by simp, rfl⟩
theorem nanS_any (a : ByteArray) (w : World) : Calls Tryz.prog 107 #[.string a] w fun e w' => e = .returned (.bool false) ∧ w = w' := by
  go_enter Tryz.func107, Tryz.ntmps107
  go_wp2
  go_ret
  exact ⟨by simp, rfl⟩
theorem cmpI_any (a b : Int) (w : World) : Calls Tryz.prog 61 #[.int .i64 a, .int .i64 b] w fun e w' => e = .returned (.int .i64 (cmpI a b)) ∧ w = w' := by
  by_cases h1 : a < b
  · have H : Hid (cmpI a b = -1) := by rw [Hid, cmpI, if_pos h1]
    go_enter Tryz.func61, Tryz.ntmps61
    go_wp2_with (go_at_call 74; refine (nanI_any _ _).mono ?_; rintro e w' ⟨rfl, rfl⟩)
    go_ret
    exact ⟨ret_int H.out.symm, rfl⟩
  · by_cases h2 : b < a
    · have H : Hid (cmpI a b = 1) := by rw [Hid, cmpI, if_neg h1, if_pos h2]
      go_enter Tryz.func61, Tryz.ntmps61
      go_wp2_with (go_at_call 74; refine (nanI_any _ _).mono ?_; rintro e w' ⟨rfl, rfl⟩)
      go_ret
      exact ⟨ret_int H.out.symm, rfl⟩
    · have H : Hid (cmpI a b = 0) := by rw [Hid, cmpI, if_neg h1, if_neg h2]
      go_enter Tryz.func61, Tryz.ntmps61
      go_wp2_with (go_at_call 74; refine (nanI_any _ _).mono ?_; rintro e w' ⟨rfl, rfl⟩)
      go_ret
      exact ⟨ret_int H.out.symm, rfl⟩
theorem cmpS_any (a b : ByteArray) (w : World) : Calls Tryz.prog 89 #[.string a, .string b] w fun e w' => e = .returned (.int .i64 (cmpS a b)) ∧ w = w' := by
  cases h1 : Op.bytesLess a.toList b.toList
  · cases h2 : (a.toList == b.toList)
    · have H : Hid (cmpS a b = 1) := by rw [Hid, cmpS, h1, h2]; rfl
      go_enter Tryz.func89, Tryz.ntmps89
      go_wp2_with (go_at_call 107; refine (nanS_any _ _).mono ?_; rintro e w' ⟨rfl, rfl⟩)
      go_ret
      exact ⟨ret_int H.out.symm, rfl⟩
    · have H : Hid (cmpS a b = 0) := by rw [Hid, cmpS, h1, h2]; rfl
      go_enter Tryz.func89, Tryz.ntmps89
      go_wp2_with (go_at_call 107; refine (nanS_any _ _).mono ?_; rintro e w' ⟨rfl, rfl⟩)
      go_ret
      exact ⟨ret_int H.out.symm, rfl⟩
  · have H : Hid (cmpS a b = -1) := by rw [Hid, cmpS, h1]; rfl
    go_enter Tryz.func89, Tryz.ntmps89
    go_wp2_with (go_at_call 107; refine (nanS_any _ _).mono ?_; rintro e w' ⟨rfl, rfl⟩)
    go_ret
    exact ⟨ret_int H.out.symm, rfl⟩

set_option maxHeartbeats 400000 in
theorem orI_any (a b : Int) (g c : Nat) (w : World) (h0 : w.cell? ⟨g, 0, none⟩ = some (.int .i64 a)) (h1 : w.cell? ⟨g, 1, none⟩ = some (.int .i64 b)) :
    Calls Tryz.prog 60 #[.slice (some ⟨g, 0, none⟩) 2 c] w fun e w' => e = .returned (.int .i64 (orI a b)) ∧ w = w' := by
  go_enter Tryz.func60, Tryz.ntmps60
  go_wp2
  go_loop [8] (fun i => ∃ k : Nat, k ≤ 2 ∧ i = .int .i64 k ∧ Hid (1 ≤ k → a = 0) ∧ Hid (2 ≤ k → b = 0)) (fun i => 2 - (intOf i).toNat)
  case atStart => exact ⟨0, by omega, rfl, (fun h => by omega), (fun h => by omega)⟩
  case round =>
    obtain ⟨k, hk, rfl, HA, HB⟩ := hrel
    by_cases hk0 : k = 0
    · subst hk0
      cases ha : (a != 0)
      · go_wp2
        go_round
        case rel => exact ⟨1, by omega, by go_num, (fun _ => by simpa using ha), (fun h => by omega)⟩
        case measure => simp [intOf]
      · go_wp2
        go_ret
        exact ⟨ret_int (by rw [orI, if_neg (by simpa using ha)]), rfl⟩
    · by_cases hk1 : k = 1
      · subst hk1
        have ha := HA.out (Nat.le_refl _)
        have HA' := Lib.hid ha
        clear ha
        cases hb : (b != 0)
        · go_wp2
          go_round
          case rel => exact ⟨2, by omega, by go_num, (fun _ => HA'.out), (fun _ => by simpa using hb)⟩
          case measure => simp [intOf]
        · go_wp2
          go_ret
          exact ⟨ret_int (by rw [orI, if_pos HA'.out]), rfl⟩
      · obtain rfl : k = 2 := by omega
        go_wp2
        go_ret
        exact ⟨ret_int (by rw [orI, if_pos (HA.out (by omega)), HB.out (by omega)]), rfl⟩

set_option maxRecDepth 100000 in
set_option maxHeartbeats 1000000 in
theorem order_any (a b : Ln) (w : World) : Calls Tryz.prog 71 #[.agg #[.int .i64 a.kind, .string a.code, .int .i64 a.amt], .agg #[.int .i64 b.kind, .string b.code, .int .i64 b.amt]] w fun e w' => e = .returned (.int .i64 (cmpLn a b)) ∧ ∃ q os, w' = grow (w.drewN q) os := by
  unfold cmpLn
  go_enter Tryz.func71, Tryz.ntmps71
  go_wp2
  refine region_tail 10 (by kernel_rfl) (by kernel_rfl) ?_
  simp only [List.take_succ_cons, List.take_zero, List.drop_succ_cons, List.drop_zero]
  repeat still_step
  still_call ((cmpI_any _ _ _).mono fun _ _ h => ⟨h.1, h.2.symm⟩)
  repeat still_step
  still_call ((cmpS_any _ _ _).mono fun _ _ h => ⟨h.1, h.2.symm⟩)
  refine wpStill_nil ?_
  go_wp2_with (go_at_call 60; refine (orI_any (cmpI a.kind b.kind) (cmpS a.code b.code) _ _ _ ?_ ?_).mono ?_; (simp [go_sem]); (simp [go_sem]); rintro e w' ⟨rfl, rfl⟩)
  go_ret
  exact ⟨rfl, 1, _, by rw [alloc_eq_grow, alloc_eq_grow, alloc_eq_grow, grow_grow, grow_grow]; rfl⟩

end Go.Proofs.YtjbhabfflcbebaaGreat
