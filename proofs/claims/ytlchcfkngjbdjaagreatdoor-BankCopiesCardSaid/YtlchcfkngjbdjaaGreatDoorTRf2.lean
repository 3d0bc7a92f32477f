/- Contract of payrollref42.Valid. -/
import Derived.Test.YtlchcfkngjbdjaaGreatDoorTRf1
import Derived.Test.YtlchcfkngjbdjaaGreatDoorExt
namespace Go.Proofs.YtlchcfkngjbdjaaGreatDoor
open Go.RowKit

set_option maxRecDepth 100000 in
set_option maxHeartbeats 2000000 in
theorem refValidF_any (f : Fil) (v : Value) (w : World) (hv : Sl w 2 v (pays f.l)) :
    Calls Tryz.prog 24 #[.agg (f.vals v)] w fun e w' => e = .returned (.bool (filB f)) ∧ Below w.heap.size w w' := by
  have HV := Lib.hid hv
  obtain ⟨A, cap, rfl, h1, h2, _, _⟩ := hv
  rw [pays_len] at h1 HV ⊢
  unfold maxLen at h2
  obtain ⟨n, d, l⟩ := f
  have hvals : Fil.vals ⟨n, d, l⟩ (.slice A l.length cap) = #[.int .i64 n, .int .i64 d, .slice A l.length cap] := rfl
  simp only [hvals] at h1 HV ⊢
  clear hvals
  by_cases q1 : n < 1
  · have HF : Hid (filB ⟨n, d, l⟩ = false) := by rw [Hid, filB, decide_eq_false (fun h => by simp only at h; omega), Bool.false_and]
    go_enter Tryz.func24, Tryz.ntmps24
    go_wp2
    go_ret
    exact ⟨ret_bool HF.out.symm, (Below.refl _ _).alloc (Nat.le_refl _) _⟩
  by_cases q2 : 256 < n
  · have HF : Hid (filB ⟨n, d, l⟩ = false) := by rw [Hid, filB, decide_eq_false (fun h => by simp only at h; omega), Bool.false_and]
    go_enter Tryz.func24, Tryz.ntmps24
    go_wp2
    go_ret
    exact ⟨ret_bool HF.out.symm, (Below.refl _ _).alloc (Nat.le_refl _) _⟩
  by_cases q3 : d < 0
  · have HF : Hid (filB ⟨n, d, l⟩ = false) := by rw [Hid, filB, decide_eq_false (fun h => by simp only at h; omega), Bool.false_and]
    go_enter Tryz.func24, Tryz.ntmps24
    go_wp2
    go_ret
    exact ⟨ret_bool HF.out.symm, (Below.refl _ _).alloc (Nat.le_refl _) _⟩
  by_cases q4 : 84005 < d
  · have HF : Hid (filB ⟨n, d, l⟩ = false) := by rw [Hid, filB, decide_eq_false (fun h => by simp only at h; omega), Bool.false_and]
    go_enter Tryz.func24, Tryz.ntmps24
    go_wp2
    go_ret
    exact ⟨ret_bool HF.out.symm, (Below.refl _ _).alloc (Nat.le_refl _) _⟩
  by_cases q5 : 4096 < l.length
  · have HF : Hid (filB ⟨n, d, l⟩ = false) := by rw [Hid, filB, decide_eq_false (fun h => by simp only at h; omega), Bool.false_and]
    go_enter Tryz.func24, Tryz.ntmps24
    go_wp2
    go_ret
    exact ⟨ret_bool HF.out.symm, (Below.refl _ _).alloc (Nat.le_refl _) _⟩
  have HF : Hid (filB ⟨n, d, l⟩ = payOk 0 l) := by rw [Hid, filB, decide_eq_true (by simp only; omega), Bool.true_and]
  go_enter Tryz.func24, Tryz.ntmps24
  go_wp2
  have hR := Row.new w 37 #[.int .i64 n, .int .i64 d, .slice A l.length cap]
  have hB := (Below.refl w.heap.size w).alloc (Nat.le_refl _) (.cells #[.int .i64 n, .int .i64 d, .slice A l.length cap] 37)
  obtain ⟨w0, hw0⟩ : ∃ w0, w.alloc (.cells #[.int .i64 n, .int .i64 d, .slice A l.length cap] 37) = w0 := ⟨_, rfl⟩
  rw [hw0] at hR hB ⊢
  clear hw0
  obtain ⟨g, hg⟩ : ∃ g, w.heap.size = g := ⟨_, rfl⟩
  rw [hg] at hR ⊢
  clear hg
  go_loopw [3] (fun i wr => ∃ k : Nat, ∃ b : Int, k ≤ l.length ∧ i = .int .i64 k ∧ Hid (Below w.heap.size w wr ∧ Row wr g 37 #[.int .i64 n, .int .i64 d, .slice A l.length cap]) ∧ Hid (payOk 0 l = payOk b (l.drop k) ∧ 0 ≤ b ∧ (k = 0 → b = 0) ∧ ∀ (h : k - 1 < l.length), 0 < k → b = (l[k - 1]).e)) (fun i _ => l.length - (intOf i).toNat)
  case atStart => exact ⟨0, 0, by omega, rfl, ⟨hB, hR⟩, by rw [List.drop_zero], by omega, fun _ => rfl, fun _ h => by omega⟩
  case round =>
    obtain ⟨k, b, hk, rfl, HB, HK⟩ := hrel
    obtain ⟨wo, rfl⟩ : ∃ wo : World, wo = wr := ⟨_, rfl⟩
    obtain ⟨⟨x0, x1, x2, xl⟩, -⟩ := row3 HB.out.2
    by_cases hlt : k < l.length
    · obtain ⟨bk, off, rfl, hcw⟩ := HV.out.cells (by rw [pays_len]; omega)
      have hc0 := hcw.below HB.out.1 hcw.1
      have hbl := hc0.1
      obtain ⟨c0, c1⟩ := hc0.pay hlt
      have HS := Lib.hid (fun h => payOk_step hlt (b := b) h)
      have HN := Lib.hid (fun h => payOk_stop hlt (b := b) h)
      have HNX : Hid (∀ (h : k + 1 - 1 < l.length), l[k + 1 - 1] = l[k]'hlt) := fun h => rfl
      have e2 := ext_cell xl x2
      have d0 := ext_cell hbl c0
      have d1 := ext_cell hbl c1
      have i1 : (k : Int) < (l.length : Int) := by omega
      have hbx : Hid (∀ y : Ext wo, Below w.heap.size w y.val ∧ Row y.val g 37 #[.int .i64 n, .int .i64 d, .slice (some ⟨bk, off, none⟩) l.length cap]) := fun y => ⟨HB.out.1.trans (y.property.mono HB.out.1.size), HB.out.2.below y.property xl⟩
      have HPR : Hid (∀ (j : Nat) (hj : j < l.length), ∀ y : Ext wo, y.val.cell? ⟨bk, off + j * 2, none⟩ = some (.int .i64 (l[j]).e)) := fun j hj => ext_cell hbl (hc0.pay hj).1
      obtain ⟨x, hx⟩ : ∃ x, l[k] = x := ⟨_, rfl⟩
      rw [hx] at c0 c1 d0 d1 HS HN HNX
      clear hx hcw hc0
      have go1 : Hid (∀ w', ¬ (b < x.e ∧ x.e ≤ 2147483647 ∧ 1 ≤ x.a ∧ x.a ≤ 1000000000000) → Below w.heap.size w w' → Ending.returned (.bool false) = .returned (.bool (filB ⟨n, d, l⟩)) ∧ Below w.heap.size w w') := fun w' h hw => ⟨ret_bool (by rw [HF.out, HK.out.1, HN.out h]), hw⟩
      clear HN
      by_cases hp : payV x
      rotate_left
      · have HC := Lib.hid (fun y : Ext wo => refValidP_any x y.val)
        rw [decide_eq_false hp] at HC
        have HP := Lib.hid hp
        clear hp
        go_wp2_with fail
        refine region_ext (by kernel_rfl) (by kernel_rfl) ?_
        repeat (go_big_quiet_step ((go_at_call 37; exact ext_call (HC.out _))))
        refine wpQuiet_nil ?_
        rintro _ ⟨y, rfl⟩
        go_wp2
        go_ret
        exact go1.out _ (fun h => HP.out ⟨by have := HK.out.2.1; omega, h.2.1, h.2.2.1, h.2.2.2⟩) (hbx.out y).1
      have HC := Lib.hid (fun y : Ext wo => refValidP_any x y.val)
      rw [decide_eq_true hp] at HC
      have HP := Lib.hid hp
      clear hp
      rcases Nat.eq_zero_or_pos k with rfl | hk0
      · have HE := Lib.hid (HS.out ⟨by have := HK.out.2.2.1 rfl; have := HP.out.1; omega, HP.out.2.1, HP.out.2.2.1, HP.out.2.2.2⟩)
        clear HS go1 c0 c1
        simp only [Nat.zero_mul, Nat.add_zero] at d0 d1
        go_wp2_with fail
        refine region_ext (by kernel_rfl) (by kernel_rfl) ?_
        repeat (go_big_quiet_step ((go_at_call 37; exact ext_call (HC.out _))))
        refine wpQuiet_nil ?_
        rintro _ ⟨y, rfl⟩
        go_wp2
        go_roundw
        case rel => exact ⟨0 + 1, x.e, by omega, by go_num, hbx.out y, HK.out.1.trans HE.out, by have := HP.out.1; omega, fun h => by omega, fun h _ => by rw [HNX.out h]⟩
        case measure => simp [intOf]; omega
      · obtain ⟨j, rfl⟩ : ∃ j, k = j + 1 := ⟨k - 1, by omega⟩
        have hjl : j < l.length := by omega
        have p0 := HPR.out j hjl
        have HBE : Hid (b = (l[j]).e) := HK.out.2.2.2 hjl (by omega)
        rw [← HBE.out] at p0
        have i2 : (j : Int) < (l.length : Int) := by omega
        have s2 : IntKind.i64.wrap ((j : Int) + 1 - 1) = (j : Int) := by rw [show (j : Int) + 1 - 1 = (j : Int) by omega]; exact IntWalk.i64_in _ (by omega)
        by_cases hbe : x.e ≤ b
        · go_wp2_with fail
          refine region_ext (by kernel_rfl) (by kernel_rfl) ?_
          repeat (go_big_quiet_step ((go_at_call 37; exact ext_call (HC.out _))))
          refine wpQuiet_nil ?_
          rintro _ ⟨y, rfl⟩
          go_wp2
          go_ret
          exact go1.out _ (by omega) (hbx.out y).1
        · have HE := Lib.hid (HS.out ⟨by omega, HP.out.2.1, HP.out.2.2.1, HP.out.2.2.2⟩)
          clear HS go1
          go_wp2_with fail
          refine region_ext (by kernel_rfl) (by kernel_rfl) ?_
          repeat (go_big_quiet_step ((go_at_call 37; exact ext_call (HC.out _))))
          refine wpQuiet_nil ?_
          rintro _ ⟨y, rfl⟩
          go_wp2
          go_roundw
          case rel => exact ⟨j + 1 + 1, x.e, by omega, by go_num, hbx.out y, HK.out.1.trans HE.out, by have := HP.out.1; omega, fun h => by omega, fun h _ => by rw [HNX.out h]⟩
          case measure => simp [intOf]; omega
    · go_wp2
      go_ret
      exact ⟨ret_bool (by rw [HF.out, HK.out.1, payOk_end (by omega)]), HB.out.1⟩
end Go.Proofs.YtlchcfkngjbdjaaGreatDoor
