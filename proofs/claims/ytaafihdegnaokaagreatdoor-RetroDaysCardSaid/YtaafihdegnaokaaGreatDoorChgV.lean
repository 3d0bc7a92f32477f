/- timeline.Valid. -/
import Derived.Test.YtaafihdegnaokaaGreatDoorChgY
namespace Go.Proofs.YtaafihdegnaokaaGreatDoor
open Go.RowKit

def rngC (c : Chg) : Prop := 0 ≤ c.f ∧ c.f ≤ 84005 ∧ 0 ≤ c.k ∧ c.k ≤ 2147483647 ∧ -1000000000000 ≤ c.v ∧ c.v ≤ 1000000000000
instance (c : Chg) : Decidable (rngC c) := by unfold rngC; infer_instance
/-- the error of one change -/
def errC (c : Chg) : Int := if rngC c then (if c.d = true ∧ c.v ≠ 0 then 1 else 0) else 2
/-- the error of a list of changes -/
def validE (l : List Chg) : Int := if 1024 < l.length then 3 else orL (l.map errC)
theorem validE_at {l : List Chg} (hl : l.length ≤ 1024) {k : Nat} (hk : k < l.length) (h : ∀ j, (hj : j < l.length) → j < k → errC l[j] = 0) {e : Int} (he : errC l[k] = e) (hn : e ≠ 0) : validE l = e := by
  rw [validE, if_neg (by omega)]
  rw [orL_at (k := k) (by simpa using hk) (fun j hj hjk => by simpa using h j (by simpa using hj) hjk) (by simpa [he] using hn)]
  simpa using he
theorem validE_ok {l : List Chg} (hl : l.length ≤ 1024) (h : ∀ j, (hj : j < l.length) → errC l[j] = 0) : validE l = 0 := by
  rw [validE, if_neg (by omega)]
  exact orL_none fun j hj => by simpa using h j (by simpa using hj)

set_option maxHeartbeats 1000000 in
theorem valid_any (v : Value) (l : List Chg) (w : World) (hv : Sl w 4 v (chgs l)) :
    Calls Tryz.prog 35 #[v] w fun e w' => e = .returned (.int .i64 (validE l)) ∧ Below w.heap.size w w' := by
  obtain ⟨A, cap, rfl, h1, h2, _, h3⟩ := hv
  rw [chgs_len] at h1 ⊢
  unfold maxLen at h2
  have H3 := Lib.hid h3
  clear h3
  by_cases hl : 1024 < l.length
  · have HE : Hid (validE l = 3) := by simp [Hid, validE, hl]
    go_enter Tryz.func35, Tryz.ntmps35
    go_wp2
    go_ret
    exact ⟨ret_int HE.out.symm, Below.refl _ _⟩
  go_enter Tryz.func35, Tryz.ntmps35
  go_wp2
  go_loopw [10] (fun i wr => ∃ k : Nat, k ≤ l.length ∧ i = .int .i64 k ∧ Below w.heap.size w wr ∧ Hid (∀ j, (hj : j < l.length) → j < k → errC l[j] = 0)) (fun i _ => l.length - (intOf i).toNat)
  case atStart => exact ⟨0, by omega, rfl, Below.refl _ _, fun j _ h => by omega⟩
  case round =>
    obtain ⟨k, hk, rfl, hb, HK⟩ := hrel
    by_cases hlt : k < l.length
    · rcases H3.out with h | ⟨b, off, rfl, hc0⟩
      · exact (chgs_pos hlt h).elim
      · obtain ⟨c0, c1, c2, c3⟩ := (hc0.below hb hc0.1).chg hlt
        have hbs := hb.size
        clear H3 hc0
        obtain ⟨x, hx⟩ : ∃ x, l[k] = x := ⟨_, rfl⟩
        have HX := Lib.hid hx
        rw [hx] at c0 c1 c2 c3
        clear hx
        obtain ⟨f, kn, vv, d⟩ := x
        simp only at c0 c1 c2 c3
        by_cases hr : rngC ⟨f, kn, vv, d⟩
        · have hr' := hr
          unfold rngC at hr'
          simp only at hr'
          obtain ⟨r1, r2, r3, r4, r5, r6⟩ := hr'
          have HR := Lib.hid hr
          clear hr
          have hg : ∀ b, (d && (vv != 0)) = b → Hid (errC ⟨f, kn, vv, d⟩ = if b then 1 else 0) := fun b hb => by
            subst hb
            simp [Hid, errC, HR.out]
          have nx : errC ⟨f, kn, vv, d⟩ = 0 → ∀ j, (hj : j < l.length) → j < k + 1 → errC l[j] = 0 := fun he j hj hjk => by
            by_cases hjk' : j = k
            · subst hjk'; rw [HX.out]; exact he
            · exact HK.out j hj (by omega)
          have NX := Lib.hid nx
          have HG := Lib.hid hg
          clear nx hg
          cases d
          · have HE := HG.out _ (Bool.false_and _)
            clear HG
            go_wp2
            go_roundw
            case rel => exact ⟨k + 1, by omega, by go_num, hb.alloc hbs _, NX.out HE.out⟩
            case measure => simp [intOf]; omega
          · cases hv0 : (vv != 0)
            · have HE := HG.out false (by rw [hv0]; rfl)
              clear HG
              go_wp2
              go_roundw
              case rel => exact ⟨k + 1, by omega, by go_num, hb.alloc hbs _, NX.out HE.out⟩
              case measure => simp [intOf]; omega
            · have HE := HG.out true (by rw [hv0]; rfl)
              clear HG
              go_wp2
              go_ret
              exact ⟨ret_int (validE_at (by omega) hlt HK.out (by rw [HX.out]; exact HE.out) (by simp)).symm, hb.alloc hbs _⟩
        · have HE : Hid (errC ⟨f, kn, vv, d⟩ = 2) := by simp [Hid, errC, hr]
          have hr' : f < 0 ∨ 84005 < f ∨ kn < 0 ∨ 2147483647 < kn ∨ vv < -1000000000000 ∨ 1000000000000 < vv := by
            unfold rngC at hr
            simp only at hr
            omega
          clear hr
          have go1 : Hid (∀ w', Below w.heap.size w w' → Ending.returned (.int .i64 2) = .returned (.int .i64 (validE l)) ∧ Below w.heap.size w w') := fun w' hw => ⟨ret_int (validE_at (by omega) hlt HK.out (by rw [HX.out]; exact HE.out) (by simp)).symm, hw⟩
          by_cases q1 : f < 0
          · go_wp2; go_ret; exact go1.out _ (hb.alloc hbs _)
          by_cases q2 : 84005 < f
          · go_wp2; go_ret; exact go1.out _ (hb.alloc hbs _)
          by_cases q3 : kn < 0
          · go_wp2; go_ret; exact go1.out _ (hb.alloc hbs _)
          by_cases q4 : 2147483647 < kn
          · go_wp2; go_ret; exact go1.out _ (hb.alloc hbs _)
          by_cases q5 : vv < -1000000000000
          · go_wp2; go_ret; exact go1.out _ (hb.alloc hbs _)
          have q6 : 1000000000000 < vv := by omega
          clear hr'
          go_wp2; go_ret; exact go1.out _ (hb.alloc hbs _)
    · go_wp2
      go_ret
      exact ⟨ret_int (validE_ok (by omega) fun j hj => HK.out j hj (by omega)).symm, hb⟩

end Go.Proofs.YtaafihdegnaokaaGreatDoor
