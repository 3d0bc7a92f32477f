/- payrolllaw6.same. -/
import Derived.Test.YtnmbaeahnfbfiaaChgK
import Derived.Test.YtnmbaeahnfbfiaaSet1
namespace Go.Proofs.Ytnmbaeahnfbfiaa
open Go.RowKit

theorem drewN_add (w : World) : ∀ (a b : Nat), (w.drewN a).drewN b = w.drewN (a + b) := fun a b => by
  simp [World.drewN, Nat.add_assoc]
def SameP (w : World) (b : Bool) (e : Ending) (w' : World) : Prop := e = .returned (.bool b) ∧ Below w.heap.size w w'
set_option maxHeartbeats 1000000 in
theorem same_any (va vb : Value) (a b : List Chg) (w : World) (ha : Sl w 4 va (chgs a)) (hb : Sl w 4 vb (chgs b)) (hla : a.length ≤ 4096) (_hlb : b.length ≤ 4096) :
    Calls Try.prog 13 #[va, vb] w (SameP w (decide (a = b))) := by
  have fa : ∃ P c, va = .slice P a.length c := by obtain ⟨P, c, h, _⟩ := ha; rw [chgs_len] at h; exact ⟨P, c, h⟩
  have fb : ∃ P c, vb = .slice P b.length c := by obtain ⟨P, c, h, _⟩ := hb; rw [chgs_len] at h; exact ⟨P, c, h⟩
  obtain ⟨A1, c1, rfl⟩ := fa
  obtain ⟨A2, c2, rfl⟩ := fb
  have HA := Lib.hid ha
  have HB := Lib.hid hb
  clear ha hb
  by_cases hl : a.length = b.length
  · have HL := Lib.hid hl
    have hl1 : a.length ≤ b.length := by omega
    have hl2 : b.length ≤ a.length := by omega
    have hne : ((a.length : Int) != (b.length : Int)) = false := by simp; omega
    clear hl
    go_enter Try.func13, Try.ntmps13
    go_wp2
    go_loopw [5] (fun i wr => ∃ k : Nat, k ≤ a.length ∧ i = .int .i64 k ∧ Below w.heap.size w wr ∧ Hid (∀ j (h : j < a.length) (h' : j < b.length), j < k → a[j] = b[j])) (fun i _ => a.length - (intOf i).toNat)
    case atStart => exact ⟨0, by omega, rfl, Below.refl _ _, (fun j _ _ h => by omega)⟩
    case round =>
      obtain ⟨k, hk, rfl, hbl, HE⟩ := hrel
      obtain ⟨wo, rfl⟩ : ∃ wo : World, wo = wr := ⟨_, rfl⟩
      by_cases hlt : k < a.length
      · have hlt' : k < b.length := by omega
        obtain ⟨p, po, rfl, hp⟩ := (HA.out.below hbl).cells (by rw [chgs_len]; omega)
        obtain ⟨q, qo, rfl, hq⟩ := (HB.out.below hbl).cells (by rw [chgs_len]; omega)
        obtain ⟨p0, p1, p2, p3⟩ := hp.chg hlt
        obtain ⟨q0, q1, q2, q3⟩ := hq.chg hlt'
        have i1 : (k : Int) < (a.length : Int) := by omega
        have i2 : (k : Int) < (b.length : Int) := by omega
        have HN : Hid (∀ W, (binOp .neq 40 (.agg #[.int .i64 (a[k]).f, .int .i64 (a[k]).k, .int .i64 (a[k]).v, .bool (a[k]).d]) (.agg #[.int .i64 (b[k]).f, .int .i64 (b[k]).k, .int .i64 (b[k]).v, .bool (b[k]).d])).run Try.prog W = .ok (.bool (!decide (a[k] = b[k]))) W) := fun W => neC _ _ W
        obtain ⟨x, hx⟩ : ∃ x, a[k] = x := ⟨_, rfl⟩
        obtain ⟨y, hy⟩ : ∃ y, b[k] = y := ⟨_, rfl⟩
        rw [hx] at p0 p1 p2 p3 HN
        rw [hy] at q0 q1 q2 q3 HN
        have HX := Lib.hid hx
        have HY := Lib.hid hy
        clear hp hq hx hy
        by_cases hxy : x = y
        · have n1 := HN.out
          rw [decide_eq_true hxy] at n1
          have HXY := Lib.hid hxy
          clear hxy HN
          go_wp2_with fail
          go_quiet (fail)
          go_wp2
          go_roundw
          case rel =>
            refine ⟨k + 1, by omega, by go_num, Below.draws hbl _, fun j h h' hj => ?_⟩
            by_cases e : j = k
            · subst e; rw [HX.out, HY.out, HXY.out]
            · exact HE.out j h h' (by omega)
          case measure => simp [intOf]; omega
        · have n1 := HN.out
          rw [decide_eq_false hxy] at n1
          have HXY := Lib.hid hxy
          clear hxy HN
          go_wp2_with fail
          go_quiet (fail)
          go_wp2
          go_ret
          exact ⟨ret_bool (decide_eq_false (fun h => HXY.out (by rw [← HX.out, ← HY.out]; exact List.getElem_of_eq h hlt))).symm, Below.draws hbl _⟩
      · go_wp2
        go_ret
        exact ⟨ret_bool (decide_eq_true (List.ext_getElem HL.out fun j h h' => HE.out j h h' (by omega))).symm, hbl⟩
  · have hne : ((a.length : Int) != (b.length : Int)) = true := by simp; omega
    have HE : Hid (decide (a = b) = false) := decide_eq_false (fun h => hl (by rw [h]))
    clear hl
    go_enter Try.func13, Try.ntmps13
    go_wp2
    go_ret
    exact ⟨ret_bool HE.out.symm, Below.refl _ _⟩
end Go.Proofs.Ytnmbaeahnfbfiaa
