/- payrollref32.Same, payrollref38.Same. -/
import Derived.Test.YtnkephafpebfkaaGreatDoorRtS
import Derived.Test.YtnkephafpebfkaaGreatDoorSet1
import Derived.Deep.QuietTactic
namespace Go.Proofs.YtnkephafpebfkaaGreatDoor
open Go.RowKit

deriving instance DecidableEq for Ln
deriving instance DecidableEq for Ret
theorem neLn (a b : Ln) (w : World) : (binOp .neq 56 (.agg #[.int .i64 a.kind, .string a.code, .int .i64 a.amt]) (.agg #[.int .i64 b.kind, .string b.code, .int .i64 b.amt])).run Tryz.prog w = .ok (.bool (!decide (a = b))) w := by
  obtain ⟨a0, a1, a2⟩ := a
  obtain ⟨b0, b1, b2⟩ := b
  simp only [Ln.mk.injEq, Bool.decide_and]
  have key : a1.toList = b1.toList ↔ a1 = b1 := by
    rw [ByteArray.toList_eq, ByteArray.toList_eq]
    obtain ⟨⟨x⟩⟩ := a1
    obtain ⟨⟨y⟩⟩ := b1
    simp
  by_cases h0 : a0 = b0 <;> by_cases h1 : a1 = b1 <;> by_cases h2 : a2 = b2 <;> simp [h0, h1, h2, key, go_sem]
def SameP (w : World) (b : Bool) (e : Ending) (w' : World) : Prop := e = .returned (.bool b) ∧ Below w.heap.size w w'
set_option maxHeartbeats 1000000 in
theorem sameLn_any (va vb : Value) (a b : List Ln) (w : World) (ha : Sl w 3 va (lns a)) (hb : Sl w 3 vb (lns b)) (hla : a.length ≤ 4096) (_hlb : b.length ≤ 4096) :
    Calls Tryz.prog 48 #[va, vb] w (SameP w (decide (a = b))) := by
  have fa : ∃ P c, va = .slice P a.length c := by obtain ⟨P, c, h, _⟩ := ha; rw [lns_len] at h; exact ⟨P, c, h⟩
  have fb : ∃ P c, vb = .slice P b.length c := by obtain ⟨P, c, h, _⟩ := hb; rw [lns_len] at h; exact ⟨P, c, h⟩
  obtain ⟨A1, c1, rfl⟩ := fa
  obtain ⟨A2, c2, rfl⟩ := fb
  have HA := Lib.hid ha
  have HB := Lib.hid hb
  clear ha hb
  by_cases hl : a.length = b.length
  · have HL := Lib.hid hl
    have hl1 : a.length ≤ b.length := by omega
    have hl2 : b.length ≤ a.length := by omega
    have hne : ((a.length : Int) != (b.length : Int)) = false := by simp; omega
    clear hl
    go_enter Tryz.func48, Tryz.ntmps48
    go_wp2
    go_loopw [5] (fun i wr => ∃ k : Nat, k ≤ a.length ∧ i = .int .i64 k ∧ Below w.heap.size w wr ∧ Hid (∀ j (h : j < a.length) (h' : j < b.length), j < k → a[j] = b[j])) (fun i _ => a.length - (intOf i).toNat)
    case atStart => exact ⟨0, by omega, rfl, Below.refl _ _, (fun j _ _ h => by omega)⟩
    case round =>
      obtain ⟨k, hk, rfl, hbl, HE⟩ := hrel
      obtain ⟨wo, rfl⟩ : ∃ wo : World, wo = wr := ⟨_, rfl⟩
      by_cases hlt : k < a.length
      · have hlt' : k < b.length := by omega
        obtain ⟨p, po, rfl, hp⟩ := (HA.out.below hbl).cells (by rw [lns_len]; omega)
        obtain ⟨q, qo, rfl, hq⟩ := (HB.out.below hbl).cells (by rw [lns_len]; omega)
        obtain ⟨p0, p1, p2⟩ := hp.ln hlt
        obtain ⟨q0, q1, q2⟩ := hq.ln hlt'
        have i1 : (k : Int) < (a.length : Int) := by omega
        have i2 : (k : Int) < (b.length : Int) := by omega
        have HN : Hid (∀ W, (binOp .neq 56 (.agg #[.int .i64 (a[k]).kind, .string (a[k]).code, .int .i64 (a[k]).amt]) (.agg #[.int .i64 (b[k]).kind, .string (b[k]).code, .int .i64 (b[k]).amt])).run Tryz.prog W = .ok (.bool (!decide (a[k] = b[k]))) W) := fun W => neLn _ _ W
        obtain ⟨x, hx⟩ : ∃ x, a[k] = x := ⟨_, rfl⟩
        obtain ⟨y, hy⟩ : ∃ y, b[k] = y := ⟨_, rfl⟩
        rw [hx] at p0 p1 p2 HN
        rw [hy] at q0 q1 q2 HN
        have HX := Lib.hid hx
        have HY := Lib.hid hy
        clear hp hq hx hy
        by_cases hxy : x = y
        · have n1 := HN.out
          rw [decide_eq_true hxy] at n1
          have HXY := Lib.hid hxy
          clear hxy HN
          go_wp2_with fail
          go_quiet (fail)
          go_wp2
          go_roundw
          case rel =>
            refine ⟨k + 1, by omega, by go_num, Below.draws hbl _, fun j h h' hj => ?_⟩
            by_cases e : j = k
            · subst e; rw [HX.out, HY.out, HXY.out]
            · exact HE.out j h h' (by omega)
          case measure => simp [intOf]; omega
        · have n1 := HN.out
          rw [decide_eq_false hxy] at n1
          have HXY := Lib.hid hxy
          clear hxy HN
          go_wp2_with fail
          go_quiet (fail)
          go_wp2
          go_ret
          exact ⟨ret_bool (decide_eq_false (fun h => HXY.out (by rw [← HX.out, ← HY.out]; exact List.getElem_of_eq h hlt))).symm, Below.draws hbl _⟩
      · go_wp2
        go_ret
        exact ⟨ret_bool (decide_eq_true (List.ext_getElem HL.out fun j h h' => HE.out j h h' (by omega))).symm, hbl⟩
  · have hne : ((a.length : Int) != (b.length : Int)) = true := by simp; omega
    have HE : Hid (decide (a = b) = false) := decide_eq_false (fun h => hl (by rw [h]))
    clear hl
    go_enter Tryz.func48, Tryz.ntmps48
    go_wp2
    go_ret
    exact ⟨ret_bool HE.out.symm, Below.refl _ _⟩
theorem decide_ret (f g : Ret) : decide (f = g) = (decide (f.p = g.p) && (decide (f.v = g.v) && decide (f.l = g.l))) := by
  obtain ⟨a, b, c⟩ := f
  obtain ⟨x, y, z⟩ := g
  simp only [Ret.mk.injEq, Bool.decide_and]
set_option maxHeartbeats 1000000 in
theorem SameR_any (f g : Ret) (va vb : Value) (w : World) (ha : Sl w 3 va (lns f.l)) (hb : Sl w 3 vb (lns g.l)) (hla : f.l.length ≤ 4096) (hlb : g.l.length ≤ 4096) :
    Calls Tryz.prog 20 #[.agg (f.vals va), .agg (g.vals vb)] w (SameP w (decide (f = g))) := by
  have HDF := Lib.hid (decide_ret f g)
  have hB : Below w.heap.size w ((w.alloc (.cells (f.vals va) 25)).alloc (.cells (g.vals vb) 25)) := ((Below.refl _ _).alloc (Nat.le_refl _) _).alloc (by simp) _
  have HC := Lib.hid (sameLn_any va vb f.l g.l _ (ha.below hB) (hb.below hB) hla hlb)
  clear ha hb
  have hv1 : f.vals va = #[.int .i64 f.p, .int .i64 f.v, va] := rfl
  have hv2 : g.vals vb = #[.int .i64 g.p, .int .i64 g.v, vb] := rfl
  rw [hv1, hv2] at HC hB
  rw [hv1, hv2]
  clear hv1 hv2
  by_cases h0 : f.p = g.p
  · have e0 : (f.p == g.p) = true := by simpa using h0
    have HD1 : Hid (decide (f = g) = (decide (f.v = g.v) && decide (f.l = g.l))) := by rw [Hid, HDF.out, decide_eq_true h0, Bool.true_and]
    clear h0 HDF
    by_cases h1 : f.v = g.v
    · have e1 : (f.v == g.v) = true := by simpa using h1
      have HD2 : Hid (decide (f = g) = decide (f.l = g.l)) := by rw [Hid, HD1.out, decide_eq_true h1, Bool.true_and]
      clear h1 HD1
      go_enter Tryz.func20, Tryz.ntmps20
      go_wp2_with fail
      refine HC.out.mono ?_
      rintro e w1 ⟨rfl, hb1⟩
      have hB1 := hB.trans (hb1.mono hB.size)
      clear hb1 hB HC
      cases hfl : decide (f.l = g.l)
      · rw [hfl] at HD2
        go_wp2
        go_ret
        exact ⟨ret_bool HD2.out.symm, hB1⟩
      · rw [hfl] at HD2
        go_wp2
        go_ret
        exact ⟨ret_bool HD2.out.symm, hB1⟩
    · have e1 : (f.v == g.v) = false := by simpa using h1
      have HD2 : Hid (decide (f = g) = false) := by rw [Hid, HD1.out, decide_eq_false h1, Bool.false_and]
      clear h1 HD1
      go_enter Tryz.func20, Tryz.ntmps20
      go_wp2
      go_ret
      exact ⟨ret_bool HD2.out.symm, hB⟩
  · have e0 : (f.p == g.p) = false := by simpa using h0
    have HD1 : Hid (decide (f = g) = false) := by rw [Hid, HDF.out, decide_eq_false h0, Bool.false_and]
    clear h0 HDF
    go_enter Tryz.func20, Tryz.ntmps20
    go_wp2
    go_ret
    exact ⟨ret_bool HD1.out.symm, hB⟩
end Go.Proofs.YtnkephafpebfkaaGreatDoor
