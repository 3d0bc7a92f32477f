/- Contracts of payrollref1.Format and payrollref1.digits. -/
import Derived.Test.YtkdmbkhgcahpiaaDoorRatF
namespace Go.Proofs.YtkdmbkhgcahpiaaDoor
open Go.RowKit

/-- the bytes of a list -/
def bsOf (l : List UInt8) : ByteArray := ⟨l.toArray⟩
theorem bsOf_list (l : List UInt8) : (bsOf l).data.toList = l := by simp [bsOf]
theorem bsOf_size (l : List UInt8) : (bsOf l).size = l.length := by simp [bsOf, ByteArray.size]
theorem bsOf_eq {s : ByteArray} {l : List UInt8} (h : s.data.toList = l) : s = bsOf l := bytes_ext (h.trans (bsOf_list l).symm)
theorem RetTxt.bs {l : List UInt8} {w w' : World} {e : Ending} (h : RetTxt l w e w') : e = .returned (.string (bsOf l)) ∧ Below w.heap.size w w' := by
  obtain ⟨s, rfl, hs, hb⟩ := h
  exact ⟨by rw [bsOf_eq hs.out], hb⟩
set_option maxRecDepth 100000 in
set_option maxHeartbeats 1600000 in
theorem refFormat_any (n d : Int) (w : World) :
    Calls Tryd.prog 16 #[.agg #[.int .i64 n, .int .i64 d]] w (RetTxt (fmtF n d) w) := by
  cases hv : vldB n d
  · have HV := Lib.hid hv
    have HE := Lib.hid (fmtF_no hv)
    clear hv
    go_enter Tryd.func16, Tryd.ntmps16
    go_wp2_with fail
    refine (refValid_any n d _).mono ?_
    rintro e w1 ⟨rfl, hb1⟩
    rw [HV.out]
    go_wp2_with fail
    go_ret
    exact RetTxt.of (by rw [HE.out]) (((Below.refl _ _).alloc (Nat.le_refl _) _).trans (hb1.mono (by simp)))
  · have HV := Lib.hid hv
    obtain ⟨i1, i2, i3, i4, _⟩ := vld_iff.1 hv
    by_cases hd : d = 1
    · subst hd
      have HE := Lib.hid (fmtF_one hv)
      clear hv
      go_enter Tryd.func16, Tryd.ntmps16
      go_wp2_with fail
      refine (refValid_any n 1 _).mono ?_
      rintro e w1 ⟨rfl, hb1⟩
      rw [HV.out]
      have hR := (Row.new w 23 #[.int .i64 n, .int .i64 1]).below hb1 (by simp)
      obtain ⟨a0, a1, _, _⟩ := pair_cells hR
      have hB1 : Below w.heap.size w w1 := ((Below.refl _ _).alloc (Nat.le_refl _) _).trans (hb1.mono (by simp))
      clear hb1
      go_wp2_with fail
      refine (Decimal_any n _ (by omega) (by omega)).mono ?_
      rintro e w2 ⟨t, rfl, Ht, hb2⟩
      go_wp2_with fail
      go_ret
      exact RetTxt.of (by rw [HE.out, Ht.out]) (below_after hB1 hb2 hB1.size)
    · have HE := Lib.hid (fmtF_two hv hd)
      have d1 : (d == 1) = false := by simpa using hd
      have d2 : (d != 1) = true := by simpa using hd
      have hc : ∀ (x : Int) (w : World), -1000000000000 ≤ x → x ≤ 1000000000000 → Calls Tryd.prog 36 #[.int .i64 x] w fun e w' => e = .returned (.string (bsOf (Lib.itoa x))) ∧ Below w.heap.size w w' := fun x w g1 g2 => (Decimal_any x w (by omega) (by omega)).mono fun _ _ h => h.bs
      have HC := Lib.hid hc
      have s1 : (bsOf (Lib.itoa n)).size ≤ 21 := by rw [bsOf_size]; exact itoa_len n (by omega) (by omega)
      have s2 : (bsOf (Lib.itoa d)).size ≤ 21 := by rw [bsOf_size]; exact itoa_len d (by omega) (by omega)
      clear hv hd hc
      go_enter Tryd.func16, Tryd.ntmps16
      go_wp2_with fail
      refine (refValid_any n d _).mono ?_
      rintro e w1 ⟨rfl, hb1⟩
      rw [HV.out]
      have hR := (Row.new w 23 #[.int .i64 n, .int .i64 d]).below hb1 (by simp)
      obtain ⟨a0, a1, _, _⟩ := pair_cells hR
      have hl := hR.lt
      have x0 := ext_cell hl a0
      have x1 := ext_cell hl a1
      have hB1 : Below w.heap.size w w1 := ((Below.refl _ _).alloc (Nat.le_refl _) _).trans (hb1.mono (by simp))
      have hbx : ∀ x : Ext w1, Hid (Below w.heap.size w x.val) := fun x => below_after hB1 x.property hB1.size
      clear hb1
      go_wp2_with fail
      refine region_ext (by kernel_rfl) (by kernel_rfl) ?_
      repeat (go_big_quiet_step ((go_at_call 36; exact ext_call (HC.out _ _ (by omega) (by omega)))))
      refine wpQuiet_nil ?_
      rintro _ ⟨x, rfl⟩
      go_wp2
      go_ret
      exact RetTxt.of (by rw [HE.out, app_list, app_list, bsOf_list, bsOf_list]; simp) (hbx x).out
end Go.Proofs.YtkdmbkhgcahpiaaDoor
