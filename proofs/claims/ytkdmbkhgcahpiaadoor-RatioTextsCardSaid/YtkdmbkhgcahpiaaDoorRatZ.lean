/- The sanity check of the laws on fractions: it returns true. -/
import Derived.Test.YtkdmbkhgcahpiaaDoorRatQ
namespace Go.Proofs.YtkdmbkhgcahpiaaDoor
open Go.RowKit

theorem frac_ext {a b : Frac} (h1 : a.n = b.n) (h2 : a.d = b.d) (h3 : a.e = b.e) : a = b := by cases a; cases b; simp_all
theorem z_new1 : newF 6 (-4) = ⟨-3, 2, 0⟩ := frac_ext (by decide +kernel) (by decide +kernel) (by decide +kernel)
theorem z_new2 : newF 1 1000003 = ⟨0, 0, 4⟩ := frac_ext (by decide +kernel) (by decide +kernel) (by decide +kernel)
theorem z_vld : vldB (-3) 2 = true := by decide +kernel
theorem z_fmt : fmtF (-3) 2 = [45, 51, 47, 50] := by
  rw [fmtF_two z_vld (by decide), itoa_neg' _ (by decide), itoa_pos' _ (by decide), dec_small _ (by decide), dec_small _ (by decide)]; rfl
theorem z_prs : prsF [45, 51, 47, 50] = ⟨-3, 2, true⟩ := by rw [← z_fmt]; exact prs_yes z_vld
theorem z_flr : flrF (-3) 2 = -2 := by rw [(flr_bound z_vld).1]; rfl
set_option maxRecDepth 100000 in
set_option maxHeartbeats 1600000 in
theorem sane_any (w : World) (hT : Tabs w) (hE : Errs w) : Calls Tryd.prog 12 #[] w fun e w' => e = .returned (.bool true) ∧ Below w.heap.size w w' := by
  have HT := Lib.hid hT
  have HE := Lib.hid hE
  clear hT hE
  go_enter Tryd.func12, Tryd.ntmps12
  go_wp2_with fail
  refine (New_any 6 (-4) w (by omega) (by omega)).mono ?_
  rintro e w1 ⟨rfl, hb1⟩
  rw [z_new1]
  have hs1 := hb1.size
  go_wp2_with fail
  have rA2 := Row.new w1 23 #[.int .i64 (-3), .int .i64 2]
  have hB2 := hb1.alloc hs1 (.cells #[.int .i64 (-3), .int .i64 2] 23)
  generalize w1.alloc (Obj.cells #[Value.int .i64 (-3), Value.int .i64 2] 23) = w2 at rA2 hB2 ⊢
  generalize w1.heap.size = g at rA2 hs1 ⊢
  clear hb1
  refine (New_any 1 1000003 w2 (by omega) (by omega)).mono ?_
  rintro e w3 ⟨rfl, hb3⟩
  rw [z_new2]
  have hB3 := below_after hB2 hb3 hB2.size
  have rA3 := rA2.below hb3 rA2.lt
  clear rA2 hB2 hb3
  go_wp2_with fail
  have rA4 := rA3.alloc (.cells #[.int .i64 0, .int .i64 0] 23)
  have hB4 := hB3.alloc hB3.size (.cells #[.int .i64 0, .int .i64 0] 23)
  generalize w3.alloc (Obj.cells #[Value.int .i64 0, Value.int .i64 0] 23) = w4 at rA4 hB4 ⊢
  refine (Parse_any ⟨#[45, 51, 47, 50]⟩ w4 (by decide) (HT.out.below hB4) (HE.out.below hB4)).mono ?_
  rintro e w5 ⟨rfl, hb5⟩
  rw [z_prs]
  have hB5 := below_after hB4 hb5 hB4.size
  have rA5 := rA4.below hb5 rA4.lt
  clear rA3 hB3 rA4 hB4 hb5
  obtain ⟨a0, a1, _, _⟩ := pair_cells rA5
  have hl := rA5.lt
  have hs5 := hB5.size
  go_wp2_with fail
  have rA6 := rA5.alloc (.cells #[.int .i64 (-3), .int .i64 2] 23)
  have hB6 := hB5.alloc hs5 (.cells #[.int .i64 (-3), .int .i64 2] 23)
  generalize w5.alloc (Obj.cells #[Value.int .i64 (-3), Value.int .i64 2] 23) = w6 at rA6 hB6 ⊢
  clear rA5 hB5 a0 a1 hl hs5
  refine (Floor_any (-3) 2 w6).mono ?_
  rintro e w7 ⟨rfl, hb7⟩
  rw [z_flr]
  have hB7 := below_after hB6 hb7 hB6.size
  have rA7 := rA6.below hb7 rA6.lt
  clear rA6 hB6 hb7
  obtain ⟨a0, a1, _, _⟩ := pair_cells rA7
  go_wp2_with fail
  refine (Format_any (-3) 2 w7 (HT.out.below hB7)).mono ?_
  intro e w8 hpost
  obtain ⟨rfl, hb8⟩ := hpost.bs
  rw [z_fmt]
  have hB8 := below_after hB7 hb8 hB7.size
  have rA8 := rA7.below hb8 rA7.lt
  clear rA7 hB7 hb8 hpost a0 a1
  obtain ⟨a0, a1, _, _⟩ := pair_cells rA8
  rw [show bsOf [45, 51, 47, 50] = ⟨#[45, 51, 47, 50]⟩ from rfl]
  go_wp2_with fail
  refine (Valid_any (-3) 2 w8).mono ?_
  rintro e w9 ⟨rfl, hb9⟩
  rw [z_vld]
  go_wp2
  go_ret
  exact ⟨rfl, below_after hB8 hb9 hB8.size⟩
end Go.Proofs.YtkdmbkhgcahpiaaDoor
