/- Contract of awake: the example of the chapter on books. -/
import Derived.Test.YtlchelgibilacaaGreatRes
namespace Go.Proofs.YtlchelgibilacaaGreat
open Go.RowKit

/-- the posting of pay -/
def payP (r n : Int) : Pst := ⟨r, 1, 0, ⟨9, ⟨#[]⟩, n⟩⟩
theorem pay_any (r n : Int) (w : World) : Calls Tryz.prog 25 #[.int .i64 r, .int .i64 n] w fun e w' => e = .returned (.agg #[.int .i64 r, .int .i64 1, .int .i64 0, .int .i64 9, .string ⟨#[]⟩, .int .i64 n]) ∧ Below w.heap.size w w' := by
  go_enter Tryz.func25, Tryz.ntmps25
  go_wp2
  exact bodyPost_ret (v := .agg #[.int .i64 r, .int .i64 1, .int .i64 0, .int .i64 9, .string ⟨#[]⟩, .int .i64 n]) (by simp [results, Tryz.results25, go_sem]) rfl ⟨rfl, (Below.refl _ _).alloc (Nat.le_refl _) _⟩

def awL : List Pst := [payP 1 100, payP 2 (-10)]
theorem aw1 : addE [payP 1 100] [payP 2 (-10)] = 0 := by kernel_rfl
theorem aw2 : addL [payP 1 100] [payP 2 (-10)] = awL := by kernel_rfl
theorem aw3 : resultL awL 1 0 = [⟨9, ⟨#[]⟩, 90⟩] := by kernel_rfl
theorem aw4 : asOfL awL 1 = [payP 1 100] := by kernel_rfl
theorem aw5 : resultL [payP 1 100] 1 0 = [⟨9, ⟨#[]⟩, 100⟩] := by kernel_rfl
theorem aw6 : netL awL 1 = 90 := by kernel_rfl

/-- the one line of a slice -/
theorem own_one {w : World} {base : Nat} {v : Value} {x : Ln} (h : Own w base 43 3 v (lns [x])) : ∃ g cap, v = .slice (some ⟨g, 0, none⟩) 1 cap ∧ g < w.heap.size ∧ w.cell? ⟨g, 2, none⟩ = some (.int .i64 x.amt) := by
  obtain ⟨A, cap, rfl, _, _, _, hc⟩ := h.sl (by omega)
  obtain ⟨g, cap', hv, _, hlt⟩ := h.1.form (by simp [lns])
  injection hv with hv1 hv2 hv3
  subst hv1
  refine ⟨g, cap, rfl, hlt, ?_⟩
  rcases hc with hc | ⟨b, off, hA, hc⟩
  · simp [lns] at hc
  · injection hA with hA
    injection hA with h1 h2
    subst h1 h2
    exact hc.2 0 _ rfl 2 _ rfl

set_option maxRecDepth 100000 in
set_option maxHeartbeats 1600000 in
theorem awake_any (w : World) : Calls Tryz.prog 5 #[] w fun e w' => e = .returned (.bool true) ∧ Below w.heap.size w w' := by
  go_enter Tryz.func5, Tryz.ntmps5
  go_wp2_with fail
  refine (pay_any _ _ _).mono ?_
  rintro e w1 ⟨rfl, hb1⟩
  go_wp2_with fail
  refine (pay_any _ _ _).mono ?_
  rintro e w2 ⟨rfl, hb2⟩
  go_wp2_with fail
  have hs1 := hb1.size
  have hs2 := hb2.size
  simp only [World.size_alloc] at hs2
  have hS1 : Sl w2 6 (.slice (some ⟨w1.heap.size, 0, none⟩) 1 1) (psts [payP 1 100]) := (Sl.one (w := w1) rfl rfl : Sl _ 6 _ (psts [payP 1 100])).below hb2
  have hB2 : Below w.heap.size w w2 := (hb1.alloc hs1 _).trans (hb2.mono (by simp; omega))
  refine (Add_any _ _ [payP 1 100] [payP 2 (-10)] _ (hS1.below ((Below.refl _ _).alloc (Nat.le_refl _) _)) (Sl.one rfl rfl) (by simp)).mono ?_
  rintro e w3 ⟨x, rfl, hown3, hb3⟩
  have hB3 : Below w.heap.size w w3 := (hB2.alloc (by omega) _).trans (hb3.mono (by simp; omega))
  rw [aw2] at hown3
  rw [aw1]
  have hS3 := hown3.sl (by omega)
  have hs3 := hB3.size
  clear hown3 hS1 hB2 hb3 hb2 hb1 hs1 hs2
  go_wp2_with fail
  refine (Result_any _ awL 1 0 _ hS3).mono ?_
  rintro e w4 ⟨y, rfl, hown4, hb4⟩
  rw [aw3] at hown4
  go_wp2_with fail
  refine (AsOf_any _ awL 1 _ (hS3.below hb4)).mono ?_
  rintro e w5 ⟨z, rfl, hown5, hb5⟩
  rw [aw4] at hown5
  go_wp2_with fail
  refine (Result_any _ [payP 1 100] 1 0 _ (hown5.sl (by omega))).mono ?_
  rintro e w6 ⟨u, rfl, hown6, hb6⟩
  rw [aw5] at hown6
  have hb46 := below_after hb4 hb5 hb4.size
  have hown4' := (hown4.kept hb5).kept hb6
  have hS6 := ((hS3.below hb4).below hb5).below hb6
  have hB6 : Below w.heap.size w w6 := below_after (below_after (below_after hB3 hb4 hs3) hb5 (Nat.le_trans hs3 hb4.size)) hb6 (Nat.le_trans (Nat.le_trans hs3 hb4.size) hb5.size)
  obtain ⟨g1, cap1, rfl, hl1, hc1⟩ := own_one hown4'
  obtain ⟨g2, cap2, rfl, hl2, hc2⟩ := own_one hown6
  have hs6 := hB6.size
  clear hown4 hown5 hown6 hown4' hS3 hb46 hb4 hb5 hb6 hB3
  go_wp2_with (go_at_call 14; refine (Net_any _ awL 1 _ hS6).mono ?_; rintro e w7 ⟨rfl, hb7⟩; rw [aw6])
  go_ret
  exact ⟨rfl, below_after hB6 hb7 hs6⟩

end Go.Proofs.YtlchelgibilacaaGreat
