/- payrolllaw6.sane and same. -/
import Derived.Test.YtnmbaeahnfbfiaaChgB
import Derived.Test.YtnmbaeahnfbfiaaTChg
namespace Go.Proofs.Ytnmbaeahnfbfiaa
open Go.RowKit

/-- a literal of elements -/
theorem Sl.lit {w : World} {t : TypeId} {sz : Nat} (hsz : 0 < sz) (es : List (List Value)) (hw : Wide sz es) (c : Array Value) (hc : c.toList = es.flatten) (hl : es.length ≤ maxLen) :
    Sl (w.alloc (.cells c t)) sz (.slice (some ⟨w.heap.size, 0, none⟩) es.length es.length) es := by
  refine ⟨_, _, rfl, Nat.le_refl _, hl, (fun h => by cases h), .inr ⟨w.heap.size, 0, rfl, by simp, ?_⟩⟩
  intro i x hx j u hu
  have hxl := (hw x (List.mem_of_getElem? hx)).1
  have hj : j < sz := by have := (List.getElem?_eq_some_iff.1 hu).1; omega
  rw [World.cell?_alloc_new, Nat.zero_add]
  have h1 : es.flatten[i * sz + j]? = some u := by
    rw [hw.get hsz, Nat.mul_comm, Nat.mul_add_div hsz, Nat.div_eq_of_lt hj, Nat.mul_add_mod, Nat.mod_eq_of_lt hj, Nat.add_zero, hx]; exact hu
  rw [← hc] at h1
  simpa using h1

def saneL : List Chg := [⟨10, 1, 5, false⟩, ⟨20, 2, 7, false⟩, ⟨10, 3, 6, false⟩, ⟨20, 4, 0, true⟩]
theorem sane1 : atO saneL 15 2 = some 5 ∧ atE saneL 15 = 0 := by decide +kernel
theorem sane2 : atO saneL 25 4 = some 6 ∧ atE saneL 25 = 0 := by decide +kernel
theorem sane3 : ((diffC saneL 2 4 0 30).map fun p => (p.b, p.e)) = [(10, 30)] ∧ checkE saneL 0 30 = 0 := by decide +kernel
theorem sane3' : rngs (diffC saneL 2 4 0 30) = [[.int .i64 10, .int .i64 30]] := by
  have h := sane3.1
  rcases hd : diffC saneL 2 4 0 30 with _ | ⟨p, r⟩
  · rw [hd] at h; cases h
  · rw [hd] at h
    simp only [List.map_cons, List.cons.injEq, Prod.mk.injEq, List.map_eq_nil_iff] at h
    obtain ⟨⟨h1, h2⟩, h3⟩ := h
    subst h3
    simp [rngs, Pc.rng, h1, h2]
theorem sane4 : (mrgC saneL saneL).length = 4 ∧ mrgE saneL saneL = 0 := by decide +kernel

set_option maxRecDepth 10000 in
set_option maxHeartbeats 1000000 in
theorem sane_any (w : World) : Calls Try.prog 10 #[] w fun e w' => e = .returned (.bool true) ∧ Below w.heap.size w w' := by
  go_enter Try.func10, Try.ntmps10
  go_wp2_with fail
  have hs := Lib.hid (Sl.lit (w := w) (t := 40) (by omega) (chgs saneL) (chgs_wide _) #[.int .i64 10, .int .i64 1, .int .i64 5, .bool false, .int .i64 20, .int .i64 2, .int .i64 7, .bool false, .int .i64 10, .int .i64 3, .int .i64 6, .bool false, .int .i64 20, .int .i64 4, .int .i64 0, .bool true] rfl (by rw [chgs_len]; unfold maxLen; decide))
  have hb0 : Below w.heap.size w (w.alloc (.cells #[.int .i64 10, .int .i64 1, .int .i64 5, .bool false, .int .i64 20, .int .i64 2, .int .i64 7, .bool false, .int .i64 10, .int .i64 3, .int .i64 6, .bool false, .int .i64 20, .int .i64 4, .int .i64 0, .bool true] 40)) := (Below.refl _ _).alloc (Nat.le_refl _) _
  refine (At_any _ saneL 15 2 _ hs.out).mono ?_
  rw [sane1.1, sane1.2]
  rintro e w1 ⟨rfl, hb1⟩
  have B1 := hb0.trans (hb1.mono hb0.size)
  have s1 := Lib.hid (hs.out.below hb1)
  clear hs hb0 hb1
  go_wp2_with fail
  refine (At_any _ saneL 25 4 _ s1.out).mono ?_
  rw [sane2.1, sane2.2]
  rintro e w2 ⟨rfl, hb2⟩
  have B2 := B1.trans (hb2.mono B1.size)
  have s2 := Lib.hid (s1.out.below hb2)
  clear s1 B1 hb2
  go_wp2_with fail
  refine (Diff_any _ saneL 2 4 0 30 _ s2.out).mono ?_
  rw [sane3', sane3.2]
  rintro e w3 ⟨x3, rfl, hown3, hb3⟩
  have B3 := B2.trans (hb3.mono B2.size)
  have s3 := Lib.hid (s2.out.below hb3)
  clear s2 B2 hb3
  obtain ⟨g, cap3, rfl, hcap⟩ := hown3.some_form (by simp)
  have l3 := (hown3.lt rfl).2
  go_wp2_with fail
  refine (Merge_any _ _ saneL saneL _ s3.out s3.out).mono ?_
  rw [sane4.2]
  rintro e w4 ⟨x4, rfl, hown4, hb4⟩
  have B4 := B3.trans (hb4.mono B3.size)
  have hown3' := hown3.kept hb4
  have c0 := hown3'.cellE (by omega) (i := 0) rfl (j := 0) rfl
  have c1 := hown3'.cellE (by omega) (i := 0) rfl (j := 1) rfl
  have hq := hown4.form
  rw [chgs_len, sane4.1] at hq
  obtain ⟨A4, cap4, rfl⟩ := hq
  clear hown3 hown3' hown4 s3 B3 hb4
  go_wp2
  go_ret
  exact ⟨rfl, B4⟩
end Go.Proofs.Ytnmbaeahnfbfiaa
