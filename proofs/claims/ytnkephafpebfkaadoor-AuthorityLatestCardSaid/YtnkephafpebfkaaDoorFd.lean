/- Contract of filing.Decode. -/
import Derived.Test.YtnkephafpebfkaaDoorFpa
namespace Go.Proofs.YtnkephafpebfkaaDoor
open Go.RowKit Go.Shelf

/-- the call returns a return and a number -/
def RetRet (f : Ret) (er : Int) (w : World) (e : Ending) (w' : World) : Prop :=
  ∃ v, e = .returned (.tuple #[.agg (f.vals v), .int .i64 er]) ∧ Own w' w.heap.size 28 3 v (lns f.l) ∧ Below w.heap.size w w'
theorem RetRet.no {f : Ret} {er : Int} {w w' : World} (h : f = ⟨0, 0, []⟩) (hb : Below w.heap.size w w') : RetRet f er w (.returned (.tuple #[.agg #[.int .i64 0, .int .i64 0, .slice none 0 0], .int .i64 er])) w' := by
  subst h; exact ⟨_, rfl, Own.nil _ _ _ _, hb⟩
set_option maxRecDepth 100000 in
set_option maxHeartbeats 2000000 in
theorem DecodeR_any (s : ByteArray) (w : World) (hT : Tabs w) (hE : Errs w) :
    Calls Tryd.prog 8 #[.string s] w (RetRet (decR s.data.toList) (decE s.data.toList) w) := by
  have HT := Lib.hid hT
  have HER := Lib.hid hE
  clear hT hE
  have hsz : s.data.toList.length = s.size := by simp
  have hr0 := Row.new w 25 #[.int .i64 0, .int .i64 0, .slice none 0 0]
  have hB0 := (Below.refl w.heap.size w).alloc (Nat.le_refl _) (.cells #[.int .i64 0, .int .i64 0, .slice none 0 0] 25)
  by_cases hl : 65536 < s.size
  · have HD : Hid (decE s.data.toList = 3) := by rw [Hid, decE, if_pos (by omega)]
    have HD2 := Lib.hid (decR_no (s := s.data.toList) (by rw [HD.out]; decide))
    go_enter Tryd.func8, Tryd.ntmps8
    go_wp2
    refine bodyPost_ret (v := .tuple #[.agg #[.int .i64 0, .int .i64 0, .slice none 0 0], .int .i64 3]) (by simp [results, Tryd.results8, go_sem]) rfl ?_
    rw [HD.out]
    exact RetRet.no HD2.out hB0
  have HDE : Hid (decE s.data.toList = match parseR s.data.toList with
    | some r => if retB r then 0 else 6
    | none => 6) := by rw [Hid, decE, if_neg (by omega)]; rfl
  clear hsz
  go_enter Tryd.func8, Tryd.ntmps8
  go_wp2_with fail
  obtain ⟨w0, hw0⟩ : ∃ w0, w.alloc (.cells #[.int .i64 0, .int .i64 0, .slice none 0 0] 25) = w0 := ⟨_, rfl⟩
  rw [hw0] at hr0 hB0 ⊢
  obtain ⟨r, hr⟩ : ∃ r, w.heap.size = r := ⟨_, rfl⟩
  rw [hr] at hr0 ⊢
  have hwr : w.heap.size ≤ r := by omega
  clear hw0
  refine (parseR_any s w0 (HT.out.below hB0) (HER.out.below hB0) (by omega)).mono ?_
  rintro e w1 ⟨hb1, hp⟩
  have hB1 := below_after hB0 hb1 hB0.size
  have hr1 := hr0.below hb1 hr0.lt
  have hz0 := hB0.size
  have hr0l := hr0.lt
  have hs1 := hB1.size
  clear hB0 hr0 hb1
  have H0 : ∀ W er, Below w.heap.size w W → decE s.data.toList = er → er ≠ 0 → RetRet (decR s.data.toList) (decE s.data.toList) w (.returned (.tuple #[.agg #[.int .i64 0, .int .i64 0, .slice none 0 0], .int .i64 er])) W := fun W er hb he hn => by
    rw [he]; exact RetRet.no (decR_no (by rw [he]; exact hn)) hb
  have HNO := Lib.hid H0
  clear H0
  rcases hp with ⟨f, v, hpf, rfl, hown⟩ | ⟨hpf, rfl⟩
  rotate_left
  · have HE : Hid (decE s.data.toList = 6) := by rw [Hid, HDE.out, hpf]
    have hq := Below.set3 hB1 hwr (.int .i64 0) (.int .i64 0) (.slice none 0 0)
    have hQ := (hq.alloc hq.size (.cells #[.int .i64 0, .int .i64 0, .slice none 0 0] 25))
    have hR := ((Row.set3 hr1 (.int .i64 0) (.int .i64 0) (.slice none 0 0)).alloc (.cells #[.int .i64 0, .int .i64 0, .slice none 0 0] 25))
    obtain ⟨⟨a0, a1, a2, al⟩, ⟨b0, b1, b2⟩⟩ := row3 hr1
    have HR := Lib.hid (row3 hR).1
    have HQ := Lib.hid hQ
    clear hq hQ hR hr1 hpf
    go_wp2
    obtain ⟨z0, z1, z2, -⟩ := HR.out
    refine bodyPost_ret (v := .tuple #[.agg #[.int .i64 0, .int .i64 0, .slice none 0 0], .int .i64 6]) (by simp only [results, Tryd.results8, go_sem]; simp [z0, z1, z2, go_sem]) rfl ?_
    exact HNO.out _ 6 HQ.out HE.out (by decide)
  · have HVL : Hid (f.vals v = #[.int .i64 f.p, .int .i64 f.v, v]) := rfl
    rw [HVL.out]
    have HPF := Lib.hid hpf
    have HD2 : Hid (decE s.data.toList = if retB f then 0 else 6) := by rw [Hid, HDE.out, hpf]
    have hsl := hown.sl (by omega)
    obtain ⟨Av, cv, rfl⟩ := hown.form
    rw [lns_len] at hown hsl HVL ⊢
    have hx1 := Row.new w1 25 #[.int .i64 f.p, .int .i64 f.v, .slice Av f.l.length cv]
    have hx3 := (Below.refl w1.heap.size w1).alloc (Nat.le_refl _) (.cells #[.int .i64 f.p, .int .i64 f.v, .slice Av f.l.length cv] 25)
    clear hpf
    obtain ⟨w2, hw2⟩ : ∃ w2, w1.alloc (.cells #[.int .i64 f.p, .int .i64 f.v, .slice Av f.l.length cv] 25) = w2 := ⟨_, rfl⟩
    rw [hw2] at hx1 hx3
    have hB2 := below_after hB1 hx3 hB1.size
    have hr2 := hr1.below hx3 hr1.lt
    have HS2 := Lib.hid (hsl.below hx3)
    have HO2 := Lib.hid (hown.kept hx3)
    have HV : Hid (Calls Tryd.prog 9 #[.agg #[.int .i64 f.p, .int .i64 f.v, .slice Av f.l.length cv]] w2 fun e w' => e = .returned (.bool (retB f)) ∧ Below w2.heap.size w2 w') := ValidR_any f _ w2 HS2.out
    obtain ⟨⟨y0, y1, y2, yl⟩, -⟩ := row3 hx1
    go_wp2_with fail
    refine HV.out.mono ?_
    rintro e w3 ⟨rfl, hb3⟩
    have hB3 := below_after hB2 hb3 hB2.size
    have hr3 := hr2.below hb3 hr2.lt
    have hy1 := hx1.below hb3 hx1.lt
    have HO3 := Lib.hid (HO2.out.kept hb3)
    obtain ⟨b, hb⟩ : ∃ b, w1.heap.size = b := ⟨_, rfl⟩
    rw [hb] at hy1 ⊢
    clear hB2 hr2 hx1 HS2 HO2 hb3 HV y0 y1 y2 yl hw2 hx3 hr1 hB1 hown hsl hb
    obtain ⟨⟨a0, a1, a2, al⟩, ⟨b0, b1, b2⟩⟩ := row3 hr3
    cases hF : retB f
    · rw [hF] at HD2
      have HE : Hid (decE s.data.toList = 6) := HD2.out
      have HQ := Lib.hid (Below.set3 hB3 hwr (.int .i64 0) (.int .i64 0) (.slice none 0 0))
      have HR := Lib.hid (row3 (Row.set3 hr3 (.int .i64 0) (.int .i64 0) (.slice none 0 0))).1
      clear hF hr3 hy1 hB3
      go_wp2
      obtain ⟨z0, z1, z2, -⟩ := HR.out
      refine bodyPost_ret (v := .tuple #[.agg #[.int .i64 0, .int .i64 0, .slice none 0 0], .int .i64 6]) (by simp only [results, Tryd.results8, go_sem]; simp [z0, z1, z2, go_sem]) rfl ?_
      exact HNO.out _ 6 HQ.out HE.out (by decide)
    · rw [hF] at HD2
      have HD3 : Hid (decE s.data.toList = 0) := HD2.out
      obtain ⟨⟨c0, c1, c2, cl⟩, -⟩ := row3 hy1
      have HFI : Hid (decR s.data.toList = f) := by rw [Hid, decR, if_pos HD3.out, HPF.out]
      have hS := Row.set3 hr3 (.int .i64 f.p) (.int .i64 f.v) (.slice Av f.l.length cv)
      have HQ := Lib.hid (Below.set3 hB3 hwr (.int .i64 f.p) (.int .i64 f.v) (.slice Av f.l.length cv))
      have HR := Lib.hid (row3 hS).1
      have HON := Lib.hid (own3 HO3.out (r := r) hr0l (.int .i64 f.p) (.int .i64 f.v) (.slice Av f.l.length cv))
      clear hF hr3 hy1 hS hB3
      go_wp2
      obtain ⟨z0, z1, z2, -⟩ := HR.out
      refine bodyPost_ret (v := .tuple #[.agg #[.int .i64 f.p, .int .i64 f.v, .slice Av f.l.length cv], .int .i64 0]) (by simp only [results, Tryd.results8, go_sem]; simp [z0, z1, z2, go_sem]) rfl ?_
      rw [HD3.out, HFI.out]
      exact ⟨_, rfl, HON.out.more hz0, HQ.out⟩
end Go.Proofs.YtnkephafpebfkaaDoor
