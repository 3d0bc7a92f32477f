/- Contract of transfer.Decode. -/
import Derived.Test.YtlchcfkngjbdjaaGreatDoorTPar
import Derived.Test.YtlchcfkngjbdjaaGreatDoorExt
namespace Go.Proofs.YtlchcfkngjbdjaaGreatDoor
open Go.RowKit Go.Shelf

/-- the call returns a file and a number -/
def RetFil (f : Fil) (er : Int) (w : World) (e : Ending) (w' : World) : Prop :=
  ∃ v, e = .returned (.tuple #[.agg (f.vals v), .int .i64 er]) ∧ Own w' w.heap.size 46 2 v (pays f.l) ∧ Below w.heap.size w w'
theorem RetFil.no {f : Fil} {er : Int} {w w' : World} (h : f = ⟨0, 0, []⟩) (hb : Below w.heap.size w w') : RetFil f er w (.returned (.tuple #[.agg #[.int .i64 0, .int .i64 0, .slice none 0 0], .int .i64 er])) w' := by
  subst h; exact ⟨_, rfl, Own.nil _ _ _ _, hb⟩
theorem decF_no {s : List UInt8} (h : ¬ decE s = 0) : decF s = ⟨0, 0, []⟩ := by rw [decF, if_neg h]
theorem own3 {w : World} {base e sz : Nat} {v : Value} {es : List (List Value)} (h : Own w base e sz v es) {r : Nat} (hr : r < base) (x y z : Value) :
    Own (((w.setCell ⟨r, 0, none⟩ x).setCell ⟨r, 1, none⟩ y).setCell ⟨r, 2, none⟩ z) base e sz v es := own_set (own_set (own_set h hr 0 x) hr 1 y) hr 2 z
set_option maxRecDepth 100000 in
set_option maxHeartbeats 2000000 in
theorem Decode_any (s : ByteArray) (w : World) (hT : Tabs w) (hE : Errs w) :
    Calls Tryz.prog 29 #[.string s] w (RetFil (decF s.data.toList) (decE s.data.toList) w) := by
  have HT := Lib.hid hT
  have HER := Lib.hid hE
  clear hT hE
  have hsz : s.data.toList.length = s.size := by simp
  have hr0 := Row.new w 37 #[.int .i64 0, .int .i64 0, .slice none 0 0]
  have hB0 := (Below.refl w.heap.size w).alloc (Nat.le_refl _) (.cells #[.int .i64 0, .int .i64 0, .slice none 0 0] 37)
  by_cases hl : 262144 < s.size
  · have HD : Hid (decE s.data.toList = 3) := by rw [Hid, decE, if_pos (by omega)]
    have HD2 := Lib.hid (decF_no (s := s.data.toList) (by rw [HD.out]; decide))
    go_enter Tryz.func29, Tryz.ntmps29
    go_wp2
    refine bodyPost_ret (v := .tuple #[.agg #[.int .i64 0, .int .i64 0, .slice none 0 0], .int .i64 3]) (by simp [results, Tryz.results29, go_sem]) rfl ?_
    rw [HD.out]
    exact RetFil.no HD2.out hB0
  have HDE : Hid (decE s.data.toList = match parseF s.data.toList with
    | some (f, c) => if filB f then checkE f.l c else 6
    | none => 6) := by rw [Hid, decE, if_neg (by omega)]; rfl
  clear hsz
  go_enter Tryz.func29, Tryz.ntmps29
  go_wp2_with fail
  obtain ⟨w0, hw0⟩ : ∃ w0, w.alloc (.cells #[.int .i64 0, .int .i64 0, .slice none 0 0] 37) = w0 := ⟨_, rfl⟩
  rw [hw0] at hr0 hB0 ⊢
  obtain ⟨r, hr⟩ : ∃ r, w.heap.size = r := ⟨_, rfl⟩
  rw [hr] at hr0 ⊢
  have hwr : w.heap.size ≤ r := by omega
  clear hw0
  refine (parse_any s w0 (HT.out.below hB0) (HER.out.below hB0) (by omega)).mono ?_
  rintro e w1 ⟨hb1, hp⟩
  have hB1 := below_after hB0 hb1 hB0.size
  have hr1 := hr0.below hb1 hr0.lt
  have hz0 := hB0.size
  have hr0l := hr0.lt
  have hs1 := hB1.size
  clear hB0 hr0 hb1
  have H0 : ∀ W er, Below w.heap.size w W → decE s.data.toList = er → er ≠ 0 → RetFil (decF s.data.toList) (decE s.data.toList) w (.returned (.tuple #[.agg #[.int .i64 0, .int .i64 0, .slice none 0 0], .int .i64 er])) W := fun W er hb he hn => by
    rw [he]; exact RetFil.no (decF_no (by rw [he]; exact hn)) hb
  have HNO := Lib.hid H0
  clear H0
  rcases hp with ⟨f, c, v, hpf, rfl, hown⟩ | ⟨hpf, rfl⟩
  rotate_left
  · have HE : Hid (decE s.data.toList = 6) := by rw [Hid, HDE.out, hpf]
    have hq := Below.set3 hB1 hwr (.int .i64 0) (.int .i64 0) (.slice none 0 0)
    have hQ := (hq.alloc hq.size (.cells #[.int .i64 0, .int .i64 0, .slice none 0 0] 37))
    have hQ2 := hQ.alloc hQ.size (.cells #[.int .i64 0, .int .i64 0, .int .i64 0] 61)
    have hR := ((Row.set3 hr1 (.int .i64 0) (.int .i64 0) (.slice none 0 0)).alloc (.cells #[.int .i64 0, .int .i64 0, .slice none 0 0] 37)).alloc (.cells #[.int .i64 0, .int .i64 0, .int .i64 0] 61)
    obtain ⟨⟨a0, a1, a2, al⟩, ⟨b0, b1, b2⟩⟩ := row3 hr1
    have HR := Lib.hid (row3 hR).1
    have HQ := Lib.hid hQ2
    clear hq hQ hQ2 hR hr1 hpf
    go_wp2
    obtain ⟨z0, z1, z2, -⟩ := HR.out
    refine bodyPost_ret (v := .tuple #[.agg #[.int .i64 0, .int .i64 0, .slice none 0 0], .int .i64 6]) (by simp only [results, Tryz.results29, go_sem]; simp [z0, z1, z2, go_sem]) rfl ?_
    exact HNO.out _ 6 HQ.out HE.out (by decide)
  · have HVL : Hid (f.vals v = #[.int .i64 f.n, .int .i64 f.d, v]) := rfl
    have HCL : Hid (c.vals = #[.int .i64 c.c, .int .i64 c.s, .int .i64 c.h]) := rfl
    rw [HVL.out, HCL.out]
    have HPF := Lib.hid hpf
    have HD2 : Hid (decE s.data.toList = if filB f then checkE f.l c else 6) := by rw [Hid, HDE.out, hpf]
    have hsl := hown.sl (by omega)
    obtain ⟨Av, cv, rfl⟩ := hown.form
    rw [pays_len] at hown hsl HVL ⊢
    obtain ⟨hx1, hx2, hx3⟩ := row_new2 w1 37 61 #[.int .i64 f.n, .int .i64 f.d, .slice Av f.l.length cv] #[.int .i64 c.c, .int .i64 c.s, .int .i64 c.h]
    clear hpf
    go_wp2_with fail
    obtain ⟨w2, hw2⟩ : ∃ w2, (w1.alloc (.cells #[.int .i64 f.n, .int .i64 f.d, .slice Av f.l.length cv] 37)).alloc (.cells #[.int .i64 c.c, .int .i64 c.s, .int .i64 c.h] 61) = w2 := ⟨_, rfl⟩
    rw [hw2] at hx1 hx2 hx3 ⊢
    have hB2 := below_after hB1 hx3 hB1.size
    have hr2 := hr1.below hx3 hr1.lt
    have HS2 := Lib.hid (hsl.below hx3)
    have HO2 := Lib.hid (hown.kept hx3)
    have HV : Hid (∀ W, Below w2.heap.size w2 W → Calls Tryz.prog 40 #[.agg #[.int .i64 f.n, .int .i64 f.d, .slice Av f.l.length cv]] W fun e w' => e = .returned (.bool (filB f)) ∧ Below W.heap.size W w') := fun W hb => Valid_any f _ W (HS2.out.below hb)
    obtain ⟨b, hb⟩ : ∃ b, w1.heap.size = b := ⟨_, rfl⟩
    obtain ⟨q, hq⟩ : ∃ q, w1.heap.size + 1 = q := ⟨_, rfl⟩
    rw [hq] at hx2 ⊢
    rw [hb] at hx1 ⊢
    clear hw2 hx3 hr1 hB1 hown hsl hb hq
    refine (HV.out w2 (Below.refl _ _)).mono ?_
    rintro e w3 ⟨rfl, hb3⟩
    have hB3 := below_after hB2 hb3 hB2.size
    have hr3 := hr2.below hb3 hr2.lt
    have hy1 := hx1.below hb3 hx1.lt
    have hy2 := hx2.below hb3 hx2.lt
    have HS3 := Lib.hid (HS2.out.below hb3)
    have HO3 := Lib.hid (HO2.out.kept hb3)
    clear hB2 hr2 hx1 hx2 HS2 HO2 hb3 HV
    obtain ⟨⟨a0, a1, a2, al⟩, ⟨b0, b1, b2⟩⟩ := row3 hr3
    cases hF : filB f
    · rw [hF] at HD2
      have HE : Hid (decE s.data.toList = 6) := HD2.out
      have HQ := Lib.hid (Below.set3 hB3 hwr (.int .i64 0) (.int .i64 0) (.slice none 0 0))
      have HR := Lib.hid (row3 (Row.set3 hr3 (.int .i64 0) (.int .i64 0) (.slice none 0 0))).1
      clear hF hr3 hy1 hy2
      go_wp2
      obtain ⟨z0, z1, z2, -⟩ := HR.out
      refine bodyPost_ret (v := .tuple #[.agg #[.int .i64 0, .int .i64 0, .slice none 0 0], .int .i64 6]) (by simp only [results, Tryz.results29, go_sem]; simp [z0, z1, z2, go_sem]) rfl ?_
      exact HNO.out _ 6 HQ.out HE.out (by decide)
    · rw [hF] at HD2
      have HD3 : Hid (decE s.data.toList = checkE f.l c) := HD2.out
      clear hF HD2
      obtain ⟨⟨c0, c1, c2, cl⟩, -⟩ := row3 hy1
      obtain ⟨⟨d0, d1, d2, dl⟩, -⟩ := row3 hy2
      have HCK : Hid (∀ W, Below w3.heap.size w3 W → Calls Tryz.prog 41 #[.slice Av f.l.length cv, .agg #[.int .i64 c.c, .int .i64 c.s, .int .i64 c.h]] W fun e w' => e = .returned (.int .i64 (checkE f.l c)) ∧ Below W.heap.size W w') := fun W hb => Check_any _ f.l c W (HS3.out.below hb)
      obtain ⟨er, her⟩ : ∃ er, checkE f.l c = er := ⟨_, rfl⟩
      rw [her] at HD3 HCK
      clear her
      go_wp2_with fail
      refine (HCK.out _ (Below.refl _ _)).mono ?_
      rintro e w4 ⟨rfl, hb4⟩
      have hB4 := below_after hB3 hb4 hB3.size
      have hr4 := hr3.below hb4 hr3.lt
      have hy4 := hy1.below hb4 hy1.lt
      have HO4 := Lib.hid (HO3.out.kept hb4)
      clear hB3 hr3 hy1 hy2 HO3 hb4 HCK a0 a1 a2 al b0 b1 b2 c0 c1 c2 cl d0 d1 d2 dl
      obtain ⟨⟨a0, a1, a2, al⟩, ⟨b0, b1, b2⟩⟩ := row3 hr4
      by_cases h0 : er = 0
      · subst h0
        obtain ⟨⟨c0, c1, c2, cl⟩, -⟩ := row3 hy4
        have HFI : Hid (decF s.data.toList = f) := by rw [Hid, decF, if_pos HD3.out, HPF.out]
        have hS := Row.set3 hr4 (.int .i64 f.n) (.int .i64 f.d) (.slice Av f.l.length cv)
        have HQ := Lib.hid (Below.set3 hB4 hwr (.int .i64 f.n) (.int .i64 f.d) (.slice Av f.l.length cv))
        have HR := Lib.hid (row3 hS).1
        have HON := Lib.hid (own3 HO4.out (r := r) hr0l (.int .i64 f.n) (.int .i64 f.d) (.slice Av f.l.length cv))
        clear hr4 hy4 hS
        go_wp2
        obtain ⟨z0, z1, z2, -⟩ := HR.out
        refine bodyPost_ret (v := .tuple #[.agg #[.int .i64 f.n, .int .i64 f.d, .slice Av f.l.length cv], .int .i64 0]) (by simp only [results, Tryz.results29, go_sem]; simp [z0, z1, z2, go_sem]) rfl ?_
        rw [HD3.out, HFI.out]
        exact ⟨_, rfl, HON.out.more hz0, HQ.out⟩
      · have hne : (er != 0) = true := by simpa using h0
        have HN0 : Hid (er ≠ 0) := h0
        have HQ := Lib.hid (Below.set3 hB4 hwr (.int .i64 0) (.int .i64 0) (.slice none 0 0))
        have HR := Lib.hid (row3 (Row.set3 hr4 (.int .i64 0) (.int .i64 0) (.slice none 0 0))).1
        clear hr4 hy4 h0
        go_wp2
        obtain ⟨z0, z1, z2, -⟩ := HR.out
        refine bodyPost_ret (v := .tuple #[.agg #[.int .i64 0, .int .i64 0, .slice none 0 0], .int .i64 er]) (by simp only [results, Tryz.results29, go_sem]; simp [z0, z1, z2, go_sem]) rfl ?_
        exact HNO.out _ er HQ.out HD3.out HN0.out
end Go.Proofs.YtlchcfkngjbdjaaGreatDoor
