/- Contract of filing.readLine. -/
import Derived.Test.YtnkephafpebfkaaGreatDoorFn
import Derived.RegionTactic
namespace Go.Proofs.YtnkephafpebfkaaGreatDoor
open Go.RowKit Go.Shelf

set_option maxRecDepth 100000 in
set_option maxHeartbeats 4000000 in
theorem readLine_any (s : ByteArray) (w : World) (hT : Tabs w) (hE : Errs w) (hs : s.size ≤ 1000000) :
    Calls Tryz.prog 71 #[.string s] w (LineRet (rdLine s.data.toList) w) := by
  have HT := Lib.hid hT
  have HER := Lib.hid hE
  clear hT hE
  have hr0 := Row.new w 56 #[.int .i64 0, .string ⟨#[]⟩, .int .i64 0]
  have hB0 := (Below.refl w.heap.size w).alloc (Nat.le_refl _) (.cells #[.int .i64 0, .string ⟨#[]⟩, .int .i64 0] 56)
  go_enter Tryz.func71, Tryz.ntmps71
  go_wp2_with fail
  obtain ⟨w0, hw0⟩ : ∃ w0, w.alloc (.cells #[.int .i64 0, .string ⟨#[]⟩, .int .i64 0] 56) = w0 := ⟨_, rfl⟩
  rw [hw0] at hr0 hB0 ⊢
  obtain ⟨r, hr⟩ : ∃ r, w.heap.size = r := ⟨_, rfl⟩
  rw [hr] at hr0 ⊢
  have hwr : w.heap.size ≤ r := by omega
  clear hw0 hr
  refine (Split_any s 32 w0 (by omega)).mono ?_
  rintro e w1 ⟨P, A1, cap1, rfl, hP, hPs, hPl, hsl1, hb1⟩
  have hB1 := below_after hB0 hb1 hB0.size
  have hr1 := hr0.below hb1 hr0.lt
  have hr1l := hr1.lt
  have HPL : Hid (P.length = (splitBy 32 s.data.toList).length) := by rw [Hid, ← hP, List.length_map]
  have hcap : P.length ≤ cap1 := by
    obtain ⟨A', cap', hv, k1, _⟩ := hsl1
    injection hv with e1 e2 e3
    subst e3
    rwa [txts_len] at k1
  go_upto_region 3 with (fail)
  have hal := (Below.refl w1.heap.size w1).alloc (Nat.le_refl _) (.cells #[.int .i64 0, .string ⟨#[]⟩, .int .i64 0] 56)
  have hS : RlS w r w1.heap.size 0 ⟨#[]⟩ (w1.alloc (.cells #[.int .i64 0, .string ⟨#[]⟩, .int .i64 0] 56)) := ⟨hr1.below hal hr1l, Row.new _ _ _, below_after hB1 hal hB1.size, hwr, hr1l⟩
  have hsl2 := hsl1.below hal
  have hne1 : ∀ bk : Nat, bk < w1.heap.size → ¬ bk = w1.heap.size := fun bk h => by omega
  have HNE := Lib.hid hne1
  have HCE := Lib.hid (fun (bk o : Nat) (h : bk < w1.heap.size) => hal.cell (p := ⟨bk, o, none⟩) h)
  have HLT := Lib.hid (fun (bk : Nat) (h : bk < w1.heap.size) => Nat.lt_of_lt_of_le h hal.size)
  clear hB0 hr0 hb1 hB1 hr1 hr1l hne1 hsl2 hal
  have H2w := Lib.hid (fun (h : P.length = 2) => words2 hsl1 h)
  have H3w := Lib.hid (fun (h : P.length = 3) => words3 hsl1 h)
  clear hsl1
  generalize w1.alloc (.cells #[.int .i64 0, .string ⟨#[]⟩, .int .i64 0] 56) = w2 at hS HCE HLT ⊢
  generalize w1.heap.size = q at hS HCE HLT HNE H2w H3w ⊢
  obtain ⟨⟨a0, a1, a2, al⟩, ⟨b0, b1, b2⟩⟩ := row3 hS.res
  obtain ⟨⟨d0, d1, d2, dl⟩, ⟨f0, f1, f2⟩⟩ := row3 hS.box
  have HZ := Lib.hid hS.zero
  have hqr : ¬ q = r := by have := hS.lo; omega
  have hrq : ¬ r = q := by have := hS.lo; omega
  by_cases h2 : P.length = 2
  · obtain ⟨k, n, bk, off, rfl, rfl, hbk, c0, c1⟩ := H2w.out h2
    have H2 := Lib.hid (rdLine_two hP.symm)
    have hns := hPs n (by simp)
    simp only [List.length_cons, List.length_nil, Nat.zero_add] at hcap ⊢
    have hbq := HNE.out bk hbk
    have c0 := (HCE.out bk off hbk).trans c0
    have c1 := (HCE.out bk (off + 1) hbk).trans c1
    have hbk := HLT.out bk hbk
    clear h2 HPL hP hPs hPl H2w H3w HCE HLT HNE
    by_cases hk : k.data.toList = wTax
    · obtain ⟨t1, t2⟩ := str_yes hk
      rw [if_pos hk] at H2
      unfold wTax at t1 t2
      clear hk
      have hS3 := hS.kind 6
      have HNB := Lib.hid (number_any n (w2.setCell ⟨q, 0, none⟩ (.int .i64 6)) (HT.out.below hS3.below) (HER.out.below hS3.below) (by omega))
      obtain ⟨nb, hnb⟩ : ∃ nb, numI n.data.toList = nb := ⟨_, rfl⟩
      rw [hnb] at HNB H2
      have HS3 := Lib.hid hS3
      clear hS3 hnb hS HZ
      go_wp2_with fail
      refine HNB.out.mono ?_
      rintro e w4 ⟨rfl, hb4⟩
      have hS4 := HS3.out.same hb4
      obtain ⟨nv, hnv⟩ : ∃ nv, nb.getD 0 = nv := ⟨_, rfl⟩
      obtain ⟨nk, hnk⟩ : ∃ nk, nb.isSome = nk := ⟨_, rfl⟩
      have HLR : Hid (∀ W, Below w.heap.size w W → LineRet (rdLine s.data.toList) w (.returned (.tuple #[.agg #[.int .i64 6, .string ⟨#[]⟩, .int .i64 nv], .bool nk])) W) := fun W hW => by
        rw [← hnv, ← hnk]
        exact LineRet.num 6 ⟨#[]⟩ H2.out hW
      rw [hnv, hnk]
      clear hnv hnk HNB HS3 hb4 a0 a1 a2 al b0 b1 b2 d0 d1 d2 dl f0 f1 f2 c0 c1
      have HF := Lib.hid (hS4.fin nv)
      obtain ⟨⟨a0, a1, a2, al⟩, ⟨b0, b1, b2⟩⟩ := row3 hS4.res
      obtain ⟨⟨d0, d1, d2, dl⟩, ⟨f0, f1, f2⟩⟩ := row3 hS4.box
      clear hS4
      go_wp2
      obtain ⟨⟨z0, z1, z2, -⟩, -⟩ := row3 HF.out.2.1
      refine bodyPost_ret (v := .tuple #[.agg #[.int .i64 6, .string ⟨#[]⟩, .int .i64 nv], .bool nk]) (by simp only [results, Tryz.results71, go_sem]; simp [z0, z1, z2, go_sem]) rfl ?_
      exact HLR.out _ HF.out.2.2
    · obtain ⟨t1, t2⟩ := str_no hk
      have HN : Hid (rdLine s.data.toList = none) := by rw [Hid, H2.out, if_neg hk]
      unfold wTax at t1 t2
      clear hk H2 hS
      go_wp2
      obtain ⟨⟨z0, z1, z2, -⟩, -⟩ := row3 HZ.out.1
      refine bodyPost_ret (v := .tuple #[.agg #[.int .i64 0, .string ⟨#[]⟩, .int .i64 0], .bool false]) (by simp only [results, Tryz.results71, go_sem]; simp [z0, z1, z2, go_sem]) rfl ?_
      exact LineRet.no 0 ⟨#[]⟩ 0 HN.out HZ.out.2
  · by_cases h3 : P.length = 3
    · obtain ⟨k, c, n, bk, off, rfl, rfl, hbk, c0, c1, c2⟩ := H3w.out h3
      have H3 := Lib.hid (rdLine_three hP.symm)
      have hns := hPs n (by simp)
      have HCD := Lib.hid (bytes_data c)
      simp only [List.length_cons, List.length_nil, Nat.zero_add] at hcap ⊢
      have hbq := HNE.out bk hbk
      have c0 := (HCE.out bk off hbk).trans c0
      have c1 := (HCE.out bk (off + 1) hbk).trans c1
      have c2 := (HCE.out bk (off + 2) hbk).trans c2
      have hbk := HLT.out bk hbk
      clear h2 h3 HPL hP hPs hPl H2w H3w HCE HLT HNE
      by_cases hk : k.data.toList = wLevy
      · obtain ⟨t1, t2⟩ := str_yes hk
        have t3 : (k.toList == [116, 97, 120]) = false ∧ ¬ k.toList = [116, 97, 120] := by rw [t2]; decide
        obtain ⟨t3, t4⟩ := t3
        have t5 : (k.toList == [101, 109, 112, 108, 111, 121, 101, 114]) = false ∧ ¬ k.toList = [101, 109, 112, 108, 111, 121, 101, 114] := by rw [t2]; decide
        obtain ⟨t5, t6⟩ := t5
        rw [if_pos hk, HCD.out] at H3
        unfold wLevy at t1 t2
        clear hk
        have hS3 := (hS.kind 4).code c
        have hS3d : RlS w r q 4 c (((w2.setCell ⟨q, 0, none⟩ (.int .i64 4)).setCell ⟨q, 1, none⟩ (.string c)).drew) := hS3.same (Below.refl _ _).drew
        clear hS3
        have hS3 := hS3d
        clear hS3d
        have HNB := Lib.hid (number_any n ((w2.setCell ⟨q, 0, none⟩ (.int .i64 4)).setCell ⟨q, 1, none⟩ (.string c)).drew (HT.out.below hS3.below) (HER.out.below hS3.below) (by omega))
        obtain ⟨nb, hnb⟩ : ∃ nb, numI n.data.toList = nb := ⟨_, rfl⟩
        rw [hnb] at HNB H3
        have HS3 := Lib.hid hS3
        clear hS3 hnb hS HZ
        go_wp2_with fail
        go_region
        go_wp2_with fail
        refine HNB.out.mono ?_
        rintro e w4 ⟨rfl, hb4⟩
        have hS4 := HS3.out.same hb4
        obtain ⟨nv, hnv⟩ : ∃ nv, nb.getD 0 = nv := ⟨_, rfl⟩
        obtain ⟨nk, hnk⟩ : ∃ nk, nb.isSome = nk := ⟨_, rfl⟩
        have HLR : Hid (∀ W, Below w.heap.size w W → LineRet (rdLine s.data.toList) w (.returned (.tuple #[.agg #[.int .i64 4, .string c, .int .i64 nv], .bool nk])) W) := fun W hW => by
          rw [← hnv, ← hnk]
          exact LineRet.num 4 c H3.out hW
        rw [hnv, hnk]
        clear hnv hnk HNB HS3 hb4 a0 a1 a2 al b0 b1 b2 d0 d1 d2 dl f0 f1 f2 c0 c1 c2
        have HF := Lib.hid (hS4.fin nv)
        obtain ⟨⟨a0, a1, a2, al⟩, ⟨b0, b1, b2⟩⟩ := row3 hS4.res
        obtain ⟨⟨d0, d1, d2, dl⟩, ⟨f0, f1, f2⟩⟩ := row3 hS4.box
        clear hS4
        go_wp2
        obtain ⟨⟨z0, z1, z2, -⟩, -⟩ := row3 HF.out.2.1
        refine bodyPost_ret (v := .tuple #[.agg #[.int .i64 4, .string c, .int .i64 nv], .bool nk]) (by simp only [results, Tryz.results71, go_sem]; simp [z0, z1, z2, go_sem]) rfl ?_
        exact HLR.out _ HF.out.2.2
      · by_cases hk2 : k.data.toList = wEmp
        · obtain ⟨t1, t2⟩ := str_yes hk2
          have t5 : (k.toList == [108, 101, 118, 121]) = false ∧ ¬ k.toList = [108, 101, 118, 121] := by rw [t2]; decide
          obtain ⟨t5, t6⟩ := t5
          rw [if_neg hk, if_pos hk2, HCD.out] at H3
          unfold wEmp at t1 t2
          clear hk hk2
          have hS3 := (hS.kind 5).code c
          have hS3d : RlS w r q 5 c (((w2.setCell ⟨q, 0, none⟩ (.int .i64 5)).setCell ⟨q, 1, none⟩ (.string c)).drew) := hS3.same (Below.refl _ _).drew
          clear hS3
          have hS3 := hS3d
          clear hS3d
          have HNB := Lib.hid (number_any n ((w2.setCell ⟨q, 0, none⟩ (.int .i64 5)).setCell ⟨q, 1, none⟩ (.string c)).drew (HT.out.below hS3.below) (HER.out.below hS3.below) (by omega))
          obtain ⟨nb, hnb⟩ : ∃ nb, numI n.data.toList = nb := ⟨_, rfl⟩
          rw [hnb] at HNB H3
          have HS3 := Lib.hid hS3
          clear hS3 hnb hS HZ
          go_wp2_with fail
          go_region
          go_wp2_with fail
          refine HNB.out.mono ?_
          rintro e w4 ⟨rfl, hb4⟩
          have hS4 := HS3.out.same hb4
          obtain ⟨nv, hnv⟩ : ∃ nv, nb.getD 0 = nv := ⟨_, rfl⟩
          obtain ⟨nk, hnk⟩ : ∃ nk, nb.isSome = nk := ⟨_, rfl⟩
          have HLR : Hid (∀ W, Below w.heap.size w W → LineRet (rdLine s.data.toList) w (.returned (.tuple #[.agg #[.int .i64 5, .string c, .int .i64 nv], .bool nk])) W) := fun W hW => by
            rw [← hnv, ← hnk]
            exact LineRet.num 5 c H3.out hW
          rw [hnv, hnk]
          clear hnv hnk HNB HS3 hb4 a0 a1 a2 al b0 b1 b2 d0 d1 d2 dl f0 f1 f2 c0 c1 c2
          have HF := Lib.hid (hS4.fin nv)
          obtain ⟨⟨a0, a1, a2, al⟩, ⟨b0, b1, b2⟩⟩ := row3 hS4.res
          obtain ⟨⟨d0, d1, d2, dl⟩, ⟨f0, f1, f2⟩⟩ := row3 hS4.box
          clear hS4
          go_wp2
          obtain ⟨⟨z0, z1, z2, -⟩, -⟩ := row3 HF.out.2.1
          refine bodyPost_ret (v := .tuple #[.agg #[.int .i64 5, .string c, .int .i64 nv], .bool nk]) (by simp only [results, Tryz.results71, go_sem]; simp [z0, z1, z2, go_sem]) rfl ?_
          exact HLR.out _ HF.out.2.2
        · obtain ⟨t1, t2⟩ := str_no hk
          obtain ⟨t3, t4⟩ := str_no hk2
          have HN : Hid (rdLine s.data.toList = none) := by rw [Hid, H3.out, if_neg hk, if_neg hk2]
          unfold wLevy at t1 t2
          unfold wEmp at t3 t4
          clear hk hk2 H3 hS
          go_wp2
          obtain ⟨⟨z0, z1, z2, -⟩, -⟩ := row3 HZ.out.1
          refine bodyPost_ret (v := .tuple #[.agg #[.int .i64 0, .string ⟨#[]⟩, .int .i64 0], .bool false]) (by simp only [results, Tryz.results71, go_sem]; simp [z0, z1, z2, go_sem]) rfl ?_
          exact LineRet.no 0 ⟨#[]⟩ 0 HN.out HZ.out.2
    · have HN := Lib.hid (rdLine_len (l := s.data.toList) (by rw [← HPL.out]; exact h2) (by rw [← HPL.out]; exact h3))
      have e2 : ((P.length : Int) == 2) = false := by simp; omega
      have e3 : ((P.length : Int) == 3) = false := by simp; omega
      clear hS h2 h3 hP
      go_wp2
      obtain ⟨⟨z0, z1, z2, -⟩, -⟩ := row3 HZ.out.1
      refine bodyPost_ret (v := .tuple #[.agg #[.int .i64 0, .string ⟨#[]⟩, .int .i64 0], .bool false]) (by simp only [results, Tryz.results71, go_sem]; simp [z0, z1, z2, go_sem]) rfl ?_
      exact LineRet.no 0 ⟨#[]⟩ 0 HN.out HZ.out.2
end Go.Proofs.YtnkephafpebfkaaGreatDoor
