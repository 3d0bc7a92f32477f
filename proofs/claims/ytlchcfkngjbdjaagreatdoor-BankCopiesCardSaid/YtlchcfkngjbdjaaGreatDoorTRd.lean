/- Contract of transfer.read: the numbers of a line. -/
import Derived.Test.YtlchcfkngjbdjaaGreatDoorSpl
import Derived.Test.YtlchcfkngjbdjaaGreatDoorAtoi
import Derived.Test.YtlchcfkngjbdjaaGreatDoorGb
import Derived.Test.YtlchcfkngjbdjaaGreatDoorExt
import Derived.Test.YtlchcfkngjbdjaaGreatDoorSet1
import Derived.LoopTactic
namespace Go.Proofs.YtlchcfkngjbdjaaGreatDoor
open Go.RowKit Go.Shelf

theorem rowNum : RowTy Tryz.prog 22 3 1 8 := by
  obtain ⟨i, hi, hz, hs, hb⟩ := info_parts (show (Tryz.prog.info? 3).map (fun i => (i.zero, i.size, i.bytes)) = some (some (.int .i64 0), 1, 8) by kernel_rfl)
  exact ⟨Tryz.underlying22, ⟨i, _, hi, hz, hs, hb, rfl⟩, by omega⟩
theorem num_wide (n : Int) : Wide 1 [[.int .i64 n]] := fun x hx => by
  obtain rfl := List.mem_singleton.1 hx
  exact ⟨rfl, by simp [Value.oneCell']⟩
theorem ints_snoc (l : List Int) (n : Int) : ints (l ++ [n]) = ints l ++ [[.int .i64 n]] := by simp [ints]
/-- read over texts -/
def rdP (ps ws : List ByteArray) : Option (List Int) := readP (ps.map (·.data.toList)) (ws.map (·.data.toList))
theorem rdP_len {ps ws : List ByteArray} (h : ¬ ws.length = ps.length) : rdP ps ws = none := by
  unfold rdP
  induction ps generalizing ws with
  | nil => cases ws with
    | nil => simp at h
    | cons w r => rfl
  | cons p r ih => cases ws with
    | nil => rfl
    | cons w s =>
      have := ih (ws := s) (by simpa using h)
      simp only [List.map_cons, readP]
      rw [this]
      split
      · split <;> rfl
      · split <;> rfl
/-- where read stands behind k words -/
def RdI (ps ws : List ByteArray) (k : Nat) (acc : List Int) : Prop := rdP ps ws = (rdP (ps.drop k) (ws.drop k)).map (acc ++ ·)
theorem rdI_start (ps ws : List ByteArray) : RdI ps ws 0 [] := by unfold RdI; simp
theorem rdP_cons {ps ws : List ByteArray} {k : Nat} (hp : k < ps.length) (hw : k < ws.length) : rdP (ps.drop k) (ws.drop k) =
    if (ps[k]).data.toList = [] then (match numT (ws[k]).data.toList with
      | some n => (match rdP (ps.drop (k + 1)) (ws.drop (k + 1)) with
        | some r => some (n :: r)
        | none => none)
      | none => none) else if (ws[k]).data.toList = (ps[k]).data.toList then rdP (ps.drop (k + 1)) (ws.drop (k + 1)) else none := by
  unfold rdP
  rw [List.drop_eq_getElem_cons hp, List.drop_eq_getElem_cons hw]
  rfl
theorem rdI_word {ps ws : List ByteArray} {k : Nat} {acc : List Int} (h : RdI ps ws k acc) (hp : k < ps.length) (hw : k < ws.length) (h0 : ¬ (ps[k]).data.toList = []) :
    ((ws[k]).data.toList = (ps[k]).data.toList → RdI ps ws (k + 1) acc) ∧ (¬ (ws[k]).data.toList = (ps[k]).data.toList → rdP ps ws = none) := by
  unfold RdI at h ⊢
  rw [rdP_cons hp hw, if_neg h0] at h
  constructor
  · intro e; rw [if_pos e] at h; exact h
  · intro e; rw [if_neg e] at h; exact h
theorem rdI_num {ps ws : List ByteArray} {k : Nat} {acc : List Int} (h : RdI ps ws k acc) (hp : k < ps.length) (hw : k < ws.length) (h0 : (ps[k]).data.toList = []) :
    (∀ n, numT (ws[k]).data.toList = some n → RdI ps ws (k + 1) (acc ++ [n])) ∧ (numT (ws[k]).data.toList = none → rdP ps ws = none) := by
  unfold RdI at h ⊢
  rw [rdP_cons hp hw, if_pos h0] at h
  constructor
  · intro n e
    rw [e] at h
    rw [h]
    cases rdP (ps.drop (k + 1)) (ws.drop (k + 1)) with
    | none => rfl
    | some r => simp
  · intro e; rw [e] at h; exact h
theorem rdI_end {ps ws : List ByteArray} {acc : List Int} (hl : ws.length = ps.length) (h : RdI ps ws ps.length acc) : rdP ps ws = some acc := by
  unfold RdI at h
  rw [List.drop_length, List.drop_of_length_le (by omega)] at h
  rw [h]; simp [rdP, readP]
/-- the call returns numbers and true, or nil and false -/
def RetNums (o : Option (List Int)) (w : World) (e : Ending) (w' : World) : Prop :=
  Below w.heap.size w w' ∧ ((∃ ns x, o = some ns ∧ e = .returned (.tuple #[x, .bool true]) ∧ Own w' w.heap.size 3 1 x (ints ns)) ∨ (o = none ∧ e = .returned (.tuple #[.slice none 0 0, .bool false])))
theorem RetNums.no {o : Option (List Int)} {w w' : World} (h : o = none) (hb : Below w.heap.size w w') : RetNums o w (.returned (.tuple #[.slice none 0 0, .bool false])) w' := ⟨hb, .inr ⟨h, rfl⟩⟩
theorem numT_of {l : List UInt8} : numT l = match atoiV l with | some v => if 0 ≤ v ∧ v ≤ 1000000000000000000 ∧ Lib.itoa v = l then some v else none | none => none := by
  unfold numT atoiV
  cases Lib.atoiAll l <;> rfl
def RdR (w : World) (ps ws : List ByteArray) (x i : Value) (wr : World) : Prop :=
  ∃ k : Nat, ∃ acc : List Int, k ≤ ps.length ∧ i = .int .i64 k ∧ acc.length ≤ k ∧ Hid (RdI ps ws k acc) ∧ Hid (Own wr w.heap.size 3 1 x (ints acc)) ∧ Below w.heap.size w wr
set_option maxRecDepth 100000 in
set_option maxHeartbeats 4000000 in
theorem read_any (s : ByteArray) (ps : List ByteArray) (v : Value) (w : World) (hv : Sl w 1 v (txts ps)) (hT : Tabs w) (hE : Errs w) (hs : s.size ≤ 1000000) (hp : ps.length ≤ 1000) :
    Calls Tryz.prog 55 #[.string s, v] w (RetNums (readL (ps.map (·.data.toList)) s.data.toList) w) := by
  have HV := Lib.hid hv
  obtain ⟨A, cap, rfl, h1, h2, _, _⟩ := hv
  rw [txts_len] at h1 HV ⊢
  unfold maxLen at h2
  have HT := Lib.hid hT
  have HER := Lib.hid hE
  clear hT hE
  go_enter Tryz.func55, Tryz.ntmps55
  go_wp2_with fail
  refine (Split_any s 32 w (by omega)).mono ?_
  rintro e w1 ⟨P, A1, cap1, rfl, hP, hPs, hPl, hsl1, hb1⟩
  have HR : Hid (readL (ps.map (·.data.toList)) s.data.toList = rdP ps P) := by rw [Hid, readL, rdP, hP]
  have HPS := Lib.hid hPs
  have HS1 := Lib.hid hsl1
  have hs1 := hb1.size
  clear hP hPs hsl1
  by_cases hl : P.length = ps.length
  rotate_left
  · have hne : ((P.length : Int) != (ps.length : Int)) = true := by simp; omega
    have HN : Hid (rdP ps P = none) := rdP_len hl
    clear hl
    go_wp2
    go_ret2
    exact RetNums.no (by rw [HR.out, HN.out]) hb1
  have hne : ((P.length : Int) != (ps.length : Int)) = false := by simp; omega
  have HL := Lib.hid hl
  have hl1 : P.length ≤ ps.length := by omega
  have hl2 : ps.length ≤ P.length := by omega
  clear hl
  go_wp2_with fail
  clear hne
  go_loopw [7, 21] (fun x i wr => RdR w1 ps P x i wr) (fun _ i _ => ps.length - (intOf i).toNat)
  case atStart => exact ⟨0, [], by omega, rfl, by simp, rdI_start ps P, Own.nil _ _ _ _, Below.refl _ _⟩
  case round =>
    obtain ⟨k, acc, hk, rfl, hacc, HI, HO, hb⟩ := hrel
    obtain ⟨wo, rfl⟩ : ∃ wo : World, wo = wr := ⟨_, rfl⟩
    have hbz := hb.size
    have hB := hb1.trans (hb.mono hs1)
    by_cases hlt : k < ps.length
    · have hlP : k < P.length := by omega
      obtain ⟨bk, off, rfl, hc0⟩ := (HV.out.below hB).cells (by rw [txts_len]; omega)
      obtain ⟨bp, op, rfl, hp0⟩ := (HS1.out.below hb).cells (by rw [txts_len]; omega)
      have HWD := Lib.hid (rdI_word HI.out hlt hlP)
      have HNM := Lib.hid (rdI_num HI.out hlt hlP)
      have HPZ := HPS.out _ (List.getElem_mem hlP)
      have d0 := hc0.txt hlt
      have q0 := hp0.txt hlP
      have hql := hp0.1
      obtain ⟨p, hpp⟩ : ∃ p, ps[k] = p := ⟨_, rfl⟩
      obtain ⟨q, hqq⟩ : ∃ q, P[k] = q := ⟨_, rfl⟩
      rw [hpp] at d0 HWD HNM
      rw [hqq] at q0 HWD HNM HPZ
      clear hpp hqq hc0 hp0 HI
      have i1 : (k : Int) < (P.length : Int) := by omega
      by_cases hp0 : p.data.toList = []
      · have t1 : p.toList = [] := by rw [ByteArray.toList_eq]; exact hp0
        have t2 : p.toList.isEmpty = true := by rw [t1]; rfl
        have HNM2 := Lib.hid (HNM.out hp0)
        clear HWD HNM hp0
        go_wp2_with fail
        refine (Atoi_any q _ (HER.out.below hB) (by omega)).mono ?_
        rintro e w2 ⟨hb2, hat⟩
        have hB2 := below_after hB hb2 hB.size
        have hb12 := below_after hb hb2 hbz
        have hO2 := Lib.hid (HO.out.kept hb2)
        have q2 := (hb2.cell (p := ⟨bp, op + k, none⟩) hql).trans q0
        have hql2 : bp < w2.heap.size := Nat.lt_of_lt_of_le hql hb2.size
        clear HO hb hbz hB q0 hql hb2
        rcases hat with ⟨z, hz, hz1, hz2, rfl⟩ | ⟨hz, x, N, rfl⟩
        rotate_left
        · have HN := Lib.hid (HNM2.out.2 (by rw [numT_of, hz]))
          clear hz HNM2
          go_wp2_with fail
          go_quiet (fail)
          go_wp2
          go_ret2
          exact RetNums.no (by rw [HR.out, HN.out]) (Below.draws hB2 _)
        have HNT : Hid (numT q.data.toList = if 0 ≤ z ∧ z ≤ 1000000000000000000 ∧ Lib.itoa z = q.data.toList then some z else none) := by rw [Hid, numT_of, hz]
        clear hz
        by_cases z0 : z < 0
        · have HN := Lib.hid (HNM2.out.2 (by rw [HNT.out, if_neg (by omega)]))
          have zd : decide (z < 0) = true := decide_eq_true z0
          clear HNT HNM2
          go_wp2_with fail
          go_quiet (fail)
          go_wp2
          go_ret2
          exact RetNums.no (by rw [HR.out, HN.out]) (Below.draws hB2 _)
        have zd : decide (z < 0) = false := decide_eq_false z0
        by_cases z3 : 1000000000000000000 < z
        · have HN := Lib.hid (HNM2.out.2 (by rw [HNT.out, if_neg (by omega)]))
          have zd3 : decide (1000000000000000000 < z) = true := decide_eq_true z3
          clear HNT HNM2
          go_wp2_with fail
          go_quiet (fail)
          go_wp2
          go_ret2
          exact RetNums.no (by rw [HR.out, HN.out]) (Below.draws hB2 _)
        have zd3 : decide (1000000000000000000 < z) = false := decide_eq_false z3
        have HCON : Hid (∀ y : Ext w2, Calls Tryz.prog 59 #[.int .i64 z] y.val fun e w' => e = .returned (.string ⟨(Lib.itoa z).toArray⟩) ∧ Below y.val.heap.size y.val w') := fun y => Itoa_any z y.val hz1 hz2 (HT.out.below (hB2.trans (y.property.mono hB2.size)))
        have HU : Hid ((⟨(Lib.itoa z).toArray⟩ : ByteArray).data.toList = Lib.itoa z) := by simp [Hid]
        obtain ⟨u, hu⟩ : ∃ u, (⟨(Lib.itoa z).toArray⟩ : ByteArray) = u := ⟨_, rfl⟩
        rw [hu] at HCON HU
        clear hu
        have g0 := ext_cell hql2 q2
        by_cases hzq : Lib.itoa z = q.data.toList
        · have t3 : (u.toList == q.toList) = true := by rw [ByteArray.toList_eq, ByteArray.toList_eq, HU.out]; simpa using hzq
          have t4 : u.toList = q.toList := by simpa using t3
          have HI2 := Lib.hid (HNM2.out.1 z (by rw [HNT.out, if_pos ⟨by omega, by omega, hzq⟩]))
          clear HNT HNM2 hzq
          go_wp2_with fail
          refine region_ext (by kernel_rfl) (by kernel_rfl) ?_
          repeat (go_big_quiet_step ((go_at_call 59; exact ext_call (HCON.out _))))
          refine wpQuiet_nil ?_
          rintro _ ⟨y, rfl⟩
          have hb3 := below_after hb12 y.property hb12.size
          have hB3 := below_after hB2 y.property hB2.size
          have hO3 := Lib.hid (hO2.out.kept y.property)
          obtain ⟨w3, hw3⟩ : ∃ w3, y.val = w3 := ⟨_, rfl⟩
          rw [hw3] at hb3 hB3 hO3 ⊢
          clear hw3 hO2 hb12 hB2 HCON g0 q2 t3 t4
          go_wp2_with (at_builtin; (refine wpList_append_sl rfl (.tmp 61) (.tmp 63) rfl rowNum w1.heap.size _ _ (ints acc) [[.int .i64 z]] rfl (hO3.out.alloc _) rfl (Sl.one rfl rfl) (num_wide _) (by rw [ints_len]; simp only [List.length_cons, List.length_nil]; unfold maxLen; omega) (by rw [ints_len]; simp only [List.length_cons, List.length_nil]; omega) (by have := hb3.size; simp only [World.size_alloc]; omega) ?_); intro v7 w7 hown7 hg7 _; have hb7 := Own.grown (hO3.out.alloc _) (hb3.alloc hb3.size _) hg7 (by have := hb3.size; simp only [World.size_alloc]; omega); rw [← ints_snoc] at hown7)
          go_roundw
          case rel => exact ⟨k + 1, acc ++ [z], by omega, by go_num, by simp; omega, HI2, hown7, hb7⟩
          case measure => simp [intOf]; omega
        · have t3 : (u.toList == q.toList) = false := by rw [ByteArray.toList_eq, ByteArray.toList_eq, HU.out]; simpa using hzq
          have t4 : ¬ u.toList = q.toList := by simpa using t3
          have HN := Lib.hid (HNM2.out.2 (by rw [HNT.out, if_neg (fun h => hzq h.2.2)]))
          clear HNT HNM2 hzq
          go_wp2_with fail
          refine region_ext (by kernel_rfl) (by kernel_rfl) ?_
          repeat (go_big_quiet_step ((go_at_call 59; exact ext_call (HCON.out _))))
          refine wpQuiet_nil ?_
          rintro _ ⟨y, rfl⟩
          have hB3 := below_after hB2 y.property hB2.size
          go_wp2
          go_ret2
          exact RetNums.no (by rw [HR.out, HN.out]) hB3
      · have t1 : ¬ p.toList = [] := by rw [ByteArray.toList_eq]; exact hp0
        have t2 : p.toList.isEmpty = false := by cases h : p.toList with
          | nil => exact absurd h t1
          | cons _ _ => rfl
        have HWD2 := Lib.hid (HWD.out hp0)
        clear HWD HNM hp0
        by_cases hpq : q.data.toList = p.data.toList
        · have hqp : q = p := bytes_ext hpq
          subst hqp
          have HR2 := Lib.hid (HWD2.out.1 rfl)
          clear HWD2 hpq
          go_wp2
          go_roundw
          case rel => exact ⟨k + 1, acc, by omega, by go_num, by omega, HR2, HO, hb⟩
          case measure => simp [intOf]; omega
        · have t3 : (q.toList == p.toList) = false := by rw [ByteArray.toList_eq, ByteArray.toList_eq]; simpa using hpq
          have t4 : ¬ q.toList = p.toList := by rw [ByteArray.toList_eq, ByteArray.toList_eq]; exact hpq
          have HN := Lib.hid (HWD2.out.2 hpq)
          clear HWD2 hpq
          go_wp2
          go_ret2
          exact RetNums.no (by rw [HR.out, HN.out]) hB
    · obtain rfl : k = ps.length := by omega
      have HF := Lib.hid (rdI_end HL.out HI.out)
      go_wp2
      go_ret2
      exact ⟨hB, .inl ⟨acc, _, by rw [HR.out, HF.out], rfl, HO.out.more hs1⟩⟩
end Go.Proofs.YtlchcfkngjbdjaaGreatDoor
