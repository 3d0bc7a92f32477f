/- Contracts of the reference of book: Insert, Employees, Periods; of the law's ints. -/
import Derived.Test.YtlchelgibilacaaGreatRef1
import Derived.Test.YtlchelgibilacaaGreatPer
import Derived.Test.YtlchelgibilacaaGreatEmp
import Derived.Test.YtlchelgibilacaaGreatPut
namespace Go.Proofs.YtlchelgibilacaaGreat
open Go.RowKit

theorem CellsAt.int {w : World} {b off : Nat} {l : List Int} (h : CellsAt w 1 b off (ints l)) {k : Nat} (hk : k < l.length) : w.cell? ⟨b, off + k, none⟩ = some (.int .i64 l[k]) := by
  have := h.2 k [.int .i64 l[k]] (by simp [ints, hk]) 0 _ rfl
  simpa using this
theorem ints_pos {l : List Int} {k : Nat} (hlt : k < l.length) (h : ints l = []) : False := by
  have := congrArg List.length h
  rw [ints_len] at this; simp only [List.length_nil] at this; omega
theorem ints_wide (l : List Int) : Wide 1 (ints l) := fun x hx => by
  obtain ⟨p, _, rfl⟩ := List.mem_map.1 hx
  exact ⟨rfl, by simp [Value.oneCell']⟩
theorem ints_append (l m : List Int) : ints (l ++ m) = ints l ++ ints m := by simp [ints]
theorem rowInt : RowTy Tryz.prog 22 3 1 8 := by
  obtain ⟨i, hi, hz, hs, hb⟩ := info_parts (show (Tryz.prog.info? 3).map (fun i => (i.zero, i.size, i.bytes)) = some (some (.int .i64 0), 1, 8) by kernel_rfl)
  exact ⟨Tryz.underlying22, ⟨i, _, hi, hz, hs, hb, rfl⟩, by omega⟩

theorem insI_same {n : Int} : ∀ {l : List Int} {j : Nat} (hj : j < l.length), (∀ i (h : i < j), (l[i]'(by omega)) < n) → l[j] = n → insI n l = l.take j ++ n :: l.drop (j + 1)
  | a :: r, 0, _, _, h3 => by
    simp only [List.getElem_cons_zero] at h3
    simp [insI, h3]
  | a :: r, j + 1, hj, h1, h3 => by
    have h0 := h1 0 (by omega)
    simp only [List.getElem_cons_zero] at h0
    have := insI_same (n := n) (l := r) (j := j) (by simpa using hj) (fun i hi => by have := h1 (i + 1) (by omega); simpa using this) (by simpa using h3)
    simp [insI, h0, this]
theorem insI_new {n : Int} : ∀ {l : List Int} {j : Nat} (hj : j ≤ l.length), (∀ i (h : i < j), (l[i]'(by omega)) < n) → (∀ h : j < l.length, ¬ l[j] < n ∧ ¬ l[j] = n) → insI n l = l.take j ++ n :: l.drop j
  | [], 0, _, _, _ => rfl
  | a :: r, 0, _, _, h2 => by
    have h2 := h2 (by simp)
    simp only [List.getElem_cons_zero] at h2
    simp [insI, h2.1, h2.2]
  | a :: r, j + 1, hj, h1, h2 => by
    have h0 := h1 0 (by omega)
    simp only [List.getElem_cons_zero] at h0
    have := insI_new (n := n) (l := r) (j := j) (by simpa using hj) (fun i hi => by have := h1 (i + 1) (by omega); simpa using this) (fun h => by have := h2 (by simpa using h); simpa using this)
    simp [insI, h0, this]
  | [], j + 1, hj, _, _ => by simp at hj
/-- in the middle of Insert -/
def InsMid (l : List Int) (n : Int) (j : Nat) (i : Value) : Prop := ∃ k : Nat, i = .int .i64 k ∧ k ≤ l.length ∧ l.take j ++ n :: l.drop k = insI n l

set_option maxRecDepth 100000 in
set_option maxHeartbeats 3200000 in
theorem Insert_any (v : Value) (l : List Int) (n : Int) (w : World) (hv : Sl w 1 v (ints l)) (hlen : l.length ≤ 1000000) :
    Calls Tryz.prog 35 #[v, .int .i64 n] w (RetOwn w 3 1 (ints (insI n l))) := by
  have H1 := Lib.hid hv
  obtain ⟨A, cap, rfl, h1, h2, x1, h3⟩ := hv
  rw [ints_len] at h1 H1 ⊢
  unfold maxLen at h2
  have H3 := Lib.hid h3
  clear h3 x1
  go_enter Tryz.func35, Tryz.ntmps35
  go_upto_block 0 with (fail)
  go_cut [5, 6] (fun t i wx => ∃ j : Nat, j ≤ l.length ∧ i = .int .i64 j ∧ Own wx w.heap.size 3 1 t (ints (l.take j)) ∧ Below w.heap.size w wx ∧ Hid (∀ i (h : i < j) (h' : i < l.length), l[i] < n) ∧ Hid (∀ h : j < l.length, ¬ l[j] < n))
  case first =>
    go_wp2_with fail
    go_loopw [5, 6] (fun t i wr => ∃ j : Nat, j ≤ l.length ∧ i = .int .i64 j ∧ Own wr w.heap.size 3 1 t (ints (l.take j)) ∧ Below w.heap.size w wr ∧ Hid (∀ i (h : i < j) (h' : i < l.length), l[i] < n)) (fun _ i _ => l.length - (intOf i).toNat)
    case atStart => exact ⟨0, by omega, rfl, Own.nil _ _ _ _, Below.refl _ _, fun i h => absurd h (by omega)⟩
    case round =>
      obtain ⟨j, hj, rfl, hown, hb, HJ⟩ := hrel
      have hbs := hb.size
      by_cases hlt : j < l.length
      · have dl : decide (j < l.length) = true := decide_eq_true hlt
        rcases H3.out with h | ⟨b, off, rfl, hc0⟩
        · exact (ints_pos hlt h).elim
        · have c0 := (hc0.below hb hc0.1).int hlt
          clear H3 hc0
          by_cases hr : l[j] < n
          · have d1 : decide (l[j] < n) = true := decide_eq_true hr
            have HT : Hid (∀ i (h : i < j + 1) (h' : i < l.length), l[i] < n) := fun i hi hl' => by
              by_cases e : i = j
              · subst e; exact hr
              · exact HJ.out i (by omega) hl'
            have HTK : Hid (l.take (j + 1) = l.take j ++ [l[j]]) := by rw [Hid, List.take_succ_eq_append_getElem hlt]
            have HLJ : Hid ((l.take j).length = j) := by rw [Hid, List.length_take]; omega
            go_wp2_with (at_builtin; refine wpList_append_sl rfl (.tmp 21) (.tmp 26) rfl rowInt w.heap.size _ _ _ (ints [l[j]]) rfl (hown.alloc _) rfl (Sl.one rfl rfl) (ints_wide _) (by rw [ints_len, ints_len, HLJ.out]; unfold maxLen; simp; omega) (by rw [ints_len, ints_len, HLJ.out]; simp; omega) (by simp; omega) ?_; intro v4 w4 hown4 hg4 _; have hb4 := Own.grown (hown.alloc _) (hb.alloc hbs _) hg4 (by simp; omega); rw [← ints_append, ← HTK.out] at hown4)
            go_roundw
            case rel => exact ⟨j + 1, by omega, by go_num, hown4, hb4, HT⟩
            case measure => simp [intOf]; omega
          · have d1 : decide (l[j] < n) = false := decide_eq_false hr
            have HF : Hid (∀ h : j < l.length, ¬ l[j] < n) := fun _ => hr
            go_wp2_with fail
            go_meet
            exact ⟨j, hj, rfl, hown, hb, HJ, HF⟩
      · have dl : decide (j < l.length) = false := decide_eq_false hlt
        have HF : Hid (∀ h : j < l.length, ¬ l[j] < n) := fun h => absurd h hlt
        go_wp2_with fail
        go_meet
        exact ⟨j, hj, rfl, hown, hb, HJ, HF⟩
  case rest =>
    obtain ⟨j, hj, rfl, hown, hb, HJ, HF⟩ := hcut
    have hbs := hb.size
    have HLJ : Hid ((l.take j).length = j) := by rw [Hid, List.length_take]; omega
    have HAP : Hid (ints (l.take j) ++ ints [n] = ints (l.take j ++ [n])) := (ints_append _ _).symm
    go_upto_region 7 with (at_builtin; refine wpList_append_sl rfl (.tmp 28) (.tmp 30) rfl rowInt w.heap.size _ _ _ (ints [n]) rfl (hown.alloc _) rfl (Sl.one rfl rfl) (ints_wide _) (by rw [ints_len, ints_len, HLJ.out]; unfold maxLen; simp; omega) (by rw [ints_len, ints_len, HLJ.out]; simp; omega) (by simp; omega) ?_; intro v5 w5 hown5 hg5 _; have hb5 := Own.grown (hown.alloc _) (hb.alloc hbs _) hg5 (by simp; omega); rw [HAP.out] at hown5; clear hg5)
    have hs5 := hb5.size
    clear hown hb
    go_cut [43] (fun s wx => s = .bool (decide (l[j]? = some n)) ∧ w5 = wx)
    case first =>
      by_cases hlt : j < l.length
      · have dl : decide (j < l.length) = true := decide_eq_true hlt
        rcases H3.out with h | ⟨b, off, rfl, hc0⟩
        · exact (ints_pos hlt h).elim
        · have c0 := (hc0.below hb5 hc0.1).int hlt
          have HE : Hid (decide (l[j]? = some n) = (l[j] == n)) := by rw [Hid, List.getElem?_eq_getElem hlt, Bool.eq_iff_iff]; simp
          clear H3 hc0
          go_wp2_with fail
          go_meet
          exact ⟨by rw [HE.out], rfl⟩
      · have dl : decide (j < l.length) = false := decide_eq_false hlt
        have HE : Hid (decide (l[j]? = some n) = false) := by rw [Hid, List.getElem?_eq_none (by omega)]; rfl
        go_wp2_with fail
        go_meet
        exact ⟨by rw [HE.out], rfl⟩
    case rest =>
      obtain ⟨rfl, hw5⟩ := hcut
      subst hw5
      go_upto_if 43 with (fail)
      go_cut [6] (fun i wx => InsMid l n j i ∧ w5 = wx)
      case first =>
        by_cases hc : l[j]? = some n
        · have dc : decide (l[j]? = some n) = true := decide_eq_true hc
          obtain ⟨hlt, he⟩ := List.getElem?_eq_some_iff.1 hc
          have HP := Lib.hid (insI_same hlt (fun i hi => HJ.out i hi (by omega)) he).symm
          rw [dc]
          clear hc he dc
          go_wp2_with fail
          go_meet
          exact ⟨⟨j + 1, by go_num, by omega, HP.out⟩, rfl⟩
        · have dc : decide (l[j]? = some n) = false := decide_eq_false hc
          have HP : Hid (l.take j ++ n :: l.drop j = insI n l) := by
            rw [Hid, insI_new hj (fun i hi => HJ.out i hi (by omega)) fun h => ⟨HF.out h, fun hh => hc (by rw [List.getElem?_eq_getElem h, hh])⟩]
          rw [dc]
          clear hc dc
          go_wp2_with fail
          go_meet
          exact ⟨⟨j, rfl, by omega, HP.out⟩, rfl⟩
      case rest =>
        obtain ⟨⟨k, rfl, hk, HP0⟩, hw5⟩ := hcut
        subst hw5
        have HP := Lib.hid HP0
        clear HP0
        have HTL := Lib.hid (H1.out.from k (by omega))
        have HAQ : Hid (ints (l.take j ++ [n]) ++ (ints l).drop k = ints (insI n l)) := by
          rw [Hid, ← HP.out]
          show ints _ ++ (l.map _).drop k = _
          rw [← List.map_drop]
          show ints _ ++ ints _ = _
          rw [← ints_append]; simp
        have HDL : Hid (((ints l).drop k).length = l.length - k) := by rw [Hid, List.length_drop, ints_len]
        have HWD : Hid (Wide 1 ((ints l).drop k)) := fun z hz => ints_wide l z (List.mem_of_mem_drop hz)
        have HL2 : Hid ((ints (l.take j ++ [n])).length = j + 1) := by rw [Hid, ints_len, List.length_append, HLJ.out]; rfl
        clear H3 HF HJ
        by_cases hc : cap = k
        · have hkl : k = l.length := by omega
          subst hc
          subst hkl
          rw [if_pos rfl, Nat.sub_self l.length] at HTL
          go_wp2_with (at_builtin; refine wpList_append_sl rfl (.tmp 46) (.tmp 49) rfl rowInt w.heap.size _ _ _ _ rfl hown5 rfl (HTL.out.below hb5) HWD.out (by rw [HDL.out, HL2.out]; unfold maxLen; omega) (by rw [HDL.out, HL2.out]; omega) hs5 ?_; intro v6 w6 hown6 hg6 _; have hb6 := Own.grown hown5 hb5 hg6 hs5; rw [HAQ.out] at hown6; clear hg6)
          go_ret
          exact ⟨_, rfl, hown6, hb6⟩
        · rw [if_neg hc, Nat.mul_one] at HTL
          go_wp2_with (at_builtin; refine wpList_append_sl rfl (.tmp 46) (.tmp 49) rfl rowInt w.heap.size _ _ _ _ rfl hown5 rfl (HTL.out.below hb5) HWD.out (by rw [HDL.out, HL2.out]; unfold maxLen; omega) (by rw [HDL.out, HL2.out]; omega) hs5 ?_; intro v6 w6 hown6 hg6 _; have hb6 := Own.grown hown5 hb5 hg6 hs5; rw [HAQ.out] at hown6; clear hg6)
          go_ret
          exact ⟨_, rfl, hown6, hb6⟩

set_option maxHeartbeats 800000 in
theorem intsSame_any (u v : Value) (l : List Int) (w : World) (hu : Sl w 1 u (ints l)) (hv : Sl w 1 v (ints l)) :
    Calls Tryz.prog 16 #[u, v] w fun e w' => e = .returned (.bool true) ∧ Below w.heap.size w w' := by
  obtain ⟨A, cap, rfl, h1, h2, x1, h3⟩ := hu
  obtain ⟨B, cup, rfl, k1, k2, x2, k3⟩ := hv
  rw [ints_len] at h1 k1 ⊢
  unfold maxLen at h2 k2
  have H3 := Lib.hid h3
  have K3 := Lib.hid k3
  clear h3 k3 x1 x2
  have hne : ((l.length : Int) != (l.length : Int)) = false := by simp
  go_enter Tryz.func16, Tryz.ntmps16
  go_wp2
  go_loopw [5] (fun i wr => ∃ k : Nat, k ≤ l.length ∧ i = .int .i64 k ∧ Below w.heap.size w wr) (fun i _ => l.length - (intOf i).toNat)
  case atStart => exact ⟨0, by omega, rfl, Below.refl _ _⟩
  case round =>
    obtain ⟨k, hk, rfl, hb⟩ := hrel
    by_cases hlt : k < l.length
    · rcases H3.out with h | ⟨b, off, rfl, hc0⟩
      · exact (ints_pos hlt h).elim
      rcases K3.out with h | ⟨b2, off2, rfl, hd0⟩
      · exact (ints_pos hlt h).elim
      have c0 := (hc0.below hb hc0.1).int hlt
      have d0 := (hd0.below hb hd0.1).int hlt
      have hnn : (l[k] != l[k]) = false := by simp
      clear H3 K3 hc0 hd0
      go_wp2
      go_quiet (fail)
      go_wp2
      go_roundw
      case rel => exact ⟨k + 1, by omega, by go_num, Below.draws hb _⟩
      case measure => simp [intOf]; omega
    · go_wp2
      go_ret
      exact ⟨rfl, hb⟩
end Go.Proofs.YtlchelgibilacaaGreat
