/- timeline.steps. -/
import Derived.Test.YtaafihdegnaokaaGreatDoorChgY
import Derived.Test.YtaafihdegnaokaaGreatDoorChgG
namespace Go.Proofs.YtaafihdegnaokaaGreatDoor
open Go.RowKit

def Chg.stp (c : Chg) : List Value := [.int .i64 c.f, .int .i64 c.v]
def stps (l : List Chg) : List (List Value) := l.map Chg.stp
theorem stps_len (l : List Chg) : (stps l).length = l.length := by simp [stps]
theorem stps_at {l : List Chg} {k : Nat} (h : k < l.length) : (stps l)[k]? = some (l[k]).stp := by simp [stps, h]
theorem CellsAt.stp {w : World} {b off : Nat} {l : List Chg} (h : CellsAt w 2 b off (stps l)) {k : Nat} (hk : k < l.length) :
    w.cell? ⟨b, off + k * 2, none⟩ = some (.int .i64 (l[k]).f) ∧ w.cell? ⟨b, off + k * 2 + 1, none⟩ = some (.int .i64 (l[k]).v) :=
  ⟨h.2 k _ (stps_at hk) 0 _ rfl, h.2 k _ (stps_at hk) 1 _ rfl⟩
theorem stps_pos {l : List Chg} {k : Nat} (hlt : k < l.length) (h : stps l = []) : False := by
  have := congrArg List.length h
  rw [stps_len] at this; simp only [List.length_nil] at this; omega
theorem stps_wide (l : List Chg) : Wide 2 (stps l) := fun x hx => by
  obtain ⟨p, _, rfl⟩ := List.mem_map.1 hx
  exact ⟨rfl, by simp [Chg.stp, Value.oneCell']⟩
theorem stp_wide (a b : Int) : Wide 2 [[.int .i64 a, .int .i64 b]] := fun x hx => by
  obtain rfl := List.mem_singleton.1 hx
  exact ⟨rfl, by simp [Value.oneCell']⟩
theorem stps_append (l m : List Chg) : stps (l ++ m) = stps l ++ stps m := by simp [stps]
theorem rowStp : RowTy Tryz.prog 83 97 2 16 := by
  obtain ⟨i, hi, hz, hs, hb⟩ := info_parts (show (Tryz.prog.info? 97).map (fun i => (i.zero, i.size, i.bytes)) = some (some (.agg #[.int .i64 0, .int .i64 0]), 2, 16) by kernel_rfl)
  exact ⟨Tryz.underlying83, ⟨i, _, hi, hz, hs, hb, rfl⟩, by omega⟩

/-- c: the last change from i up to j that is known, or -1 -/
def CntR (s : List Chg) (kn : Int) (i j : Nat) (c : Int) : Prop :=
  (c = -1 ∧ ∀ t (h : t < s.length), i ≤ t → t < j → ¬ (s[t]).k ≤ kn) ∨ (∃ t, ∃ h : t < s.length, c = (t : Int) ∧ i ≤ t ∧ t < j ∧ (s[t]).k ≤ kn ∧ ∀ u (hu : u < s.length), t < u → u < j → ¬ (s[u]).k ≤ kn)
def GrpR (s : List Chg) (f : Int) (i j : Nat) : Prop := ∀ t (h : t < s.length), i ≤ t → t < j → (s[t]).f = f
def BndR (s : List Chg) (k : Nat) : Prop := ∀ (_ : 0 < k) (h : k < s.length), (s[k - 1]'(by omega)).f < (s[k]).f
theorem cntR_start (s : List Chg) (kn : Int) (i : Nat) : CntR s kn i i (-1) := .inl ⟨rfl, fun t _ h1 h2 => by omega⟩
theorem cntR_yes {s : List Chg} {kn c : Int} {i j : Nat} (_h : CntR s kn i j c) (hj : j < s.length) (hij : i ≤ j) (hk : (s[j]).k ≤ kn) : CntR s kn i (j + 1) j :=
  .inr ⟨j, hj, rfl, hij, by omega, hk, fun u _ h1 h2 => by omega⟩
theorem cntR_no {s : List Chg} {kn c : Int} {i j : Nat} (h : CntR s kn i j c) (hj : j < s.length) (hk : ¬ (s[j]).k ≤ kn) : CntR s kn i (j + 1) c := by
  rcases h with ⟨h1, h2⟩ | ⟨t, ht, h1, h2, h3, h4, h5⟩
  · refine .inl ⟨h1, fun t ht h3 h4 => ?_⟩
    by_cases e : t = j
    · subst e; exact hk
    · exact h2 t ht h3 (by omega)
  · refine .inr ⟨t, ht, h1, h2, by omega, h4, fun u hu h6 h7 => ?_⟩
    by_cases e : u = j
    · subst e; exact hk
    · exact h5 u hu h6 (by omega)
theorem grp_none {l s : List Chg} {kn : Int} {f : Int} (hm : ∀ x, x ∈ s ↔ x ∈ l) (hs : s.Pairwise (fun a b => ¬ ltC b a)) {i j : Nat} (hij : i < j) (hj : j ≤ s.length)
    (hb : BndR s i) (hg : GrpR s f i j) (he : ∀ h : j < s.length, f < (s[j]).f) (hn : ∀ t (h : t < s.length), i ≤ t → t < j → ¬ (s[t]).k ≤ kn) : stepsTo l s kn j = stepsTo l s kn i := by
  have e0 := hg i (by omega) (Nat.le_refl _) hij
  exact (steps_group hm hs hij hj (fun h => hb h (by omega)) (fun t h1 h2 => by rw [hg t (by omega) h1 h2, e0]) (fun h => by rw [e0]; exact he h)).2 fun t h1 h2 => hn t (by omega) h1 h2
theorem grp_some {l s : List Chg} {kn : Int} {f : Int} (hm : ∀ x, x ∈ s ↔ x ∈ l) (hs : s.Pairwise (fun a b => ¬ ltC b a)) {i j : Nat} (hij : i < j) (hj : j ≤ s.length)
    (hb : BndR s i) (hg : GrpR s f i j) (he : ∀ h : j < s.length, f < (s[j]).f) {t : Nat} (ht : t < s.length) (h1 : i ≤ t) (h2 : t < j) (h3 : (s[t]).k ≤ kn) (h4 : ∀ u (hu : u < s.length), t < u → u < j → ¬ (s[u]).k ≤ kn) :
    stepsTo l s kn j = stepsTo l s kn i ++ if (s[t]).d then [] else [s[t]] := by
  have e0 := hg i (by omega) (Nat.le_refl _) hij
  exact (steps_group hm hs hij hj (fun h => hb h (by omega)) (fun t h1 h2 => by rw [hg t (by omega) h1 h2, e0]) (fun h => by rw [e0]; exact he h)).1 t h1 h2 h3 fun u h5 h6 => h4 u (by omega) h5 h6
theorem grpR_next {s : List Chg} {f : Int} {i j : Nat} (h : GrpR s f i j) (hj : j < s.length) (e : (s[j]).f = f) : GrpR s f i (j + 1) := fun t ht h1 h2 => by
  by_cases e' : t = j
  · subst e'; exact e
  · exact h t ht h1 (by omega)
theorem bndR_end {s : List Chg} {f : Int} {i j : Nat} (hij : i < j) (hg : GrpR s f i j) (he : ∀ h : j < s.length, f < (s[j]).f) : BndR s j := fun _ h => by
  rw [hg (j - 1) (by omega) (by omega) (by omega)]; exact he h
theorem grp_end {s : List Chg} (hs : s.Pairwise (fun a b => ¬ ltC b a)) {f : Int} {i j : Nat} (hi : i < s.length) (hf : (s[i]).f = f) (hij : i ≤ j) (hj : j < s.length) (hn : ¬ (s[j]).f = f) : i < j ∧ f < (s[j]).f := by
  have h1 : i < j := by
    rcases Nat.lt_or_ge i j with h | h
    · exact h
    · exact absurd (by have e : i = j := by omega
                       subst e; exact hf) hn
  have := (sorted_le hs (Nat.le_of_lt h1) hj).1
  exact ⟨h1, by omega⟩
theorem insC_len (c : Chg) : ∀ l : List Chg, (insC c l).length ≤ l.length + 1
  | [] => by simp [insC]
  | x :: r => by
    have := insC_len c r
    unfold insC
    split
    · simp only [List.length_cons]; omega
    · split <;> simp only [List.length_cons] <;> omega
theorem foldl_len : ∀ (l m : List Chg), (l.foldl (fun m c => insC c m) m).length ≤ m.length + l.length
  | [], _ => by simp
  | c :: r, m => by
    have h1 := foldl_len r (insC c m)
    have h2 := insC_len c m
    rw [List.foldl_cons, List.length_cons]; omega
theorem ascC_len (l : List Chg) : (ascC l).length ≤ l.length := by
  have := foldl_len l []
  rw [ascC]; simpa using this
theorem stepsTo_len (l s : List Chg) (kn : Int) (k : Nat) (h : l.length ≤ 1024) : (stepsTo l s kn k).length ≤ 1024 := by
  have h1 : (stepsTo l s kn k).length ≤ (inC l kn).length := List.length_filter_le _ _
  have h2 : (inC l kn).length ≤ (ascC l).length := List.length_filter_le _ _
  have h3 := ascC_len l
  omega
theorem bndR_zero (s : List Chg) : BndR s 0 := fun h => by omega

/-- the outer loop's relation -/
def StO (w2 : World) (l s : List Chg) (kn : Int) (t i : Value) (wr : World) : Prop :=
  ∃ k : Nat, k ≤ l.length ∧ i = .int .i64 k ∧ Own wr w2.heap.size 97 2 t (stps (stepsTo l s kn k)) ∧ Below w2.heap.size w2 wr ∧ Hid (BndR s k)
/-- the inner loop's relation -/
def StI (l s : List Chg) (kn f0 : Int) (k : Nat) (i c : Value) : Prop :=
  ∃ j : Nat, ∃ q : Int, k ≤ j ∧ j ≤ l.length ∧ i = .int .i64 j ∧ c = .int .i64 q ∧ Hid (GrpR s f0 k j) ∧ Hid (CntR s kn k j q)

set_option maxHeartbeats 2000000 in
set_option maxRecDepth 10000 in
theorem steps_any (v : Value) (l : List Chg) (kn : Int) (w : World) (hv : Sl w 4 v (chgs l)) (hl : l.length ≤ 1024) :
    Calls Tryz.prog 60 #[v, .int .i64 kn] w (RetOwn w 97 2 (stps (inC l kn))) := by
  have H := Lib.hid hv
  clear hv
  go_enter Tryz.func60, Tryz.ntmps60
  go_wp2_with (go_at_call 80; (with_reducible refine (cloneCh_any l _ _ H.out (by omega)).mono ?_); rintro e w1 ⟨v1, rfl, hown1, hb1⟩; have hq := hown1.form; rw [chgs_len] at hq; obtain ⟨A1, cap1, rfl⟩ := hq)
  go_wp2_with (go_at_call 81; (with_reducible refine (sortCh_any _ l w.heap.size _ hown1 (by omega)).mono ?_); rintro e w2 ⟨rfl, s, hp, hs, hown2, hg2⟩; have hb2 := Own.grown hown1 hb1 hg2 hb1.size)
  have HM : Hid (∀ x, x ∈ s ↔ x ∈ l) := fun x => hp.mem_iff
  have hsl1 : s.length ≤ l.length := Nat.le_of_eq hp.length_eq
  have hsl2 : l.length ≤ s.length := Nat.le_of_eq hp.length_eq.symm
  have HP := Lib.hid hs
  have HL := Lib.hid (hown2.sl (by omega))
  have hbs2 := hb2.size
  clear hs hp hg2 hown1 hb1 hown2 H
  go_loopw [6, 7] (fun t i wr => StO w2 l s kn t i wr) (fun _ i _ => l.length - (intOf i).toNat)
  case atStart => exact ⟨0, by omega, rfl, by rw [steps_start]; exact Own.nil _ _ _ _, Below.refl _ _, bndR_zero s⟩
  case round =>
    obtain ⟨k, hk, rfl, hown, hb, HB⟩ := hrel
    have hbs := hb.size
    by_cases hlt : k < l.length
    · obtain ⟨wo, rfl⟩ : ∃ wo : World, wo = wr := ⟨_, rfl⟩
      have h9 := (HL.out.below hb)
      obtain ⟨A9, cap9, e9, _, _, _, h9⟩ := h9
      simp only [Value.slice.injEq] at e9
      obtain ⟨rfl, _, rfl⟩ := e9
      rcases h9 with h | ⟨b, off, rfl, hc0⟩
      · exact (chgs_pos (show k < s.length by omega) h).elim
      · obtain ⟨c0, c1, c2, c3⟩ := hc0.chg (show k < s.length by omega)
        have HCE := Lib.hid hc0
        have hks : k < s.length := by omega
        obtain ⟨f0, hf0⟩ : ∃ f0, (s[k]).f = f0 := ⟨_, rfl⟩
        rw [hf0] at c0
        have HX := Lib.hid hf0
        clear hc0 hf0 c1 c2 c3
        go_wp2
        go_loop [7, 8] (fun i c => StI l s kn f0 k i c) (fun i _ => l.length - (intOf i).toNat)
        case atStart => exact ⟨k, -1, by omega, by omega, rfl, rfl, (fun t _ h1 h2 => by omega), cntR_start s kn k⟩
        case round =>
          obtain ⟨j, q, hkj0, hj0, rfl, rfl, HG, HC⟩ := hrel
          clear c0
          by_cases hj : j < l.length
          · have hjs : j < s.length := by omega
            obtain ⟨c0, c1, c2, c3⟩ := HCE.out.chg hjs
            obtain ⟨y, hy⟩ : ∃ y, s[j] = y := ⟨_, rfl⟩
            have HY := Lib.hid hy
            rw [hy] at c0 c1 c2 c3
            clear hy
            obtain ⟨yf, yk, yv, yd⟩ := y
            simp only at c0 c1 c2 c3
            cases hf : (yf == f0)
            · have hge := grp_end HP.out hks HX.out hkj0 hjs (fun h => by rw [HY.out] at h; simp only at h; rw [h] at hf; simp at hf)
              have hkj := hge.1
              have HE : Hid (∀ h : j < s.length, f0 < (s[j]).f) := fun _ => hge.2
              have HN := Lib.hid (bndR_end hkj HG.out HE.out)
              clear hge
              rcases HC.out with ⟨rfl, hno⟩ | ⟨t, ht, rfl, ht1, ht2, ht3, ht4⟩
              · have HS := Lib.hid (grp_none HM.out HP.out hkj (by omega) HB.out HG.out HE.out hno)
                clear hno HC
                go_wp2
                go_roundw
                case rel => exact ⟨j, by omega, rfl, by rw [HS.out]; exact hown, hb, HN⟩
                case measure => simp [intOf]; omega
              · obtain ⟨d0, d1, d2, d3⟩ := HCE.out.chg ht
                have HS := Lib.hid (grp_some HM.out HP.out hkj (by omega) HB.out HG.out HE.out ht ht1 ht2 ht3 ht4)
                have HT := Lib.hid (HG.out t ht ht1 ht2)
                have hln := stepsTo_len l s kn k (by omega)
                clear HC ht3 ht4
                obtain ⟨z, hz⟩ : ∃ z, s[t] = z := ⟨_, rfl⟩
                rw [hz] at d0 d1 d2 d3 HS HT
                clear hz
                obtain ⟨zf, zk, zv, zd⟩ := z
                simp only at d0 d1 d2 d3
                cases zd
                · have HA : Hid (stps (stepsTo l s kn j) = stps (stepsTo l s kn k) ++ [[.int .i64 f0, .int .i64 zv]]) := by
                    have h1 : zf = f0 := HT.out
                    rw [Hid, HS.out, stps_append, ← h1]; rfl
                  clear HS HT d0 d1
                  go_wp2_with (at_builtin; (refine wpList_append_sl rfl (.tmp 56) (.tmp 64) rfl rowStp w2.heap.size _ _ _ [[.int .i64 f0, .int .i64 zv]] rfl (hown.alloc _) rfl (Sl.one (by simp) rfl) (stp_wide f0 zv) (by rw [stps_len]; unfold maxLen; simp; omega) (by rw [stps_len]; simp; omega) (by simp; omega) ?_); intro v3 w3 hown3 hg3 _; have hb3 := Own.grown (hown.alloc _) (hb.alloc hbs _) hg3 (by simp; omega); rw [← HA.out] at hown3)
                  go_roundw
                  case rel => exact ⟨j, by omega, rfl, hown3, hb3, HN⟩
                  case measure => simp [intOf]; omega
                · have HA : Hid (stepsTo l s kn j = stepsTo l s kn k) := by
                    rw [Hid, HS.out]; simp
                  clear HS HT d0 d1
                  go_wp2
                  go_roundw
                  case rel => exact ⟨j, by omega, rfl, by rw [HA.out]; exact hown, hb, HN⟩
                  case measure => simp [intOf]; omega
            · have hyf : (s[j]).f = f0 := by rw [HY.out]; simpa using hf
              have HG2 := Lib.hid (grpR_next HG.out hjs hyf)
              clear hyf
              by_cases hyk : yk ≤ kn
              · have HC2 := Lib.hid (cntR_yes HC.out hjs hkj0 (by rw [HY.out]; exact hyk))
                clear HC
                go_wp2
                go_round
                case rel => exact ⟨j + 1, j, by omega, by omega, by go_num, rfl, HG2, HC2⟩
                case measure => simp [intOf]; omega
              · have HC2 := Lib.hid (cntR_no HC.out hjs (by rw [HY.out]; exact hyk))
                clear HC
                go_wp2
                go_round
                case rel => exact ⟨j + 1, q, by omega, by omega, by go_num, rfl, HG2, HC2⟩
                case measure => simp [intOf]; omega
          · have hkj : k < j := by omega
            have HE : Hid (∀ h : j < s.length, f0 < (s[j]).f) := fun h => by omega
            have HN := Lib.hid (bndR_end hkj HG.out HE.out)
            rcases HC.out with ⟨rfl, hno⟩ | ⟨t, ht, rfl, ht1, ht2, ht3, ht4⟩
            · have HS := Lib.hid (grp_none HM.out HP.out hkj (by omega) HB.out HG.out HE.out hno)
              clear hno HC
              go_wp2
              go_roundw
              case rel => exact ⟨j, by omega, rfl, by rw [HS.out]; exact hown, hb, HN⟩
              case measure => simp [intOf]; omega
            · obtain ⟨d0, d1, d2, d3⟩ := HCE.out.chg ht
              have HS := Lib.hid (grp_some HM.out HP.out hkj (by omega) HB.out HG.out HE.out ht ht1 ht2 ht3 ht4)
              have HT := Lib.hid (HG.out t ht ht1 ht2)
              have hln := stepsTo_len l s kn k (by omega)
              clear HC ht3 ht4
              obtain ⟨z, hz⟩ : ∃ z, s[t] = z := ⟨_, rfl⟩
              rw [hz] at d0 d1 d2 d3 HS HT
              clear hz
              obtain ⟨zf, zk, zv, zd⟩ := z
              simp only at d0 d1 d2 d3
              cases zd
              · have HA : Hid (stps (stepsTo l s kn j) = stps (stepsTo l s kn k) ++ [[.int .i64 f0, .int .i64 zv]]) := by
                  have h1 : zf = f0 := HT.out
                  rw [Hid, HS.out, stps_append, ← h1]; rfl
                clear HS HT d0 d1
                go_wp2_with (at_builtin; (refine wpList_append_sl rfl (.tmp 56) (.tmp 64) rfl rowStp w2.heap.size _ _ _ [[.int .i64 f0, .int .i64 zv]] rfl (hown.alloc _) rfl (Sl.one (by simp) rfl) (stp_wide f0 zv) (by rw [stps_len]; unfold maxLen; simp; omega) (by rw [stps_len]; simp; omega) (by simp; omega) ?_); intro v3 w3 hown3 hg3 _; have hb3 := Own.grown (hown.alloc _) (hb.alloc hbs _) hg3 (by simp; omega); rw [← HA.out] at hown3)
                go_roundw
                case rel => exact ⟨j, by omega, rfl, hown3, hb3, HN⟩
                case measure => simp [intOf]; omega
              · have HA : Hid (stepsTo l s kn j = stepsTo l s kn k) := by
                  rw [Hid, HS.out]; simp
                clear HS HT d0 d1
                go_wp2
                go_roundw
                case rel => exact ⟨j, by omega, rfl, by rw [HA.out]; exact hown, hb, HN⟩
                case measure => simp [intOf]; omega
    · go_wp2
      go_ret
      have : k = s.length := by omega
      rw [this, steps_end HM.out] at hown
      exact ⟨_, rfl, hown.more hbs2, hb2.trans (hb.mono hbs2)⟩

end Go.Proofs.YtaafihdegnaokaaGreatDoor
