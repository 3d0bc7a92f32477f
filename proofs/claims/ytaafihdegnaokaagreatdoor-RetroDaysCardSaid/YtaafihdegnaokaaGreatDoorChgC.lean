/- slices.Grow from nil and slices.Concat of two slices, at changes and at steps. -/
import Derived.Test.YtaafihdegnaokaaGreatDoorChgP
import Derived.Test.YtaafihdegnaokaaGreatDoorShelfG
namespace Go.Proofs.YtaafihdegnaokaaGreatDoor
open Go.RowKit
/-- a new row of zeros of the call's own, read as no element -/
theorem own_room (w : World) (e : TypeId) (sz base n G : Nat) (z : Array Value) (hb : base ≤ w.heap.size) (hz : z.size = sz) (hn : n ≤ G) (hG : G ≤ maxLen) :
    Own (w.drew.alloc (.cells (([] : List Value).toArray ++ Builtin.zeroCells z (0 + n - 0) ++ Builtin.zeroCells z (G - (0 + n))) e)) base e sz (.slice (some ⟨w.heap.size, 0, none⟩) 0 G) [] := by
  refine ⟨⟨by simp, .inr ⟨_, G, _, rfl, hb, heap_alloc_new w.drew _, Nat.zero_le _, hG, ?_, by simp⟩⟩, Wide.nil sz⟩
  have e1 : (0 + n - 0) = n := by omega
  have e2 : (0 + n) = n := by omega
  rw [e1, e2]
  simp only [Array.size_append, size_zeroCells, hz, List.size_toArray, List.length_nil, Nat.zero_add]
  rw [← Nat.add_mul, show n + (G - n) = G by omega]
def catN (la lb k : Nat) : Nat := if k = 0 then 0 else if k = 1 then la else la + lb
def catL {α : Type} (a b : List α) (k : Nat) : List α := if k = 0 then [] else if k = 1 then a else a ++ b
def CatS (la lb : Nat) (s i : Value) : Prop := ∃ k : Nat, k ≤ 2 ∧ i = .int .i64 k ∧ s = .int .i64 (catN la lb k : Nat)
def CatR (w : World) (E sz : Nat) (a b : List (List Value)) (r i : Value) (wr : World) : Prop := ∃ k : Nat, k ≤ 2 ∧ i = .int .i64 k ∧ Own wr w.heap.size E sz r (catL a b k) ∧ Below w.heap.size w wr

theorem growSt_any (n : Nat) (N : Int) (hN : N = n) (w : World) (hn : n ≤ 4096) : Calls Tryz.prog 97 #[.slice none 0 0, .int .i64 N] w (RetOwn w 97 2 []) := by
  subst hN
  by_cases h0 : n = 0
  · subst h0
    refine Calls.mono (R := _) (Any8.slices_Grow_room Tryz.growSt none 0 0 0 w (by omega) (by omega) (by omega) (by omega)) fun e w' hh => ?_
    obtain ⟨rfl, rfl⟩ := hh
    exact ⟨_, rfl, Own.nil _ _ _ _, Below.refl _ _⟩
  · obtain ⟨i, z, hi, hz, hs, hby, hzs⟩ := rowStp.hi
    refine Calls.mono (R := _) (Any8.slices_Grow_grow Tryz.growSt i z hi hz (by omega) none 0 0 n [] w (by omega) (by omega) (by rw [hby]; omega) (by omega) (by simp) (fun _ => rfl) (by intro a h; cases h)) fun e w' hh => ?_
    obtain ⟨rfl, rfl⟩ := hh
    have hge := grownCap_ge w (0 + n) 0 97
    have hle := grownCap_le_maxLen w (0 + n) 0 97 (by unfold maxLen; omega)
    exact ⟨_, rfl, own_room w 97 2 w.heap.size n (grownCap w (0 + n) 0 97) z.cells (Nat.le_refl _) hzs (by omega) hle, (Below.refl _ _).drew.alloc (Nat.le_refl _) _⟩
set_option maxRecDepth 10000 in
theorem concatSt_any (a b : List Chg) (va vb : Value) (g cap : Nat) (w : World) (h0 : w.cell? ⟨g, 0, none⟩ = some va) (h1 : w.cell? ⟨g, 1, none⟩ = some vb) (ha : Sl w 2 va (stps a)) (hb : Sl w 2 vb (stps b))
    (hla : a.length ≤ 1024) (hlb : b.length ≤ 1024) : Calls Tryz.prog 83 #[.slice (some ⟨g, 0, none⟩) 2 cap] w (RetOwn w 97 2 (stps (a ++ b))) := by
  have HA := Lib.hid ha
  have HB := Lib.hid hb
  obtain ⟨A1, cap1, rfl, _, _, _, _⟩ := ha
  obtain ⟨A2, cap2, rfl, _, _, _, _⟩ := hb
  rw [stps_len] at *
  have hg : g < w.heap.size := World.block_lt_of_cell? _ _ h0
  go_enter Tryz.func83, Tryz.ntmps83
  go_wp2
  go_loop [3, 11] (fun s i => CatS a.length b.length s i) (fun _ i => 2 - (intOf i).toNat)
  case atStart => exact ⟨0, by omega, rfl, rfl⟩
  case round =>
    obtain ⟨k, hk, rfl, rfl⟩ := hrel
    have hk' : k = 0 ∨ k = 1 ∨ k = 2 := by omega
    rcases hk' with rfl | rfl | rfl
    · simp only [catN, if_true]
      go_wp2
      go_round
      case rel => exact ⟨1, by omega, by go_num, by simp [catN]⟩
      case measure => simp [intOf]
    · simp only [catN, if_true, if_neg (show ¬ (1 = 0) by omega)]
      go_wp2
      go_round
      case rel => exact ⟨2, by omega, by go_num, by simp [catN]⟩
      case measure => simp [intOf]
    · simp only [catN, if_neg (show ¬ (2 = 0) by omega), if_neg (show ¬ (2 = 1) by omega)]
      go_wp2_with (go_at_call 97; (with_reducible refine (growSt_any (a.length + b.length) _ (by simp) _ (by omega)).mono ?_); rintro e w1 ⟨v1, rfl, hown1, hb1⟩)
      go_loopw [6, 27] (fun r i wr => CatR w 97 2 (stps a) (stps b) r i wr) (fun _ i _ => 2 - (intOf i).toNat)
      case atStart => exact ⟨0, by omega, rfl, hown1, hb1⟩
      case round =>
        clear hown1 hb1
        obtain ⟨k, hk, rfl, hown, hbl⟩ := hrel
        have hbs := hbl.size
        obtain ⟨wo, rfl⟩ : ∃ wo : World, wo = wr := ⟨_, rfl⟩
        have h0' : wo.cell? ⟨g, 0, none⟩ = some (.slice A1 a.length cap1) := (hbl.cell (p := ⟨g, 0, none⟩) hg).trans h0
        have h1' : wo.cell? ⟨g, 1, none⟩ = some (.slice A2 b.length cap2) := (hbl.cell (p := ⟨g, 1, none⟩) hg).trans h1
        have hk' : k = 0 ∨ k = 1 ∨ k = 2 := by omega
        rcases hk' with rfl | rfl | rfl
        · go_wp2_with (at_builtin; (refine wpList_append_sl rfl (.tmp 31) (.tmp 32) rfl rowStp w.heap.size _ _ _ (stps a) rfl hown rfl (HA.out.below hbl) (stps_wide a) (by rw [stps_len]; simp [catL]; unfold maxLen; omega) (by rw [stps_len]; simp [catL]; omega) (by omega) ?_); intro v3 w3 hown3 hg3 _; have hb3 := Own.grown hown hbl hg3 hbs)
          go_roundw
          case rel => exact ⟨1, by omega, by go_num, hown3, hb3⟩
          case measure => simp [intOf]
        · go_wp2_with (at_builtin; (refine wpList_append_sl rfl (.tmp 31) (.tmp 32) rfl rowStp w.heap.size _ _ _ (stps b) rfl hown rfl (HB.out.below hbl) (stps_wide b) (by rw [stps_len]; simp [catL, stps_len]; unfold maxLen; omega) (by rw [stps_len]; simp [catL, stps_len]; omega) (by omega) ?_); intro v3 w3 hown3 hg3 _; have hb3 := Own.grown hown hbl hg3 hbs)
          go_roundw
          case rel => exact ⟨2, by omega, by go_num, hown3, hb3⟩
          case measure => simp [intOf]
        · go_wp2
          go_ret
          rw [stps_append]
          exact ⟨_, rfl, hown, hbl⟩
end Go.Proofs.YtaafihdegnaokaaGreatDoor
