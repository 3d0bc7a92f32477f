/- slices.Clone at changes. -/
import Derived.Test.YtaafihdegnaokaaGreatDoorChgX
namespace Go.Proofs.YtaafihdegnaokaaGreatDoor
open Go.RowKit
/-- the row of no element that a literal makes -/
theorem own_empty (w : World) (e : TypeId) (sz base : Nat) (hb : base ≤ w.heap.size) : Own (w.alloc (.cells #[] e)) base e sz (.slice (some ⟨w.heap.size, 0, none⟩) 0 0) [] :=
  ⟨⟨by simp, .inr ⟨_, 0, #[], rfl, hb, heap_alloc_new w _, Nat.le_refl _, Nat.zero_le _, by simp, by simp⟩⟩, Wide.nil sz⟩
theorem eqNil_none (w : World) : (binOp .eql 49 (.slice none 0 0) (.slice none 0 0)).run Tryz.prog w = .ok (.bool true) w := by
  kernel_rfl
theorem eqNil_some (a : Addr) (n c : Nat) (w : World) : (binOp .eql 49 (.slice (some a) n c) (.slice none 0 0)).run Tryz.prog w = .ok (.bool false) w := by
  kernel_rfl
set_option maxRecDepth 10000 in
theorem cloneCh_any (l : List Chg) (v : Value) (w : World) (hsl : Sl w 4 v (chgs l)) (hl : l.length ≤ 4096) :
    Calls Tryz.prog 80 #[v] w (RetOwn w 66 4 (chgs l)) := by
  have H := Lib.hid hsl
  obtain ⟨A, cap, rfl, h1, h2, h0, h3⟩ := hsl
  rw [chgs_len] at h1
  cases A with
  | none =>
    have hl0 : l = [] := List.eq_nil_of_length_eq_zero (by have := h0 rfl; omega)
    subst hl0
    obtain rfl := h0 rfl
    clear h3 h0 h1 h2 hl
    show Calls _ _ #[.slice none 0 0] _ _
    have E := eqNil_none w
    go_enter Tryz.func80, Tryz.ntmps80
    go_wp2
    go_ret
    exact ⟨_, rfl, Own.nil _ _ _ _, Below.refl _ _⟩
  | some a =>
    clear h0 h3
    obtain ⟨b, o, k⟩ := a
    rw [chgs_len] at H ⊢
    have E := eqNil_some ⟨b, o, k⟩ l.length cap w
    have hb1 : Below w.heap.size w (w.alloc (.cells #[] 66)) := (Below.refl _ _).alloc (Nat.le_refl _) _
    go_enter Tryz.func80, Tryz.ntmps80
    go_wp2_with (at_builtin; (refine wpList_append_sl rfl (.tmp 5) (.tmp 6) rfl rowChg w.heap.size _ _ [] (chgs l) rfl (own_empty w _ 4 _ (Nat.le_refl _)) rfl (H.out.below hb1) (chgs_wide l) (by rw [chgs_len]; unfold maxLen; simp; omega) (by rw [chgs_len]; simp; omega) hb1.size ?_); intro v4 w4 hown4 hg4 _; have hb4 := Own.grown (own_empty w _ 4 _ (Nat.le_refl _)) hb1 hg4 hb1.size)
    go_ret
    exact ⟨_, rfl, hown4, hb4⟩
end Go.Proofs.YtaafihdegnaokaaGreatDoor
