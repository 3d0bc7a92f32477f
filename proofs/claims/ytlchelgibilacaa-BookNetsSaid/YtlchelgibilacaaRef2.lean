/- Contract of payrollref35.Add. -/
import Derived.Test.YtlchelgibilacaaRef1
namespace Go.Proofs.Ytlchelgibilacaa
open Go.RowKit

/-- an empty slice of the call's own that is not nil -/
theorem Own.empty (w : World) (base e sz n : Nat) (hb : base ≤ w.heap.size) (hn : w.heap.size = n) : Own (w.alloc (.cells #[] e)) base e sz (.slice (some ⟨n, 0, none⟩) 0 0) [] := by
  subst hn
  refine ⟨⟨by simp, .inr ⟨w.heap.size, 0, #[], rfl, hb, heap_alloc_new w _, Nat.le_refl _, Nat.zero_le _, by simp, by simp⟩⟩, Wide.nil sz⟩
/-- `append([]T{}, x...)` -/
theorem append_fresh {P : Program} {w w0 : World} {ops : Array Oper} {rest : List Oper} {o : Oper} {a : Act} {Q : Exit → Act → World → Prop} (hgd : o.guard = none) (s x : Operand) {t e : TypeId} {sz bytes : Nat}
    (ho : o.op = .call { callee := .builtin .append, args := #[s, x], argTypes := #[t, t] }) (hT : RowTy P t e sz bytes) (base : Nat)
    (u : Value) (fs : List (List Value)) (n : Nat) (hs : a.eval s = .slice (some ⟨n, 0, none⟩) 0 0) (hn : w.heap.size = n) (hB : base ≤ w.heap.size) (hb : Below base w0 w) (hx : a.eval x = u) (hsl : Sl w sz u fs) (hwd : Wide sz fs)
    (h63 : fs.length ≤ maxLen) (hbytes : fs.length * bytes ≤ 140737488355328)
    (h : ∀ v' w', Own w' base e sz v' fs → Below base w0 w' → wpList P ops Q rest (a.put o.dst v') w') : wpList P ops Q (o :: rest) a (w.alloc (.cells #[] e)) := by
  have hE := Own.empty w base e sz n hB hn
  have hB2 : base ≤ (w.alloc (.cells #[] e)).heap.size := by simp; omega
  refine wpList_append_sl hgd s x ho hT base _ u [] fs hs hE hx (hsl.below ((Below.refl _ _).alloc (Nat.le_refl _) _)) hwd (by simpa using h63) (by simpa using hbytes) hB2 ?_
  intro v' w' ho' hg _
  exact h v' w' ho' (Own.grown hE (hb.alloc hB _) hg hB2)
theorem book_append {l m : List Pst} (h : bookB l = true) (hv : validsB m = true) (hn : l.length + m.length ≤ 65536) : bookB (l ++ m) = ascB (l ++ m) := by
  simp only [bookB, Bool.and_eq_true] at h
  have e1 : validsB (l ++ m) = true := by
    have e2 := h.2.2
    rw [validsB] at *
    rw [List.all_append, hv, e2]; rfl
  rw [bookB, e1, List.length_append, decide_eq_true hn]; simp

set_option maxRecDepth 100000 in
set_option maxHeartbeats 1600000 in
theorem refAdd_any (v u : Value) (l m : List Pst) (w : World) (hv : Sl w 6 v (psts l)) (hu : Sl w 6 u (psts m)) (hm : m.length ≤ 1099511627776) :
    Calls Try.prog 23 #[v, u] w (RetOwn2 w 27 6 (psts (addL l m)) (addE l m)) := by
  have H1 := Lib.hid hv
  have H2 := Lib.hid hu
  obtain ⟨A, cap, rfl, h1, h2, x1, x2⟩ := hv
  obtain ⟨B, cup, rfl, k1, k2, x3, k3⟩ := hu
  have K3 := Lib.hid k3
  clear x1 x2 x3 k3
  rw [psts_len] at h1 H1 k1 H2
  rw [psts_len, psts_len]
  unfold maxLen at h2 k2
  cases hB : bookB l
  · have HE : Hid (addE l m = 1) := by simp [Hid, addE, hB]
    have HL : Hid (addL l m = []) := by simp [Hid, addL, HE.out]
    go_enter Try.func23, Try.ntmps23
    go_wp2_with (go_at_call 21; refine (refBook_any _ l _ H1.out).mono ?_; rintro e w1 ⟨rfl, hb1⟩)
    go_ret2
    exact ⟨_, tup_int HE.out.symm, by rw [HL.out]; exact Own.nil _ _ _ _, hb1⟩
  have hl0 : l.length ≤ 65536 := by simp [bookB] at hB; omega
  go_enter Try.func23, Try.ntmps23
  go_wp2_with (go_at_call 21; refine (refBook_any _ l _ H1.out).mono ?_; rintro e w1 ⟨rfl, hb1⟩; rw [hB])
  go_loopw [6] (fun i wr => ∃ k : Nat, k ≤ m.length ∧ i = .int .i64 k ∧ Below w.heap.size w wr ∧ Hid ((m.take k).all validB = true)) (fun i _ => m.length - (intOf i).toNat)
  case atStart => exact ⟨0, by omega, rfl, hb1, rfl⟩
  case round =>
    obtain ⟨k, hk, rfl, hb, HV⟩ := hrel
    by_cases hlt : k < m.length
    · rcases K3.out with h | ⟨b, off, rfl, hc0⟩
      · exact (psts_pos hlt h).elim
      · obtain ⟨c0, c1, c2, c3, c4, c5⟩ := (hc0.below hb hc0.1).pst hlt
        have hbs := hb.size
        clear K3 hc0
        cases hr : validB (m[k])
        · have HE : Hid (addE l m = 1) := by
            have : validsB m = false := by rw [validsB, List.all_eq_false]; exact ⟨m[k], List.getElem_mem hlt, by simp [hr]⟩
            simp [Hid, addE, this]
          go_wp2_with (go_at_call 20; refine (refValid_any _ _).mono ?_; rintro e w2 ⟨rfl, hb2⟩; rw [hr])
          go_ret2
          exact ⟨_, tup_int HE.out.symm, by rw [addL, HE.out]; exact Own.nil _ _ _ _, below_after hb hb2 hbs⟩
        · go_wp2_with (go_at_call 20; refine (refValid_any _ _).mono ?_; rintro e w2 ⟨rfl, hb2⟩; rw [hr])
          go_roundw
          case rel => exact ⟨k + 1, by omega, by go_num, below_after hb hb2 hbs, by
            show (m.take (k + 1)).all validB = true
            rw [List.take_succ_eq_append_getElem hlt, List.all_append, HV.out]; simp [hr]⟩
          case measure => simp [intOf]; omega
    · obtain rfl : k = m.length := by omega
      have hV : validsB m = true := by have := HV.out; rwa [List.take_length] at this
      have hbs := hb.size
      by_cases hlen : l.length + m.length ≤ 65536
      rotate_left
      · have HE : Hid (addE l m = 18) := by simp [Hid, addE, hV, hB, hlen]
        clear hV
        go_wp2
        go_ret2
        exact ⟨_, tup_int HE.out.symm, by rw [addL, HE.out]; exact Own.nil _ _ _ _, hb⟩
      have hbk := Lib.hid (book_append hB hV hlen)
      have hA : ∀ b, ascB (l ++ m) = b → Hid (addE l m = if b then 0 else 15) := fun b hb => by simp [Hid, addE, hV, hB, hlen, hb]
      clear hV
      have dl : decide ((65536 : Int) < (l.length : Int) + (m.length : Int)) = false := decide_eq_false (by omega)
      cases hasc : ascB (l ++ m)
      all_goals
        have HE := hA _ hasc
        clear hA
        have hbk2 := hbk.out
        rw [hasc] at hbk2
        have HBK := Lib.hid hbk2
        clear hbk2
        have HL1 := Lib.hid (show (psts l).length ≤ maxLen by rw [psts_len]; unfold maxLen; omega)
        have HL2 := Lib.hid (show (psts l).length * 56 ≤ 140737488355328 by rw [psts_len]; omega)
        have HL3 := Lib.hid (show (psts l).length + (psts m).length ≤ maxLen by rw [psts_len, psts_len]; unfold maxLen; omega)
        have HL4 := Lib.hid (show ((psts l).length + (psts m).length) * 56 ≤ 140737488355328 by rw [psts_len, psts_len]; omega)
        go_wp2_with (first
          | (at_builtin; refine append_fresh rfl (.tmp 29) (.tmp 30) rfl rowPst w.heap.size _ (psts l) _ rfl rfl hbs hb rfl (H1.out.below hb) (psts_wide l) HL1.out HL2.out ?_; intro v4 w4 hown4 hb4)
          | (at_builtin; refine wpList_append_sl rfl (.tmp 31) (.tmp 32) rfl rowPst w.heap.size _ _ _ (psts m) rfl hown4 rfl (H2.out.below hb4) (psts_wide m) HL3.out HL4.out hb4.size ?_; intro v5 w5 hown5 hg5 _; have hb5 := Own.grown hown4 hb4 hg5 hb4.size; rw [← psts_append] at hown5)
          | (go_at_call 21; refine (refBook_any _ (l ++ m) _ (Own.sl (by omega) hown5)).mono ?_; rintro e w6 ⟨rfl, hb6⟩; rw [HBK.out]))
        go_ret2
        first
          | exact ⟨_, tup_int HE.out.symm, by rw [addL, HE.out]; exact Own.nil _ _ _ _, below_after hb5 hb6 hb5.size⟩
          | exact ⟨_, tup_int HE.out.symm, by rw [addL, HE.out]; exact Own.kept hown5 hb6, below_after hb5 hb6 hb5.size⟩

end Go.Proofs.Ytlchelgibilacaa
