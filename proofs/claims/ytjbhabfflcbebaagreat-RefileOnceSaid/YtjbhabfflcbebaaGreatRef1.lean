/- Contracts of package payrollref35: Book, Same; payrollref32: Same; payrolllaw35: short. -/
import Derived.Test.YtjbhabfflcbebaaGreatBk2
import Derived.Test.YtjbhabfflcbebaaGreatSameL
import Derived.Test.YtjbhabfflcbebaaGreatExt
namespace Go.Proofs.YtjbhabfflcbebaaGreat
open Go.RowKit

/-- a book, read from the front -/
theorem book_no_valid {l : List Pst} {k : Nat} (h : k < l.length) (hv : validB l[k] = false) : bookB l = false := by
  rw [Bool.eq_false_iff]
  intro hh
  simp only [bookB, validsB, Bool.and_eq_true, List.all_eq_true] at hh
  have := hh.2.2 _ (List.getElem_mem h)
  rw [hv] at this; cases this
theorem book_no_asc {l : List Pst} {k : Nat} (h : k + 1 < l.length) (hv : l[k + 1].run < l[k].run) : bookB l = false := by
  rw [Bool.eq_false_iff]
  intro hh
  simp only [bookB, Bool.and_eq_true] at hh
  have := (ascB_iff l).1 hh.2.1 k h
  omega
theorem book_yes {l : List Pst} (hn : l.length ≤ 65536) (hv : (l.take l.length).all validB = true) (ha : ∀ j (h : j + 1 < l.length), (l[j]'(by omega)).run ≤ (l[j + 1]'h).run) : bookB l = true := by
  rw [List.take_length] at hv
  simp only [bookB, validsB, hv, (ascB_iff l).2 ha, decide_eq_true hn, Bool.and_self]

set_option maxRecDepth 100000 in
set_option maxHeartbeats 1600000 in
theorem refBook_any (v : Value) (l : List Pst) (w : World) (hv : Sl w 6 v (psts l)) :
    Calls Tryz.prog 33 #[v] w fun e w' => e = .returned (.bool (bookB l)) ∧ Below w.heap.size w w' := by
  obtain ⟨A, cap, rfl, h1, h2, x1, h3⟩ := hv
  rw [psts_len] at h1 ⊢
  unfold maxLen at h2
  have H3 := Lib.hid h3
  clear h3 x1
  by_cases hn : l.length ≤ 65536
  rotate_left
  · have H : Hid (bookB l = false) := by simp only [Hid, bookB, decide_eq_false hn, Bool.false_and]
    go_enter Tryz.func33, Tryz.ntmps33
    go_wp2
    go_ret
    exact ⟨ret_bool H.out.symm, Below.refl _ _⟩
  have dl : decide ((65536 : Int) < (l.length : Int)) = false := by simp; omega
  go_enter Tryz.func33, Tryz.ntmps33
  go_wp2
  go_loopw [3] (fun i wr => ∃ k : Nat, k ≤ l.length ∧ i = .int .i64 k ∧ Below w.heap.size w wr ∧ Hid ((l.take k).all validB = true) ∧ Hid (∀ j (h : j + 1 < l.length), j + 1 < k → (l[j]'(by omega)).run ≤ (l[j + 1]'h).run)) (fun i _ => l.length - (intOf i).toNat)
  case atStart => exact ⟨0, by omega, rfl, Below.refl _ _, rfl, fun j _ hj => absurd hj (by omega)⟩
  case round =>
    obtain ⟨k, hk, rfl, hb, HV, HA⟩ := hrel
    by_cases hlt : k < l.length
    · rcases H3.out with h | ⟨b, off, rfl, hc0⟩
      · exact (psts_pos hlt h).elim
      · obtain ⟨c0, c1, c2, c3, c4, c5⟩ := (hc0.below hb hc0.1).pst hlt
        have HC := Lib.hid hc0
        have hbs := hb.size
        have HSN : Hid (validB l[k] = true → (l.take (k + 1)).all validB = true) := fun hr => by
          rw [List.take_succ_eq_append_getElem hlt, List.all_append, HV.out]; simp [hr]
        clear H3 hc0 HV
        have hbl : b < wr.heap.size := Nat.lt_of_lt_of_le HC.out.1 hbs
        have e0 := ext_cell hbl c0
        have e1 := ext_cell hbl c1
        have e2 := ext_cell hbl c2
        have e3 := ext_cell hbl c3
        have e4 := ext_cell hbl c4
        have e5 := ext_cell hbl c5
        have hbx : ∀ x : Ext wr, Hid (Below w.heap.size w x.val) := fun x => hb.trans (x.property.mono hbs)
        cases hr : validB (l[k])
        · have HB := Lib.hid (book_no_valid hlt hr)
          have hcon : ∀ x : Ext wr, Calls Tryz.prog 48 #[.agg #[.int .i64 l[k].run, .int .i64 l[k].emp, .int .i64 l[k].per, .int .i64 l[k].ln.kind, .string l[k].ln.code, .int .i64 l[k].ln.amt]] x.val fun e w' => e = .returned (.bool false) ∧ Below x.val.heap.size x.val w' := fun x => by rw [← hr]; exact refValid_any _ _
          have HCON := Lib.hid hcon
          clear hcon
          go_wp2_with fail
          refine region_ext (by kernel_rfl) (by kernel_rfl) ?_
          repeat (go_big_quiet_step ((go_at_call 48; exact ext_call (HCON.out _))))
          refine wpQuiet_nil ?_
          rintro _ ⟨x, rfl⟩
          go_wp2
          go_ret
          exact ⟨ret_bool HB.out.symm, (hbx x).out⟩
        · have hcon : ∀ x : Ext wr, Calls Tryz.prog 48 #[.agg #[.int .i64 l[k].run, .int .i64 l[k].emp, .int .i64 l[k].per, .int .i64 l[k].ln.kind, .string l[k].ln.code, .int .i64 l[k].ln.amt]] x.val fun e w' => e = .returned (.bool true) ∧ Below x.val.heap.size x.val w' := fun x => by rw [← hr]; exact refValid_any _ _
          have HCON := Lib.hid hcon
          clear hcon
          by_cases h0 : k = 0
          · subst h0
            simp only [Nat.zero_mul, Nat.add_zero] at e0 e1 e2 e3 e4 e5
            go_wp2_with fail
            refine region_ext (by kernel_rfl) (by kernel_rfl) ?_
            repeat (go_big_quiet_step ((go_at_call 48; exact ext_call (HCON.out _))))
            refine wpQuiet_nil ?_
            rintro _ ⟨x, rfl⟩
            go_wp2
            go_roundw
            case rel => exact ⟨1, by omega, by go_num, (hbx x).out, HSN.out hr, fun j _ hj => absurd hj (by omega)⟩
            case measure => simp [intOf]; omega
          · obtain ⟨m, rfl⟩ : ∃ m, k = m + 1 := ⟨k - 1, by omega⟩
            have d0 : decide ((0 : Int) < ((m : Int) + 1)) = true := decide_eq_true (by omega)
            have p0 := ext_cell hbl ((HC.out.below hb HC.out.1).pst (k := m) (by omega)).1
            by_cases hrun : l[m + 1].run < l[m].run
            · have HB := Lib.hid (book_no_asc hlt hrun)
              go_wp2_with fail
              refine region_ext (by kernel_rfl) (by kernel_rfl) ?_
              repeat (go_big_quiet_step ((go_at_call 48; exact ext_call (HCON.out _))))
              refine wpQuiet_nil ?_
              rintro _ ⟨x, rfl⟩
              go_wp2
              go_ret
              exact ⟨ret_bool HB.out.symm, (hbx x).out⟩
            · have hrun' := Lib.hid hrun
              go_wp2_with fail
              refine region_ext (by kernel_rfl) (by kernel_rfl) ?_
              repeat (go_big_quiet_step ((go_at_call 48; exact ext_call (HCON.out _))))
              refine wpQuiet_nil ?_
              rintro _ ⟨x, rfl⟩
              go_wp2
              go_roundw
              case rel => exact ⟨m + 2, by omega, by go_num, (hbx x).out, HSN.out hr, fun j hj hjk => by
                by_cases e : j = m
                · subst e; have := hrun'.out; omega
                · exact HA.out j hj (by omega)⟩
              case measure => simp [intOf]; omega
    · go_wp2
      go_ret
      obtain rfl : k = l.length := by omega
      exact ⟨ret_bool (book_yes hn HV.out fun j h => HA.out j h h).symm, hb⟩

/-- few postings with short codes -/
def shortB (l : List Pst) : Bool := decide (l.length ≤ 40) && l.all fun p => decide (p.ln.code.size ≤ 60)
end Go.Proofs.YtjbhabfflcbebaaGreat
