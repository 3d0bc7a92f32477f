/- Contract of payslip.Compare. Written by gen_cmp.py. -/
import Derived.Test.YtljhdkdabiemmaaDoorSum
import Derived.Test.YtljhdkdabiemmaaDoorRow
namespace Go.Proofs.YtljhdkdabiemmaaDoor
open Go.RowKit

/-- the lines with the opposite amounts -/
def negL (l : List Ln) : List Ln := l.map fun x => ⟨x.kind, x.code, -x.amt⟩
theorem negL_len (l : List Ln) : (negL l).length = l.length := by simp [negL]
theorem negL_snoc (l : List Ln) (k : Nat) (h : k < l.length) : negL (l.take (k + 1)) = negL (l.take k) ++ [⟨l[k].kind, l[k].code, -l[k].amt⟩] := by
  unfold negL
  rw [List.take_succ_eq_append_getElem h, List.map_append]; rfl
theorem sums_app (l : List Ln) (x : Ln) : sumsT (l ++ [x]) = addT (sumsT l) x := by simp [sumsT, List.foldl_append]
/-- the sums of a comparison -/
def diffT (x y : List Ln) : List Ln := sumsT (negL x ++ y)
def cmpE (a b : List Ln) : Int := if mergeE a = 0 then (if mergeE b = 0 then colE (diffT (mergeL a) (mergeL b)) else mergeE b) else mergeE a
def cmpR (a b : List Ln) : List Ln := if mergeE a = 0 then (if mergeE b = 0 then colL (diffT (mergeL a) (mergeL b)) else []) else []
theorem merge_tot {l : List Ln} : ∀ x ∈ mergeL l, -1000000000000 ≤ x.amt ∧ x.amt ≤ 1000000000000 := by
  intro x hx
  unfold mergeL at hx
  split at hx
  · unfold colL at hx
    split at hx
    · rename_i hc
      rw [mem_srtLn, List.mem_filter] at hx
      unfold colE at hc
      split at hc
      · rename_i ha
        have := List.all_eq_true.1 ha x hx.1
        simp [totB] at this; omega
      · cases hc
    · cases hx
  · cases hx
theorem merge_len (l : List Ln) : (mergeL l).length ≤ 65536 := by
  unfold mergeL
  split
  · rename_i h
    have hl : l.length ≤ 65536 := by
      unfold mergeE at h
      split at h
      · assumption
      · cases h
    unfold colL
    split
    · rw [srtLn_len]
      exact Nat.le_trans (List.length_filter_le _ _) (Nat.le_trans (sumsT_len l) hl)
    · simp
  · simp
theorem amt_small {l : List Ln} (h : ∀ x ∈ l, -1000000000000 ≤ x.amt ∧ x.amt ≤ 1000000000000) (hl : l.length ≤ 1000000) (k : Int) (c : ByteArray) : -1000000000000000000 ≤ amtT (sumsT l) k c ∧ amtT (sumsT l) k c ≤ 1000000000000000000 := by
  rw [amt_sums]
  have := sumT_bound (by omega) h k c
  omega
theorem neg_small {l : List Ln} (h : ∀ x ∈ l, -1000000000000 ≤ x.amt ∧ x.amt ≤ 1000000000000) : ∀ x ∈ negL l, -1000000000000 ≤ x.amt ∧ x.amt ≤ 1000000000000 := by
  intro x hx
  obtain ⟨y, hy, rfl⟩ := List.mem_map.1 hx
  have := h y hy
  dsimp only
  omega

set_option maxRecDepth 100000 in
set_option maxHeartbeats 3200000 in
theorem Compare_any (u v : Value) (a b : List Ln) (w : World) (hu : Sl w 3 u (lns a)) (hv : Sl w 3 v (lns b)) :
    Calls Tryd.prog 10 #[u, v] w (RetOwn2 w 25 3 (lns (cmpR a b)) (cmpE a b)) := by
  have HV := Lib.hid hv
  clear hv
  have hmm := @run_makeMap Tryd.prog
  go_enter Tryd.func10, Tryd.ntmps10
  go_wp2_with fail
  refine (Merge_any u a w hu).mono ?_
  rintro e w1 ⟨xv, rfl, hown1, hb1⟩
  have hs1 := hb1.size
  by_cases h1 : mergeE a = 0
  rotate_left
  · have HE : Hid (cmpE a b = mergeE a) := by rw [Hid, cmpE, if_neg h1]
    have HL : Hid (cmpR a b = []) := by rw [Hid, cmpR, if_neg h1]
    have hne : (mergeE a != 0) = true := by simpa using h1
    generalize mergeE a = E at *
    clear h1
    go_wp2_with fail
    go_ret2
    exact ⟨_, tup_int HE.out.symm, by rw [HL.out]; exact Own.nil _ _ _ _, hb1⟩
  have HE1 : Hid (cmpE a b = if mergeE b = 0 then colE (diffT (mergeL a) (mergeL b)) else mergeE b) := by rw [Hid, cmpE, if_pos h1]
  have HL1 : Hid (cmpR a b = if mergeE b = 0 then colL (diffT (mergeL a) (mergeL b)) else []) := by rw [Hid, cmpR, if_pos h1]
  rw [h1]
  clear h1
  go_wp2_with fail
  refine (Merge_any v b w1 (HV.out.below hb1)).mono ?_
  rintro e w2 ⟨yv, rfl, hown2, hb2⟩
  have hB2 := below_after hb1 hb2 hs1
  by_cases h2 : mergeE b = 0
  rotate_left
  · have HE : Hid (cmpE a b = mergeE b) := by rw [Hid, HE1.out, if_neg h2]
    have HL : Hid (cmpR a b = []) := by rw [Hid, HL1.out, if_neg h2]
    have hne : (mergeE b != 0) = true := by simpa using h2
    generalize mergeE b = E at *
    clear h2 HE1 HL1
    go_wp2_with fail
    go_ret2
    exact ⟨_, tup_int HE.out.symm, by rw [HL.out]; exact Own.nil _ _ _ _, hB2⟩
  have HE2 : Hid (cmpE a b = colE (diffT (mergeL a) (mergeL b))) := by rw [Hid, HE1.out, if_pos h2]
  have HL2 : Hid (cmpR a b = colL (diffT (mergeL a) (mergeL b))) := by rw [Hid, HL1.out, if_pos h2]
  rw [h2]
  clear h2 HE1 HL1
  have hx1 := merge_tot (l := a)
  have hy1 := merge_tot (l := b)
  have hx2 := merge_len a
  have hy2 := merge_len b
  obtain ⟨X, hX⟩ : ∃ X, X = mergeL a := ⟨_, rfl⟩
  obtain ⟨Y, hY⟩ : ∃ Y, Y = mergeL b := ⟨_, rfl⟩
  rw [← hX] at hx1 hx2 hown1 HE2 HL2
  rw [← hY] at hy1 hy2 hown2 HE2 HL2
  have HX1 := Lib.hid hx1
  have HY1 := Lib.hid hy1
  have HSX := Lib.hid ((hown1.sl (by omega)).below hb2)
  have HSY := Lib.hid (hown2.sl (by omega))
  obtain ⟨A, ca, rfl⟩ := hown1.form
  obtain ⟨B, cb, rfl⟩ := hown2.form
  rw [lns_len] at HSX
  rw [lns_len] at HSY
  rw [lns_len, lns_len]
  clear hX hY hx1 hy1 hown1 hown2 hb1 hb2
  have hs2 := hB2.size
  go_wp2_with fail
  clear hmm

  go_loopw [33] (fun i wr => ∃ k : Nat, k ≤ X.length ∧ i = .int .i64 k ∧ Below w2.heap.size w2 wr ∧ Hid (wr.heap[w2.heap.size]? = some (tObj (sumsT (negL (X.take k)))))) (fun i _ => X.length - (intOf i).toNat)
  case atStart => exact ⟨0, by omega, rfl, (Below.refl _ _).alloc (Nat.le_refl _) _, heap_alloc_new w2 _⟩
  case round =>
    obtain ⟨k, hk, rfl, hb, HM⟩ := hrel
    have hbs := hb.size
    have hms := lt_of_some HM.out
    by_cases hlt : k < X.length
    · obtain ⟨A', cap', hA, q1, q2, _, hc0⟩ := HSX.out
      injection hA with hA1 hA2 hA3
      subst hA1 hA3
      rcases hc0 with h | ⟨bb, off, rfl, hc0⟩
      · exact (lns_pos hlt h).elim
      · obtain ⟨c0, c1, c2⟩ := (hc0.below hb hc0.1).ln hlt
        unfold maxLen at q2
        rw [lns_len] at q1
        have hcm := amt_small (l := negL (X.take k)) (neg_small fun x hx => HX1.out x (List.mem_of_mem_take hx)) (by rw [negL_len, List.length_take]; omega) X[k].kind X[k].code
        have HS := Lib.hid (show sumsT (negL (X.take (k + 1))) = addT (sumsT (negL (X.take k))) ⟨X[k].kind, X[k].code, -X[k].amt⟩ by rw [negL_snoc X k hlt, sums_app])
        have ha := HX1.out X[k] (List.getElem_mem hlt)
        clear hc0 hA2
        go_wp2_with fail
        obtain ⟨w1, hw1⟩ : ∃ w1, w1 = wr.alloc (Obj.cells #[Value.int IntKind.i64 X[k].kind, Value.string X[k].code, Value.int IntKind.i64 X[k].amt] 25) := ⟨_, rfl⟩
        rw [← hw1]
        have hbw : Below wr.heap.size wr w1 := by rw [hw1]; exact (Below.refl _ _).alloc (Nat.le_refl _) _
        have hRw : Row w1 wr.heap.size 25 #[Value.int IntKind.i64 X[k].kind, Value.string X[k].code, Value.int IntKind.i64 X[k].amt] := by rw [hw1]; exact Row.new _ _ _
        obtain ⟨L0, hL0⟩ : ∃ L0, L0 = wr.heap.size := ⟨_, rfl⟩
        rw [← hL0] at hRw ⊢
        have k0 : w1.cell? ⟨L0, 0, none⟩ = some (.int .i64 X[k].kind) := hRw.cell 0
        have k1 : w1.cell? ⟨L0, 1, none⟩ = some (.string X[k].code) := hRw.cell 1
        have k2 : w1.cell? ⟨L0, 2, none⟩ = some (.int .i64 X[k].amt) := hRw.cell 2
        clear hw1 hL0 hRw c0 c1 c2
        have hm1 : w1.drew.heap[w2.heap.size]? = some (tObj (sumsT (negL (X.take k)))) := (hbw.block _ hms).trans HM.out
        have hL1 := run_lookup_title hm1 X[k].kind X[k].code
        obtain ⟨n, fs, hE, e1, hn1, hset, hat⟩ := run_entry_title hm1 X[k].kind X[k].code
        have hW2 : (setB w1.drew w2.heap.size (tObj fs)).heap[w2.heap.size]? = some (tObj fs) := setB_at (lt_of_some hm1)
        have hg2 : w1.drew.grownBy (setB w1.drew w2.heap.size (tObj fs)) (some w2.heap.size) := setB_grown
        generalize setB w1.drew w2.heap.size (tObj fs) = W2 at hE hW2 hg2
        have hL2 := run_lookup_title hW2 X[k].kind X[k].code
        rw [e1] at hL2
        have hS := run_store_title hW2 hn1 hat (amtT (sumsT (negL (X.take k))) X[k].kind X[k].code - X[k].amt) 45
        have hW3 : (setB W2 w2.heap.size (tObj (fs.set n ⟨X[k].kind, X[k].code, amtT (sumsT (negL (X.take k))) X[k].kind X[k].code - X[k].amt⟩))).heap[w2.heap.size]? = some (tObj (sumsT (negL (X.take (k + 1))))) := by
          rw [HS.out, addT]
          (try dsimp only)
          rw [← hset]; exact setB_at (lt_of_some hW2)
        have hg3 : W2.grownBy (setB W2 w2.heap.size (tObj (fs.set n ⟨X[k].kind, X[k].code, amtT (sumsT (negL (X.take k))) X[k].kind X[k].code - X[k].amt⟩))) (some w2.heap.size) := setB_grown
        generalize setB W2 w2.heap.size (tObj (fs.set n ⟨X[k].kind, X[k].code, amtT (sumsT (negL (X.take k))) X[k].kind X[k].code - X[k].amt⟩)) = W3 at hS hW3 hg3
        have hz1 : w2.heap.size ≤ w1.heap.size := Nat.le_trans hbs hbw.size
        have hz2 : w2.heap.size ≤ W2.heap.size := Nat.le_trans hz1 hg2.size
        have hB3 : Below w2.heap.size w2 W3 := ((below_after hb hbw hbs).drew.grown hg2 hz1 (fun k hk => by injection hk with hk; omega)).grown hg3 hz2 (fun k hk => by injection hk with hk; omega)
        have HW2 := Lib.hid hW2; have HW3 := Lib.hid hW3; have HM1 := Lib.hid hm1; have HSET := Lib.hid hset; have HAT := Lib.hid hat; have HEE := Lib.hid e1
        clear hW2 hW3 hm1 hset hat e1 HM
        generalize amtT (sumsT (negL (X.take k))) X[k].kind X[k].code = am at *
        go_region
        go_wp2_with fail
        go_roundw
        case rel => exact ⟨k + 1, by omega, by go_num, hB3, HW3⟩
        case measure => simp [intOf]; omega
    · obtain rfl : k = X.length := by omega
      go_wp2_with fail
      go_loopw [52] (fun i wr => ∃ k : Nat, k ≤ Y.length ∧ i = .int .i64 k ∧ Below w2.heap.size w2 wr ∧ Hid (wr.heap[w2.heap.size]? = some (tObj (sumsT (negL X ++ Y.take k))))) (fun i _ => Y.length - (intOf i).toNat)
      case atStart => exact ⟨0, by omega, rfl, hb, (by have := HM.out; rw [List.take_length] at this; show wr.heap[w2.heap.size]? = _; simpa using this)⟩
      case round =>
        obtain ⟨k, hk, rfl, hb, HM⟩ := hrel
        have hbs := hb.size
        have hms := lt_of_some HM.out
        by_cases hlt : k < Y.length
        · obtain ⟨A', cap', hA, q1, q2, _, hc0⟩ := HSY.out
          injection hA with hA1 hA2 hA3
          subst hA1 hA3
          rcases hc0 with h | ⟨bb, off, rfl, hc0⟩
          · exact (lns_pos hlt h).elim
          · obtain ⟨c0, c1, c2⟩ := (hc0.below hb hc0.1).ln hlt
            unfold maxLen at q2
            rw [lns_len] at q1
            have hcm := amt_small (l := negL X ++ Y.take k) (fun x hx => (List.mem_append.1 hx).elim (neg_small HX1.out x) (fun h => HY1.out x (List.mem_of_mem_take h))) (by rw [List.length_append, negL_len, List.length_take]; omega) Y[k].kind Y[k].code
            have HS := Lib.hid (show sumsT (negL X ++ Y.take (k + 1)) = addT (sumsT (negL X ++ Y.take k)) Y[k] by rw [List.take_succ_eq_append_getElem hlt, ← List.append_assoc, sums_app])
            have ha := HY1.out Y[k] (List.getElem_mem hlt)
            clear hc0 hA2
            go_wp2_with fail
            obtain ⟨w1, hw1⟩ : ∃ w1, w1 = wr.alloc (Obj.cells #[Value.int IntKind.i64 Y[k].kind, Value.string Y[k].code, Value.int IntKind.i64 Y[k].amt] 25) := ⟨_, rfl⟩
            rw [← hw1]
            have hbw : Below wr.heap.size wr w1 := by rw [hw1]; exact (Below.refl _ _).alloc (Nat.le_refl _) _
            have hRw : Row w1 wr.heap.size 25 #[Value.int IntKind.i64 Y[k].kind, Value.string Y[k].code, Value.int IntKind.i64 Y[k].amt] := by rw [hw1]; exact Row.new _ _ _
            obtain ⟨L0, hL0⟩ : ∃ L0, L0 = wr.heap.size := ⟨_, rfl⟩
            rw [← hL0] at hRw ⊢
            have k0 : w1.cell? ⟨L0, 0, none⟩ = some (.int .i64 Y[k].kind) := hRw.cell 0
            have k1 : w1.cell? ⟨L0, 1, none⟩ = some (.string Y[k].code) := hRw.cell 1
            have k2 : w1.cell? ⟨L0, 2, none⟩ = some (.int .i64 Y[k].amt) := hRw.cell 2
            clear hw1 hL0 hRw c0 c1 c2
            have hm1 : w1.drew.heap[w2.heap.size]? = some (tObj (sumsT (negL X ++ Y.take k))) := (hbw.block _ hms).trans HM.out
            have hL1 := run_lookup_title hm1 Y[k].kind Y[k].code
            obtain ⟨n, fs, hE, e1, hn1, hset, hat⟩ := run_entry_title hm1 Y[k].kind Y[k].code
            have hW2 : (setB w1.drew w2.heap.size (tObj fs)).heap[w2.heap.size]? = some (tObj fs) := setB_at (lt_of_some hm1)
            have hg2 : w1.drew.grownBy (setB w1.drew w2.heap.size (tObj fs)) (some w2.heap.size) := setB_grown
            generalize setB w1.drew w2.heap.size (tObj fs) = W2 at hE hW2 hg2
            have hL2 := run_lookup_title hW2 Y[k].kind Y[k].code
            rw [e1] at hL2
            have hS := run_store_title hW2 hn1 hat (amtT (sumsT (negL X ++ Y.take k)) Y[k].kind Y[k].code + Y[k].amt) 45
            have hW3 : (setB W2 w2.heap.size (tObj (fs.set n ⟨Y[k].kind, Y[k].code, amtT (sumsT (negL X ++ Y.take k)) Y[k].kind Y[k].code + Y[k].amt⟩))).heap[w2.heap.size]? = some (tObj (sumsT (negL X ++ Y.take (k + 1)))) := by
              rw [HS.out, addT]
              (try dsimp only)
              rw [← hset]; exact setB_at (lt_of_some hW2)
            have hg3 : W2.grownBy (setB W2 w2.heap.size (tObj (fs.set n ⟨Y[k].kind, Y[k].code, amtT (sumsT (negL X ++ Y.take k)) Y[k].kind Y[k].code + Y[k].amt⟩))) (some w2.heap.size) := setB_grown
            generalize setB W2 w2.heap.size (tObj (fs.set n ⟨Y[k].kind, Y[k].code, amtT (sumsT (negL X ++ Y.take k)) Y[k].kind Y[k].code + Y[k].amt⟩)) = W3 at hS hW3 hg3
            have hz1 : w2.heap.size ≤ w1.heap.size := Nat.le_trans hbs hbw.size
            have hz2 : w2.heap.size ≤ W2.heap.size := Nat.le_trans hz1 hg2.size
            have hB3 : Below w2.heap.size w2 W3 := ((below_after hb hbw hbs).drew.grown hg2 hz1 (fun k hk => by injection hk with hk; omega)).grown hg3 hz2 (fun k hk => by injection hk with hk; omega)
            have HW2 := Lib.hid hW2; have HW3 := Lib.hid hW3; have HM1 := Lib.hid hm1; have HSET := Lib.hid hset; have HAT := Lib.hid hat; have HEE := Lib.hid e1
            clear hW2 hW3 hm1 hset hat e1 HM
            generalize amtT (sumsT (negL X ++ Y.take k)) Y[k].kind Y[k].code = am at *
            go_region
            go_wp2_with fail
            go_roundw
            case rel => exact ⟨k + 1, by omega, by go_num, hB3, HW3⟩
            case measure => simp [intOf]; omega
        · obtain rfl : k = Y.length := by omega
          have hBw := below_after hB2 hb hs2
          have HM' := HM.out
          rw [List.take_length] at HM'
          have HMM : Hid (wr.heap[w2.heap.size]? = some (tObj (diffT X Y))) := HM'
          clear HM HM'
          have hdl : (diffT X Y).length ≤ 1000000 := by
            have := sumsT_len (negL X ++ Y)
            rw [List.length_append, negL_len] at this
            unfold diffT; omega
          go_wp2_with (go_at_call 23; refine (collect_any _ _ _ HMM.out (sumsT_dist _) hdl).mono ?_; rintro e w5 ⟨x, rfl, hown5, hb5⟩)
          go_ret2
          exact ⟨_, tup_int HE2.out.symm, by rw [HL2.out]; exact hown5.more hBw.size, below_after hBw hb5 hBw.size⟩

end Go.Proofs.YtljhdkdabiemmaaDoor
