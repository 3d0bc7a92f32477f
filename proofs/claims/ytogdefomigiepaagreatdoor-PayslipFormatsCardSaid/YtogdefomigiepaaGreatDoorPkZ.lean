/- Contracts and plain facts that the laws of this seat share, part 26. -/
import Derived.Test.YtogdefomigiepaaGreatDoorPkB
import Derived.Test.YtogdefomigiepaaGreatDoorPkA
import Derived.Test.YtogdefomigiepaaGreatDoorPkW
import Derived.Deep.Slices
import Derived.ProofKit
import Derived.Test.YtogdefomigiepaaGreatDoorProg
import Derived.Test.YtogdefomigiepaaGreatDoorPkV
import Derived.Test.YtogdefomigiepaaGreatDoorRows
import Derived.LaidMore
import Derived.OpenShut
import Derived.Stop.Joined
set_option linter.unusedVariables false
set_option linter.unusedSimpArgs false
/- Contract of payslip.Compare. Written by gen_cmp.py. -/
namespace Go.Proofs.YtogdefomigiepaaGreatDoor
open Go.RowKit

def negL (l : List Ln) : List Ln := l.map fun x => ⟨x.kind, x.code, -x.amt⟩
theorem negL_len (l : List Ln) : (negL l).length = l.length := by simp [negL]
theorem negL_snoc (l : List Ln) (k : Nat) (h : k < l.length) : negL (l.take (k + 1)) = negL (l.take k) ++ [⟨l[k].kind, l[k].code, -l[k].amt⟩] := by
 unfold negL
 rw [List.take_succ_eq_append_getElem h, List.map_append]; rfl
theorem sums_app (l : List Ln) (x : Ln) : sumsT (l ++ [x]) = addT (sumsT l) x := by simp [sumsT, List.foldl_append]
def diffT (x y : List Ln) : List Ln := sumsT (negL x ++ y)
def cmpE (a b : List Ln) : Int := if mergeE a = 0 then (if mergeE b = 0 then colE (diffT (mergeL a) (mergeL b)) else mergeE b) else mergeE a
def cmpR (a b : List Ln) : List Ln := if mergeE a = 0 then (if mergeE b = 0 then colL (diffT (mergeL a) (mergeL b)) else []) else []
theorem merge_tot {l : List Ln} : ∀ x ∈ mergeL l, -1000000000000 ≤ x.amt ∧ x.amt ≤ 1000000000000 := by
 intro x hx
 unfold mergeL at hx
 split at hx
 ·unfold colL at hx
  split at hx
  ·rename_i hc
   rw [mem_srtLn, List.mem_filter] at hx
   unfold colE at hc
   split at hc
   ·rename_i ha
    have := List.all_eq_true.1 ha x hx.1
    simp [totB] at this; omega
   ·cases hc
  ·cases hx
 ·cases hx
theorem merge_len (l : List Ln) : (mergeL l).length ≤ 65536 := by
 unfold mergeL
 split
 ·rename_i h
  have hl : l.length ≤ 65536 := by
   unfold mergeE at h
   split at h
   ·assumption
   ·cases h
  unfold colL
  split
  ·rw [srtLn_len]
   exact Nat.le_trans (List.length_filter_le _ _) (Nat.le_trans (sumsT_len l) hl)
  ·simp
 ·simp
theorem amt_small {l : List Ln} (h : ∀ x ∈ l, -1000000000000 ≤ x.amt ∧ x.amt ≤ 1000000000000) (hl : l.length ≤ 1000000) (k : Int) (c : ByteArray) : -1000000000000000000 ≤ amtT (sumsT l) k c ∧ amtT (sumsT l) k c ≤ 1000000000000000000 := by
 rw [amt_sums]
 have := sumT_bound (by omega) h k c
 omega
theorem neg_small {l : List Ln} (h : ∀ x ∈ l, -1000000000000 ≤ x.amt ∧ x.amt ≤ 1000000000000) : ∀ x ∈ negL l, -1000000000000 ≤ x.amt ∧ x.amt ≤ 1000000000000 := by
 intro x hx
 obtain ⟨y, hy, rfl⟩ := List.mem_map.1 hx
 have := h y hy
 dsimp only
 omega

set_option maxRecDepth 100000 in
set_option maxHeartbeats 3200000 in
theorem Compare_any (u v : Value) (a b : List Ln) (w : World) (hu : Sl w 3 u (lns a)) (hv : Sl w 3 v (lns b)) :
  Calls Tryz.prog 17 #[u, v] w (RetOwn2 w 45 3 (lns (cmpR a b)) (cmpE a b)) := by
 have HV := Lib.hid hv
 clear hv
 have hmm := @run_makeMap Tryz.prog
 go_enter Tryz.func17, Tryz.ntmps17
 go_wp2_with fail
 refine (Merge_any u a w hu).mono ?_
 rintro e w1 ⟨xv, rfl, hown1, hb1⟩
 have hs1 := hb1.size
 by_cases h1 : mergeE a = 0
 rotate_left
 ·have HE : Hid (cmpE a b = mergeE a) := by rw [Hid, cmpE, if_neg h1]
  have HL : Hid (cmpR a b = []) := by rw [Hid, cmpR, if_neg h1]
  have hne : (mergeE a != 0) = true := by simpa using h1
  generalize mergeE a = E at *
  clear h1
  go_wp2_with fail
  go_ret2
  exact ⟨_, tup_int HE.out.symm, by rw [HL.out]; exact Own.nil _ _ _ _, hb1⟩
 have HE1 : Hid (cmpE a b = if mergeE b = 0 then colE (diffT (mergeL a) (mergeL b)) else mergeE b) := by rw [Hid, cmpE, if_pos h1]
 have HL1 : Hid (cmpR a b = if mergeE b = 0 then colL (diffT (mergeL a) (mergeL b)) else []) := by rw [Hid, cmpR, if_pos h1]
 rw [h1]
 clear h1
 go_wp2_with fail
 refine (Merge_any v b w1 (HV.out.below hb1)).mono ?_
 rintro e w2 ⟨yv, rfl, hown2, hb2⟩
 have hB2 := below_after hb1 hb2 hs1
 by_cases h2 : mergeE b = 0
 rotate_left
 ·have HE : Hid (cmpE a b = mergeE b) := by rw [Hid, HE1.out, if_neg h2]
  have HL : Hid (cmpR a b = []) := by rw [Hid, HL1.out, if_neg h2]
  have hne : (mergeE b != 0) = true := by simpa using h2
  generalize mergeE b = E at *
  clear h2 HE1 HL1
  go_wp2_with fail
  go_ret2
  exact ⟨_, tup_int HE.out.symm, by rw [HL.out]; exact Own.nil _ _ _ _, hB2⟩
 have HE2 : Hid (cmpE a b = colE (diffT (mergeL a) (mergeL b))) := by rw [Hid, HE1.out, if_pos h2]
 have HL2 : Hid (cmpR a b = colL (diffT (mergeL a) (mergeL b))) := by rw [Hid, HL1.out, if_pos h2]
 rw [h2]
 clear h2 HE1 HL1
 have hx1 := merge_tot (l := a)
 have hy1 := merge_tot (l := b)
 have hx2 := merge_len a
 have hy2 := merge_len b
 obtain ⟨X, hX⟩ : ∃ X, X = mergeL a := ⟨_, rfl⟩
 obtain ⟨Y, hY⟩ : ∃ Y, Y = mergeL b := ⟨_, rfl⟩
 rw [← hX] at hx1 hx2 hown1 HE2 HL2
 rw [← hY] at hy1 hy2 hown2 HE2 HL2
 have HX1 := Lib.hid hx1
 have HY1 := Lib.hid hy1
 have HSX := Lib.hid ((hown1.sl (by omega)).below hb2)
 have HSY := Lib.hid (hown2.sl (by omega))
 obtain ⟨A, ca, rfl⟩ := hown1.form
 obtain ⟨B, cb, rfl⟩ := hown2.form
 rw [lns_len] at HSX
 rw [lns_len] at HSY
 rw [lns_len, lns_len]
 clear hX hY hx1 hy1 hown1 hown2 hb1 hb2
 have hs2 := hB2.size
 go_wp2_with fail
 clear hmm

 go_loopw [33] (fun i wr => ∃ k : Nat, k ≤ X.length ∧ i = .int .i64 k ∧ Below w2.heap.size w2 wr ∧ Hid (wr.heap[w2.heap.size]? = some (tObj (sumsT (negL (X.take k)))))) (fun i _ => X.length - (intOf i).toNat)
 case atStart => exact ⟨0, by omega, rfl, (Below.refl _ _).alloc (Nat.le_refl _) _, heap_alloc_new w2 _⟩
 case round =>
  obtain ⟨k, hk, rfl, hb, HM⟩ := hrel
  have hbs := hb.size
  have hms := lt_of_some HM.out
  by_cases hlt : k < X.length
  ·obtain ⟨A', cap', hA, q1, q2, _, hc0⟩ := HSX.out
   injection hA with hA1 hA2 hA3
   subst hA1 hA3
   rcases hc0 with h | ⟨bb, off, rfl, hc0⟩
   ·exact (lns_pos hlt h).elim
   ·obtain ⟨c0, c1, c2⟩ := (hc0.below hb hc0.1).ln hlt
    unfold maxLen at q2
    rw [lns_len] at q1
    have hcm := amt_small (l := negL (X.take k)) (neg_small fun x hx => HX1.out x (List.mem_of_mem_take hx)) (by rw [negL_len, List.length_take]; omega) X[k].kind X[k].code
    have HS := Lib.hid (show sumsT (negL (X.take (k + 1))) = addT (sumsT (negL (X.take k))) ⟨X[k].kind, X[k].code, -X[k].amt⟩ by rw [negL_snoc X k hlt, sums_app])
    have ha := HX1.out X[k] (List.getElem_mem hlt)
    clear hc0 hA2
    go_wp2_with fail
    obtain ⟨w1, hw1⟩ : ∃ w1, w1 = wr.alloc (Obj.cells #[Value.int IntKind.i64 X[k].kind, Value.string X[k].code, Value.int IntKind.i64 X[k].amt] 45) := ⟨_, rfl⟩
    rw [← hw1]
    have hbw : Below wr.heap.size wr w1 := by rw [hw1]; exact (Below.refl _ _).alloc (Nat.le_refl _) _
    have hRw : Row w1 wr.heap.size 45 #[Value.int IntKind.i64 X[k].kind, Value.string X[k].code, Value.int IntKind.i64 X[k].amt] := by rw [hw1]; exact Row.new _ _ _
    obtain ⟨L0, hL0⟩ : ∃ L0, L0 = wr.heap.size := ⟨_, rfl⟩
    rw [← hL0] at hRw ⊢
    have k0 : w1.cell? ⟨L0, 0, none⟩ = some (.int .i64 X[k].kind) := hRw.cell 0
    have k1 : w1.cell? ⟨L0, 1, none⟩ = some (.string X[k].code) := hRw.cell 1
    have k2 : w1.cell? ⟨L0, 2, none⟩ = some (.int .i64 X[k].amt) := hRw.cell 2
    clear hw1 hL0 hRw c0 c1 c2
    have hm1 : w1.drew.heap[w2.heap.size]? = some (tObj (sumsT (negL (X.take k)))) := (hbw.block _ hms).trans HM.out
    have hL1 := run_lookup_title hm1 X[k].kind X[k].code
    obtain ⟨n, fs, hE, e1, hn1, hset, hat⟩ := run_entry_title hm1 X[k].kind X[k].code
    have hW2 : (setB w1.drew w2.heap.size (tObj fs)).heap[w2.heap.size]? = some (tObj fs) := setB_at (lt_of_some hm1)
    have hg2 : w1.drew.grownBy (setB w1.drew w2.heap.size (tObj fs)) (some w2.heap.size) := setB_grown
    generalize setB w1.drew w2.heap.size (tObj fs) = W2 at hE hW2 hg2
    have hL2 := run_lookup_title hW2 X[k].kind X[k].code
    rw [e1] at hL2
    have hS := run_store_title hW2 hn1 hat (amtT (sumsT (negL (X.take k))) X[k].kind X[k].code - X[k].amt) 103
    have hW3 : (setB W2 w2.heap.size (tObj (fs.set n ⟨X[k].kind, X[k].code, amtT (sumsT (negL (X.take k))) X[k].kind X[k].code - X[k].amt⟩))).heap[w2.heap.size]? = some (tObj (sumsT (negL (X.take (k + 1))))) := by
     rw [HS.out, addT]
     (try dsimp only)
     rw [← hset]; exact setB_at (lt_of_some hW2)
    have hg3 : W2.grownBy (setB W2 w2.heap.size (tObj (fs.set n ⟨X[k].kind, X[k].code, amtT (sumsT (negL (X.take k))) X[k].kind X[k].code - X[k].amt⟩))) (some w2.heap.size) := setB_grown
    generalize setB W2 w2.heap.size (tObj (fs.set n ⟨X[k].kind, X[k].code, amtT (sumsT (negL (X.take k))) X[k].kind X[k].code - X[k].amt⟩)) = W3 at hS hW3 hg3
    have hz1 : w2.heap.size ≤ w1.heap.size := Nat.le_trans hbs hbw.size
    have hz2 : w2.heap.size ≤ W2.heap.size := Nat.le_trans hz1 hg2.size
    have hB3 : Below w2.heap.size w2 W3 := ((below_after hb hbw hbs).drew.grown hg2 hz1 (fun k hk => by injection hk with hk; omega)).grown hg3 hz2 (fun k hk => by injection hk with hk; omega)
    have HW2 := Lib.hid hW2; have HW3 := Lib.hid hW3; have HM1 := Lib.hid hm1; have HSET := Lib.hid hset; have HAT := Lib.hid hat; have HEE := Lib.hid e1
    clear hW2 hW3 hm1 hset hat e1 HM
    generalize amtT (sumsT (negL (X.take k))) X[k].kind X[k].code = am at *
    go_region
    go_wp2_with fail
    go_roundw
    case rel => exact ⟨k + 1, by omega, by go_num, hB3, HW3⟩
    case measure => simp [intOf]; omega
  ·obtain rfl : k = X.length := by omega
   go_wp2_with fail
   go_loopw [52] (fun i wr => ∃ k : Nat, k ≤ Y.length ∧ i = .int .i64 k ∧ Below w2.heap.size w2 wr ∧ Hid (wr.heap[w2.heap.size]? = some (tObj (sumsT (negL X ++ Y.take k))))) (fun i _ => Y.length - (intOf i).toNat)
   case atStart => exact ⟨0, by omega, rfl, hb, (by have := HM.out; rw [List.take_length] at this; show wr.heap[w2.heap.size]? = _; simpa using this)⟩
   case round =>
    obtain ⟨k, hk, rfl, hb, HM⟩ := hrel
    have hbs := hb.size
    have hms := lt_of_some HM.out
    by_cases hlt : k < Y.length
    ·obtain ⟨A', cap', hA, q1, q2, _, hc0⟩ := HSY.out
     injection hA with hA1 hA2 hA3
     subst hA1 hA3
     rcases hc0 with h | ⟨bb, off, rfl, hc0⟩
     ·exact (lns_pos hlt h).elim
     ·obtain ⟨c0, c1, c2⟩ := (hc0.below hb hc0.1).ln hlt
      unfold maxLen at q2
      rw [lns_len] at q1
      have hcm := amt_small (l := negL X ++ Y.take k) (fun x hx => (List.mem_append.1 hx).elim (neg_small HX1.out x) (fun h => HY1.out x (List.mem_of_mem_take h))) (by rw [List.length_append, negL_len, List.length_take]; omega) Y[k].kind Y[k].code
      have HS := Lib.hid (show sumsT (negL X ++ Y.take (k + 1)) = addT (sumsT (negL X ++ Y.take k)) Y[k] by rw [List.take_succ_eq_append_getElem hlt, ← List.append_assoc, sums_app])
      have ha := HY1.out Y[k] (List.getElem_mem hlt)
      clear hc0 hA2
      go_wp2_with fail
      obtain ⟨w1, hw1⟩ : ∃ w1, w1 = wr.alloc (Obj.cells #[Value.int IntKind.i64 Y[k].kind, Value.string Y[k].code, Value.int IntKind.i64 Y[k].amt] 45) := ⟨_, rfl⟩
      rw [← hw1]
      have hbw : Below wr.heap.size wr w1 := by rw [hw1]; exact (Below.refl _ _).alloc (Nat.le_refl _) _
      have hRw : Row w1 wr.heap.size 45 #[Value.int IntKind.i64 Y[k].kind, Value.string Y[k].code, Value.int IntKind.i64 Y[k].amt] := by rw [hw1]; exact Row.new _ _ _
      obtain ⟨L0, hL0⟩ : ∃ L0, L0 = wr.heap.size := ⟨_, rfl⟩
      rw [← hL0] at hRw ⊢
      have k0 : w1.cell? ⟨L0, 0, none⟩ = some (.int .i64 Y[k].kind) := hRw.cell 0
      have k1 : w1.cell? ⟨L0, 1, none⟩ = some (.string Y[k].code) := hRw.cell 1
      have k2 : w1.cell? ⟨L0, 2, none⟩ = some (.int .i64 Y[k].amt) := hRw.cell 2
      clear hw1 hL0 hRw c0 c1 c2
      have hm1 : w1.drew.heap[w2.heap.size]? = some (tObj (sumsT (negL X ++ Y.take k))) := (hbw.block _ hms).trans HM.out
      have hL1 := run_lookup_title hm1 Y[k].kind Y[k].code
      obtain ⟨n, fs, hE, e1, hn1, hset, hat⟩ := run_entry_title hm1 Y[k].kind Y[k].code
      have hW2 : (setB w1.drew w2.heap.size (tObj fs)).heap[w2.heap.size]? = some (tObj fs) := setB_at (lt_of_some hm1)
      have hg2 : w1.drew.grownBy (setB w1.drew w2.heap.size (tObj fs)) (some w2.heap.size) := setB_grown
      generalize setB w1.drew w2.heap.size (tObj fs) = W2 at hE hW2 hg2
      have hL2 := run_lookup_title hW2 Y[k].kind Y[k].code
      rw [e1] at hL2
      have hS := run_store_title hW2 hn1 hat (amtT (sumsT (negL X ++ Y.take k)) Y[k].kind Y[k].code + Y[k].amt) 103
      have hW3 : (setB W2 w2.heap.size (tObj (fs.set n ⟨Y[k].kind, Y[k].code, amtT (sumsT (negL X ++ Y.take k)) Y[k].kind Y[k].code + Y[k].amt⟩))).heap[w2.heap.size]? = some (tObj (sumsT (negL X ++ Y.take (k + 1)))) := by
       rw [HS.out, addT]
       (try dsimp only)
       rw [← hset]; exact setB_at (lt_of_some hW2)
      have hg3 : W2.grownBy (setB W2 w2.heap.size (tObj (fs.set n ⟨Y[k].kind, Y[k].code, amtT (sumsT (negL X ++ Y.take k)) Y[k].kind Y[k].code + Y[k].amt⟩))) (some w2.heap.size) := setB_grown
      generalize setB W2 w2.heap.size (tObj (fs.set n ⟨Y[k].kind, Y[k].code, amtT (sumsT (negL X ++ Y.take k)) Y[k].kind Y[k].code + Y[k].amt⟩)) = W3 at hS hW3 hg3
      have hz1 : w2.heap.size ≤ w1.heap.size := Nat.le_trans hbs hbw.size
      have hz2 : w2.heap.size ≤ W2.heap.size := Nat.le_trans hz1 hg2.size
      have hB3 : Below w2.heap.size w2 W3 := ((below_after hb hbw hbs).drew.grown hg2 hz1 (fun k hk => by injection hk with hk; omega)).grown hg3 hz2 (fun k hk => by injection hk with hk; omega)
      have HW2 := Lib.hid hW2; have HW3 := Lib.hid hW3; have HM1 := Lib.hid hm1; have HSET := Lib.hid hset; have HAT := Lib.hid hat; have HEE := Lib.hid e1
      clear hW2 hW3 hm1 hset hat e1 HM
      generalize amtT (sumsT (negL X ++ Y.take k)) Y[k].kind Y[k].code = am at *
      go_region
      go_wp2_with fail
      go_roundw
      case rel => exact ⟨k + 1, by omega, by go_num, hB3, HW3⟩
      case measure => simp [intOf]; omega
    ·obtain rfl : k = Y.length := by omega
     have hBw := below_after hB2 hb hs2
     have HM' := HM.out
     rw [List.take_length] at HM'
     have HMM : Hid (wr.heap[w2.heap.size]? = some (tObj (diffT X Y))) := HM'
     clear HM HM'
     have hdl : (diffT X Y).length ≤ 1000000 := by
      have := sumsT_len (negL X ++ Y)
      rw [List.length_append, negL_len] at this
      unfold diffT; omega
     go_wp2_with (go_at_call 36; refine (collect_any _ _ _ HMM.out (sumsT_dist _) hdl).mono ?_; rintro e w5 ⟨x, rfl, hown5, hb5⟩)
     go_ret2
     exact ⟨_, tup_int HE2.out.symm, by rw [HL2.out]; exact hown5.more hBw.size, below_after hBw hb5 hBw.size⟩

end Go.Proofs.YtogdefomigiepaaGreatDoor
/- Contract of payrolllaw34.awake. -/
namespace Go.Proofs.YtogdefomigiepaaGreatDoor
open Go.RowKit Go.Shelf

def awA : List Ln := [⟨9, ⟨#[]⟩, 100⟩, ⟨6, ⟨#[]⟩, 20⟩]
def awB : List Ln := [⟨9, ⟨#[]⟩, 90⟩, ⟨4, ⟨#[97]⟩, 10⟩, ⟨6, ⟨#[]⟩, 20⟩]
theorem awC : cmpE awA awB = 0 ∧ cmpR awA awB = [⟨4, ⟨#[97]⟩, 10⟩, ⟨9, ⟨#[]⟩, -10⟩] := ⟨by kernel_rfl, by kernel_rfl⟩
def awS : Slp := ⟨0, 0, 0, 0, 0, -5, []⟩
theorem dec0 : Lib.decDigits 0 = [48] := by rw [Lib.decDigits]; rfl
theorem dec5 : Lib.decDigits 5 = [53] := by rw [Lib.decDigits]; rfl
theorem dec7 : Lib.decDigits 7 = [55] := by rw [Lib.decDigits]; rfl
theorem dec1 : Lib.decDigits 1 = [49] := by rw [Lib.decDigits]; rfl
theorem dec12 : Lib.decDigits 12 = [49, 50] := by
 rw [Lib.decDigits, dif_neg (by omega), show 12 / 10 = 1 from rfl, dec1]; rfl
theorem it0 : Lib.itoa 0 = [48] := dec0
theorem it7 : Lib.itoa 7 = [55] := dec7
theorem it12 : Lib.itoa 12 = [49, 50] := dec12
theorem itm5 : Lib.itoa (-5) = [45, 53] := by
 show 45 :: Lib.decDigits 5 = _
 rw [dec5]
theorem awE : slipE 7 12 awS = 0 := by kernel_rfl
theorem awT : formatT 7 12 awS = [112, 97, 121, 115, 108, 105, 112, 32, 55, 32, 112, 101, 114, 105, 111, 100, 32, 49, 50, 10, 98, 97, 115, 101, 115, 32, 48, 32, 48, 32, 48, 32, 48, 32, 48, 32, 108, 101, 103, 97, 108, 32, 45, 53, 10, 101, 110, 100, 10] := by
 rw [formatT, if_pos awE]
 simp only [textT, headT, basesT, linesT, awS, Slp.bs, List.map_cons, List.map_nil, it0, it7, it12, itm5]
 rfl

theorem Sl.row {w : World} {g sz : Nat} {t : TypeId} {cs : Array Value} (h : Row w g t cs) (hsz : 0 < sz) (es : List (List Value)) (hw : Wide sz es) (hcs : cs.toList = es.flatten) (hl : es.length ≤ maxLen) : Sl w sz (.slice (some ⟨g, 0, none⟩) es.length es.length) es := by
 refine ⟨_, es.length, rfl, Nat.le_refl _, hl, (fun h => by cases h), .inr ⟨g, 0, rfl, h.lt, fun i e hi j u hj => ?_⟩⟩
 have hjs : j < sz := by
  have h1 := (List.getElem?_eq_some_iff.1 hj).1
  have h2 := (hw e (List.mem_of_getElem? hi)).1
  omega
 rw [h.cell, Nat.zero_add]
 have h3 := hw.get hsz (i * sz + j)
 rw [show (i * sz + j) / sz = i by rw [Nat.mul_comm, Nat.mul_add_div hsz, Nat.div_eq_of_lt hjs]; rfl, show (i * sz + j) % sz = j by rw [Nat.mul_comm, Nat.mul_add_mod, Nat.mod_eq_of_lt hjs], hi] at h3
 rw [← hcs] at h3
 rw [← Array.getElem?_toList, h3]
 exact hj
theorem own_two {w : World} {base : Nat} {v : Value} {x y : Ln} (h : Own w base 45 3 v (lns [x, y])) : ∃ g cap, v = .slice (some ⟨g, 0, none⟩) 2 cap ∧ g < w.heap.size ∧ w.cell? ⟨g, 2, none⟩ = some (.int .i64 x.amt) ∧ w.cell? ⟨g, 5, none⟩ = some (.int .i64 y.amt) := by
 have hs := h.sl (by omega)
 rcases h.1.2 with ⟨_, h0⟩ | ⟨g, cap, cur, rfl, hb, hg, _⟩
 ·simp [lns] at h0
 ·obtain ⟨A, c, he, _, _, _, hc⟩ := hs
  injection he with e1 e2 e3
  rcases hc with hc | ⟨b, off, hA, hc⟩
  ·simp [lns] at hc
  ·rw [← e1] at hA
   injection hA with hA
   injection hA with hA1 hA2
   subst hA1 hA2
   exact ⟨g, cap, rfl, hc.1, hc.2 0 _ rfl 2 _ rfl, hc.2 1 _ rfl 2 _ rfl⟩

set_option maxRecDepth 100000 in
set_option maxHeartbeats 1600000 in
theorem awake34_any (w : World) (hT : Tabs w) (hW : Words w) : Calls Tryz.prog 7 #[] w fun e w' => e = .returned (.bool true) ∧ Below w.heap.size w w' := by
 have HT := Lib.hid hT
 have HW := Lib.hid hW
 clear hT hW
 go_enter Tryz.func7, Tryz.ntmps7
 go_wp2_with fail
 have hA := Row.new w 45 #[Value.int IntKind.i64 9, Value.string { data := #[] }, Value.int IntKind.i64 100, Value.int IntKind.i64 6, Value.string { data := #[] }, Value.int IntKind.i64 20]
 have hB := Row.new (w.alloc (Obj.cells #[Value.int IntKind.i64 9, Value.string { data := #[] }, Value.int IntKind.i64 100, Value.int IntKind.i64 6, Value.string { data := #[] }, Value.int IntKind.i64 20] 45)) 45 #[Value.int IntKind.i64 9, Value.string { data := #[] }, Value.int IntKind.i64 90, Value.int IntKind.i64 4, Value.string { data := #[97] }, Value.int IntKind.i64 10, Value.int IntKind.i64 6, Value.string { data := #[] }, Value.int IntKind.i64 20]
 have hA2 := hA.alloc (Obj.cells #[Value.int IntKind.i64 9, Value.string { data := #[] }, Value.int IntKind.i64 90, Value.int IntKind.i64 4, Value.string { data := #[97] }, Value.int IntKind.i64 10, Value.int IntKind.i64 6, Value.string { data := #[] }, Value.int IntKind.i64 20] 45)
 have hsz : (w.alloc (Obj.cells #[Value.int IntKind.i64 9, Value.string { data := #[] }, Value.int IntKind.i64 100, Value.int IntKind.i64 6, Value.string { data := #[] }, Value.int IntKind.i64 20] 45)).heap.size = w.heap.size + 1 := by simp
 rw [hsz] at hB
 have hSA := Lib.hid (Sl.row hA2 (by omega) (lns awA) (lns_wide _) rfl (by unfold maxLen; simp [lns, awA]))
 have hSB := Lib.hid (Sl.row hB (by omega) (lns awB) (lns_wide _) rfl (by unfold maxLen; simp [lns, awB]))
 clear hA hB hA2 hsz
 refine (Compare_any _ _ awA awB _ hSA.out hSB.out).mono ?_
 rintro e w1 ⟨x, rfl, hown1, hb1⟩
 rw [awC.1]
 rw [awC.2] at hown1
 have hB1 : Below w.heap.size w w1 := (((Below.refl _ w).alloc (Nat.le_refl _) _).alloc (by simp) _).trans (hb1.mono (by simp; omega))
 obtain ⟨g, cap, rfl, hg, q1, q2⟩ := own_two hown1
 have hs1 := hB1.size
 clear hSA hSB hb1 hown1
 go_wp2_with fail
 refine (Format_any 7 12 awS (.slice none 0 0) w1 (Sl.nil _ _) (HT.out.below hB1) (HW.out.below hB1) (fun x hx => by cases hx) ⟨by omega, by omega⟩).mono ?_
 rintro e w2 ⟨rfl, hb2⟩
 rw [awT, awE]
 have hB2 := below_after hB1 hb2 hs1
 obtain ⟨hc, -⟩ := bcell hb2
 have r1 : w2.cell? ⟨g, 2, none⟩ = some (.int .i64 10) := (hc g 2 hg).trans q1
 have r2 : w2.cell? ⟨g, 5, none⟩ = some (.int .i64 (-10)) := (hc g 5 hg).trans q2
 clear hc q1 q2 hb2 hB1
 go_wp2_with fail
 go_ret
 exact ⟨rfl, hB2⟩
end Go.Proofs.YtogdefomigiepaaGreatDoor
/- Opening a law's arguments: slices, numbers. -/
namespace Go.Proofs.YtogdefomigiepaaGreatDoor
open Go.ChangeShapes Go.WideShapes Go.ChangeAt Go.RowKit Go.Deep

section
variable {H : Type} {enc : TypeId × Value → H} {P : Program} {w : World} {base b0 : Nat} {spare : Nat → Bool} {held : Bool} {r : Reach}
theorem open_sl {α : Type} [Inhabited α] (f : α → List Value) {t e : TypeId} {sz : Nat} {v : Value} {d : DataW H} {ps : List MemPlace} (ht : P.underlying t = some (.slice e)) (hc : P.cellsOf e = sz) (hsz : 0 < sz)
  (hval : Value.okWide P w r b0 t v) (hd : DataW.Trod enc P w base spare held t v d ps) (hf : ∀ n cs y, DataW.trod enc P w base spare held n e cs = some y → ∃ x, cs = f x) :
  ∃ l : List α, Sl w sz v (l.map f) := by
 obtain ⟨A, len, cap, rfl⟩ := okWide_slice ht hval
 obtain ⟨fuel, hd⟩ := hd
 rcases open_slice ht hd with ⟨h0, _⟩ | ⟨a, len', cap', m, n, D, Pl, h0, hb, hl, hm, hmm, _, hx⟩
 ·simp [Value.cells] at h0
  obtain ⟨rfl, rfl, rfl⟩ := h0
  exact ⟨[], Sl.nil _ _⟩
 ·simp [Value.cells] at h0
  obtain ⟨rfl, rfl, rfl⟩ := h0
  have hlm : len ≤ m := by rw [hmm]; split <;> omega
  obtain ⟨V, hV⟩ := choose_lt (α := α) (n := len) (p := fun i x => w.cells? base (a.add (i * sz)) sz = some (f x)) (fun i hi => by
   obtain ⟨cs', h1, h2⟩ := hx i (by omega)
   obtain ⟨x, rfl⟩ := hf _ _ _ h2
   rw [hc] at h1
   exact ⟨x, h1⟩)
  refine ⟨(List.range len).map V, some a, cap, by simp, by simpa using hl, hm, (fun h => by cases h), ?_⟩
  by_cases hz : len = 0
  ·left; subst hz; rfl
  ·right
   have g0 := hV 0 (by omega)
   obtain ⟨_, hl0, hc0⟩ := World.cells?_some g0
   have h00 := hc0 0 hsz
   obtain ⟨u0, hu0⟩ : ∃ u, (f (V 0))[0]? = some u := ⟨_, List.getElem?_eq_getElem (by omega)⟩
   rw [hu0] at h00
   obtain ⟨b, off, spot⟩ := a
   have hspot : spot = none := by simpa [Addr.add] using World.cell?_spot h00
   subst hspot
   refine ⟨b, off, rfl, ?_, fun i x hi j u hj => ?_⟩
   ·rcases Nat.lt_or_ge b w.heap.size with hlt | hge
    ·exact hlt
    ·simp [Addr.add, World.cell?, Array.getElem?_eq_none hge] at h00
   ·simp only [List.getElem?_map, Option.map_eq_some_iff] at hi
    obtain ⟨y, ⟨k, hk, rfl⟩, rfl⟩ := hi
    obtain ⟨hi1, hi2⟩ := List.getElem?_eq_some_iff.1 hk
    simp only [List.length_range, List.getElem_range] at hi1 hi2
    subst hi2
    obtain ⟨_, hl1, hc1⟩ := World.cells?_some (hV i hi1)
    have hj1 : j < sz := by have := (List.getElem?_eq_some_iff.1 hj).1; omega
    have := hc1 j hj1
    rw [hj] at this
    rw [← this]
    congr 1
    by_cases q1 : i * sz = 0 <;> by_cases q2 : j = 0 <;> simp [Addr.add, q1, q2] <;> omega
end
section
variable {H : Type} {enc : TypeId × Value → H} {w : World} {base b0 : Nat} {spare : Nat → Bool} {held : Bool} {r : Reach}
set_option maxRecDepth 100000 in
theorem cellsInt : Tryz.prog.cellsOf 3 = 1 := by kernel_rfl
set_option maxRecDepth 100000 in
theorem open_intsL {v : Value} {d : DataW H} {ps : List MemPlace} (hval : Value.okWide Tryz.prog w r b0 22 v) (hd : DataW.Trod enc Tryz.prog w base spare held 22 v d ps) :
  ∃ zs : List Int, Sl w 1 v (ints zs) := by
 refine open_sl (fun z : Int => [.int .i64 z]) Tryz.underlying22 cellsInt (by omega) hval hd fun n cs y h => ?_
 obtain ⟨z, rfl, _⟩ := DataW.trod_int Tryz.underlying3 h
 exact ⟨z, rfl⟩
theorem field_ofL {fs : Array Field} {xs : List (DataW H × List MemPlace)} {m : Nat} {cs : List Value} (hlen : xs.length = fs.size) (hf : ∀ (i : Nat) (f : Field), fs[i]? = some f → DataW.trod enc Tryz.prog w base spare held m f.type ((cs.drop f.offset).take (Tryz.prog.cellsOf f.type)) = xs[i]?)
  (i : Nat) (t : TypeId) (off c : Nat) (h : (fs[i]?).map (fun f => (f.type, f.offset)) = some (t, off)) (hc : Tryz.prog.cellsOf t = c) : ∃ y, DataW.trod enc Tryz.prog w base spare held m t ((cs.drop off).take c) = some y := by
 obtain ⟨f, hi, he⟩ := Option.map_eq_some_iff.1 h
 injection he with h1 h2
 subst h1 h2 hc
 have hl : i < xs.length := by rw [hlen]; exact (Array.getElem?_eq_some_iff.1 hi).1
 exact ⟨xs[i], by rw [hf i f hi, List.getElem?_eq_getElem hl]⟩
end
theorem wf_in {n : Int} (h : (Lit.int .i64 n).wf = true) : -9223372036854775808 ≤ n ∧ n ≤ 9223372036854775807 := by
 simp only [Lit.wf, Bool.and_eq_true, decide_eq_true_eq] at h
 have e1 : IntKind.i64.min = -9223372036854775808 := rfl
 have e2 : IntKind.i64.max = 9223372036854775807 := rfl
 omega
end Go.Proofs.YtogdefomigiepaaGreatDoor
/- Opening a law's arguments: returns. -/
namespace Go.Proofs.YtogdefomigiepaaGreatDoor
open Go.ChangeShapes Go.WideShapes Go.ChangeAt Go.RowKit Go.Deep

section
variable {H : Type} {enc : TypeId × Value → H} {P : Program} {w : World} {base b0 : Nat} {spare : Nat → Bool} {held : Bool} {r : Reach}
theorem open_slc {α : Type} [Inhabited α] (f : α → List Value) {t e : TypeId} {sz fuel : Nat} {cs : List Value} {x : DataW H × List MemPlace} (ht : P.underlying t = some (.slice e)) (hc : P.cellsOf e = sz) (hsz : 0 < sz)
  (hd : DataW.trod enc P w base spare held fuel t cs = some x) (hf : ∀ n cs y, DataW.trod enc P w base spare held n e cs = some y → ∃ x, cs = f x) :
  ∃ v, ∃ l : List α, cs = [v] ∧ Sl w sz v (l.map f) := by
 rcases open_slice ht hd with ⟨rfl, _⟩ | ⟨a, len, cap, m, n, D, Pl, rfl, hb, hl, hm, hmm, _, hx⟩
 ·exact ⟨_, [], rfl, Sl.nil _ _⟩
 ·have hlm : len ≤ m := by rw [hmm]; split <;> omega
  obtain ⟨V, hV⟩ := choose_lt (α := α) (n := len) (p := fun i x => w.cells? base (a.add (i * sz)) sz = some (f x)) (fun i hi => by
   obtain ⟨cs', h1, h2⟩ := hx i (by omega)
   obtain ⟨x, rfl⟩ := hf _ _ _ h2
   rw [hc] at h1
   exact ⟨x, h1⟩)
  refine ⟨_, (List.range len).map V, rfl, some a, cap, by simp, by simpa using hl, hm, (fun h => by cases h), ?_⟩
  by_cases hz : len = 0
  ·left; subst hz; rfl
  ·right
   have g0 := hV 0 (by omega)
   obtain ⟨_, hl0, hc0⟩ := World.cells?_some g0
   have h00 := hc0 0 hsz
   obtain ⟨u0, hu0⟩ : ∃ u, (f (V 0))[0]? = some u := ⟨_, List.getElem?_eq_getElem (by omega)⟩
   rw [hu0] at h00
   obtain ⟨b, off, spot⟩ := a
   have hspot : spot = none := by simpa [Addr.add] using World.cell?_spot h00
   subst hspot
   refine ⟨b, off, rfl, ?_, fun i x hi j u hj => ?_⟩
   ·rcases Nat.lt_or_ge b w.heap.size with hlt | hge
    ·exact hlt
    ·simp [Addr.add, World.cell?, Array.getElem?_eq_none hge] at h00
   ·simp only [List.getElem?_map, Option.map_eq_some_iff] at hi
    obtain ⟨y, ⟨k, hk, rfl⟩, rfl⟩ := hi
    obtain ⟨hi1, hi2⟩ := List.getElem?_eq_some_iff.1 hk
    simp only [List.length_range, List.getElem_range] at hi1 hi2
    subst hi2
    obtain ⟨_, hl1, hc1⟩ := World.cells?_some (hV i hi1)
    have hj1 : j < sz := by have := (List.getElem?_eq_some_iff.1 hj).1; omega
    have := hc1 j hj1
    rw [hj] at this
    rw [← this]
    congr 1
    by_cases q1 : i * sz = 0 <;> by_cases q2 : j = 0 <;> simp [Addr.add, q1, q2] <;> omega
end
section
variable {H : Type} {enc : TypeId × Value → H} {w : World} {base b0 : Nat} {spare : Nat → Bool} {held : Bool} {r : Reach}
theorem cellsStr : Tryz.prog.cellsOf 9 = 1 := by kernel_rfl
instance : Inhabited Ln := ⟨⟨0, ⟨#[]⟩, 0⟩⟩
set_option maxRecDepth 100000 in
theorem open_ln {n : Nat} {cs : List Value} {y : DataW H × List MemPlace} (h : DataW.trod enc Tryz.prog w base spare held n 45 cs = some y) : ∃ p : Ln, cs = p.vals := by
 obtain ⟨xs, m, _, _, hl, hlen, hf⟩ := DataW.trod_struct Tryz.underlying45 h
 have hc2 : Tryz.prog.cellsOf 45 = 3 := by kernel_rfl
 have hl' : cs.length = 3 := hl.trans hc2
 match cs, hl' with
 | [c0, c1, c2], _ =>
  obtain ⟨y0, h0⟩ := field_ofL hlen hf 0 3 0 1 rfl cellsInt
  obtain ⟨y1, h1⟩ := field_ofL hlen hf 1 9 1 1 rfl cellsStr
  obtain ⟨y2, h2⟩ := field_ofL hlen hf 2 3 2 1 rfl cellsInt
  obtain ⟨a, e0, _⟩ := DataW.trod_int Tryz.underlying3 h0
  obtain ⟨s, e1, _⟩ := DataW.trod_string Tryz.underlying9 h1
  obtain ⟨b, e2, _⟩ := DataW.trod_int Tryz.underlying3 h2
  simp at e0 e1 e2
  subst e0 e1 e2
  exact ⟨⟨a, s, b⟩, rfl⟩
end
end Go.Proofs.YtogdefomigiepaaGreatDoor
/- Opening a law's arguments: payslips. -/
namespace Go.Proofs.YtogdefomigiepaaGreatDoor
open Go.ChangeShapes Go.WideShapes Go.ChangeAt Go.RowKit Go.Deep

section
variable {H : Type} {enc : TypeId × Value → H} {w : World} {base b0 : Nat} {spare : Nat → Bool} {held : Bool} {r : Reach}
set_option maxRecDepth 100000 in
theorem open_bas {n : Nat} {cs : List Value} {y : DataW H × List MemPlace} (h : DataW.trod enc Tryz.prog w base spare held n 24 cs = some y) : ∃ a b c d e : Int, cs = [.int .i64 a, .int .i64 b, .int .i64 c, .int .i64 d, .int .i64 e] := by
 obtain ⟨xs, m, _, _, hl, hlen, hf⟩ := DataW.trod_struct Tryz.underlying24 h
 have hc5 : Tryz.prog.cellsOf 24 = 5 := by kernel_rfl
 have hl' : cs.length = 5 := hl.trans hc5
 match cs, hl' with
 | [c0, c1, c2, c3, c4], _ =>
  obtain ⟨y0, h0⟩ := field_ofL hlen hf 0 3 0 1 rfl cellsInt
  obtain ⟨y1, h1⟩ := field_ofL hlen hf 1 3 1 1 rfl cellsInt
  obtain ⟨y2, h2⟩ := field_ofL hlen hf 2 3 2 1 rfl cellsInt
  obtain ⟨y3, h3⟩ := field_ofL hlen hf 3 3 3 1 rfl cellsInt
  obtain ⟨y4, h4⟩ := field_ofL hlen hf 4 3 4 1 rfl cellsInt
  obtain ⟨a, e0, _⟩ := DataW.trod_int Tryz.underlying3 h0
  obtain ⟨b, e1, _⟩ := DataW.trod_int Tryz.underlying3 h1
  obtain ⟨c, e2, _⟩ := DataW.trod_int Tryz.underlying3 h2
  obtain ⟨d, e3, _⟩ := DataW.trod_int Tryz.underlying3 h3
  obtain ⟨e, e4, _⟩ := DataW.trod_int Tryz.underlying3 h4
  simp at e0 e1 e2 e3 e4
  subst e0 e1 e2 e3 e4
  exact ⟨a, b, c, d, e, rfl⟩
set_option maxRecDepth 100000 in
theorem open_slip {v : Value} {d : DataW H} {ps : List MemPlace} (hval : Value.okWide Tryz.prog w r b0 27 v) (hd : DataW.Trod enc Tryz.prog w base spare held 27 v d ps) :
  ∃ f : Slp, ∃ u, v = .agg (f.vals u) ∧ Sl w 3 u (lns f.lines) := by
 obtain ⟨cs, rfl, hsz⟩ := okWide_struct Tryz.underlying27 hval
 obtain ⟨n, h⟩ := hd
 obtain ⟨xs, m, _, _, hl, hlen, hf⟩ := DataW.trod_struct Tryz.underlying27 h
 have hc7 : Tryz.prog.cellsOf 27 = 7 := by kernel_rfl
 have hc5 : Tryz.prog.cellsOf 24 = 5 := by kernel_rfl
 have hcS : Tryz.prog.cellsOf 25 = 1 := by kernel_rfl
 have hc2 : Tryz.prog.cellsOf 45 = 3 := by kernel_rfl
 obtain ⟨l⟩ := cs
 have hl' : l.length = 7 := hl.trans hc7
 match l, hl' with
 | [c0, c1, c2, c3, c4, c5, c6], _ =>
  obtain ⟨y0, h0⟩ := field_ofL hlen hf 0 24 0 5 rfl hc5
  obtain ⟨y1, h1⟩ := field_ofL hlen hf 1 3 5 1 rfl cellsInt
  obtain ⟨y2, h2⟩ := field_ofL hlen hf 2 25 6 1 rfl hcS
  obtain ⟨a, b, c, d, e, e0⟩ := open_bas h0
  obtain ⟨x, e1, _⟩ := DataW.trod_int Tryz.underlying3 h1
  obtain ⟨u, q, e2, hs⟩ := open_slc Ln.vals Tryz.underlying25 hc2 (by omega) h2 fun n cs y h => open_ln h
  simp [Value.cells] at e0 e1 e2
  obtain ⟨rfl, rfl, rfl, rfl, rfl⟩ := e0
  subst e1 e2
  exact ⟨⟨a, b, c, d, e, x, q⟩, c6, rfl, hs⟩
end
end Go.Proofs.YtogdefomigiepaaGreatDoor
/- An array of strings that is laid: its cells. -/
namespace Go.Proofs.YtogdefomigiepaaGreatDoor
open Go.ChangeShapes Go.WideShapes Go.ChangeAt Go.RowKit

theorem strs_cells {enc : TypeId × Value → Unit} {w : World} {base : Nat} {spare : Nat → Bool} {held : Bool} {t e : TypeId} {n : Nat} {fuel : Nat} {cs : List Value} {ts : List (List UInt8)} {p : List MemPlace} (ht : Tryz.prog.underlying t = some (.array n e)) (he : Tryz.prog.underlying e = some .string) (hce : Tryz.prog.cellsOf e = 1) (hct : Tryz.prog.cellsOf t = n)
  (h : DataW.trod enc Tryz.prog w base spare held fuel t cs = some (.agg (ts.map fun s => .lit (.string s)), p)) : cs = ts.map fun s => Value.string ⟨s.toArray⟩ := by
 cases fuel with
 | zero => simp [DataW.trod] at h
 | succ fuel =>
  simp only [DataW.trod, ht, hce, hct, Nat.mul_one] at h
  split at h
  ·rename_i hl
   obtain ⟨xs, hm, hx⟩ := Option.map_eq_some_iff.1 h
   have hxs : xs.map (·.1) = ts.map fun s => (DataW.lit (.string s) : DataW Unit) := by
    have := congrArg Prod.fst hx
    simpa using this
   have hxl : xs.length = n := by simpa using Lib.mapM_length hm
   have hzl : ts.length = n := by
    have := congrArg List.length hxs
    simp at this
    omega
   apply List.ext_getElem?
   intro i
   by_cases hi : i < n
   ·obtain ⟨b, hb, hf⟩ := Lib.mapM_at hm i i (by simp [hi])
    obtain ⟨c, hc, rfl, _⟩ := DataW.trod_string he hf
    have h1 : cs[i]? = some (.string c) := by
     have := congrArg (·[0]?) hc
     simpa [List.getElem?_take, List.getElem?_drop] using this
    have h2 : (xs.map (·.1))[i]? = some (DataW.lit (.string c.data.toList) : DataW Unit) := by simp [hb]
    rw [hxs] at h2
    simp only [List.getElem?_map, Option.map_eq_some_iff, DataW.lit.injEq, Lit.string.injEq] at h2
    obtain ⟨z', hz', hz2⟩ := h2
    rw [h1, List.getElem?_map, hz', hz2]
    rfl
   ·rw [List.getElem?_eq_none (by omega), List.getElem?_eq_none (by simp; omega)]
  ·cases h
end Go.Proofs.YtogdefomigiepaaGreatDoor
