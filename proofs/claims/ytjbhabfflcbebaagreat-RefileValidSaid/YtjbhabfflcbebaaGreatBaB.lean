/- Contracts and plain facts that the laws of this seat share, part 2. -/
import Derived.Test.YtjbhabfflcbebaaGreatBaA
import Derived.ArgAppend
import Derived.Test.YtjbhabfflcbebaaGreatSum
import Derived.Test.YtjbhabfflcbebaaGreatBk3
import Derived.Test.YtjbhabfflcbebaaGreatPut
import Derived.Sort.Walk0
import Derived.IntWalk
import Derived.Test.YtjbhabfflcbebaaGreatKit
import Derived.Test.YtjbhabfflcbebaaGreatGen0
import Derived.Test.YtjbhabfflcbebaaGreatGb
import Derived.Deep.Slices
import Derived.ProofKit
import Derived.Test.YtjbhabfflcbebaaGreatProg
import Derived.OpenShut
/- refile.File. Written by gen_rv8.py. -/
namespace Go.Proofs.YtjbhabfflcbebaaGreat
open Go.RowKit Go.Shelf Go.Maps

theorem CellsAt.int {w : World} {b off : Nat} {l : List Int} (h : CellsAt w 1 b off (ints l)) {k : Nat} (hk : k < l.length) : w.cell? ⟨b, off + k, none⟩ = some (.int .i64 l[k]) := by
  have e : (ints l)[k]? = some [.int .i64 l[k]] := by simp [ints, hk]
  have := h.2 k _ e 0 _ rfl
  simpa using this
theorem row6 {w : World} {g : Nat} {t : TypeId} {a b c d e f : Value} (h : Row w g t #[a, b, c, d, e, f]) : w.cell? ⟨g, 0, none⟩ = some a ∧ w.cell? ⟨g, 1, none⟩ = some b ∧ w.cell? ⟨g, 2, none⟩ = some c ∧ w.cell? ⟨g, 3, none⟩ = some d ∧ w.cell? ⟨g, 4, none⟩ = some e ∧ w.cell? ⟨g, 5, none⟩ = some f ∧ g < w.heap.size :=
  ⟨h.cell 0, h.cell 1, h.cell 2, h.cell 3, h.cell 4, h.cell 5, h.lt⟩
theorem mapip_ty : Tryz.prog.underlying 67 = some (.map 3 40) := Tryz.underlying67
theorem zero_ps (w : World) : (zeroValue 40).run Tryz.prog w = .ok (.slice none 0 0) w := by kernel_rfl
/-- the call returns the returns that are filed, or an error -/
def FilePost (l : List Ret) (b : List Pst) (w : World) (e : Ending) (w' : World) : Prop :=
  ∃ x qs, e = .returned (.tuple #[x, .int .i64 (fileE l b)]) ∧ qs.map (·.1) = fileR l b ∧ RetsOwn w' w.heap.size x qs ∧ Below w.heap.size w w'
theorem RetsOwn.nil (w : World) (base : Nat) : RetsOwn w base (.slice none 0 0) [] := ⟨Own.nil _ _ _ _, fun p hp => by cases hp⟩
theorem RetsAt.nil (w : World) : RetsAt w (.slice none 0 0) [] := ⟨Sl.nil _ _, fun p hp => by cases hp⟩
theorem per_in {p : Pst} (h : validB p = true) : 0 ≤ p.per ∧ p.per ≤ 84005 := by
  simp only [validB, Bool.and_eq_true, decide_eq_true_eq] at h
  omega
theorem persOf_len (b : List Pst) : (persOf b).length ≤ b.length := by
  have := asI_len (b.map (·.per))
  rw [List.length_map] at this
  exact this
theorem Sl.oneAt {w : World} {sz n cap b off : Nat} {es : List (List Value)} (h : Sl w sz (.slice (some ⟨b, off, none⟩) n cap) es) {j : Nat} (hj : j < es.length) : Sl w sz (.slice (some ⟨b, off + j * sz, none⟩) 1 (cap - j)) [es[j]] := by
  obtain ⟨A', cap', hv, h1, h2, h0, hc⟩ := h
  injection hv with hv1 hv2 hv3
  subst hv1 hv2 hv3
  refine ⟨_, _, rfl, by simp only [List.length_cons, List.length_nil]; omega, by omega, by simp, .inr ⟨_, _, rfl, ?_⟩⟩
  rcases hc with rfl | ⟨b', off', hA, hc⟩
  · simp at hj
  · injection hA with hA
    injection hA with e1 e2
    subst e1 e2
    refine ⟨hc.1, fun i e hi k u hk => ?_⟩
    cases i with
    | zero =>
      have := hc.2 j es[j] (by simp) k u (by
        have : es[j] = e := by simpa using hi
        rw [this]; exact hk)
      rw [Nat.zero_mul, Nat.add_zero]
      exact this
    | succ i => simp at hi
set_option maxRecDepth 100000 in
set_option maxHeartbeats 16000000 in
theorem RFile_any (ps : List (Ret × Value)) (b : List Pst) (v u : Value) (w : World) (hv : RetsAt w v ps) (hl : ∀ q ∈ ps, q.1.l.length ≤ 65536) (hlen : ps.length ≤ 60000) (hu : Sl w 6 u (psts b)) :
    Calls Tryz.prog 19 #[v, u] w (FilePost (ps.map (·.1)) b w) := by
  have HV := Lib.hid hv
  have HU := Lib.hid hu
  have HL := Lib.hid hl
  have HVC := Lib.hid (RValid_any ps v w hv hl)
  have HBC := Lib.hid (fun W h => Book_any u b W (Sl.below (w' := W) hu h))
  have HVI := Lib.hid (valid_iff (ps.map (·.1)))
  obtain ⟨A, cap, rfl, h1, h2, _, _⟩ := hv.sl
  obtain ⟨Au, cu, rfl, hu1, hu2, _, _⟩ := hu
  rw [rets_len] at h1 HV HVC ⊢
  rw [psts_len] at hu1 HU HBC ⊢
  unfold maxLen at h2 hu2
  have HLE : Hid ((ps.map (·.1)).length = ps.length) := by rw [Hid, List.length_map]
  have HLX : Hid (∀ (j : Nat) (h : j < (ps.map (·.1)).length) (h' : j < ps.length), (ps.map (·.1))[j] = (ps[j]'h').1) := fun j h h' => by rw [List.getElem_map]
  obtain ⟨L, hL⟩ : ∃ L, ps.map (·.1) = L := ⟨_, rfl⟩
  rw [hL] at HLE HLX HVC HVI ⊢
  have HFR : Hid (fileR L b = if validRs L && bookB b then filedF L b (persOf b) else []) := rfl
  have HFE : Hid (fileE L b = if validRs L && bookB b then 0 else 1) := rfl
  clear hL hl hv
  have hmm := @run_makeMap Tryz.prog
  cases hvr : validRs L
  · rw [hvr] at HVC HFR HFE
    have HE : Hid (fileR L b = [] ∧ fileE L b = 1) := ⟨by rw [HFR.out]; rfl, by rw [HFE.out]; rfl⟩
    clear hvr HVI
    go_enter Tryz.func19, Tryz.ntmps19
    go_wp2_with fail
    refine HVC.out.mono ?_
    rintro e w1 ⟨rfl, hb1⟩
    have HB1 := Lib.hid hb1
    clear hb1
    go_wp2
    go_ret2
    exact ⟨_, [], tup_int HE.out.2.symm, by rw [HE.out.1]; rfl, RetsOwn.nil _ _, HB1.out⟩
  cases hbk : bookB b
  · rw [hvr] at HVC HFR HFE
    rw [hbk] at HBC HFR HFE
    have HE : Hid (fileR L b = [] ∧ fileE L b = 1) := ⟨by rw [HFR.out]; rfl, by rw [HFE.out]; rfl⟩
    clear hvr HVI hbk
    go_enter Tryz.func19, Tryz.ntmps19
    go_wp2_with fail
    refine HVC.out.mono ?_
    rintro e w1 ⟨rfl, hb1⟩
    go_wp2_with fail
    refine (HBC.out w1 hb1).mono ?_
    rintro e w2 ⟨rfl, hb2⟩
    have HB2 := Lib.hid (below_after hb1 hb2 hb1.size)
    clear hb1 hb2
    go_wp2
    go_ret2
    exact ⟨_, [], tup_int HE.out.2.symm, by rw [HE.out.1]; rfl, RetsOwn.nil _ _, HB2.out⟩
  have hvp := HVI.out.1 hvr
  rw [HLE.out] at hvp
  have HVP := Lib.hid hvp
  have HVER : Hid (∀ p, 0 ≤ verP L p ∧ verP L p ≤ 65536) := fun p => by
    have h := (HVI.out.1 hvr).ver (Nat.le_refl _) p
    rw [List.take_length, HLE.out] at h
    omega
  have HBV := Lib.hid (fun k hk => book_valid hbk k hk)
  have hblen := book_len hbk
  have HLP := Lib.hid (fun p => linesOf_per hbk p)
  rw [hvr, hbk] at HFR HFE
  have HE : Hid (fileR L b = filedF L b (persOf b) ∧ fileE L b = 0) := ⟨HFR.out, HFE.out⟩
  rw [hvr] at HVC
  rw [hbk] at HBC
  clear hvr hbk hvp HVI HFR HFE
  go_enter Tryz.func19, Tryz.ntmps19
  go_wp2_with fail
  refine HVC.out.mono ?_
  rintro e w1 ⟨rfl, hb1⟩
  go_wp2_with fail
  refine (HBC.out w1 hb1).mono ?_
  rintro e w2 ⟨rfl, hb2⟩
  have hB2 := below_after hb1 hb2 hb1.size
  clear hb1 hb2 HVC HBC
  go_wp2
  have hb3 := hB2.alloc hB2.size (.map #[] 0)
  have hm3 : (w2.alloc (.map #[] 0)).heap[w2.heap.size]? = some (iObj []) := heap_alloc_new w2 _
  have hw2 := hB2.size
  obtain ⟨w3, hw3⟩ : ∃ w3, w2.alloc (.map #[] 0) = w3 := ⟨_, rfl⟩
  rw [hw3] at hb3 hm3 ⊢
  obtain ⟨M1, hM1⟩ : ∃ M, w2.heap.size = M := ⟨_, rfl⟩
  have hM1w : w.heap.size ≤ M1 := by omega
  rw [hM1] at hm3 ⊢
  have H3 := Lib.hid (And.intro hb3 hm3)
  clear hw3 hM1 hb3 hm3 hB2 hw2
  go_loopw [31] (fun i wr => ∃ (k : Nat) (es : List (Int × Value)), k ≤ ps.length ∧ i = .int .i64 k ∧ Hid (Below w.heap.size w wr ∧ wr.heap[M1]? = some (iObj es)) ∧ Hid (IdxOk L k es)) (fun i _ => ps.length - (intOf i).toNat)
  case atStart => exact ⟨0, [], by omega, rfl, H3.out, IdxOk.zero L⟩
  case round =>
    clear H3
    obtain ⟨k, es, hk, rfl, HB, HK⟩ := hrel
    obtain ⟨wo, rfl⟩ : ∃ wo : World, wo = wr := ⟨_, rfl⟩
    by_cases hlt : k < ps.length
    · have hltL : k < L.length := by rw [HLE.out]; exact hlt
      obtain ⟨bk, off, rfl, hc⟩ := (HV.out.below HB.out.1).sl.cells (by rw [rets_len]; omega)
      obtain ⟨c0, c1, c2⟩ := hc.ret hlt
      have i1 : (k : Int) < (ps.length : Int) := by omega
      have HIS := Lib.hid (HK.out.succ hltL)
      rw [HLX.out k hltL hlt] at HIS
      have hxis := (HV.out.ln _ (List.getElem_mem hlt)).is
      obtain ⟨⟨X, xv⟩, hx⟩ : ∃ x, ps[k] = x := ⟨_, rfl⟩
      rw [hx] at c0 c1 c2 HIS hxis
      obtain ⟨Ax, nx, cx, rfl⟩ := hxis
      obtain ⟨q, qv, ql⟩ := X
      simp only at c0 c1 c2 HIS
      clear hx hc
      have hs := HB.out.1.size
      have ha := HB.out.1.alloc hs (.cells #[.int .i64 q, .int .i64 qv, .slice Ax nx cx] 32)
      have hma : (wo.alloc (.cells #[.int .i64 q, .int .i64 qv, .slice Ax nx cx] 32)).heap[M1]? = some (iObj es) := (Below.heap_alloc wo _ M1 (lt_of_some HB.out.2)).trans HB.out.2
      have E3 := run_update_i mapii_ty hma q (.int .i64 (k : Int))
      have HEND : Hid (Below w.heap.size w (setB (wo.alloc (.cells #[.int .i64 q, .int .i64 qv, .slice Ax nx cx] 32)) M1 (iObj (putI q (.int .i64 (k : Int)) es))) ∧ (setB (wo.alloc (.cells #[.int .i64 q, .int .i64 qv, .slice Ax nx cx] 32)) M1 (iObj (putI q (.int .i64 (k : Int)) es))).heap[M1]? = some (iObj (putI q (.int .i64 (k : Int)) es))) := ⟨ha.grown setB_grown ha.size (fun g hg => by injection hg with hg; omega), setB_at (lt_of_some hma)⟩
      clear ha hma HB HK
      go_wp2
      go_roundw
      case rel => exact ⟨k + 1, _, by omega, by go_num, HEND.out, HIS.out⟩
      case measure => simp [intOf]; omega
    · obtain rfl : k = ps.length := by omega
      have HIX : Hid (IdxOk L L.length es) := by rw [Hid, HLE.out]; exact HK.out
      obtain ⟨es1, he1⟩ : ∃ e, es = e := ⟨_, rfl⟩
      rw [he1] at HIX HB
      clear HK he1
      go_wp2
      have hb4 := HB.out.1.alloc HB.out.1.size (.map #[] 0)
      have hm4 : (wo.alloc (.map #[] 0)).heap[wo.heap.size]? = some (iObj []) := heap_alloc_new wo _
      have hn4 : (wo.alloc (.map #[] 0)).heap[M1]? = some (iObj es1) := (Below.heap_alloc wo _ M1 (lt_of_some HB.out.2)).trans HB.out.2
      have hs4 : (wo.alloc (.map #[] 0)).heap.size = wo.heap.size + 1 := World.size_alloc _ _
      have hwo := HB.out.1.size
      have hM1o := lt_of_some HB.out.2
      obtain ⟨w4, hw4⟩ : ∃ w4, wo.alloc (.map #[] 0) = w4 := ⟨_, rfl⟩
      rw [hw4] at hb4 hm4 hn4 hs4 ⊢
      obtain ⟨M2, hM2⟩ : ∃ M, wo.heap.size = M := ⟨_, rfl⟩
      rw [hM2] at hm4 hs4 hwo hM1o ⊢
      obtain ⟨base, hbase⟩ : ∃ n, w4.heap.size = n := ⟨_, rfl⟩
      have hM2b : M2 < base := by omega
      have H4 := Lib.hid (And.intro hb4 (And.intro hn4 (And.intro hm4 (show base ≤ w4.heap.size by omega))))
      clear hw4 hM2 hb4 hm4 hn4 hs4 hbase HB
      go_loopw [44] (fun i wr => ∃ (k : Nat) (es : List (Int × Value)), k ≤ b.length ∧ i = .int .i64 k ∧ Hid (Below w.heap.size w wr ∧ wr.heap[M1]? = some (iObj es1) ∧ wr.heap[M2]? = some (iObj es) ∧ base ≤ wr.heap.size) ∧ Hid (Grp wr base (b.take k) es)) (fun i _ => b.length - (intOf i).toNat)
      case atStart => exact ⟨0, [], by omega, rfl, H4.out, Grp.nil _ _⟩
      case round =>
        clear H4
        obtain ⟨k, es, hk, rfl, HB, HG⟩ := hrel
        obtain ⟨wo, rfl⟩ : ∃ wo : World, wo = wr := ⟨_, rfl⟩
        by_cases hlt : k < b.length
        · obtain ⟨bk, off, rfl, hc⟩ := (HU.out.below HB.out.1).cells (by rw [psts_len]; omega)
          obtain ⟨c0, c1, c2, c3, c4, c5⟩ := hc.pst hlt
          have i1 : (k : Int) < (b.length : Int) := by omega
          have htk : b.take (k + 1) = b.take k ++ [b[k]] := List.take_succ_eq_append_getElem hlt
          have hpl : (perB (b.take k) (b[k]).per).length ≤ k := Nat.le_trans (List.length_filter_le _ _) (List.length_take_le _ _)
          obtain ⟨x, hx⟩ : ∃ x, b[k] = x := ⟨_, rfl⟩
          rw [hx] at c0 c1 c2 c3 c4 c5 htk hpl
          have HTK := Lib.hid htk
          clear hx hc htk
          have hs := HB.out.1.size
          have hal := (Below.refl wo.heap.size wo).alloc (Nat.le_refl _) (.cells #[.int .i64 x.run, .int .i64 x.emp, .int .i64 x.per, .int .i64 x.ln.kind, .string x.ln.code, .int .i64 x.ln.amt] 53)
          have hrx := Row.new wo 53 #[.int .i64 x.run, .int .i64 x.emp, .int .i64 x.per, .int .i64 x.ln.kind, .string x.ln.code, .int .i64 x.ln.amt]
          go_wp2_with fail
          obtain ⟨w5, hw5⟩ : ∃ w5, wo.alloc (.cells #[.int .i64 x.run, .int .i64 x.emp, .int .i64 x.per, .int .i64 x.ln.kind, .string x.ln.code, .int .i64 x.ln.amt] 53) = w5 := ⟨_, rfl⟩
          rw [hw5] at hal hrx ⊢
          obtain ⟨m, hm⟩ : ∃ m, wo.heap.size = m := ⟨_, rfl⟩
          rw [hm] at hrx ⊢
          have HGO : Hid (∀ e ∈ es, ∀ g, e.2.ownBlock = some g → ¬ m ≤ g) := fun e he g hg => by have := ((HG.out.own e he).1.lt g hg).2; omega
          have hg5 := HG.out.below hal
          have hb5 := below_after HB.out.1 hal hs
          have hm5 : w5.heap[M2]? = some (iObj es) := (hal.block M2 (lt_of_some HB.out.2.2.1)).trans HB.out.2.2.1
          have hn5 : w5.heap[M1]? = some (iObj es1) := (hal.block M1 (lt_of_some HB.out.2.1)).trans HB.out.2.1
          have hs5 : base ≤ w5.heap.size := Nat.le_trans HB.out.2.2.2 hal.size
          clear hw5 hm hal HB HG
          obtain ⟨y0, y1, y2, y3, y4, y5, yl⟩ := row6 hrx
          have hat := hg5.at x.per
          have E1 := (run_lookup_i mapip_ty (zero_ps w5.drew) (show w5.drew.heap[M2]? = some (iObj es) from hm5) x.per).2
          have HST := Lib.hid (fun W w' v' (hW : Below w5.heap.size w5 W) (ho : Own w' base 53 6 v' (psts (perB (b.take k) x.per) ++ psts [x])) hg hv => (hg5.below hW).step (x := x) (w' := w') (v' := v') hM2b ho hg hv)
          have H5 := Lib.hid (And.intro hb5 (And.intro hm5 hn5))
          obtain ⟨vo, hvo⟩ : ∃ vo, (getI es x.per).getD (.slice none 0 0) = vo := ⟨_, rfl⟩
          rw [hvo] at hat E1 HST
          obtain ⟨Av, cv, rfl⟩ := hat.form
          have hvo2 := hvo
          rw [psts_len] at hvo2
          have HMN : Hid ((Value.slice Av (perB (b.take k) x.per).length cv).ownBlock ≠ some m) := fun e => by
            cases hgi : getI es x.per with
            | none =>
              rw [hgi, Option.getD_none] at hvo2
              rw [← hvo2] at e
              cases e
            | some v =>
              rw [hgi, Option.getD_some] at hvo2
              have hb := HGO.out _ (getI_mem hgi)
              rw [← hvo2] at e
              exact hb m e (Nat.le_refl _)
          rw [psts_len] at E1 HST hat
          have hos := hat.drew
          have hat0 := hat
          have E1b := (run_lookup_i mapip_ty (zero_ps (w5.alloc (.cells #[.int .i64 x.run, .int .i64 x.emp, .int .i64 x.per, .int .i64 x.ln.kind, .string x.ln.code, .int .i64 x.ln.amt] 53)).drew) (show (w5.alloc (.cells #[.int .i64 x.run, .int .i64 x.emp, .int .i64 x.per, .int .i64 x.ln.kind, .string x.ln.code, .int .i64 x.ln.amt] 53)).drew.heap[M2]? = some (iObj es) from ((below_a1 w5 (.cells #[.int .i64 x.run, .int .i64 x.emp, .int .i64 x.per, .int .i64 x.ln.kind, .string x.ln.code, .int .i64 x.ln.amt] 53)).block M2 (lt_of_some H5.out.2.1)).trans H5.out.2.1) x.per).2
          rw [hvo2] at E1b
          have HQ2 : Hid (∀ w6, (w5.alloc (.cells #[.int .i64 x.run, .int .i64 x.emp, .int .i64 x.per, .int .i64 x.ln.kind, .string x.ln.code, .int .i64 x.ln.amt] 53)).drew.grownBy w6 (Value.slice Av (perB (b.take k) x.per).length cv).ownBlock → w6.cell? ⟨m, 2, none⟩ = some (.int .i64 x.per)) := fun w6 hg => by
            have h1 : (w5.alloc (.cells #[.int .i64 x.run, .int .i64 x.emp, .int .i64 x.per, .int .i64 x.ln.kind, .string x.ln.code, .int .i64 x.ln.amt] 53)).drew.cell? ⟨m, 2, none⟩ = some (.int .i64 x.per) := ((below_a1 w5 _).cell (p := ⟨m, 2, none⟩) yl).trans y2
            refine (World.cell?_of_block (w := (w5.alloc (.cells #[.int .i64 x.run, .int .i64 x.emp, .int .i64 x.per, .int .i64 x.ln.kind, .string x.ln.code, .int .i64 x.ln.amt] 53)).drew) (a := ⟨m, 2, none⟩) (hg.block m (Nat.lt_of_lt_of_le yl (below_a1 w5 _).size) (fun e => ?_))).trans h1
            have := HMN.out
            exact this e.symm
          have hxrow : psts [x] = [[.int .i64 x.run, .int .i64 x.emp, .int .i64 x.per, .int .i64 x.ln.kind, .string x.ln.code, .int .i64 x.ln.amt]] := rfl
          clear hvo hvo2 hat hb5 hm5 hn5 hg5 hrx HGO HMN
          have HY := Lib.hid (And.intro y2 yl)
          go_region_law (refine step_append_sl rfl (.tmp 54) (.tmp 56) rfl rowPst base _ _ (psts (perB (b.take k) x.per)) (psts [x]) rfl (by first | exact (hat0.alloc _).drew | exact hos.alloc _) rfl (Sl.one rfl rfl) (psts_wide [x]) (by rw [psts_len, psts_len]; unfold maxLen; simp; omega) (by rw [psts_len, psts_len]; simp; omega) (by simp; omega) ?_; intro v6 w6 hown6 hg6 hv6; (have hbw6 : Below w5.heap.size w5 ((w5.alloc (.cells #[.int .i64 x.run, .int .i64 x.emp, .int .i64 x.per, .int .i64 x.ln.kind, .string x.ln.code, .int .i64 x.ln.amt] 53)).drew) := below_a1 _ _); (have hGS := HST.out _ w6 v6 hbw6 hown6 hg6 hv6); (have hB6 := (below_after H5.out.1 hbw6 H5.out.1.size).grown hg6 (Nat.le_trans H5.out.1.size hbw6.size) (fun g hg => by have := (hos.1.lt g hg).1; omega)); (have hM6 : w6.heap[M2]? = some (iObj es) := (hg6.block M2 (Nat.lt_of_lt_of_le (lt_of_some H5.out.2.1) hbw6.size) (fun e => by have := (hos.1.lt M2 e.symm).1; omega)).trans ((hbw6.block M2 (lt_of_some H5.out.2.1)).trans H5.out.2.1)); (have hN6 : w6.heap[M1]? = some (iObj es1) := (hg6.block M1 (Nat.lt_of_lt_of_le (lt_of_some H5.out.2.2) hbw6.size) (fun e => by have := (hos.1.lt M1 e.symm).1; omega)).trans ((hbw6.block M1 (lt_of_some H5.out.2.2)).trans H5.out.2.2)); (have hs6 := Nat.le_trans hbw6.size hg6.size); (have q2 := HQ2.out w6 hg6); (have E3 := run_update_i mapip_ty hM6 x.per v6); (have HEND : Hid (Below w.heap.size w (setB w6 M2 (iObj (putI x.per v6 es))) ∧ (setB w6 M2 (iObj (putI x.per v6 es))).heap[M1]? = some (iObj es1) ∧ (setB w6 M2 (iObj (putI x.per v6 es))).heap[M2]? = some (iObj (putI x.per v6 es)) ∧ base ≤ (setB w6 M2 (iObj (putI x.per v6 es))).heap.size) := ⟨hB6.grown setB_grown hB6.size (fun g hg => by injection hg with hg; omega), (setB_grown.block M1 (lt_of_some hN6) (fun e => by injection e with e; omega)).trans hN6, setB_at (lt_of_some hM6), by have := (setB_grown (w := w6) (b := M2) (o := iObj (putI x.per v6 es))).size; omega⟩); (have HGE : Hid (Grp (setB w6 M2 (iObj (putI x.per v6 es))) base (b.take (k + 1)) (putI x.per v6 es)) := by rw [HTK.out]; exact hGS); clear hGS hB6 hM6 hN6 hs6 hown6 hg6 hv6 hbw6)
          all_goals
            go_wp2
            go_roundw
            case rel => exact ⟨k + 1, _, by omega, by go_num, HEND.out, HGE.out⟩
            case measure => simp [intOf]; omega
        · obtain rfl : k = b.length := by omega
          rw [List.take_length] at HG
          have hbd : ∀ e ∈ es, -9223372036854775808 ≤ e.1 ∧ e.1 ≤ 9223372036854775807 := fun e he => by
            obtain ⟨x, hx, hp⟩ := List.mem_map.1 ((HG.out.keys e.1).1 (List.mem_map.2 ⟨e, he, rfl⟩))
            obtain ⟨n, hn, rfl⟩ := List.getElem_of_mem hx
            have := per_in (HBV.out n hn)
            omega
          have hel := HG.out.len
          obtain ⟨D, hown, hkeys⟩ := iObj_owns HB.out.2.2.1 HG.out.nd hbd (by omega)
          have hasI : asI (es.map (·.1)) = persOf b := Asc.unique (asI_asc _) (asI_asc _) (fun x => by unfold persOf; rw [mem_asI, mem_asI]; exact HG.out.keys x)
          have hS := sortedKeys M2 es.length D _ _ wo hown hkeys (by omega)
          rw [hasI] at hS
          have HS := Lib.hid hS
          have hPl := persOf_len b
          obtain ⟨P, hP⟩ : ∃ P, persOf b = P := ⟨_, rfl⟩
          rw [hP] at HS hPl HE
          clear hbd hown hkeys hasI hS hP
          go_wp2_with fail
          refine (keys_any _ _).mono ?_
          rintro e w' ⟨rfl, rfl⟩
          go_wp2_with fail
          refine HS.out.mono ?_
          rintro e wS ⟨vS, rfl, hownS, hbS⟩
          have hbo : Below wo.heap.size wo wS := ((Below.refl wo.heap.size wo).alloc (Nat.le_refl _) _).trans (hbS.mono (by simp))
          have HBS := Lib.hid (below_after HB.out.1 hbo HB.out.1.size)
          have HM1 : Hid (wS.heap[M1]? = some (iObj es1)) := (hbo.block M1 (lt_of_some HB.out.2.1)).trans HB.out.2.1
          have HM2 : Hid (wS.heap[M2]? = some (iObj es)) := (hbo.block M2 (lt_of_some HB.out.2.2.1)).trans HB.out.2.2.1
          have HGS := Lib.hid (HG.out.below hbo)
          have HPS := Lib.hid (hownS.sl (by have := hbS.size; omega))
          obtain ⟨Ap, cp, rfl⟩ := hownS.form
          rw [ints_len] at HPS ⊢
          have hwS := HBS.out.size
          have hbwS : base ≤ wS.heap.size := by have := HB.out.2.2.2; have := hbo.size; omega
          clear HG HB HS hownS hbS hbo hel
          go_wp2_with fail
          go_loopw [12, 63] (fun t i wr => ∃ (k : Nat) (qs : List (Ret × Value)), k ≤ P.length ∧ i = .int .i64 k ∧ Hid (Below wS.heap.size wS wr ∧ RetsOwn wr wS.heap.size t qs ∧ qs.map (·.1) = filedF L b (P.take k))) (fun _ i _ => P.length - (intOf i).toNat)
          case atStart => exact ⟨0, [], by omega, rfl, Below.refl _ _, RetsOwn.nil _ _, by simp [filedF]⟩
          case round =>
            obtain ⟨k, qs, hk, rfl, HR⟩ := hrel
            obtain ⟨wq, rfl⟩ : ∃ wo : World, wo = wr := ⟨_, rfl⟩
            by_cases hlt : k < P.length
            · obtain ⟨bp, op, rfl, hcp⟩ := (HPS.out.below HR.out.1).cells (by rw [ints_len]; omega)
              have cp0 := hcp.int hlt
              have i0 : (k : Int) < (P.length : Int) := by omega
              have HSN := Lib.hid (filedF_snoc L b P k hlt)
              have hqn : qs.length ≤ k := by
                have := filedF_len L b P k
                rw [← HR.out.2.2, List.length_map] at this
                exact this
              obtain ⟨p, hp⟩ : ∃ p, P[k] = p := ⟨_, rfl⟩
              rw [hp] at cp0 HSN
              clear hp hcp
              have hm1 : wq.heap[M1]? = some (iObj es1) := (HR.out.1.block M1 (lt_of_some HM1.out)).trans HM1.out
              have hm2 : wq.heap[M2]? = some (iObj es) := (HR.out.1.block M2 (lt_of_some HM2.out)).trans HM2.out
              have E1 := (run_lookup_i mapii_ty (zero_int wq) hm1 p).1
              have E2 := (run_lookup_i mapip_ty (zero_ps wq) hm2 p).2
              have hat := (HGS.out.below HR.out.1).at p
              obtain ⟨vo, hvo⟩ : ∃ vo, (getI es p).getD (.slice none 0 0) = vo := ⟨_, rfl⟩
              rw [hvo] at hat E2
              obtain ⟨Av, cv, rfl⟩ := hat.form
              rw [psts_len] at hat E2
              have HLN := Lib.hid (RLines_any (.slice Av (perB b p).length cv) (perB b p) p wq (hat.sl (by have := HR.out.1.size; omega)))
              rw [HLP.out p] at HLN
              have hll := linesOf_len b p
              have HVP1 := Lib.hid (HVER.out p)
              have hwq := HR.out.1.size
              clear hvo hat hm1 hm2
              rcases idx_last HIX.out p with ⟨e0, ev, el⟩ | ⟨j, hjL, e0, ep, ev, el⟩
              · rw [e0] at E1
                simp only [Option.getD_none, Option.isSome_none] at E1
                have hat1 := RetsAt.nil wq
                have HL1 : Hid (∀ q ∈ ([] : List (Ret × Value)), q.1.l.length ≤ 65536) := fun q hq => by cases hq
                have hve : verP (([] : List (Ret × Value)).map (·.1)) p = 0 := rfl
                clear e0
                go_wp2_with fail
                refine HLN.out.mono ?_
                rintro e w5 ⟨vl, rfl, hownl, hb5⟩
                have HNX := Lib.hid (RNext_any ([] : List (Ret × Value)) (.slice none 0 0) vl p (linesOf b p) w5 (hat1.below hb5) (fun q hq => by first | exact HL1.out q hq | cases hq) (by simp) (hownl.sl (by have := hb5.size; omega)) hll ⟨by first | (rw [hve]; exact HVP1.out.1) | (rw [hve]; exact Int.le_refl _), by first | (rw [hve]; exact HVP1.out.2) | (rw [hve]; decide)⟩)
                have HB5 := Lib.hid (below_after HR.out.1 hb5 HR.out.1.size)
                have HO5 := Lib.hid (HR.out.2.1.kept hb5)
                have hw5 := hb5.size
                obtain ⟨Al, cl, rfl⟩ := hownl.form
                rw [lns_len] at HNX
                clear hb5 hownl hat1
                go_wp2_with fail
                rw [lns_len]
                refine HNX.out.mono ?_
                rintro e w6 ⟨hb6, hcase⟩
                have HB6 := Lib.hid (below_after HB5.out hb6 HB5.out.size)
                have HO6 := Lib.hid (HO5.out.kept hb6)
                have hw6 := hb6.size
                have HQE := Lib.hid HR.out.2.2
                clear HNX HB5 HO5 hb6 HR HLN
                rcases hcase with ⟨hne, v6, rfl, hown6⟩ | ⟨heq, rfl⟩
                rotate_left
                · have hE : linP L p = linesOf b p := by rw [el]; exact heq
                  have HS2 : Hid (filedF L b (P.take (k + 1)) = filedF L b (P.take k)) := by rw [Hid, HSN.out, if_neg (fun h => h hE), List.append_nil]
                  have hal := (Below.refl w6.heap.size w6).alloc (Nat.le_refl _) (.cells #[.int .i64 0, .int .i64 0, .slice none 0 0] 32)
                  have HEND : Hid (Below wS.heap.size wS (w6.alloc (.cells #[.int .i64 0, .int .i64 0, .slice none 0 0] 32)) ∧ RetsOwn (w6.alloc (.cells #[.int .i64 0, .int .i64 0, .slice none 0 0] 32)) wS.heap.size _ qs ∧ qs.map (·.1) = filedF L b (P.take (k + 1))) := ⟨below_after HB6.out hal HB6.out.size, HO6.out.kept hal, by rw [HS2.out]; exact HQE.out⟩
                  clear hal heq hE HSN HS2 HB6 HO6 HQE E1 E2 el hve
                  go_wp2
                  go_roundw
                  case rel => exact ⟨k + 1, qs, by omega, by go_num, HEND.out⟩
                  case measure => simp [intOf]; omega
                · have hE : linP L p ≠ linesOf b p := by rw [el]; exact hne
                  have hnx : nextR (([] : List (Ret × Value)).map (·.1)) p (linesOf b p) = nextR L p (linesOf b p) := by unfold nextR; first | rw [hve, ev] | rw [hve]
                  rw [hnx]
                  have HS2 : Hid (filedF L b (P.take (k + 1)) = filedF L b (P.take k) ++ [nextR L p (linesOf b p)]) := by rw [Hid, HSN.out, if_pos hE]
                  have hnr : nextR L p (linesOf b p) = ⟨p, verP L p + 1, linesOf b p⟩ := rfl
                  obtain ⟨A6, c6, rfl⟩ := hown6.form
                  rw [lns_len] at hown6 ⊢
                  obtain ⟨vv, hvv⟩ : ∃ vv, verP L p + 1 = vv := ⟨_, rfl⟩
                  obtain ⟨nr, hnn⟩ : ∃ nr, nextR L p (linesOf b p) = nr := ⟨_, rfl⟩
                  rw [hnn] at hnr HS2
                  rw [hnn]
                  rw [hvv] at hnr
                  obtain ⟨lx, hlx⟩ : ∃ lx, linesOf b p = lx := ⟨_, rfl⟩
                  rw [hlx] at hnr hown6 ⊢
                  have hnl : nr.l = lx := by rw [hnr]
                  have hgv : nr.vals (.slice A6 lx.length c6) = #[.int .i64 p, .int .i64 vv, .slice A6 lx.length c6] := by rw [hnr]; rfl
                  rw [hgv]
                  have HGV := Lib.hid hgv
                  have hlo : Own w6 wS.heap.size 51 3 (.slice A6 lx.length c6) (lns nr.l) := by rw [hnl]; exact hown6.more (by omega)
                  have HLO := Lib.hid hlo
                  have hal := (Below.refl w6.heap.size w6).alloc (Nat.le_refl _) (.cells #[.int .i64 p, .int .i64 vv, .slice A6 lx.length c6] 32)
                  have HX1 := Lib.hid (Row.new w6 32 #[.int .i64 p, .int .i64 vv, .slice A6 lx.length c6])
                  clear hnr hnl hgv hne hown6 hvv hnn hlx hlo hnx hE HSN el ev hve E1 E2
                  obtain ⟨w7, hw7⟩ : ∃ w7, w6.alloc (.cells #[.int .i64 p, .int .i64 vv, .slice A6 lx.length c6] 32) = w7 := ⟨_, rfl⟩
                  rw [hw7] at hal HX1
                  obtain ⟨⟨y0, y1, y2, yl⟩, -⟩ := row3 HX1.out
                  have hw67 := hal.size
                  have HO7 := Lib.hid (HO6.out.kept hal)
                  have HLO7 := Lib.hid (HLO.out.kept hal)
                  have HB7 := Lib.hid (below_after HB6.out hal HB6.out.size)
                  have hb8 : Below w7.heap.size w7 (w7.alloc (.cells #[.int .i64 p, .int .i64 vv, .slice A6 lx.length c6] 32)) := (Below.refl _ _).alloc (Nat.le_refl _) _
                  clear HX1 HO6 HLO HB6 hal
                  have hone : Sl (w7.alloc (.cells #[.int .i64 p, .int .i64 vv, .slice A6 lx.length c6] 32)) 3 (.slice (some ⟨w7.heap.size, 0, none⟩) 1 1) (rets [(nr, .slice A6 lx.length c6)]) := by
                    have : rets [(nr, .slice A6 lx.length c6)] = [[.int .i64 p, .int .i64 vv, .slice A6 lx.length c6]] := by simp [rets, HGV.out]
                    rw [this]; exact Sl.one rfl rfl
                  have HONE := Lib.hid hone
                  clear hone
                  go_wp2_with (at_builtin; refine wpList_append_sl rfl (.tmp 91) (.tmp 93) rfl rowRet wS.heap.size _ _ (rets qs) (rets [(nr, .slice A6 lx.length c6)]) rfl (HO7.out.own.alloc _) rfl HONE.out (rets_one _ _ ⟨_, _, _, rfl⟩) (by rw [rets_len, rets_len]; unfold maxLen; simp; omega) (by rw [rets_len, rets_len]; simp; omega) (by have := hb8.size; have := HB7.out.size; omega) ?_; intro v9 w9 hown9 hg9 _)
                  have hR9 := HO7.out.app hb8 HLO7.out hown9 hg9
                  have hlt9 := fun g hg => (HO7.out.own.1.lt g hg).1
                  have hB9 := (below_after HB7.out hb8 HB7.out.size).grown hg9 (Nat.le_trans HB7.out.size hb8.size) hlt9
                  have HEND : Hid (Below wS.heap.size wS w9 ∧ RetsOwn w9 wS.heap.size v9 (qs ++ [(nr, .slice A6 lx.length c6)]) ∧ (qs ++ [(nr, Value.slice A6 lx.length c6)]).map (·.1) = filedF L b (P.take (k + 1))) := ⟨hB9, hR9, by rw [HS2.out, List.map_append, HQE.out]; rfl⟩
                  clear hw7 y0 y1 y2 yl hR9 hB9 hown9 hg9 HO7 HLO7 HB7 HONE hlt9 HQE HS2
                  go_roundw
                  case rel => exact ⟨k + 1, _, by omega, by go_num, HEND.out⟩
                  case measure => simp [intOf]; omega
              · rw [e0] at E1
                simp only [Option.getD_some, Option.isSome_some] at E1
                have hj : j < ps.length := by rw [← HLE.out]; exact hjL
                have hjx := HLX.out j hjL hj
                rw [hjx] at ep ev el
                obtain ⟨bk, off, rfl, hc⟩ := (HV.out.below (below_after HBS.out HR.out.1 HBS.out.size)).sl.cells (by rw [rets_len]; omega)
                have hrs := HV.out.below (below_after HBS.out HR.out.1 HBS.out.size)
                have hsl := hrs.sl.oneAt (j := j) (by rw [rets_len]; exact hj)
                have hrj : [(rets ps)[j]'(by rw [rets_len]; exact hj)] = rets [ps[j]] := by simp [rets]
                rw [hrj] at hsl
                have hat1 : RetsAt wq (.slice (some ⟨bk, off + j * 3, none⟩) 1 (cap - j)) [ps[j]] := ⟨hsl, fun q hq => by rw [List.mem_singleton.1 hq]; exact hrs.ln _ (List.getElem_mem hj)⟩
                have HL1 : Hid (∀ q ∈ [ps[j]], q.1.l.length ≤ 65536) := fun q hq => by rw [List.mem_singleton.1 hq]; exact HL.out _ (List.getElem_mem hj)
                have hlo := lone ep
                have hve : verP ([ps[j]].map (·.1)) p = verP L p := hlo.1.trans ev.symm
                have hle : linP ([ps[j]].map (·.1)) p = linP L p := hlo.2.trans el.symm
                have ew : IntKind.i64.wrap ((j : Int) + 1) = (j : Int) + 1 := IntWalk.i64_in _ (by omega)
                have i2 : (j : Int) < (ps.length : Int) := by omega
                have i3 : (j : Int) < (cap : Int) := by omega
                have i4 : (j : Int) + 1 ≤ (cap : Int) := by omega
                have i5 : ((j : Int) + 1).toNat = j + 1 := by omega
                have i6 : (0 : Int) ≤ (j : Int) + 1 := by omega
                have i7 : ¬ cap = j := by omega
                have i8 : j + 1 - j = 1 := by omega
                clear e0 hjx ep hc hrs hsl hrj hlo ev el hjL
                have el := hle.symm
                have ev : True := trivial
                obtain ⟨pj, hpj⟩ : ∃ x, ps[j] = x := ⟨_, rfl⟩
                rw [hpj] at hat1 HL1 hve el
                clear hpj hle
                go_wp2_with fail
                refine HLN.out.mono ?_
                rintro e w5 ⟨vl, rfl, hownl, hb5⟩
                have HNX := Lib.hid (RNext_any [pj] (.slice (some ⟨bk, off + j * 3, none⟩) 1 (cap - j)) vl p (linesOf b p) w5 (hat1.below hb5) (fun q hq => by first | exact HL1.out q hq | cases hq) (by simp) (hownl.sl (by have := hb5.size; omega)) hll ⟨by first | (rw [hve]; exact HVP1.out.1) | (rw [hve]; exact Int.le_refl _), by first | (rw [hve]; exact HVP1.out.2) | (rw [hve]; decide)⟩)
                have HB5 := Lib.hid (below_after HR.out.1 hb5 HR.out.1.size)
                have HO5 := Lib.hid (HR.out.2.1.kept hb5)
                have hw5 := hb5.size
                obtain ⟨Al, cl, rfl⟩ := hownl.form
                rw [lns_len] at HNX
                clear hb5 hownl hat1
                go_wp2_with fail
                rw [lns_len]
                refine HNX.out.mono ?_
                rintro e w6 ⟨hb6, hcase⟩
                have HB6 := Lib.hid (below_after HB5.out hb6 HB5.out.size)
                have HO6 := Lib.hid (HO5.out.kept hb6)
                have hw6 := hb6.size
                have HQE := Lib.hid HR.out.2.2
                clear HNX HB5 HO5 hb6 HR HLN
                rcases hcase with ⟨hne, v6, rfl, hown6⟩ | ⟨heq, rfl⟩
                rotate_left
                · have hE : linP L p = linesOf b p := by rw [el]; exact heq
                  have HS2 : Hid (filedF L b (P.take (k + 1)) = filedF L b (P.take k)) := by rw [Hid, HSN.out, if_neg (fun h => h hE), List.append_nil]
                  have hal := (Below.refl w6.heap.size w6).alloc (Nat.le_refl _) (.cells #[.int .i64 0, .int .i64 0, .slice none 0 0] 32)
                  have HEND : Hid (Below wS.heap.size wS (w6.alloc (.cells #[.int .i64 0, .int .i64 0, .slice none 0 0] 32)) ∧ RetsOwn (w6.alloc (.cells #[.int .i64 0, .int .i64 0, .slice none 0 0] 32)) wS.heap.size _ qs ∧ qs.map (·.1) = filedF L b (P.take (k + 1))) := ⟨below_after HB6.out hal HB6.out.size, HO6.out.kept hal, by rw [HS2.out]; exact HQE.out⟩
                  clear hal heq hE HSN HS2 HB6 HO6 HQE E1 E2 el hve
                  go_wp2
                  go_roundw
                  case rel => exact ⟨k + 1, qs, by omega, by go_num, HEND.out⟩
                  case measure => simp [intOf]; omega
                · have hE : linP L p ≠ linesOf b p := by rw [el]; exact hne
                  have hnx : nextR ([pj].map (·.1)) p (linesOf b p) = nextR L p (linesOf b p) := by unfold nextR; first | rw [hve, ev] | rw [hve]
                  rw [hnx]
                  have HS2 : Hid (filedF L b (P.take (k + 1)) = filedF L b (P.take k) ++ [nextR L p (linesOf b p)]) := by rw [Hid, HSN.out, if_pos hE]
                  have hnr : nextR L p (linesOf b p) = ⟨p, verP L p + 1, linesOf b p⟩ := rfl
                  obtain ⟨A6, c6, rfl⟩ := hown6.form
                  rw [lns_len] at hown6 ⊢
                  obtain ⟨vv, hvv⟩ : ∃ vv, verP L p + 1 = vv := ⟨_, rfl⟩
                  obtain ⟨nr, hnn⟩ : ∃ nr, nextR L p (linesOf b p) = nr := ⟨_, rfl⟩
                  rw [hnn] at hnr HS2
                  rw [hnn]
                  rw [hvv] at hnr
                  obtain ⟨lx, hlx⟩ : ∃ lx, linesOf b p = lx := ⟨_, rfl⟩
                  rw [hlx] at hnr hown6 ⊢
                  have hnl : nr.l = lx := by rw [hnr]
                  have hgv : nr.vals (.slice A6 lx.length c6) = #[.int .i64 p, .int .i64 vv, .slice A6 lx.length c6] := by rw [hnr]; rfl
                  rw [hgv]
                  have HGV := Lib.hid hgv
                  have hlo : Own w6 wS.heap.size 51 3 (.slice A6 lx.length c6) (lns nr.l) := by rw [hnl]; exact hown6.more (by omega)
                  have HLO := Lib.hid hlo
                  have hal := (Below.refl w6.heap.size w6).alloc (Nat.le_refl _) (.cells #[.int .i64 p, .int .i64 vv, .slice A6 lx.length c6] 32)
                  have HX1 := Lib.hid (Row.new w6 32 #[.int .i64 p, .int .i64 vv, .slice A6 lx.length c6])
                  clear hnr hnl hgv hne hown6 hvv hnn hlx hlo hnx hE HSN el ev hve E1 E2
                  obtain ⟨w7, hw7⟩ : ∃ w7, w6.alloc (.cells #[.int .i64 p, .int .i64 vv, .slice A6 lx.length c6] 32) = w7 := ⟨_, rfl⟩
                  rw [hw7] at hal HX1
                  obtain ⟨⟨y0, y1, y2, yl⟩, -⟩ := row3 HX1.out
                  have hw67 := hal.size
                  have HO7 := Lib.hid (HO6.out.kept hal)
                  have HLO7 := Lib.hid (HLO.out.kept hal)
                  have HB7 := Lib.hid (below_after HB6.out hal HB6.out.size)
                  have hb8 : Below w7.heap.size w7 (w7.alloc (.cells #[.int .i64 p, .int .i64 vv, .slice A6 lx.length c6] 32)) := (Below.refl _ _).alloc (Nat.le_refl _) _
                  clear HX1 HO6 HLO HB6 hal
                  have hone : Sl (w7.alloc (.cells #[.int .i64 p, .int .i64 vv, .slice A6 lx.length c6] 32)) 3 (.slice (some ⟨w7.heap.size, 0, none⟩) 1 1) (rets [(nr, .slice A6 lx.length c6)]) := by
                    have : rets [(nr, .slice A6 lx.length c6)] = [[.int .i64 p, .int .i64 vv, .slice A6 lx.length c6]] := by simp [rets, HGV.out]
                    rw [this]; exact Sl.one rfl rfl
                  have HONE := Lib.hid hone
                  clear hone
                  go_wp2_with (at_builtin; refine wpList_append_sl rfl (.tmp 91) (.tmp 93) rfl rowRet wS.heap.size _ _ (rets qs) (rets [(nr, .slice A6 lx.length c6)]) rfl (HO7.out.own.alloc _) rfl HONE.out (rets_one _ _ ⟨_, _, _, rfl⟩) (by rw [rets_len, rets_len]; unfold maxLen; simp; omega) (by rw [rets_len, rets_len]; simp; omega) (by have := hb8.size; have := HB7.out.size; omega) ?_; intro v9 w9 hown9 hg9 _)
                  have hR9 := HO7.out.app hb8 HLO7.out hown9 hg9
                  have hlt9 := fun g hg => (HO7.out.own.1.lt g hg).1
                  have hB9 := (below_after HB7.out hb8 HB7.out.size).grown hg9 (Nat.le_trans HB7.out.size hb8.size) hlt9
                  have HEND : Hid (Below wS.heap.size wS w9 ∧ RetsOwn w9 wS.heap.size v9 (qs ++ [(nr, .slice A6 lx.length c6)]) ∧ (qs ++ [(nr, Value.slice A6 lx.length c6)]).map (·.1) = filedF L b (P.take (k + 1))) := ⟨hB9, hR9, by rw [HS2.out, List.map_append, HQE.out]; rfl⟩
                  clear hw7 y0 y1 y2 yl hR9 hB9 hown9 hg9 HO7 HLO7 HB7 HONE hlt9 HQE HS2
                  go_roundw
                  case rel => exact ⟨k + 1, _, by omega, by go_num, HEND.out⟩
                  case measure => simp [intOf]; omega
            · obtain rfl : k = P.length := by omega
              have HEND : Hid (qs.map (·.1) = fileR L b ∧ RetsOwn wq w.heap.size _ qs ∧ Below w.heap.size w wq) := ⟨by rw [HE.out.1, HR.out.2.2, List.take_length], HR.out.2.1.more HBS.out.size, below_after HBS.out HR.out.1 HBS.out.size⟩
              go_wp2
              go_ret2
              exact ⟨_, qs, tup_int HE.out.2.symm, HEND.out.1, HEND.out.2.1, HEND.out.2.2⟩
end Go.Proofs.YtjbhabfflcbebaaGreat
/- payrolllaw38.awake: the example of the chapter. Written by gen_rvb.py. -/
namespace Go.Proofs.YtjbhabfflcbebaaGreat
open Go.RowKit

theorem own_lit1 (w : World) (e : TypeId) (sz base : Nat) (c : Array Value) (hb : base ≤ w.heap.size) (hs : c.size = sz) (hw : Wide sz [c.toList]) : Own (w.alloc (.cells c e)) base e sz (.slice (some ⟨w.heap.size, 0, none⟩) 1 1) [c.toList] :=
  ⟨⟨by simp [hs], .inr ⟨_, 1, c, rfl, hb, heap_alloc_new w _, Nat.le_refl _, by decide, by simp [hs], by
    simp only [List.flatten_cons, List.flatten_nil, List.append_nil]
    exact List.take_of_length_le (by simp [hs])⟩⟩, hw⟩
/-- the one element of a slice -/
theorem own_oneE {w : World} {base e sz : Nat} {v : Value} {x : List Value} (hsz : 0 < sz) (h : Own w base e sz v [x]) : ∃ g cap, v = .slice (some ⟨g, 0, none⟩) 1 cap ∧ g < w.heap.size ∧ ∀ j u, x[j]? = some u → w.cell? ⟨g, j, none⟩ = some u := by
  obtain ⟨A, cap, rfl, _, _, _, hc⟩ := h.sl hsz
  obtain ⟨g, cap', hv, _, hlt⟩ := h.1.form (by simp)
  injection hv with hv1 hv2 hv3
  subst hv1
  refine ⟨g, cap, rfl, hlt, fun j u hj => ?_⟩
  rcases hc with hc | ⟨b, off, hA, hc⟩
  · simp at hc
  · injection hA with hA
    injection hA with h1 h2
    subst h1 h2
    have := hc.2 0 x rfl j u hj
    simpa using this
/-- two lists of returns in one slice -/
theorem RetsOwn.join {w W w' : World} {base base2 : Nat} {v v' x : Value} {ps qs : List (Ret × Value)} (h : RetsOwn w base v ps) (hW : Below w.heap.size w W) (hq : RetsOwn W base2 x qs) (hb : base ≤ base2)
    (ho : Own w' base 32 3 v' (rets ps ++ rets qs)) (hg : W.grownBy w' v.ownBlock) : RetsOwn w' base v' (ps ++ qs) := by
  have h2 := h.kept hW
  refine ⟨by rw [rets_append]; exact ho, fun p hp => ?_⟩
  rcases List.mem_append.1 hp with hp | hp
  · exact (h2.ln p hp).keepG hg (own_types (h2.ln p hp) h2.own (by decide))
  · exact ((hq.ln p hp).more hb).keepG hg (own_types (hq.ln p hp) h2.own (by decide))
/-- append of one element onto a full slice of one -/
theorem wpList_append_11 {P : Program} {w : World} {ops : Array Oper} {rest : List Oper} {o : Oper} {a : Act} {Q : Exit → Act → World → Prop} (hgd : o.guard = none) (s x : Operand) {t e : TypeId} {sz bytes : Nat}
    (ho : o.op = .call { callee := .builtin .append, args := #[s, x], argTypes := #[t, t] }) (hT : RowTy P t e sz bytes) (g1 g2 c2 : Nat) (x1 x2 : List Value)
    (hs : a.eval s = .slice (some ⟨g1, 0, none⟩) 1 1) (h1 : ∀ j u, x1[j]? = some u → w.cell? ⟨g1, j, none⟩ = some u) (l1 : x1.length = sz)
    (hx : a.eval x = .slice (some ⟨g2, 0, none⟩) 1 c2) (h2 : ∀ j u, x2[j]? = some u → w.cell? ⟨g2, j, none⟩ = some u) (l2 : x2.length = sz)
    (hw : Wide sz [x1, x2]) (hbytes : 2 * bytes ≤ 140737488355328)
    (h : ∀ v' w', Own w' w.heap.size e sz v' [x1, x2] → Below w.heap.size w w' → wpList P ops Q rest (a.put o.dst v') w') : wpList P ops Q (o :: rest) a w := by
  refine wpList_plain hgd fun K hK => ?_
  obtain ⟨i, z, hi, hz, hsz, hby, hzs⟩ := hT.hi
  have hadd : ∀ g j : Nat, (⟨g, 0, none⟩ : Addr).add j = ⟨g, j, none⟩ := fun g j => by
    rw [Addr.add]
    by_cases hj : j = 0
    · subst hj; rw [if_pos rfl]
    · rw [if_neg hj]; simp
  obtain ⟨v', w', hrun, k1, k2⟩ := run_append_arg_grows (P := P) w t o.type e i z sz bytes hT.ht hi hz hsz hby hzs hT.hsz ⟨g1, 0, none⟩ 1 1 x1 (by rw [l1]; omega) (fun j u hj => by rw [hadd]; exact h1 j u hj) ⟨g2, 0, none⟩ 1 c2 x2 (by rw [l2]; omega) (fun j u hj => by rw [hadd]; exact h2 j u hj) (by omega) (by decide) hbytes
  unfold Oper.wp execOp
  simp only [ho, resolve, invoke, builtin, Sem.run_bind, Sem.run_pure, Result.andThen_ok, List.map_toArray, List.map_cons, List.map_nil, hs, hx, hrun]
  exact hK _ _ (h v' w' ⟨by simpa using k1, hw⟩ ((Below.refl _ _).grown k2 (Nat.le_refl _) (fun g hg => by cases hg)))
/-- a line of tax -/
def taxL (n : Int) : Ln := ⟨6, ⟨#[]⟩, n⟩
def exB : List Pst := [⟨1, 1, 3, taxL 25⟩]
def exX : List Ret := [⟨3, 1, [taxL 20]⟩]
theorem ex1 : fileR exX exB = [⟨3, 2, [taxL 25]⟩] := by kernel_rfl
theorem ex2 : fileE exX exB = 0 := by kernel_rfl
theorem ex3 : chgL [⟨3, 1, [taxL 20]⟩, ⟨3, 2, [taxL 25]⟩] 3 = [taxL 5] := by kernel_rfl
theorem ex4 : validRs exX = true := by kernel_rfl
theorem tax_any (n : Int) (w : World) : Calls Tryz.prog 23 #[.int .i64 n] w (RetOwn w 51 3 (lns [taxL n])) := by
  go_enter Tryz.func23, Tryz.ntmps23
  go_wp2
  exact bodyPost_ret (v := .slice (some ⟨w.heap.size, 0, none⟩) 1 1) (by simp [results, Tryz.results23, go_sem]) rfl ⟨_, rfl, own_lit1 w 51 3 w.heap.size #[.int .i64 6, .string ⟨#[]⟩, .int .i64 n] (Nat.le_refl _) rfl (lns_wide [taxL n]), (Below.refl _ _).alloc (Nat.le_refl _) _⟩

set_option maxRecDepth 100000 in
set_option maxHeartbeats 8000000 in
theorem awake_any (w : World) : Calls Tryz.prog 6 #[] w fun e w' => e = .returned (.bool true) ∧ Below w.heap.size w w' := by
  go_enter Tryz.func6, Tryz.ntmps6
  go_wp2_with fail
  refine (tax_any _ _).mono ?_
  rintro e w1 ⟨v1, rfl, hown1, hb1⟩
  have hbw1 := hb1.alloc hb1.size (.cells #[.int .i64 3, .int .i64 1, v1] 32)
  obtain ⟨g1, k1, rfl, hg1, -⟩ := own_oneE (by omega) hown1
  have hr1 : RetsOwn (w1.alloc (.cells #[.int .i64 3, .int .i64 1, .slice (some ⟨g1, 0, none⟩) 1 k1] 32)) w.heap.size (.slice (some ⟨w1.heap.size, 0, none⟩) 1 1) [(⟨3, 1, [taxL 20]⟩, .slice (some ⟨g1, 0, none⟩) 1 k1)] :=
    ⟨own_lit1 w1 32 3 w.heap.size #[.int .i64 3, .int .i64 1, .slice (some ⟨g1, 0, none⟩) 1 k1] hb1.size rfl (rets_one ⟨3, 1, [taxL 20]⟩ _ ⟨_, _, _, rfl⟩), fun p hp => by
      rw [List.mem_singleton.1 hp]
      exact hown1.alloc _⟩
  clear hown1 hb1 hg1
  go_wp2_with fail
  obtain ⟨W1, hW1⟩ : ∃ W, w1.alloc (.cells #[.int .i64 3, .int .i64 1, .slice (some ⟨g1, 0, none⟩) 1 k1] 32) = W := ⟨_, rfl⟩
  rw [hW1] at hbw1 hr1 ⊢
  obtain ⟨m1, hm1⟩ : ∃ m, w1.heap.size = m := ⟨_, rfl⟩
  rw [hm1] at hr1 ⊢
  clear hW1 hm1
  refine (tax_any _ _).mono ?_
  rintro e w2 ⟨v2, rfl, hown2, hb2⟩
  obtain ⟨g2, k2, rfl, hg2, hc2⟩ := own_oneE (by omega) hown2
  have c0 := hc2 0 _ rfl
  have c1 := hc2 1 _ rfl
  have c2 := hc2 2 _ rfl
  have hB2 := below_after hbw1 hb2 hbw1.size
  have hr2 := hr1.kept hb2
  clear hr1 hbw1 hb2 hown2 hc2
  have hr3 := hr2.kept ((Below.refl w2.heap.size w2).alloc (Nat.le_refl _) (.cells #[.int .i64 1, .int .i64 1, .int .i64 3, .int .i64 6, .string ⟨#[]⟩, .int .i64 25] 53))
  have HFI := Lib.hid (RFile_any [(⟨3, 1, [taxL 20]⟩, .slice (some ⟨g1, 0, none⟩) 1 k1)] exB _ (.slice (some ⟨w2.heap.size, 0, none⟩) 1 1) _ hr3.at (fun q hq => by rw [List.mem_singleton.1 hq]; show 1 ≤ 65536; omega) (by show 1 ≤ 60000; omega) (Sl.one (w := w2) (t := 53) (sz := 6) (c := #[.int .i64 1, .int .i64 1, .int .i64 3, .int .i64 6, .string ⟨#[]⟩, .int .i64 25]) rfl rfl))
  have H3 := Lib.hid (And.intro hr3 (hB2.alloc hB2.size (.cells #[.int .i64 1, .int .i64 1, .int .i64 3, .int .i64 6, .string ⟨#[]⟩, .int .i64 25] 53)))
  clear hr2 hr3 hB2
  go_wp2_with fail
  clear c0 c1 c2 hg2
  refine HFI.out.mono ?_
  rintro e w4 ⟨x, qs, rfl, hqs, hro4, hb4⟩
  have hE : fileE (List.map (fun x => x.1) [((⟨3, 1, [taxL 20]⟩ : Ret), Value.slice (some ⟨g1, 0, none⟩) 1 k1)]) exB = 0 := ex2
  rw [hE]
  have hqs' : qs.map (·.1) = [⟨3, 2, [taxL 25]⟩] := hqs.trans ex1
  obtain ⟨vq, rfl⟩ : ∃ vq, qs = [(⟨3, 2, [taxL 25]⟩, vq)] := by
    match qs, hqs' with
    | [(a, b)], h => simp only [List.map_cons, List.map_nil, List.cons.injEq, and_true] at h; exact ⟨b, by rw [h]⟩
    | [], h => simp at h
    | _ :: _ :: _, h => simp at h
  obtain ⟨gx, kx, rfl, hgx, hcx⟩ := own_oneE (by omega) hro4.own
  have x1 := hcx 1 _ rfl
  obtain ⟨vA, nA, cA, rfl⟩ := (hro4.ln _ (List.mem_singleton.2 rfl)).slc
  have hl4 := H3.out.1.kept hb4
  obtain ⟨gl, kl, hvl, -, hcl⟩ := own_oneE (by omega) hl4.own
  have hgm : m1 = gl := by
    injection hvl with hv1
    injection hv1 with hv1
    injection hv1
  clear hvl
  subst hgm
  have HB4 := Lib.hid (below_after H3.out.2 hb4 H3.out.2.size)
  have HLX := Lib.hid (And.intro hl4 (And.intro hro4 (And.intro hcl hcx)))
  clear hE hqs hqs' hro4 hb4 hcx HFI hl4 hcl
  go_wp2_with (at_builtin; (refine wpList_append_11 rfl (.tmp 27) (.tmp 28) rfl rowRet m1 gx kx _ _ rfl HLX.out.2.2.1 rfl rfl HLX.out.2.2.2 rfl (rets_wide (ps := [(⟨3, 1, [taxL 20]⟩, .slice (some ⟨g1, 0, none⟩) 1 k1), (⟨3, 2, [taxL 25]⟩, .slice vA nA cA)]) (fun p hp => by rcases List.mem_cons.1 hp with rfl | hp; exact ⟨_, _, _, rfl⟩; rw [List.mem_singleton.1 hp]; exact ⟨_, _, _, rfl⟩)) (by omega) ?_); intro v5 w5 hown5 hb5)
  have HLS : Hid (RetsAt w5 (.slice (some ⟨m1, 0, none⟩) 1 1) [(⟨3, 1, [taxL 20]⟩, .slice (some ⟨g1, 0, none⟩) 1 k1)]) := HLX.out.1.at.below hb5
  have hj5 : RetsAt w5 v5 [(⟨3, 1, [taxL 20]⟩, .slice (some ⟨g1, 0, none⟩) 1 k1), (⟨3, 2, [taxL 25]⟩, .slice vA nA cA)] := ⟨hown5.sl (by omega), fun p hp => by
    rcases List.mem_cons.1 hp with rfl | hp
    · exact (HLX.out.1.at.below hb5).ln _ (List.mem_singleton.2 rfl)
    · exact (HLX.out.2.1.at.below hb5).ln _ hp⟩
  have HB5 := Lib.hid (below_after HB4.out hb5 HB4.out.size)
  have x5 := (hb5.cell (p := ⟨gx, 1, none⟩) hgx).trans x1
  have hgx5 := Nat.lt_of_lt_of_le hgx hb5.size
  have HCH := Lib.hid (RChange_any _ v5 3 w5 hj5 (fun q hq => by
    rcases List.mem_cons.1 hq with rfl | hq
    · show 1 ≤ 65536; omega
    · rw [List.mem_singleton.1 hq]; show 1 ≤ 65536; omega) (by show 2 ≤ 60000; omega))
  clear hown5 hb5 hj5 x1 hgx HLX
  refine HCH.out.mono ?_
  rintro e w6 ⟨c6, rfl, hown6, hb6⟩
  rw [show chgL (List.map (fun x => x.1) [((⟨3, 1, [taxL 20]⟩ : Ret), Value.slice (some ⟨g1, 0, none⟩) 1 k1), (⟨3, 2, [taxL 25]⟩, .slice vA nA cA)]) 3 = [taxL 5] from ex3] at hown6
  obtain ⟨g6, k6, rfl, hg6, hc6⟩ := own_oneE (by omega) hown6
  have y2 := hc6 2 _ rfl
  have x6 := (hb6.cell (p := ⟨gx, 1, none⟩) hgx5).trans x5
  have HB6 := Lib.hid (below_after HB5.out hb6 HB5.out.size)
  have HVA := Lib.hid (RValid_any _ _ w6 (HLS.out.below hb6) (fun q hq => by rw [List.mem_singleton.1 hq]; show 1 ≤ 65536; omega))
  rw [show validRs (List.map (fun x => x.1) [((⟨3, 1, [taxL 20]⟩ : Ret), Value.slice (some ⟨g1, 0, none⟩) 1 k1)]) = true from ex4] at HVA
  clear hown6 hb6 hc6 x5 hgx5 HCH
  go_wp2_with (go_at_call 14; refine HVA.out.mono ?_; rintro e w7 ⟨rfl, hb7⟩; have HB7 := Lib.hid (below_after HB6.out hb7 HB6.out.size); clear hb7)
  go_ret
  exact ⟨rfl, HB7.out⟩
end Go.Proofs.YtjbhabfflcbebaaGreat
/- What filing run after run comes to. Plain. -/
namespace Go.Proofs.YtjbhabfflcbebaaGreat
open Go.RowKit

theorem fine_of {l : List Ln} (h : mergeE l = 0) : Fine l := by
  unfold mergeE at h
  by_cases h1 : l.length ≤ 65536
  · rw [if_pos h1] at h
    cases h2 : l.all formedB
    · rw [h2] at h; exact absurd h (by simp)
    · rw [h2, if_pos rfl] at h
      refine ⟨h1, List.all_eq_true.1 h2, fun k c => ?_⟩
      unfold colE at h
      cases h3 : (sumsT l).all (fun x => totB x.amt)
      · rw [h3] at h; exact absurd h (by simp)
      · rw [← amt_sums]
        by_cases hz : amtT (sumsT l) k c = 0
        · rw [hz]; rfl
        · exact List.all_eq_true.1 h3 _ (amt_some hz)
  · rw [if_neg h1] at h; exact absurd h (by simp)
theorem strict_ord {l : List Ln} (h : Strict l) (hf : ∀ x ∈ l, formB x = true) : ordB l = true :=
  (ordB_iff l).2 ⟨fun j hj => hf _ (List.getElem_mem hj), fun j hj => List.pairwise_iff_getElem.1 h j (j + 1) (by omega) hj (by omega)⟩
theorem formR_merge (l : List Ln) : formR (filL (mergeL l)) = true := by
  by_cases h : mergeE l = 0
  · have hf := fine_of h
    rw [hf.merge, formR, Bool.and_eq_true]
    refine ⟨List.all_eq_true.2 fun x hx => (List.mem_filter.1 hx).2, strict_ord ((mrg_strict l).filter _) fun x hx => ?_⟩
    have hx' := (List.mem_filter.1 hx).1
    rw [formB, hf.mrg_formed x hx', Bool.true_and, decide_eq_true_eq]
    exact (mem_mrg.1 hx').1
  · rw [mergeL, if_neg h]; rfl
theorem formR_lines (b : List Pst) (p : Int) : formR (linesOf b p) = true := by
  unfold linesOf periodL mergedL
  split
  · exact formR_merge _
  · rfl
theorem mergeL_len (l : List Ln) : (mergeL l).length ≤ l.length := by
  by_cases h : mergeE l = 0
  · rw [(fine_of h).merge]; exact mrg_len l
  · rw [mergeL, if_neg h]; exact Nat.zero_le _
theorem lines_len (b : List Pst) (p : Int) : (linesOf b p).length ≤ b.length := by
  unfold linesOf periodL mergedL
  refine Nat.le_trans (List.length_filter_le _ _) ?_
  split
  · refine Nat.le_trans (mergeL_len _) ?_
    unfold selLns
    rw [List.length_map]
    exact List.length_filter_le _ _
  · exact Nat.zero_le _
theorem lines_nil (p : Int) : linesOf [] p = [] := rfl
theorem lines_none {b : List Pst} (h : bookB b = true) {p : Int} (hp : p ∉ b.map (·.per)) : linesOf b p = [] := by
  have hn : perB b p = [] := by
    by_cases e : perB b p = []
    · exact e
    · exact absurd (perB_ne.1 e) hp
  rw [← linesOf_per h, hn]; rfl
theorem linP_snoc1 (l : List Ret) (r : Ret) (p : Int) : linP (l ++ [r]) p = if r.p = p then r.l else linP l p := by
  rw [linP_lat, latP_snoc, linP_lat]
  split <;> rfl
theorem lin_map (v : Int → Int) (g : Int → List Ln) (p : Int) : ∀ (Q : List Int) (X : List Ret), linP (X ++ Q.map fun q => (⟨q, v q, g q⟩ : Ret)) p = if p ∈ Q then g p else linP X p
  | [], X => by simp
  | q :: Q, X => by
    have e : X ++ (q :: Q).map (fun q => (⟨q, v q, g q⟩ : Ret)) = (X ++ [⟨q, v q, g q⟩]) ++ Q.map fun q => (⟨q, v q, g q⟩ : Ret) := by simp
    rw [e, lin_map v g p Q, linP_snoc1]
    by_cases h : p ∈ Q
    · rw [if_pos h, if_pos (List.mem_cons_of_mem _ h)]
    · rw [if_neg h]
      by_cases hq : q = p
      · rw [if_pos hq, hq, if_pos List.mem_cons_self]
      · rw [if_neg hq, if_neg]
        rw [List.mem_cons]
        rintro (h' | h')
        · exact hq h'.symm
        · exact h h'
theorem ver_map (v : Int → Int) (g : Int → List Ln) (p : Int) : ∀ (Q : List Int) (X : List Ret), verP (X ++ Q.map fun q => (⟨q, v q, g q⟩ : Ret)) p = if p ∈ Q then v p else verP X p
  | [], X => by simp
  | q :: Q, X => by
    have e : X ++ (q :: Q).map (fun q => (⟨q, v q, g q⟩ : Ret)) = (X ++ [⟨q, v q, g q⟩]) ++ Q.map fun q => (⟨q, v q, g q⟩ : Ret) := by simp
    rw [e, ver_map v g p Q, verP_snoc]
    by_cases h : p ∈ Q
    · rw [if_pos h, if_pos (List.mem_cons_of_mem _ h)]
    · rw [if_neg h]
      by_cases hq : q = p
      · rw [if_pos hq, hq, if_pos List.mem_cons_self]
      · rw [if_neg hq, if_neg]
        rw [List.mem_cons]
        rintro (h' | h')
        · exact hq h'.symm
        · exact h h'
theorem asc_nodup {l : List Int} (h : Asc l) : l.Nodup := List.Pairwise.imp (fun h e => by omega) h
/-- valid returns and next ones of other periods -/
theorem valid_app {X : List Ret} {b : List Pst} (hX : validRs X = true) {Q : List Int} (hQ : Q.Nodup) (h0 : ∀ p ∈ Q, 0 ≤ p ∧ p ≤ 84005) (hne : ∀ p ∈ Q, linP X p ≠ linesOf b p) :
    validRs (X ++ Q.map fun p => nextR X p (linesOf b p)) = true := by
  rw [valid_iff]
  intro j hj _
  have hV := (valid_iff X).1 hX
  by_cases hl : j < X.length
  · rw [List.getElem_append_left hl, List.take_append_of_le_length (by omega)]
    exact hV j hl hl
  · obtain ⟨i, rfl⟩ : ∃ i, j = X.length + i := ⟨j - X.length, by omega⟩
    have hi : i < Q.length := by simp at hj; exact hj
    have e1 : (X ++ Q.map fun p => nextR X p (linesOf b p)).take (X.length + i) = X ++ (Q.take i).map fun p => (⟨p, verP X p + 1, linesOf b p⟩ : Ret) := by
      rw [List.take_length_add_append, List.map_take]; rfl
    have e2 : (X ++ Q.map fun p => nextR X p (linesOf b p))[X.length + i] = ⟨Q[i], verP X Q[i] + 1, linesOf b Q[i]⟩ := by
      rw [List.getElem_append_right (by omega)]
      simp [nextR]
    have hm := List.getElem_mem hi
    have hnot : Q[i] ∉ Q.take i := fun hm => by
      obtain ⟨k, hk, e⟩ := List.getElem_of_mem hm
      rw [List.length_take] at hk
      rw [List.getElem_take] at e
      have := List.pairwise_iff_getElem.1 hQ k i (by omega) hi (by omega)
      exact this e
    rw [e1, e2, stepB_iff]
    refine ⟨(h0 _ hm).1, (h0 _ hm).2, formR_lines _ _, ?_, ?_⟩
    · have := ver_map (fun p => verP X p + 1) (fun p => linesOf b p) Q[i] (Q.take i) X
      rw [if_neg hnot] at this
      simp only [this]
    · have := lin_map (fun p => verP X p + 1) (fun p => linesOf b p) Q[i] (Q.take i) X
      rw [if_neg hnot] at this
      simp only [this]
      exact (hne _ hm).symm
theorem book_mem {b : List Pst} (h : bookB b = true) {p : Int} (hp : p ∈ b.map (·.per)) : 0 ≤ p ∧ p ≤ 84005 := by
  obtain ⟨x, hx, rfl⟩ := List.mem_map.1 hp
  simp only [bookB, validsB, Bool.and_eq_true, List.all_eq_true] at h
  exact per_in (h.2.2 x hx)
/-- one round of the law -/
structure Filing (X : List Ret) (b : List Pst) : Prop where
  e1 : fileE X b = 0
  e2 : fileE (X ++ fileR X b) b = 0
  len : (fileR X b).length ≤ b.length
  val : validRs (X ++ fileR X b) = true
  lin : ∀ p, linP (X ++ fileR X b) p = linesOf b p
  none : fileR (X ++ fileR X b) b = []
  few : ∀ r ∈ fileR X b, r.l.length ≤ b.length
theorem filing {X : List Ret} {b : List Pst} (hX : validRs X = true) (hb : bookB b = true) (hp : ∀ p, p ∉ b.map (·.per) → linP X p = []) : Filing X b := by
  have hR : fileR X b = ((persOf b).filter fun p => decide (linP X p ≠ linesOf b p)).map fun p => nextR X p (linesOf b p) := by rw [fileR, hX, hb]; rfl
  obtain ⟨Q, hQ⟩ : ∃ Q, (persOf b).filter (fun p => decide (linP X p ≠ linesOf b p)) = Q := ⟨_, rfl⟩
  have hmem : ∀ p, p ∈ Q ↔ p ∈ b.map (·.per) ∧ linP X p ≠ linesOf b p := fun p => by
    rw [← hQ, List.mem_filter, persOf, mem_asI, decide_eq_true_eq]
  have hnd : Q.Nodup := by rw [← hQ]; exact (asc_nodup (asI_asc _)).filter _
  have hlen : Q.length ≤ b.length := by rw [← hQ]; exact Nat.le_trans (List.length_filter_le _ _) (persOf_len b)
  rw [hQ] at hR
  have hval : validRs (X ++ fileR X b) = true := by
    rw [hR]
    exact valid_app hX hnd (fun p h => book_mem hb ((hmem p).1 h).1) (fun p h => ((hmem p).1 h).2)
  have hlin : ∀ p, linP (X ++ fileR X b) p = linesOf b p := fun p => by
    rw [hR]
    have := lin_map (fun p => verP X p + 1) (fun p => linesOf b p) p Q X
    refine Eq.trans this ?_
    by_cases h : p ∈ Q
    · rw [if_pos h]
    · rw [if_neg h]
      by_cases h2 : linP X p = linesOf b p
      · exact h2
      · have hn : p ∉ b.map (·.per) := fun hm => h ((hmem p).2 ⟨hm, h2⟩)
        rw [hp p hn, lines_none hb hn]
  refine ⟨by rw [fileE, hX, hb]; rfl, by rw [fileE, hval, hb]; rfl, by rw [hR, List.length_map]; exact hlen, hval, hlin, ?_, fun r hr => ?_⟩
  · rw [fileR, hval, hb]
    have : (persOf b).filter (fun p => decide (linP (X ++ fileR X b) p ≠ linesOf b p)) = [] := List.filter_eq_nil_iff.2 fun p _ => by rw [hlin p]; simp
    show filedF _ _ _ = []
    rw [filedF, this]; rfl
  · rw [hR] at hr
    obtain ⟨p, _, rfl⟩ := List.mem_map.1 hr
    exact lines_len b p
/-- the book as of a run -/
theorem asOf_book {b : List Pst} (h : bookB b = true) (r : Int) : bookB (asOfL b r) = true := by rw [asOfL, if_pos h]; exact book_filter h _
theorem asOf_len (b : List Pst) (r : Int) : (asOfL b r).length ≤ b.length := by
  unfold asOfL upTo
  split
  · exact List.length_filter_le _ _
  · exact Nat.zero_le _
theorem asOf_more {b : List Pst} (h : bookB b = true) {r s : Int} (hrs : r ≤ s) {p : Int} (hp : p ∈ (asOfL b r).map (·.per)) : p ∈ (asOfL b s).map (·.per) := by
  rw [asOfL, if_pos h] at hp ⊢
  obtain ⟨x, hx, rfl⟩ := List.mem_map.1 hp
  refine List.mem_map.2 ⟨x, ?_, rfl⟩
  unfold upTo at hx ⊢
  rw [List.mem_filter] at hx ⊢
  exact ⟨hx.1, by have := hx.2; simp at this ⊢; omega⟩
/-- where the law stands ahead of a run -/
structure Once (b : List Pst) (run : Int) (X : List Ret) : Prop where
  val : validRs X = true
  lin : ∀ p, p ∉ (asOfL b run).map (·.per) → linP X p = []
  few : ∀ r ∈ X, r.l.length ≤ b.length
theorem Once.nil (b : List Pst) : Once b 0 [] := ⟨rfl, fun _ _ => rfl, fun _ h => by cases h⟩
theorem Once.filing {b : List Pst} {run : Int} {X : List Ret} (h : Once b run X) (hb : bookB b = true) : Filing X (asOfL b run) := Go.Proofs.YtjbhabfflcbebaaGreat.filing h.val (asOf_book hb run) h.lin
theorem Once.next {b : List Pst} {run : Int} {X : List Ret} (h : Once b run X) (hb : bookB b = true) : Once b (run + 1) (X ++ fileR X (asOfL b run)) := by
  have hf := h.filing hb
  refine ⟨hf.val, fun p hp => ?_, fun r hr => ?_⟩
  · rw [hf.lin]
    exact lines_none (asOf_book hb run) (fun hm => hp (asOf_more hb (by omega) hm))
  · rcases List.mem_append.1 hr with hr | hr
    · exact h.few r hr
    · exact Nat.le_trans (hf.few r hr) (asOf_len b run)
end Go.Proofs.YtjbhabfflcbebaaGreat
/- Contracts of the reference: Ordered, Filed, Form. Written by gen_rv1.py. -/
namespace Go.Proofs.YtjbhabfflcbebaaGreat
open Go.RowKit Go.Sort

/-- the lines up to k are in order -/
def OrdOk (l : List Ln) (k : Nat) : Prop := ∀ j (h : j < l.length), j < k → formB l[j] = true ∧ ∀ h0 : 0 < j, lnLt (l[j - 1]'(by omega)) l[j] = true
theorem ordOk_end {l : List Ln} (h : OrdOk l l.length) : ordB l = true := by
  rw [ordB_iff]
  exact ⟨fun j hj => (h j hj hj).1, fun j hj => (h (j + 1) hj hj).2 (by omega)⟩
theorem ordOk_form {l : List Ln} {k : Nat} (hk : k < l.length) (h : formB l[k] = false) : ordB l = false := by
  rw [Bool.eq_false_iff]
  intro hh
  have := ((ordB_iff _).1 hh).1 k hk
  rw [h] at this; cases this
theorem ordOk_lt {l : List Ln} {k : Nat} (hk : k + 1 < l.length) (h : lnLt (l[k]'(by omega)) l[k + 1] = false) : ordB l = false := by
  rw [Bool.eq_false_iff]
  intro hh
  have := ((ordB_iff _).1 hh).2 k hk
  rw [h] at this; cases this
set_option maxRecDepth 100000 in
set_option maxHeartbeats 4000000 in
theorem Ordered_any (l : List Ln) (v : Value) (w : World) (hv : Sl w 3 v (lns l)) :
    Calls Tryz.prog 46 #[v] w fun e w' => e = .returned (.bool (ordB l)) ∧ Below w.heap.size w w' := by
  have HV := Lib.hid hv
  obtain ⟨A, cap, rfl, h1, h2, _, _⟩ := hv
  rw [lns_len] at h1 HV ⊢
  unfold maxLen at h2
  go_enter Tryz.func46, Tryz.ntmps46
  go_wp2
  go_loopw [3] (fun i wr => ∃ k : Nat, k ≤ l.length ∧ i = .int .i64 k ∧ Hid (Below w.heap.size w wr) ∧ Hid (OrdOk l k)) (fun i _ => l.length - (intOf i).toNat)
  case atStart => exact ⟨0, by omega, rfl, Below.refl _ _, fun j _ h => by omega⟩
  case round =>
    obtain ⟨k, hk, rfl, HB, HK⟩ := hrel
    obtain ⟨wo, rfl⟩ : ∃ wo : World, wo = wr := ⟨_, rfl⟩
    by_cases hlt : k < l.length
    · obtain ⟨bk, off, rfl, hc⟩ := (HV.out.below HB.out).cells (by rw [lns_len]; omega)
      have hbl := hc.1
      obtain ⟨c0, c1, c2⟩ := hc.ln hlt
      have i1 : (k : Int) < (l.length : Int) := by omega
      have HFD := Lib.hid (fun h => ordOk_form hlt h)
      have HPR : Hid (∀ (j : Nat) (hj : j < l.length), ∀ y : Ext wo, y.val.cell? ⟨bk, off + j * 3, none⟩ = some (.int .i64 (l[j]).kind) ∧ y.val.cell? ⟨bk, off + j * 3 + 1, none⟩ = some (.string (l[j]).code) ∧ y.val.cell? ⟨bk, off + j * 3 + 2, none⟩ = some (.int .i64 (l[j]).amt)) := fun j hj y => ⟨ext_cell hbl (hc.ln hj).1 y, ext_cell hbl (hc.ln hj).2.1 y, ext_cell hbl (hc.ln hj).2.2 y⟩
      obtain ⟨x, hx⟩ : ∃ x, l[k] = x := ⟨_, rfl⟩
      have HX := Lib.hid hx
      rw [hx] at c0 c1 c2 HFD
      have d0 := ext_cell hbl c0
      have d1 := ext_cell hbl c1
      have d2 := ext_cell hbl c2
      have HF := Lib.hid (fun y : Ext wo => refForm_any x y.val)
      have HBY : Hid (∀ y : Ext wo, Below w.heap.size w y.val) := fun y => below_after HB.out y.property HB.out.size
      clear hx hc c0 c1 c2
      cases hf : formB x
      · rw [hf] at HF
        have HE := Lib.hid (HFD.out hf)
        clear hf HFD HPR
        go_wp2_with fail
        refine region_ext (by kernel_rfl) (by kernel_rfl) ?_
        repeat (go_big_quiet_step ((go_at_call 63; exact ext_call (HF.out _))))
        refine wpQuiet_nil ?_
        rintro _ ⟨y, rfl⟩
        go_wp2
        go_ret
        exact ⟨ret_bool HE.out.symm, HBY.out y⟩
      rw [hf] at HF
      have HFM := Lib.hid hf
      clear hf HFD
      rcases Nat.eq_zero_or_pos k with rfl | hk0
      · have HN : Hid (OrdOk l (0 + 1)) := fun j hj h => by
          obtain rfl : j = 0 := by omega
          exact ⟨by rw [HX.out]; exact HFM.out, fun h => by omega⟩
        simp only [Nat.zero_mul, Nat.add_zero] at d0 d1 d2
        clear HPR
        go_wp2_with fail
        refine region_ext (by kernel_rfl) (by kernel_rfl) ?_
        repeat (go_big_quiet_step ((go_at_call 63; exact ext_call (HF.out _))))
        refine wpQuiet_nil ?_
        rintro _ ⟨y, rfl⟩
        go_wp2
        go_roundw
        case rel => exact ⟨0 + 1, by omega, by go_num, HBY.out y, HN.out⟩
        case measure => simp [intOf]; omega
      · obtain ⟨j, rfl⟩ : ∃ j, k = j + 1 := ⟨k - 1, by omega⟩
        have hjl : j < l.length := by omega
        have HP := HPR.out j hjl
        have HOD := Lib.hid (fun h => ordOk_lt (k := j) hlt h)
        rw [HX.out] at HOD
        have HKJ : Hid (lnLt (l[j]'hjl) x = true → OrdOk l (j + 1 + 1)) := fun hl' i hi hik => by
          by_cases e : i = j + 1
          · subst e
            refine ⟨by rw [HX.out]; exact HFM.out, fun _ => ?_⟩
            rw [HX.out]
            exact hl'
          · exact HK.out i hi (by omega)
        obtain ⟨y, hy⟩ : ∃ y, l[j] = y := ⟨_, rfl⟩
        rw [hy] at HP HOD HKJ
        have p0 := fun z => (HP z).1
        have p1 := fun z => (HP z).2.1
        have p2 := fun z => (HP z).2.2
        have HLS := Lib.hid (fun z : Ext wo => Less_any y x z.val)
        have i2 : (j : Int) < (l.length : Int) := by omega
        have s2 : IntKind.i64.wrap ((j : Int) + 1 - 1) = (j : Int) := by rw [show (j : Int) + 1 - 1 = (j : Int) by omega]; exact IntWalk.i64_in _ (by omega)
        clear hy HP HPR
        cases hly : lnLt y x
        · rw [hly] at HLS
          have HE := Lib.hid (HOD.out hly)
          clear hly HOD HKJ
          go_wp2_with fail
          refine region_ext (by kernel_rfl) (by kernel_rfl) ?_
          repeat (go_big_quiet_step (first | (go_at_call 63; exact ext_call (HF.out _)) | (go_at_call 64; exact ext_call (HLS.out _))))
          refine wpQuiet_nil ?_
          rintro _ ⟨z, rfl⟩
          go_wp2
          go_ret
          exact ⟨ret_bool HE.out.symm, HBY.out z⟩
        · rw [hly] at HLS
          have HN := Lib.hid (HKJ.out hly)
          clear hly HOD HKJ
          go_wp2_with fail
          refine region_ext (by kernel_rfl) (by kernel_rfl) ?_
          repeat (go_big_quiet_step (first | (go_at_call 63; exact ext_call (HF.out _)) | (go_at_call 64; exact ext_call (HLS.out _))))
          refine wpQuiet_nil ?_
          rintro _ ⟨z, rfl⟩
          go_wp2
          go_roundw
          case rel => exact ⟨j + 1 + 1, by omega, by go_num, HBY.out z, HN.out⟩
          case measure => simp [intOf]; omega
    · obtain rfl : k = l.length := by omega
      have HE := Lib.hid (ordOk_end HK.out)
      go_wp2
      go_ret
      exact ⟨ret_bool HE.out.symm, HB.out⟩
theorem Filed_any (k : Int) (w : World) :
    Calls Tryz.prog 47 #[.int .i64 k] w fun e w' => e = .returned (.bool (filedB k)) ∧ w = w' := by
  cases h4 : (k == 4)
  · cases h5 : (k == 5)
    · go_enter Tryz.func47, Tryz.ntmps47
      go_wp2
      go_ret
      exact ⟨ret_bool (by simp at h4 h5; simp [filedB, h4, h5]; rfl), rfl⟩
    · go_enter Tryz.func47, Tryz.ntmps47
      go_wp2
      go_ret
      exact ⟨ret_bool (by simp at h5; simp [filedB, h5]), rfl⟩
  · go_enter Tryz.func47, Tryz.ntmps47
    go_wp2
    go_ret
    exact ⟨ret_bool (by simp at h4; simp [filedB, h4]), rfl⟩
set_option maxRecDepth 100000 in
set_option maxHeartbeats 2000000 in
theorem FormL_any (l : List Ln) (v : Value) (w : World) (hv : Sl w 3 v (lns l)) :
    Calls Tryz.prog 32 #[v] w fun e w' => e = .returned (.bool (formR l)) ∧ Below w.heap.size w w' := by
  have HV := Lib.hid hv
  have HO := Lib.hid (Ordered_any l v w hv)
  have HFR : Hid (formR l = (l.all (fun x => filedB x.kind) && ordB l)) := rfl
  obtain ⟨A, cap, rfl, h1, h2, _, _⟩ := hv
  rw [lns_len] at h1 HV HO ⊢
  unfold maxLen at h2
  cases ho : ordB l
  · rw [ho] at HO HFR
    have HE : Hid (formR l = false) := by rw [Hid, HFR.out, Bool.and_false]
    clear ho
    go_enter Tryz.func32, Tryz.ntmps32
    go_wp2_with fail
    refine HO.out.mono ?_
    rintro e w1 ⟨rfl, hb1⟩
    go_wp2
    go_ret
    exact ⟨ret_bool HE.out.symm, hb1⟩
  rw [ho] at HO HFR
  clear ho
  go_enter Tryz.func32, Tryz.ntmps32
  go_wp2_with fail
  refine HO.out.mono ?_
  rintro e w1 ⟨rfl, hb1⟩
  go_wp2_with fail
  go_loopw [3] (fun i wr => ∃ k : Nat, k ≤ l.length ∧ i = .int .i64 k ∧ Hid (Below w.heap.size w wr) ∧ Hid ((l.take k).all (fun x => filedB x.kind) = true)) (fun i _ => l.length - (intOf i).toNat)
  case atStart => exact ⟨0, by omega, rfl, hb1, rfl⟩
  case round =>
    clear hb1
    obtain ⟨k, hk, rfl, HB, HK⟩ := hrel
    obtain ⟨wo, rfl⟩ : ∃ wo : World, wo = wr := ⟨_, rfl⟩
    by_cases hlt : k < l.length
    · obtain ⟨bk, off, rfl, hc⟩ := (HV.out.below HB.out).cells (by rw [lns_len]; omega)
      have hbl := hc.1
      obtain ⟨c0, c1, c2⟩ := hc.ln hlt
      have i1 : (k : Int) < (l.length : Int) := by omega
      have HTK : Hid ((l.take (k + 1)).all (fun x => filedB x.kind) = filedB (l[k]).kind) := by
        rw [Hid, List.take_succ_eq_append_getElem hlt, List.all_append, HK.out]; simp
      have HNO : Hid (filedB (l[k]).kind = false → formR l = false) := fun h => by
        rw [HFR.out, Bool.and_true, Bool.eq_false_iff]
        intro hh
        have := List.all_eq_true.1 hh _ (List.getElem_mem hlt)
        rw [h] at this; cases this
      obtain ⟨x, hx⟩ : ∃ x, l[k] = x := ⟨_, rfl⟩
      rw [hx] at c0 c1 c2 HTK HNO
      have HFI := Lib.hid (Filed_any x.kind wo)
      clear hx hc
      cases hf : filedB x.kind
      · rw [hf] at HFI
        have HE := Lib.hid (HNO.out hf)
        clear hf HNO HTK
        go_wp2_with fail
        refine HFI.out.mono ?_
        rintro e w' ⟨rfl, rfl⟩
        go_wp2
        go_ret
        exact ⟨ret_bool HE.out.symm, HB.out⟩
      · rw [hf] at HFI HTK
        clear hf HNO
        go_wp2_with fail
        refine HFI.out.mono ?_
        rintro e w' ⟨rfl, rfl⟩
        go_wp2
        go_roundw
        case rel => exact ⟨k + 1, by omega, by go_num, HB.out, HTK.out⟩
        case measure => simp [intOf]; omega
    · have hkk : k = l.length := by omega
      have HE : Hid (formR l = true) := by
        have := HK.out
        rw [List.take_of_length_le (by omega)] at this
        rw [Hid, HFR.out, this]; rfl
      subst hkk
      go_wp2
      go_ret
      exact ⟨ret_bool HE.out.symm, HB.out⟩
end Go.Proofs.YtjbhabfflcbebaaGreat
/- A region that draws its order, walked in the order of its text: stretches of operations that only read or call quietly, and between them single operations that nothing can pass. -/
namespace Go.Proofs.YtjbhabfflcbebaaGreat
open Go.RowKit

section
variable {P : Program} {ops : Array Oper} {md : Region.Mode} {w : World}

/-- each of k .. n-1 is waited for on the way to n -/
def sinkFrom (md : Region.Mode) (ops : Array Oper) (k n : Nat) : Bool :=
  (List.range n).all fun i => decide (i < k) || (List.range (n + 1)).any fun j => decide (i < j) && Region.waitsFor md ops j i
/-- each behind n waits for n or for one behind it -/
def chainFrom (md : Region.Mode) (ops : Array Oper) (n : Nat) : Bool :=
  (List.range ops.size).all fun t => decide (t ≤ n) || (List.range t).any fun j => decide (n ≤ j) && Region.waitsFor md ops t j
/-- the first s from k on can be taken in the text's order -/
def headFrom (md : Region.Mode) (ops : Array Oper) : Nat → Nat → Array Bool → Bool
  | 0, k, listed => decide (Region.ready md ops listed = [k])
  | s + 1, k, listed => (Region.ready md ops listed).contains k && Region.free md ops listed k && headFrom md ops s (k + 1) (listed.setIfInBounds k true)
def setFrom (s k : Nat) (listed : Array Bool) : Array Bool := match s with
  | 0 => listed
  | s + 1 => setFrom s (k + 1) (listed.setIfInBounds k true)
def mixB (md : Region.Mode) (ops : Array Oper) : List Nat → Nat → Array Bool → Bool
  | [], _, _ => false
  | [_], k, listed => Region.lexFrom md ops (ops.size - k) k listed
  | s :: t :: r, k, listed => decide (k + s < ops.size) && sinkFrom md ops k (k + s) && chainFrom md ops (k + s) && headFrom md ops s k listed && mixB md ops (t :: r) (k + s + 1) ((setFrom s k listed).setIfInBounds (k + s) true)
/-- the walk -/
def wpMix (P : Program) (ops : Array Oper) (Q : Exit → Act → World → Prop) : List Nat → List Oper → Act → World → Prop
  | [], _, _, _ => False
  | [_], l, a, w => wpStill P ops w (fun a' => Q .normal a' w) l a
  | s :: t :: r, l, a, w => wpStill P ops w (fun a' => wpList P ops (Exit.then (fun a'' w'' => wpMix P ops Q (t :: r) (l.drop (s + 1)) a'' w'') Q) ((l.drop s).take 1) a' w) (l.take s) a

theorem tail_waits' {k n : Nat} {listed : Array Bool} (hs : sinkFrom md ops k n = true) (hc : chainFrom md ops n = true) (inv : HeadInv md ops n listed) :
    ∀ (d i : Nat), n - i = d → k ≤ i → i < n → listed.getD i true = false → ∀ t, n ≤ t → t ∉ Region.ready md ops listed := by
  intro d
  induction d using Nat.strongRecOn with
  | _ d ih =>
    intro i hd hki hi hun t ht hr
    obtain ⟨_, ot, hot, hall⟩ := mem_ready.1 hr
    have htlt : t < ops.size := (Array.getElem?_eq_some_iff.1 hot).1
    by_cases htn : t = n
    · subst htn
      have h1 := List.all_eq_true.1 hs i (List.mem_range.2 hi)
      simp only [Bool.or_eq_true, decide_eq_true_eq] at h1
      rcases h1 with h1 | h1
      · omega
      obtain ⟨j, hj, hj2⟩ := List.any_eq_true.1 h1
      simp only [Bool.and_eq_true, decide_eq_true_eq] at hj2
      obtain ⟨oj, hoj, e, he, hb, hon⟩ := Region.waitsFor_spec hj2.2
      have hjle : j ≤ t := by have := List.mem_range.1 hj; omega
      by_cases hjt : j = t
      · subst hjt
        have : oj = ot := Option.some.inj (hoj.symm.trans hot)
        subst this
        have h2 := hall e he hb
        rw [hon, getD_both hun] at h2
        cases h2
      · cases hl : listed.getD j false with
        | true =>
          have h2 := inv.closed j oj hoj hl e he hb
          rw [hon, getD_both hun] at h2
          cases h2
        | false =>
          have hjs : j < listed.size := by rw [inv.size]; omega
          exact ih (t - j) (by omega) j rfl (by omega) (by omega) (getD_in hjs hl) t (Nat.le_refl _) hr
    · have h1 := List.all_eq_true.1 hc t (List.mem_range.2 htlt)
      simp only [Bool.or_eq_true, decide_eq_true_eq] at h1
      rcases h1 with h1 | h1
      · omega
      · obtain ⟨j, hj, hj2⟩ := List.any_eq_true.1 h1
        simp only [Bool.and_eq_true, decide_eq_true_eq] at hj2
        obtain ⟨o', ho', e, he, hb, hon⟩ := Region.waitsFor_spec hj2.2
        have : o' = ot := Option.some.inj (ho'.symm.trans hot)
        subst this
        have h2 := hall e he hb
        have hjt := List.mem_range.1 hj
        rw [hon, getD_both (inv.tail j hj2.1 (by omega))] at h2
        cases h2

theorem wpAnyL_first' {k n i : Nat} {oi : Oper} {v : Value} {L : Array Bool → Act → Prop} (hi : ops[i]? = some oi) (hsel : ∀ (j : Nat) (o : Oper) cs b, ops[j]? = some o → o.op ≠ .select cs b)
    (hs : sinkFrom md ops k n = true) (hc : chainFrom md ops n = true) (hki : k ≤ i) (hin : i < n)
    (hdone : ∀ listed a, L listed a → ∀ j ∈ Region.ready md ops listed, n ≤ j) :
    ∀ (f : Nat) (listed : Array Bool) (a : Act), HeadInv md ops n listed →
      (∀ j oj, ops[j]? = some oj → j ≠ i → listed.getD j true = false → (∀ e ∈ oj.after, Region.binds md e = true → e.on ≠ i) → oi.apart ops oj = true) →
      i ∈ Region.ready md ops listed → YieldsAt P ops w oi v a →
      wpAnyL P md ops w n L f (listed.setIfInBounds i true) (a.put oi.dst v) → wpAnyL P md ops w n L (f + 1) listed a := by
  intro f
  induction f with
  | zero =>
    intro listed a inv _ hr hy H
    have hun := (mem_ready.1 hr).1
    refine ⟨fun h => (by rw [h] at hr; cases hr), fun j hj => ?_⟩
    have hjn : j < n := by
      rcases Nat.lt_or_ge j n with h | h
      · exact h
      · exact absurd hj (tail_waits' hs hc inv _ i rfl hki hin hun j h)
    refine ⟨hjn, ?_⟩
    by_cases hji : j = i
    · subst hji; exact hy.stOp hi H
    · have := hdone _ _ H j (ready_mono hj hji)
      omega
  | succ f ih =>
    intro listed a inv hfree hr hy H
    have hun := (mem_ready.1 hr).1
    refine ⟨fun h => (by rw [h] at hr; cases hr), fun j hj => ?_⟩
    have hjn : j < n := by
      rcases Nat.lt_or_ge j n with h | h
      · exact h
      · exact absurd hj (tail_waits' hs hc inv _ i rfl hki hin hun j h)
    refine ⟨hjn, ?_⟩
    by_cases hji : j = i
    · subst hji; exact hy.stOp hi H
    · have h1 := (H.2 j (ready_mono hj hji)).2
      obtain ⟨hjun, oj, hoj, hall⟩ := mem_ready.1 hj
      have hnot : ∀ e ∈ oj.after, Region.binds md e = true → e.on ≠ i := fun e he hb heq => by
        have h1 := hall e he hb
        rw [heq, getD_both hun] at h1
        cases h1
      have h2 := stOp_put hoj (hfree j oj hoj hji hjun hnot) (fun cs b => hsel i oi cs b hi) (fun cs b => hsel j oj cs b hoj) hy h1
      have hfree' : ∀ q oq, ops[q]? = some oq → q ≠ i → (listed.setIfInBounds j true).getD q true = false →
          (∀ e ∈ oq.after, Region.binds md e = true → e.on ≠ i) → oi.apart ops oq = true := fun q oq hq hqi hun hno => by
        refine hfree q oq hq hqi ?_ hno
        by_cases hjq : j = q
        · subst hjq; exact hjun
        · rw [getD_set_ne true hjq] at hun; exact hun
      refine stOp_mono (fun a' h3 => ih (listed.setIfInBounds j true) a' (inv.set hj hjn) hfree' (ready_mono hr (Ne.symm hji)) h3.1 ?_) h2
      rw [Array.setIfInBounds_comm _ _ hji]
      exact h3.2

theorem wpAnyL_lex' {k0 n : Nat} {Lq : Act → Prop} (hsel : Region.noSelect ops = true) (hs : sinkFrom md ops k0 n = true) (hc : chainFrom md ops n = true) (F : Array Bool) (hF : Region.ready md ops F = [n]) :
    ∀ (l : List Oper) (k : Nat) (listed : Array Bool) (a : Act), (∀ j, j < l.length → l[j]? = ops[k + j]?) → k + l.length = n → k0 ≤ k → HeadInv md ops n listed →
    headFrom md ops l.length k listed = true → setFrom l.length k listed = F → wpStill P ops w Lq l a →
    wpAnyL P md ops w n (fun listed' a' => listed' = F ∧ HeadInv md ops n listed' ∧ Lq a') l.length listed a
  | [], k, listed, a, _, hk, _, inv, hB, hset, h => ⟨hset, inv, h⟩
  | o :: l, k, listed, a, hl, hk, hk0, inv, hB, hset, h => by
    have h0 : ops[k]? = some o := by simpa using (hl 0 (by simp)).symm
    simp only [List.length_cons, headFrom, Bool.and_eq_true] at hB
    obtain ⟨⟨hr, hf⟩, hB'⟩ := hB
    have hkn : k < n := by simp only [List.length_cons] at hk; omega
    have hr' : k ∈ Region.ready md ops listed := by simpa using hr
    have hst : stOp P ops w k (wpStill P ops w Lq l) a := by unfold stOp; simp only [h0]; exact h
    obtain ⟨v, hy, hK⟩ := yieldsAt_of_stOp h0 hst
    exact wpAnyL_first' h0 (Region.noSelect_spec hsel) hs hc hk0 hkn (fun listed' a' hL j hj => by rw [hL.1, hF] at hj; simp at hj; omega) l.length listed a inv (Region.free_spec h0 hf) hr' hy
      (wpAnyL_lex' hsel hs hc F hF l (k + 1) _ _ (fun j hj => by have := hl (j + 1) (by simp; omega); simpa [Nat.add_assoc, Nat.add_comm 1 j] using this) (by simp only [List.length_cons] at hk; omega) (by omega) (inv.set hr' hkn) hB' hset hK)

theorem headFrom_ready : ∀ (s k : Nat) (listed : Array Bool), headFrom md ops s k listed = true → Region.ready md ops (setFrom s k listed) = [k + s]
  | 0, k, listed, h => by simpa [headFrom, setFrom] using h
  | s + 1, k, listed, h => by
    simp only [headFrom, Bool.and_eq_true] at h
    have := headFrom_ready s (k + 1) _ h.2
    rw [setFrom, this]; congr 1; omega

/-- what is listed is closed, and is just the first k -/
def Firsts (md : Region.Mode) (ops : Array Oper) (k : Nat) (listed : Array Bool) : Prop :=
  listed.size = ops.size ∧ (∀ j oj, ops[j]? = some oj → listed.getD j false = true → ∀ e ∈ oj.after, Region.binds md e = true → listed.getD e.on false = true) ∧ ∀ t, k ≤ t → t < ops.size → listed.getD t true = false
theorem Firsts.next {n : Nat} {listed : Array Bool} (h : HeadInv md ops n listed) (hr : Region.ready md ops listed = [n]) : Firsts md ops (n + 1) (listed.setIfInBounds n true) := by
  have hn : n ∈ Region.ready md ops listed := by rw [hr]; simp
  obtain ⟨_, oi, hoi, hall⟩ := mem_ready.1 hn
  refine ⟨by simp [h.size], fun j oj hj hl e he hb => ?_, fun t ht ht' => by rw [getD_set_ne true (by omega)]; exact h.tail t (by omega) ht'⟩
  by_cases hij : n = j
  · subst hij
    have : oj = oi := Option.some.inj (hj.symm.trans hoi)
    subst this
    exact getD_set_true (hall e he hb)
  · rw [getD_set_ne false hij] at hl
    exact getD_set_true (h.closed j oj hj hl e he hb)

theorem wp_then {o : Oper} {a : Act} {next K : Act → World → Prop} {Q : Exit → Act → World → Prop} (h : o.wp P a w next (Exit.then K Q)) : o.wp P a w next Q := by
  unfold Oper.wp at *
  generalize (execOp a.eval o).run P w = r at *
  cases r with
  | ok n w' => cases n <;> exact h
  | halt x w' => cases x <;> exact h
theorem wpOp_then {i : Nat} {a : Act} {next K : Act → World → Prop} {Q : Exit → Act → World → Prop} (h : wpOp P ops (Exit.then K Q) i next a w) : wpOp P ops Q i next a w := by
  unfold wpOp at *
  revert h
  cases ops[i]? with
  | none => exact id
  | some o =>
    intro h
    simp only at *
    split
    · rename_i hw
      rw [if_pos hw] at h
      rcases h with h | h
      · exact .inl (wp_then h)
      · exact .inr ⟨h.1, h.2⟩
    · rename_i hw
      rwa [if_neg hw] at h
theorem wpAny_of_mix {Q : Exit → Act → World → Prop} (hsel : Region.noSelect ops = true) : ∀ (ph : List Nat) (l : List Oper) (k : Nat) (listed : Array Bool) (a : Act) (w : World), k + l.length = ops.size → (∀ j, l[j]? = ops[k + j]?) → Firsts md ops k listed →
    mixB md ops ph k listed = true → wpMix P ops Q ph l a w → wpAny P md ops Q l.length listed a w
  | [], _, _, _, _, _, _, _, _, hB, _ => by cases hB
  | [s], l, k, listed, a, w, hk, hl, _, hB, h => by
    refine wpAny_of_still (Q := fun a' => Q .normal a' w) (fun _ h => h) _ _ _ ?_
    refine wpAnyS_lex hsel l k listed a hl ?_ h
    simp only [mixB] at hB
    rwa [show ops.size - k = l.length by omega] at hB
  | s :: t :: r, l, k, listed, a, w, hk, hl, hfs, hB, h => by
    simp only [mixB, Bool.and_eq_true, decide_eq_true_eq] at hB
    obtain ⟨⟨⟨⟨hn, hs⟩, hc⟩, hh⟩, hrest⟩ := hB
    have hsl : s < l.length := by omega
    have htl : (l.take s).length = s := by simp; omega
    have inv : HeadInv md ops (k + s) listed := ⟨hfs.1, hfs.2.1, fun t ht ht' => hfs.2.2 t (by omega) ht'⟩
    have hF := headFrom_ready s k listed hh
    have H := wpAnyL_lex' (P := P) (w := w) hsel hs hc _ hF (l.take s) k listed a (fun j hj => by
      have hj' : j < s := by rw [htl] at hj; exact hj
      rw [List.getElem?_take, if_pos hj']; exact hl j) (by omega) (Nat.le_refl _) inv (by rw [htl]; exact hh) (by rw [htl]) h
    have := wpAny_of_head (Q' := Q) (g := l.length - s) (fun listed' a' hL => by
      obtain ⟨rfl, inv', hL⟩ := hL
      have hg : l.length - s = (l.length - s - 1) + 1 := by omega
      rw [hg]
      refine ⟨fun h1 => (by rw [hF] at h1; cases h1), fun i hi => ?_⟩
      rw [hF] at hi
      have hik : i = k + s := by simpa using hi
      subst hik
      have ho : ops[k + s]? = some l[s] := by rw [← hl s]; exact List.getElem?_eq_getElem hsl
      have hd1 : (l.drop s).take 1 = [l[s]] := by rw [List.drop_eq_getElem_cons hsl]; rfl
      rw [hd1] at hL
      have hw : wpOp P ops (Exit.then (fun a'' w'' => wpMix P ops Q (t :: r) (l.drop (s + 1)) a'' w'') Q) (k + s) (wpList P ops (Exit.then (fun a'' w'' => wpMix P ops Q (t :: r) (l.drop (s + 1)) a'' w'') Q) []) a' w := by unfold wpOp; simp only [ho]; exact hL
      refine wpOp_mono (fun a'' w'' h' => ?_) (wpOp_then hw)
      have h2 := wpAny_of_mix hsel (t :: r) (l.drop (s + 1)) (k + s + 1) _ a'' w'' (by rw [List.length_drop]; omega) (fun j => by rw [List.getElem?_drop, hl]; congr 1; omega) (Firsts.next inv' hF) hrest h'
      rwa [List.length_drop, show l.length - (s + 1) = l.length - s - 1 by omega] at h2) _ _ _ H
    rw [htl, show s + (l.length - s) = l.length by omega] at this
    exact this

/-- the region, by its stretches: ph counts the quiet operations ahead of each single one, and those at the end -/
theorem region_mix {id : Nat} {Q : Exit → Act → World → Prop} {a : Act} {l : List Oper} (ph : List Nat) (hm : P.follows .mixedOrders = true) (hs : Region.noSelect l.toArray = true)
    (hB : mixB .any l.toArray ph 0 (Array.replicate l.toArray.size false) = true) (h : wpMix P l.toArray Q ph l a w.drew) : (Code.region id l.toArray true).wp P Q a w := by
  refine wp_region_any hm ?_
  have := wpAny_of_mix (P := P) (md := .any) (Q := Q) hs ph l 0 (Array.replicate l.toArray.size false) a w.drew (by simp) (fun j => by simp) ⟨by simp, fun j oj _ hl => (by rw [getD_replicate_false] at hl; cases hl), fun t _ ht => getD_in (by simpa using ht) (getD_replicate_false _ _)⟩ hB h
  simpa using this
end

end Go.Proofs.YtjbhabfflcbebaaGreat
/- payrollref38.Valid. Written by gen_rva.py. -/
namespace Go.Proofs.YtjbhabfflcbebaaGreat
open Go.RowKit Go.Shelf

set_option maxRecDepth 100000 in
set_option maxHeartbeats 8000000 in
theorem refValid38_any (ps : List (Ret × Value)) (v : Value) (w : World) (hv : RetsAt w v ps) (hl : ∀ q ∈ ps, q.1.l.length ≤ 256) (hlen : ps.length ≤ 60000) :
    Calls Tryz.prog 15 #[v] w fun e w' => e = .returned (.bool (validRs (ps.map (·.1)))) ∧ Below w.heap.size w w' := by
  have HV := Lib.hid hv
  have HL := Lib.hid hl
  obtain ⟨A, cap, rfl, h1, h2, _, _⟩ := hv.sl
  rw [rets_len] at h1 HV ⊢
  unfold maxLen at h2
  have HLE : Hid ((ps.map (·.1)).length = ps.length) := by rw [Hid, List.length_map]
  have HLX : Hid (∀ (j : Nat) (h : j < (ps.map (·.1)).length) (h' : j < ps.length), (ps.map (·.1))[j] = (ps[j]'h').1) := fun j h h' => by rw [List.getElem_map]
  have HTK : Hid (∀ k, (ps.take k).map (·.1) = (ps.map (·.1)).take k) := fun k => by rw [List.map_take]
  have HLL : Hid (∀ k p, (linP ((ps.map (·.1)).take k) p).length ≤ 256) := fun k p => by
    rw [linP_lat]
    cases hh : hasP ((ps.map (·.1)).take k) p
    · rw [latP_no hh]; simp
    · obtain ⟨y, hy, e⟩ := List.mem_map.1 (List.mem_of_mem_take (latP_mem hh).1)
      rw [← e]
      exact HL.out y hy
  obtain ⟨L, hL⟩ : ∃ L, ps.map (·.1) = L := ⟨_, rfl⟩
  rw [hL] at HLE HLX HTK HLL ⊢
  clear hL hl hv
  go_enter Tryz.func15, Tryz.ntmps15
  go_wp2
  go_loopw [3] (fun i wr => ∃ k : Nat, k ≤ ps.length ∧ i = .int .i64 k ∧ Hid (Below w.heap.size w wr) ∧ Hid (Vp L k)) (fun i _ => ps.length - (intOf i).toNat)
  case atStart => exact ⟨0, by omega, rfl, Below.refl _ _, Vp.zero L⟩
  case round =>
    obtain ⟨k, hk, rfl, HB, HK⟩ := hrel
    obtain ⟨wi, rfl⟩ : ∃ wo : World, wo = wr := ⟨_, rfl⟩
    by_cases hlt : k < ps.length
    · have hltL : k < L.length := by rw [HLE.out]; exact hlt
      have hrs := HV.out.below HB.out
      obtain ⟨bk, off, rfl, hc⟩ := hrs.sl.cells (by rw [rets_len]; omega)
      obtain ⟨c0, c1, c2⟩ := hc.ret hlt
      have hbl := hc.1
      have i1 : (k : Int) < (ps.length : Int) := by omega
      have hlx := HL.out _ (List.getElem_mem hlt)
      have hln := hrs.ln _ (List.getElem_mem hlt)
      have HNO := Lib.hid (fun h => vp_no hltL h)
      have HSC := Lib.hid (fun h => HK.out.succ hltL h)
      have HVR := Lib.hid (HK.out.ver (Nat.le_of_lt hltL))
      rw [HLX.out k hltL hlt] at HNO HSC
      have hpre : RetsAt wi (.slice (some ⟨bk, off, none⟩) k cap) (ps.take k) := ⟨by
        have := hrs.sl.head k (by omega)
        have e : (rets ps).take k = rets (ps.take k) := by simp [rets, List.map_take]
        rw [← e]; exact this, fun q hq => hrs.ln q (List.mem_of_mem_take hq)⟩
      have HPRE := Lib.hid hpre
      obtain ⟨x, hx⟩ : ∃ x, ps[k] = x := ⟨_, rfl⟩
      rw [hx] at c0 c1 c2 hlx hln HNO HSC
      clear hx hc hrs hpre
      obtain ⟨⟨q, u0, ll⟩, xv⟩ := x
      simp only at c0 c1 c2 hlx hln
      have HSB : Hid (stepB (L.take k) ⟨q, u0, ll⟩ = (decide (0 ≤ q) && (decide (q ≤ 84005) && (formR ll && (decide (u0 = verP (L.take k) q + 1) && decide (ll ≠ linP (L.take k) q)))))) := rfl
      have HLNX := Lib.hid hln
      obtain ⟨Ax, cx, rfl⟩ : ∃ Ax cx, xv = .slice Ax ll.length cx := by
        obtain ⟨Ax, cx, h, _⟩ := hln
        rw [lns_len] at h
        exact ⟨Ax, cx, h⟩
      clear hln
      by_cases q0 : 0 ≤ q
      rotate_left
      · have HE : Hid (validRs L = false) := HNO.out (by rw [HSB.out, decide_eq_false q0]; rfl)
        clear HSB HNO HSC HVR HK HLL
        go_wp2
        go_ret
        exact ⟨ret_bool HE.out.symm, HB.out⟩
      by_cases q1 : q ≤ 84005
      rotate_left
      · have HE : Hid (validRs L = false) := HNO.out (by rw [HSB.out, decide_eq_false q1]; simp)
        clear HSB HNO HSC HVR HK HLL
        go_wp2
        go_ret
        exact ⟨ret_bool HE.out.symm, HB.out⟩
      rw [decide_eq_true q0, decide_eq_true q1, Bool.true_and, Bool.true_and] at HSB
      have HFC := Lib.hid (FormL_any ll (.slice Ax ll.length cx) wi HLNX.out)
      go_wp2_with fail
      refine HFC.out.mono ?_
      rintro e wo ⟨rfl, hb2⟩
      have HB2 := Lib.hid (below_after HB.out hb2 HB.out.size)
      have HPR2 := Lib.hid (HPRE.out.below hb2)
      have HLN2 := Lib.hid (HLNX.out.below hb2)
      have d0 := (hb2.cell (p := ⟨bk, off + k * 3, none⟩) hbl).trans c0
      have d1 := (hb2.cell (p := ⟨bk, off + k * 3 + 1, none⟩) hbl).trans c1
      have d2 := (hb2.cell (p := ⟨bk, off + k * 3 + 2, none⟩) hbl).trans c2
      have hbl2 := Nat.lt_of_lt_of_le hbl hb2.size
      clear hb2 c0 c1 c2 HFC HPRE HLNX hbl
      cases hf : formR ll
      · rw [hf] at HSB
        have HE : Hid (validRs L = false) := HNO.out (by rw [HSB.out]; rfl)
        clear hf HSB HNO HSC HVR HK HLL
        go_wp2
        go_ret
        exact ⟨ret_bool HE.out.symm, HB2.out⟩
      rw [hf, Bool.true_and] at HSB
      clear hf
      have hvq := HVR.out q
      have HLQ := Lib.hid (HLL.out k q)
      have HN0 : Hid (∀ W, Below wo.heap.size wo W → Calls Tryz.prog 26 #[.slice (some ⟨bk, off, none⟩) k cap, .int .i64 q, .slice Ax ll.length cx] W (RetNx (L.take k) q ll W)) := fun W hW => by
        have := Next38_any (ps.take k) _ _ q ll W (HPR2.out.below hW) (fun y hy => HL.out y (List.mem_of_mem_take hy)) (HLN2.out.below hW) hlx (by rw [HTK.out]; omega) (by rw [HTK.out]; exact HLQ.out)
        rw [HTK.out] at this
        exact this
      obtain ⟨pv, hpv⟩ : ∃ n, verP (L.take k) q = n := ⟨_, rfl⟩
      obtain ⟨pl, hpl⟩ : ∃ n, linP (L.take k) q = n := ⟨_, rfl⟩
      have HNR : Hid (nextR (L.take k) q ll = ⟨q, pv + 1, ll⟩) := by rw [Hid, nextR, hpv]
      have hkk : ¬ cap = k ∨ cap = k := by omega
      have i2 : (k : Int) ≤ (cap : Int) := by omega
      rw [hpv, hpl] at HSB
      rw [hpv] at hvq
      by_cases hle : pl = ll
      · have HE : Hid (validRs L = false) := HNO.out (by rw [HSB.out, decide_eq_false (p := ll ≠ pl) (fun h => h hle.symm), Bool.and_false])
        have HNX : Hid (∀ W, Below wo.heap.size wo W → Calls Tryz.prog 26 #[.slice (some ⟨bk, off, none⟩) k cap, .int .i64 q, .slice Ax ll.length cx] W (fun e w' => e = .returned (.tuple #[.agg #[.int .i64 0, .int .i64 0, .slice none 0 0], .bool false]) ∧ Below W.heap.size W w')) := fun W hW => (HN0.out W hW).mono fun e w' ⟨h1, h2⟩ => by
          rcases h2 with ⟨h, _⟩ | ⟨_, h⟩
          · exact absurd (hpl.trans hle) h
          · exact ⟨h, h1⟩
        clear hle HSB HNO HSC HVR HK HLL HLQ HN0 hpv hpl hkk
        go_wp2_with fail
        have hZA : Below wo.heap.size wo (wo.drew.alloc (.cells #[.int .i64 0, .int .i64 0, .slice none 0 0] 32)) := (Below.refl wo.heap.size wo).drew.alloc (Nat.le_refl _) _
        have hZR : Hid (Below wo.heap.size wo (wo.drew.alloc (.cells #[.int .i64 0, .int .i64 0, .slice none 0 0] 32)) ∧ Row (wo.drew.alloc (.cells #[.int .i64 0, .int .i64 0, .slice none 0 0] 32)) wo.heap.size 32 #[.int .i64 0, .int .i64 0, .slice none 0 0]) := And.intro hZA (Row.new wo.drew 32 #[.int .i64 0, .int .i64 0, .slice none 0 0])
        have hZD : Hid (Below wo.heap.size wo wo.drew) := (Below.refl wo.heap.size wo).drew
        clear hZA
        go_cut [4, 5] (fun s4 s5 wx => s5 = .bool false ∧ ∃ m u, s4 = .pointer (some ⟨m, 0, none⟩) ∧ Row wx m 32 #[.int .i64 0, .int .i64 0, u] ∧ Below wo.heap.size wo wx)
        case first =>
          go_region_law (first
            | (go_simp; refine (HNX.out wo.drew hZD.out).mono ?_; rintro e w6 ⟨rfl, hb6⟩; have e0 := ((hZD.out.trans hb6).cell (p := ⟨bk, off + k * 3, none⟩) hbl2).trans d0; have e1 := ((hZD.out.trans hb6).cell (p := ⟨bk, off + k * 3 + 1, none⟩) hbl2).trans d1; have e2 := ((hZD.out.trans hb6).cell (p := ⟨bk, off + k * 3 + 2, none⟩) hbl2).trans d2; have HB6 := Lib.hid hb6; clear hb6)
            | (go_simp; refine (HNX.out (wo.drew.alloc (.cells #[.int .i64 0, .int .i64 0, .slice none 0 0] 32)) hZR.out.1).mono ?_; rintro e w6 ⟨rfl, hb6⟩; have e0 := ((hZR.out.1.trans (hb6.mono hZR.out.1.size)).cell (p := ⟨bk, off + k * 3, none⟩) hbl2).trans d0; have e2 := ((hZR.out.1.trans (hb6.mono hZR.out.1.size)).cell (p := ⟨bk, off + k * 3 + 2, none⟩) hbl2).trans d2; have hr6 := hZR.out.2.below hb6 hZR.out.2.lt; obtain ⟨⟨a0, a1, a2, al⟩, ⟨f0, f1, f2⟩⟩ := row3 hr6; have HR6 := Lib.hid hr6; have HB6 := Lib.hid hb6; clear hr6 hb6))
          all_goals
            go_wp2_with fail
            go_meet
            first
              | (have hQ := hZD.out.trans HB6.out; exact ⟨rfl, _, _, rfl, Row.new _ _ _, hQ.alloc hQ.size _⟩)
              | (have hQ := hZR.out.1.trans (HB6.out.mono hZR.out.1.size); exact ⟨rfl, _, _, rfl, Row.set3 HR6.out _ _ _, Below.set3 hQ (Nat.le_refl _) _ _ _⟩)
        case rest =>
          obtain ⟨rfl, m, u, rfl, hrow, hbx⟩ := hcut
          have HB3 := Lib.hid (below_after HB2.out hbx HB2.out.size)
          have e1 := (hbx.cell (p := ⟨bk, off + k * 3 + 1, none⟩) hbl2).trans d1
          have ebl := Nat.lt_of_lt_of_le hbl2 hbx.size
          obtain ⟨⟨x0, x1, x2, xl⟩, -⟩ := row3 hrow
          clear hrow hbx
          go_wp2_with fail
          go_quiet (fail)
          go_wp2_with fail
          go_ret
          exact ⟨ret_bool HE.out.symm, Below.draws HB3.out _⟩
      · have HNX : Hid (∀ W, Below wo.heap.size wo W → Calls Tryz.prog 26 #[.slice (some ⟨bk, off, none⟩) k cap, .int .i64 q, .slice Ax ll.length cx] W (fun e w' => (∃ Au nu cu, e = .returned (.tuple #[.agg #[.int .i64 q, .int .i64 (pv + 1), .slice Au nu cu], .bool true])) ∧ Below W.heap.size W w')) := fun W hW => (HN0.out W hW).mono fun e w' ⟨h1, h2⟩ => by
          rcases h2 with ⟨_, v', h, ho⟩ | ⟨h, _⟩
          · obtain ⟨Au, cu, rfl⟩ := ho.form
            rw [HNR.out] at h
            exact ⟨⟨_, _, _, h⟩, h1⟩
          · exact absurd (hpl.symm.trans h) hle
        rw [decide_eq_true (Ne.symm hle), Bool.and_true] at HSB
        clear hle HVR HLL HLQ HN0 hpv hpl hkk HNR
        go_wp2_with fail
        have hZA : Below wo.heap.size wo (wo.drew.alloc (.cells #[.int .i64 0, .int .i64 0, .slice none 0 0] 32)) := (Below.refl wo.heap.size wo).drew.alloc (Nat.le_refl _) _
        have hZR : Hid (Below wo.heap.size wo (wo.drew.alloc (.cells #[.int .i64 0, .int .i64 0, .slice none 0 0] 32)) ∧ Row (wo.drew.alloc (.cells #[.int .i64 0, .int .i64 0, .slice none 0 0] 32)) wo.heap.size 32 #[.int .i64 0, .int .i64 0, .slice none 0 0]) := And.intro hZA (Row.new wo.drew 32 #[.int .i64 0, .int .i64 0, .slice none 0 0])
        have hZD : Hid (Below wo.heap.size wo wo.drew) := (Below.refl wo.heap.size wo).drew
        clear hZA
        go_cut [4, 5] (fun s4 s5 wx => s5 = .bool true ∧ ∃ m u, s4 = .pointer (some ⟨m, 0, none⟩) ∧ Row wx m 32 #[.int .i64 q, .int .i64 (pv + 1), u] ∧ Below wo.heap.size wo wx)
        case first =>
          go_region_law (first
            | (go_simp; refine (HNX.out wo.drew hZD.out).mono ?_; rintro e w6 ⟨⟨Au, nu, cu, rfl⟩, hb6⟩; have e0 := ((hZD.out.trans hb6).cell (p := ⟨bk, off + k * 3, none⟩) hbl2).trans d0; have e1 := ((hZD.out.trans hb6).cell (p := ⟨bk, off + k * 3 + 1, none⟩) hbl2).trans d1; have e2 := ((hZD.out.trans hb6).cell (p := ⟨bk, off + k * 3 + 2, none⟩) hbl2).trans d2; have HB6 := Lib.hid hb6; clear hb6)
            | (go_simp; refine (HNX.out (wo.drew.alloc (.cells #[.int .i64 0, .int .i64 0, .slice none 0 0] 32)) hZR.out.1).mono ?_; rintro e w6 ⟨⟨Au, nu, cu, rfl⟩, hb6⟩; have e0 := ((hZR.out.1.trans (hb6.mono hZR.out.1.size)).cell (p := ⟨bk, off + k * 3, none⟩) hbl2).trans d0; have e2 := ((hZR.out.1.trans (hb6.mono hZR.out.1.size)).cell (p := ⟨bk, off + k * 3 + 2, none⟩) hbl2).trans d2; have hr6 := hZR.out.2.below hb6 hZR.out.2.lt; obtain ⟨⟨a0, a1, a2, al⟩, ⟨f0, f1, f2⟩⟩ := row3 hr6; have HR6 := Lib.hid hr6; have HB6 := Lib.hid hb6; clear hr6 hb6))
          all_goals
            go_wp2_with fail
            go_meet
            first
              | (have hQ := hZD.out.trans HB6.out; exact ⟨rfl, _, _, rfl, Row.new _ _ _, hQ.alloc hQ.size _⟩)
              | (have hQ := hZR.out.1.trans (HB6.out.mono hZR.out.1.size); exact ⟨rfl, _, _, rfl, Row.set3 HR6.out _ _ _, Below.set3 hQ (Nat.le_refl _) _ _ _⟩)
        case rest =>
          obtain ⟨rfl, m, u, rfl, hrow, hbx⟩ := hcut
          have HB3 := Lib.hid (below_after HB2.out hbx HB2.out.size)
          have e1 := (hbx.cell (p := ⟨bk, off + k * 3 + 1, none⟩) hbl2).trans d1
          have ebl := Nat.lt_of_lt_of_le hbl2 hbx.size
          obtain ⟨⟨x0, x1, x2, xl⟩, -⟩ := row3 hrow
          clear hrow hbx
          by_cases hu : u0 = pv + 1
          · have HKN := Lib.hid (HSC.out (by rw [HSB.out, decide_eq_true hu]))
            have n1 : (pv + 1 != u0) = false := by simp [hu]
            have n2 : (pv + 1 == u0) = true := by simp [hu]
            have HU := Lib.hid hu
            clear hu HSB HNO HSC HK
            go_wp2_with fail
            go_quiet (fail)
            go_wp2_with fail
            go_roundw
            case rel => exact ⟨k + 1, by omega, by go_num, Below.draws HB3.out _, HKN.out⟩
            case measure => simp [intOf]; omega
          · have HE : Hid (validRs L = false) := HNO.out (by rw [HSB.out, decide_eq_false hu])
            have n1 : (pv + 1 != u0) = true := by simp; omega
            have n2 : (pv + 1 == u0) = false := by simp; omega
            have HU := Lib.hid hu
            clear hu HSB HNO HSC HK
            go_wp2_with fail
            go_quiet (fail)
            go_wp2_with fail
            go_ret
            exact ⟨ret_bool HE.out.symm, Below.draws HB3.out _⟩
    · obtain rfl : k = ps.length := by omega
      have HE : Hid (validRs L = true) := (valid_iff L).2 (by rw [HLE.out]; exact HK.out)
      go_wp2
      go_ret
      exact ⟨ret_bool HE.out.symm, HB.out⟩
end Go.Proofs.YtjbhabfflcbebaaGreat
/- payrolllaw38.short: returns are few and short. -/
namespace Go.Proofs.YtjbhabfflcbebaaGreat
open Go.RowKit Go.Shelf

def shortR (r : Ret) : Bool := decide (r.l.length ≤ 20) && shortLB r.l
def shortRs (l : List Ret) : Bool := decide (l.length ≤ 20) && l.all shortR
theorem shortRs_len {l : List Ret} (h : shortRs l = true) : l.length ≤ 20 ∧ ∀ r ∈ l, r.l.length ≤ 20 := by
  simp only [shortRs, shortR, Bool.and_eq_true, decide_eq_true_eq, List.all_eq_true] at h
  exact ⟨h.1, fun r hr => (h.2 r hr).1⟩
set_option maxRecDepth 100000 in
set_option maxHeartbeats 4000000 in
theorem short_any (ps : List (Ret × Value)) (v : Value) (w : World) (hv : RetsAt w v ps) :
    Calls Tryz.prog 5 #[v] w fun e w' => e = .returned (.bool (shortRs (ps.map (·.1)))) ∧ Below w.heap.size w w' := by
  have HV := Lib.hid hv
  obtain ⟨A, cap, rfl, h1, h2, _, _⟩ := hv.sl
  rw [rets_len] at h1 HV ⊢
  unfold maxLen at h2
  have HDF : Hid (shortRs (ps.map (·.1)) = (decide (ps.length ≤ 20) && (ps.map (·.1)).all shortR)) := by rw [Hid, shortRs, List.length_map]
  obtain ⟨b, hb⟩ : ∃ b, shortRs (ps.map (·.1)) = b := ⟨_, rfl⟩
  rw [hb] at HDF ⊢
  clear hv hb
  by_cases h20 : ps.length ≤ 20
  rotate_left
  · have HE : Hid (b = false) := by rw [Hid, HDF.out, decide_eq_false h20]; rfl
    have hgt : (20 : Int) < (ps.length : Int) := by omega
    clear HDF
    go_enter Tryz.func5, Tryz.ntmps5
    go_wp2
    go_ret
    exact ⟨ret_bool HE.out.symm, Below.refl _ _⟩
  rw [decide_eq_true h20, Bool.true_and] at HDF
  have hgt : ¬ (20 : Int) < (ps.length : Int) := by omega
  go_enter Tryz.func5, Tryz.ntmps5
  go_wp2
  go_loopw [3] (fun i wr => ∃ k : Nat, k ≤ ps.length ∧ i = .int .i64 k ∧ Hid (Below w.heap.size w wr) ∧ Hid (∀ j (h : j < ps.length), j < k → shortR (ps[j]).1 = true)) (fun i _ => ps.length - (intOf i).toNat)
  case atStart => exact ⟨0, by omega, rfl, Below.refl _ _, fun j _ h => by omega⟩
  case round =>
    obtain ⟨k, hk, rfl, HB, HK⟩ := hrel
    obtain ⟨wi, rfl⟩ : ∃ wo : World, wo = wr := ⟨_, rfl⟩
    by_cases hlt : k < ps.length
    · have hrs := HV.out.below HB.out
      obtain ⟨bk, off, rfl, hc⟩ := hrs.sl.cells (by rw [rets_len]; omega)
      obtain ⟨_, _, c2⟩ := hc.ret hlt
      have hbl := hc.1
      have i1 : (k : Int) < (ps.length : Int) := by omega
      have hln := hrs.ln _ (List.getElem_mem hlt)
      have HNO : Hid (shortR (ps[k]).1 = false → b = false) := fun h => by
        rw [HDF.out, Bool.eq_false_iff]
        intro hh
        have := List.all_eq_true.1 hh _ (List.mem_map.2 ⟨_, List.getElem_mem hlt, rfl⟩)
        rw [h] at this; cases this
      have HSC : Hid (shortR (ps[k]).1 = true → ∀ j (h : j < ps.length), j < k + 1 → shortR (ps[j]).1 = true) := fun h j hj hjk => by
        by_cases e : j = k
        · subst e; exact h
        · exact HK.out j hj (by omega)
      obtain ⟨x, hx⟩ : ∃ x, ps[k]'hlt = x := ⟨_, rfl⟩
      rw [hx] at c2 hln HNO HSC
      clear hx hc hrs
      obtain ⟨⟨q, u0, ll⟩, xv⟩ := x
      simp only at c2 hln
      have HSB : Hid (shortR ⟨q, u0, ll⟩ = (decide (ll.length ≤ 20) && shortLB ll)) := rfl
      have HLNX := Lib.hid hln
      obtain ⟨Ax, cx, rfl⟩ : ∃ Ax cx, xv = .slice Ax ll.length cx := by
        obtain ⟨Ax, cx, h, _⟩ := hln
        rw [lns_len] at h
        exact ⟨Ax, cx, h⟩
      clear hln
      by_cases q0 : ll.length ≤ 20
      rotate_left
      · have hq : (20 : Int) < (ll.length : Int) := by omega
        have HE : Hid (b = false) := HNO.out (by rw [HSB.out, decide_eq_false q0]; rfl)
        clear HSB HNO HSC HK HDF
        go_wp2
        go_ret
        exact ⟨ret_bool HE.out.symm, HB.out⟩
      have hq : ¬ (20 : Int) < (ll.length : Int) := by omega
      rw [decide_eq_true q0, Bool.true_and] at HSB
      have HSH := Lib.hid (ShortLines_any (.slice Ax ll.length cx) ll wi HLNX.out)
      cases hs : shortLB ll
      · rw [hs] at HSB HSH
        have HE : Hid (b = false) := HNO.out HSB.out
        clear hs HSB HNO HSC HK HDF
        go_wp2_with (go_at_call 22; refine HSH.out.mono ?_; rintro e wo ⟨rfl, hb2⟩; have HB2 := Lib.hid (below_after HB.out hb2 HB.out.size); clear hb2)
        go_ret
        exact ⟨ret_bool HE.out.symm, HB2.out⟩
      · rw [hs] at HSB HSH
        have HK2 := Lib.hid (HSC.out HSB.out)
        have ew : IntKind.i64.wrap ((k : Int) + 1) = (k : Int) + 1 := IntWalk.i64_in _ (by omega)
        clear hs HSB HNO HSC HK
        go_wp2_with (go_at_call 22; refine HSH.out.mono ?_; rintro e wo ⟨rfl, hb2⟩; have HB2 := Lib.hid (below_after HB.out hb2 HB.out.size); clear hb2)
        go_roundw
        case rel => exact ⟨k + 1, by omega, by go_num, HB2.out, HK2.out⟩
        case measure => simp [intOf]; omega
    · obtain rfl : k = ps.length := by omega
      have HE : Hid (b = true) := by
        rw [Hid, HDF.out, List.all_eq_true]
        intro x hx
        obtain ⟨y, hy, rfl⟩ := List.mem_map.1 hx
        obtain ⟨j, hj, rfl⟩ := List.getElem_of_mem hy
        exact HK.out j hj hj
      go_wp2
      go_ret
      exact ⟨ret_bool HE.out.symm, HB.out⟩
end Go.Proofs.YtjbhabfflcbebaaGreat
/- Contracts of package paygen: Mod. -/
namespace Go.Proofs.YtjbhabfflcbebaaGreat
open Go.RowKit

theorem Mod_any (v n : Int) (w : World) (hn : 0 < n) (hn2 : n ≤ 1099511627776) :
    Calls Tryz.prog 9 #[.int .i64 v, .int .i64 n] w fun e w' => e = .returned (.int .i64 (v % n)) ∧ w = w' := by
  have h1 := Int.tmod_lt_of_pos v hn
  have h2 := tmod_lo v n hn
  have H := Lib.hid (emod_of_tmod v n hn)
  have hz : (n == 0) = false := beq_eq_false_iff_ne.2 (by omega)
  by_cases h0 : v.tmod n < 0
  · go_enter Tryz.func9, Tryz.ntmps9
    go_wp2
    go_ret
    exact ⟨ret_int (by rw [H.out, if_pos (by omega)]), rfl⟩
  · go_enter Tryz.func9, Tryz.ntmps9
    go_wp2
    go_ret
    exact ⟨ret_int (by rw [H.out, if_neg (by omega)]), rfl⟩

end Go.Proofs.YtjbhabfflcbebaaGreat
/- Opening a law's arguments: slices, numbers. -/
namespace Go.Proofs.YtjbhabfflcbebaaGreat
open Go.ChangeShapes Go.WideShapes Go.ChangeAt Go.RowKit Go.Deep

section
variable {H : Type} {enc : TypeId × Value → H} {P : Program} {w : World} {base b0 : Nat} {spare : Nat → Bool} {held : Bool} {r : Reach}
/-- a slice whose elements open as f x -/
theorem open_sl {α : Type} [Inhabited α] (f : α → List Value) {t e : TypeId} {sz : Nat} {v : Value} {d : DataW H} {ps : List MemPlace} (ht : P.underlying t = some (.slice e)) (hc : P.cellsOf e = sz) (hsz : 0 < sz)
    (hval : Value.okWide P w r b0 t v) (hd : DataW.Trod enc P w base spare held t v d ps) (hf : ∀ n cs y, DataW.trod enc P w base spare held n e cs = some y → ∃ x, cs = f x) :
    ∃ l : List α, Sl w sz v (l.map f) := by
  obtain ⟨A, len, cap, rfl⟩ := okWide_slice ht hval
  obtain ⟨fuel, hd⟩ := hd
  rcases open_slice ht hd with ⟨h0, _⟩ | ⟨a, len', cap', m, n, D, Pl, h0, hb, hl, hm, hmm, _, hx⟩
  · simp [Value.cells] at h0
    obtain ⟨rfl, rfl, rfl⟩ := h0
    exact ⟨[], Sl.nil _ _⟩
  · simp [Value.cells] at h0
    obtain ⟨rfl, rfl, rfl⟩ := h0
    have hlm : len ≤ m := by rw [hmm]; split <;> omega
    obtain ⟨V, hV⟩ := choose_lt (α := α) (n := len) (p := fun i x => w.cells? base (a.add (i * sz)) sz = some (f x)) (fun i hi => by
      obtain ⟨cs', h1, h2⟩ := hx i (by omega)
      obtain ⟨x, rfl⟩ := hf _ _ _ h2
      rw [hc] at h1
      exact ⟨x, h1⟩)
    refine ⟨(List.range len).map V, some a, cap, by simp, by simpa using hl, hm, (fun h => by cases h), ?_⟩
    by_cases hz : len = 0
    · left; subst hz; rfl
    · right
      have g0 := hV 0 (by omega)
      obtain ⟨_, hl0, hc0⟩ := World.cells?_some g0
      have h00 := hc0 0 hsz
      obtain ⟨u0, hu0⟩ : ∃ u, (f (V 0))[0]? = some u := ⟨_, List.getElem?_eq_getElem (by omega)⟩
      rw [hu0] at h00
      obtain ⟨b, off, spot⟩ := a
      have hspot : spot = none := by simpa [Addr.add] using World.cell?_spot h00
      subst hspot
      refine ⟨b, off, rfl, ?_, fun i x hi j u hj => ?_⟩
      · rcases Nat.lt_or_ge b w.heap.size with hlt | hge
        · exact hlt
        · simp [Addr.add, World.cell?, Array.getElem?_eq_none hge] at h00
      · simp only [List.getElem?_map, Option.map_eq_some_iff] at hi
        obtain ⟨y, ⟨k, hk, rfl⟩, rfl⟩ := hi
        obtain ⟨hi1, hi2⟩ := List.getElem?_eq_some_iff.1 hk
        simp only [List.length_range, List.getElem_range] at hi1 hi2
        subst hi2
        obtain ⟨_, hl1, hc1⟩ := World.cells?_some (hV i hi1)
        have hj1 : j < sz := by have := (List.getElem?_eq_some_iff.1 hj).1; omega
        have := hc1 j hj1
        rw [hj] at this
        rw [← this]
        congr 1
        by_cases q1 : i * sz = 0 <;> by_cases q2 : j = 0 <;> simp [Addr.add, q1, q2] <;> omega
end
section
variable {H : Type} {enc : TypeId × Value → H} {w : World} {base b0 : Nat} {spare : Nat → Bool} {held : Bool} {r : Reach}
set_option maxRecDepth 100000 in
theorem cellsInt : Tryz.prog.cellsOf 3 = 1 := by kernel_rfl
set_option maxRecDepth 100000 in
theorem open_intsL {v : Value} {d : DataW H} {ps : List MemPlace} (hval : Value.okWide Tryz.prog w r b0 23 v) (hd : DataW.Trod enc Tryz.prog w base spare held 23 v d ps) :
    ∃ zs : List Int, Sl w 1 v (ints zs) := by
  refine open_sl (fun z : Int => [.int .i64 z]) Tryz.underlying23 cellsInt (by omega) hval hd fun n cs y h => ?_
  obtain ⟨z, rfl, _⟩ := DataW.trod_int Tryz.underlying3 h
  exact ⟨z, rfl⟩
/-- one field of a struct -/
theorem field_ofL {fs : Array Field} {xs : List (DataW H × List MemPlace)} {m : Nat} {cs : List Value} (hlen : xs.length = fs.size) (hf : ∀ (i : Nat) (f : Field), fs[i]? = some f → DataW.trod enc Tryz.prog w base spare held m f.type ((cs.drop f.offset).take (Tryz.prog.cellsOf f.type)) = xs[i]?)
    (i : Nat) (t : TypeId) (off c : Nat) (h : (fs[i]?).map (fun f => (f.type, f.offset)) = some (t, off)) (hc : Tryz.prog.cellsOf t = c) : ∃ y, DataW.trod enc Tryz.prog w base spare held m t ((cs.drop off).take c) = some y := by
  obtain ⟨f, hi, he⟩ := Option.map_eq_some_iff.1 h
  injection he with h1 h2
  subst h1 h2 hc
  have hl : i < xs.length := by rw [hlen]; exact (Array.getElem?_eq_some_iff.1 hi).1
  exact ⟨xs[i], by rw [hf i f hi, List.getElem?_eq_getElem hl]⟩
end
theorem wf_in {n : Int} (h : (Lit.int .i64 n).wf = true) : -9223372036854775808 ≤ n ∧ n ≤ 9223372036854775807 := by
  simp only [Lit.wf, Bool.and_eq_true, decide_eq_true_eq] at h
  have e1 : IntKind.i64.min = -9223372036854775808 := rfl
  have e2 : IntKind.i64.max = 9223372036854775807 := rfl
  omega
end Go.Proofs.YtjbhabfflcbebaaGreat
/- Opening a law's arguments: returns. -/
namespace Go.Proofs.YtjbhabfflcbebaaGreat
open Go.ChangeShapes Go.WideShapes Go.ChangeAt Go.RowKit Go.Deep

section
variable {H : Type} {enc : TypeId × Value → H} {P : Program} {w : World} {base b0 : Nat} {spare : Nat → Bool} {held : Bool} {r : Reach}
/-- a slice whose elements open as f x, read off its one cell -/
theorem open_slc {α : Type} [Inhabited α] (f : α → List Value) {t e : TypeId} {sz fuel : Nat} {cs : List Value} {x : DataW H × List MemPlace} (ht : P.underlying t = some (.slice e)) (hc : P.cellsOf e = sz) (hsz : 0 < sz)
    (hd : DataW.trod enc P w base spare held fuel t cs = some x) (hf : ∀ n cs y, DataW.trod enc P w base spare held n e cs = some y → ∃ x, cs = f x) :
    ∃ v, ∃ l : List α, cs = [v] ∧ Sl w sz v (l.map f) := by
  rcases open_slice ht hd with ⟨rfl, _⟩ | ⟨a, len, cap, m, n, D, Pl, rfl, hb, hl, hm, hmm, _, hx⟩
  · exact ⟨_, [], rfl, Sl.nil _ _⟩
  · have hlm : len ≤ m := by rw [hmm]; split <;> omega
    obtain ⟨V, hV⟩ := choose_lt (α := α) (n := len) (p := fun i x => w.cells? base (a.add (i * sz)) sz = some (f x)) (fun i hi => by
      obtain ⟨cs', h1, h2⟩ := hx i (by omega)
      obtain ⟨x, rfl⟩ := hf _ _ _ h2
      rw [hc] at h1
      exact ⟨x, h1⟩)
    refine ⟨_, (List.range len).map V, rfl, some a, cap, by simp, by simpa using hl, hm, (fun h => by cases h), ?_⟩
    by_cases hz : len = 0
    · left; subst hz; rfl
    · right
      have g0 := hV 0 (by omega)
      obtain ⟨_, hl0, hc0⟩ := World.cells?_some g0
      have h00 := hc0 0 hsz
      obtain ⟨u0, hu0⟩ : ∃ u, (f (V 0))[0]? = some u := ⟨_, List.getElem?_eq_getElem (by omega)⟩
      rw [hu0] at h00
      obtain ⟨b, off, spot⟩ := a
      have hspot : spot = none := by simpa [Addr.add] using World.cell?_spot h00
      subst hspot
      refine ⟨b, off, rfl, ?_, fun i x hi j u hj => ?_⟩
      · rcases Nat.lt_or_ge b w.heap.size with hlt | hge
        · exact hlt
        · simp [Addr.add, World.cell?, Array.getElem?_eq_none hge] at h00
      · simp only [List.getElem?_map, Option.map_eq_some_iff] at hi
        obtain ⟨y, ⟨k, hk, rfl⟩, rfl⟩ := hi
        obtain ⟨hi1, hi2⟩ := List.getElem?_eq_some_iff.1 hk
        simp only [List.length_range, List.getElem_range] at hi1 hi2
        subst hi2
        obtain ⟨_, hl1, hc1⟩ := World.cells?_some (hV i hi1)
        have hj1 : j < sz := by have := (List.getElem?_eq_some_iff.1 hj).1; omega
        have := hc1 j hj1
        rw [hj] at this
        rw [← this]
        congr 1
        by_cases q1 : i * sz = 0 <;> by_cases q2 : j = 0 <;> simp [Addr.add, q1, q2] <;> omega
end
section
variable {H : Type} {enc : TypeId × Value → H} {w : World} {base b0 : Nat} {spare : Nat → Bool} {held : Bool} {r : Reach}
theorem cellsStr : Tryz.prog.cellsOf 9 = 1 := by kernel_rfl
instance : Inhabited Ln := ⟨⟨0, ⟨#[]⟩, 0⟩⟩
set_option maxRecDepth 100000 in
theorem open_ln {n : Nat} {cs : List Value} {y : DataW H × List MemPlace} (h : DataW.trod enc Tryz.prog w base spare held n 51 cs = some y) : ∃ p : Ln, cs = p.vals := by
  obtain ⟨xs, m, _, _, hl, hlen, hf⟩ := DataW.trod_struct Tryz.underlying51 h
  have hc2 : Tryz.prog.cellsOf 51 = 3 := by kernel_rfl
  have hl' : cs.length = 3 := hl.trans hc2
  match cs, hl' with
  | [c0, c1, c2], _ =>
    obtain ⟨y0, h0⟩ := field_ofL hlen hf 0 3 0 1 rfl cellsInt
    obtain ⟨y1, h1⟩ := field_ofL hlen hf 1 9 1 1 rfl cellsStr
    obtain ⟨y2, h2⟩ := field_ofL hlen hf 2 3 2 1 rfl cellsInt
    obtain ⟨a, e0, _⟩ := DataW.trod_int Tryz.underlying3 h0
    obtain ⟨s, e1, _⟩ := DataW.trod_string Tryz.underlying9 h1
    obtain ⟨b, e2, _⟩ := DataW.trod_int Tryz.underlying3 h2
    simp at e0 e1 e2
    subst e0 e1 e2
    exact ⟨⟨a, s, b⟩, rfl⟩
set_option maxRecDepth 100000 in
theorem open_ret {v : Value} {d : DataW H} {ps : List MemPlace} (hval : Value.okWide Tryz.prog w r b0 32 v) (hd : DataW.Trod enc Tryz.prog w base spare held 32 v d ps) :
    ∃ f : Ret, ∃ u, v = .agg (f.vals u) ∧ Sl w 3 u (lns f.l) := by
  obtain ⟨cs, rfl, hsz⟩ := okWide_struct Tryz.underlying32 hval
  obtain ⟨n, h⟩ := hd
  obtain ⟨xs, m, _, _, hl, hlen, hf⟩ := DataW.trod_struct Tryz.underlying32 h
  have hc3 : Tryz.prog.cellsOf 32 = 3 := by kernel_rfl
  have hcS : Tryz.prog.cellsOf 30 = 1 := by kernel_rfl
  have hc2 : Tryz.prog.cellsOf 51 = 3 := by kernel_rfl
  obtain ⟨l⟩ := cs
  have hl' : l.length = 3 := hl.trans hc3
  match l, hl' with
  | [c0, c1, c2], _ =>
    obtain ⟨y0, h0⟩ := field_ofL hlen hf 0 3 0 1 rfl cellsInt
    obtain ⟨y1, h1⟩ := field_ofL hlen hf 1 3 1 1 rfl cellsInt
    obtain ⟨y2, h2⟩ := field_ofL hlen hf 2 30 2 1 rfl hcS
    obtain ⟨a, e0, _⟩ := DataW.trod_int Tryz.underlying3 h0
    obtain ⟨b, e1, _⟩ := DataW.trod_int Tryz.underlying3 h1
    obtain ⟨u, q, e2, hs⟩ := open_slc Ln.vals Tryz.underlying30 hc2 (by omega) h2 fun n cs y h => open_ln h
    simp [Value.cells] at e0 e1 e2
    subst e0 e1 e2
    exact ⟨⟨a, b, q⟩, c2, rfl, hs⟩
end
end Go.Proofs.YtjbhabfflcbebaaGreat
/- Opening a law's arguments: slices of returns. -/
namespace Go.Proofs.YtjbhabfflcbebaaGreat
open Go.ChangeShapes Go.WideShapes Go.ChangeAt Go.RowKit Go.Deep

section
variable {H : Type} {enc : TypeId × Value → H} {w : World} {base b0 : Nat} {spare : Nat → Bool} {held : Bool} {r : Reach}
/-- a return whose lines can be read -/
def RdR (w : World) : Type := {x : Ret × Value // Sl w 3 x.2 (lns x.1.l)}
instance instRdR (w : World) : Inhabited (RdR w) := ⟨⟨(⟨0, 0, []⟩, .slice none 0 0), Sl.nil _ _⟩⟩
def RdR.f {w : World} (x : RdR w) : List Value := (x.1.1.vals x.1.2).toList
set_option maxRecDepth 100000 in
theorem open_retE {n : Nat} {cs : List Value} {y : DataW H × List MemPlace} (h : DataW.trod enc Tryz.prog w base spare held n 32 cs = some y) : ∃ x : RdR w, cs = x.f := by
  obtain ⟨xs, m, _, _, hl, hlen, hf⟩ := DataW.trod_struct Tryz.underlying32 h
  have hc3 : Tryz.prog.cellsOf 32 = 3 := by kernel_rfl
  have hcS : Tryz.prog.cellsOf 30 = 1 := by kernel_rfl
  have hc2 : Tryz.prog.cellsOf 51 = 3 := by kernel_rfl
  have hl' : cs.length = 3 := hl.trans hc3
  match cs, hl' with
  | [c0, c1, c2], _ =>
    obtain ⟨y0, h0⟩ := field_ofL hlen hf 0 3 0 1 rfl cellsInt
    obtain ⟨y1, h1⟩ := field_ofL hlen hf 1 3 1 1 rfl cellsInt
    obtain ⟨y2, h2⟩ := field_ofL hlen hf 2 30 2 1 rfl hcS
    obtain ⟨a, e0, _⟩ := DataW.trod_int Tryz.underlying3 h0
    obtain ⟨b, e1, _⟩ := DataW.trod_int Tryz.underlying3 h1
    obtain ⟨u, q, e2, hs⟩ := open_slc Ln.vals Tryz.underlying30 hc2 (by omega) h2 fun n cs y h => open_ln h
    simp at e0 e1 e2
    subst e0 e1 e2
    exact ⟨⟨(⟨a, b, q⟩, c2), hs⟩, rfl⟩
set_option maxRecDepth 100000 in
theorem open_rets {v : Value} {d : DataW H} {ps : List MemPlace} (hval : Value.okWide Tryz.prog w r b0 22 v) (hd : DataW.Trod enc Tryz.prog w base spare held 22 v d ps) :
    ∃ rs : List (Ret × Value), RetsAt w v rs := by
  have hc3 : Tryz.prog.cellsOf 32 = 3 := by kernel_rfl
  obtain ⟨l, hs⟩ := open_sl (fun x : RdR w => x.f) Tryz.underlying22 hc3 (by omega) hval hd fun n cs y h => open_retE h
  refine ⟨l.map (·.1), ?_, fun p hp => ?_⟩
  · have e : rets (l.map (·.1)) = l.map fun x => x.f := by
      rw [rets, List.map_map]; rfl
    rw [e]; exact hs
  · obtain ⟨x, _, rfl⟩ := List.mem_map.1 hp
    exact x.2
end
end Go.Proofs.YtjbhabfflcbebaaGreat
/- The last step of each law: it returned true, and nothing that was there has turned. -/
namespace Go.Proofs.YtjbhabfflcbebaaGreat
open Go.ChangeShapes Go.WideShapes Go.ChangeAt Go.RowKit

section
variable {H : Type} {enc : TypeId × Value → H} {P : Program}
/-- all arguments read as they did -/
theorem trodAll_below (hl : laidOutB P = true) {W W' : World} (hb : Below W.heap.size W W') : ∀ (ts : List TypeId) (vs : List Value) (ds : List (DataW H)) (ps : List MemPlace),
    (∀ t ∈ ts, P.readableRec t = true ∧ t < P.types.size) → (∀ x ∈ ps, x.block < W.heap.size) → DataW.TrodAll enc P W 0 (fun _ => true) true ts vs ds ps → DataW.TrodAll enc P W' 0 (fun b => decide (b < W.heap.size)) true ts vs ds ps
  | [], [], [], _, _, _, h => h
  | t :: ts, v :: vs, d :: ds, ps, hr, hlt, h => by
    obtain ⟨p, q, h1, h2, rfl⟩ := h
    refine ⟨p, q, Below.trod hl (hr t (by simp)).1 (hr t (by simp)).2 h1 hb fun x hx => hlt x (by simp [hx]), trodAll_below hl hb ts vs ds q (fun t ht => hr t (by simp [ht])) (fun x hx => hlt x (by simp [hx])) h2, rfl⟩
  | [], _ :: _, _, _, _, _, h => h.elim
  | [], [], _ :: _, _, _, _, h => h.elim
  | _ :: _, [], _, _, _, _, h => h.elim
  | _ :: _, _ :: _, [], _, _, _, h => h.elim

/-- the post of a law: true; each argument as it was -/
theorem law_post {f : Func} {s : ChangeSpec} {T : TypeId} {W W' : World} {args : Array Value} {ds gs : List (DataW H)} {before : List MemPlace}
    (hl : laidOutB P = true) (hvars : s.vars = []) (hres : f.resultTypes = #[T]) (hT : P.underlying T = some .bool) (hrd : ∀ t ∈ f.params.toList, P.readableRec t = true ∧ t < P.types.size)
    (hfn : (s.fn H (ds ++ gs)).results = [.lit (.bool true)] ∧ (s.fn H (ds ++ gs)).args = ds ∧ (s.fn H (ds ++ gs)).vars = [])
    (hW : DataW.Whole enc P f.params.toList s.vars false W args.toList ds gs before) (hb : Below W.heap.size W W') :
    s.post enc P f false true false false W args (.bool true) W' := by
  have hlt : ∀ p ∈ before, p.block < W.heap.size := fun p hp => hW.lt p hp
  have hW' := hW
  obtain ⟨p, q, hA, hV, rfl, _, _⟩ := hW'
  rw [hvars] at hV
  obtain ⟨rfl, rfl⟩ := trodVars_none hV
  rw [List.append_nil] at hlt hW
  refine ⟨ds, [], p, [], p, [], hW, ?_, ?_, ?_, World.keptBut_mono (fun x hx => ⟨hx, .inr (.inl hx)⟩) (hb.frame (· ∈ p)), fun h => by cases h⟩
  · rw [hfn.1, hres]
    exact trodAll_mk1 (shut_bool hT true)
  · rw [hfn.2.1]
    exact trodAll_below hl hb _ _ _ _ hrd hlt hA
  · rw [hfn.2.2, hvars]
    rfl
end

end Go.Proofs.YtjbhabfflcbebaaGreat
