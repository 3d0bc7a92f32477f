/- Contract of payslip.collect. -/
import Derived.Test.YtjbhabfflcbebaaGreatColS
import Derived.Test.YtjbhabfflcbebaaGreatRng
namespace Go.Proofs.YtjbhabfflcbebaaGreat
open Go.RowKit

def colE (es : List Ln) : Int := if es.all (fun x => totB x.amt) then 0 else 4
def colL (es : List Ln) : List Ln := if colE es = 0 then srtLn (es.filter nz) else []
/-- the entries at places -/
def picks (es : List Ln) (seen : List Nat) : List Ln := seen.filterMap (es[·]?)
theorem picks_snoc (es : List Ln) (seen : List Nat) (i : Nat) (l : Ln) (h : es[i]? = some l) : picks es (seen ++ [i]) = picks es seen ++ [l] := by
  simp [picks, List.filterMap_append, h]
/-- how many entries have not come yet -/
def itLeft (w : World) (r : Nat) : Nat := match w.heap[r]? with
  | some (.mapIter _ n seen _) => ((List.range n).filter fun i => !seen.toList.contains i).length
  | _ => 0
theorem itLeft_at {w : World} {r m n : Nat} {seen : List Nat} (h : w.heap[r]? = some (itObj m n seen)) : itLeft w r = ((List.range n).filter fun i => !seen.contains i).length := by
  unfold itLeft; rw [h]; rfl
theorem left_less {n i : Nat} {seen : List Nat} (hi : i < n) (hn : i ∉ seen) : ((List.range n).filter fun j => !(seen ++ [i]).contains j).length < ((List.range n).filter fun j => !seen.contains j).length := by
  have e : ((List.range n).filter fun j => !(seen ++ [i]).contains j) = ((List.range n).filter fun j => !seen.contains j).filter fun j => decide (j ≠ i) := by
    rw [List.filter_filter]
    congr 1
    funext j
    rw [Bool.eq_iff_iff]
    simp
    constructor
    · rintro ⟨h1, h2⟩; exact ⟨h2, h1⟩
    · rintro ⟨h1, h2⟩; exact ⟨h2, h1⟩
  rw [e]
  refine List.length_filter_lt_length_iff_exists.2 ⟨i, ?_, by simp⟩
  simp [hi, hn]
theorem picks_dist {es : List Ln} (hd : Dist es) : ∀ {seen : List Nat}, seen.Nodup → Dist (picks es seen)
  | [], _ => .nil
  | i :: r, h => by
    have h' := List.nodup_cons.1 h
    unfold picks
    cases hl : es[i]? with
    | none => rw [List.filterMap_cons_none hl]; exact picks_dist hd h'.2
    | some l =>
      rw [List.filterMap_cons_some hl]
      refine List.pairwise_cons.2 ⟨fun y hy => ?_, picks_dist hd h'.2⟩
      obtain ⟨j, hj, hjy⟩ := List.mem_filterMap.1 hy
      have hne : i ≠ j := fun e => h'.1 (e ▸ hj)
      obtain ⟨hi1, hi2⟩ := List.getElem?_eq_some_iff.1 hl
      obtain ⟨hj1, hj2⟩ := List.getElem?_eq_some_iff.1 hjy
      rw [Dist, List.pairwise_iff_getElem] at hd
      rcases Nat.lt_or_gt_of_ne hne with hlt | hlt
      · have := hd i j hi1 hj1 hlt
        rw [hi2, hj2] at this; exact this
      · have := hd j i hj1 hi1 hlt
        rw [hi2, hj2] at this; exact fun hh => this ⟨hh.1.symm, hh.2.symm⟩
theorem picks_all {es : List Ln} {seen : List Nat} (h : ∀ i, i < es.length → i ∈ seen) (x : Ln) : x ∈ picks es seen ↔ x ∈ es := by
  unfold picks
  rw [List.mem_filterMap]
  constructor
  · rintro ⟨i, _, hi⟩; exact List.mem_of_getElem? hi
  · intro hx
    obtain ⟨i, hi⟩ := List.getElem?_of_mem hx
    exact ⟨i, h i (List.getElem?_eq_some_iff.1 hi).1, hi⟩
theorem left_start (n : Nat) : ((List.range n).filter fun i => !([] : List Nat).contains i).length = n := by
  rw [List.filter_eq_self.2 (by simp)]; simp
theorem picks_le (es : List Ln) (seen : List Nat) : ((picks es seen).filter nz).length ≤ seen.length :=
  Nat.le_trans (List.length_filter_le _ _) (List.length_filterMap_le _ _)

theorem Own.set_it {w w' : World} {base e sz r m n : Nat} {v : Value} {es : List (List Value)} {seen : List Nat} (h : Own w base e sz v es) (hr : w.heap[r]? = some (itObj m n seen)) (hg : w.grownBy w' (some r)) : Own w' base e sz v es := by
  refine ⟨h.1.kept hg (.inr fun hv => ?_), h.2⟩
  rcases h.1.2 with ⟨rfl, _⟩ | ⟨g, cap, cur, rfl, _, hc, _⟩
  · simp [Value.ownBlock] at hv
  · simp only [Value.ownBlock, Option.some.injEq] at hv
    subst hv
    rw [hc] at hr
    simp [itObj] at hr
theorem Own.keep_obj {W w3 : World} {base e sz k : Nat} {v : Value} {es : List (List Value)} {o o1 o2 : Obj} (h : Own W base e sz v es) (hg : ((W.alloc o1).alloc o2).grownBy w3 v.ownBlock) (hk : W.heap[k]? = some o) (ho : ∀ c t f, o ≠ Obj.cells c t f) : w3.heap[k]? = some o := by
  have hkl := lt_of_some hk
  have h1 : ((W.alloc o1).alloc o2).heap[k]? = some o := (Below.heap_alloc _ _ _ (by simp; omega)).trans ((Below.heap_alloc _ _ _ hkl).trans hk)
  refine (hg.block k (by simp; omega) fun hv => ?_).trans h1
  rcases h.1.2 with ⟨h', _⟩ | ⟨g, cap, cur, h', _, hc, _⟩
  · rw [h'] at hv; cases hv
  · rw [h'] at hv
    injection hv with hv
    rw [hv] at hk
    rw [show (⟨g, 0, none⟩ : Addr).block = g from rfl, hc] at hk
    injection hk with hk
    exact ho _ _ _ hk.symm
theorem drew_grown {w W1 : World} (h : W1 = w ∨ W1 = w.drew) (row : Option Nat) : w.grownBy W1 row := by
  rcases h with rfl | rfl
  · exact World.grownBy.refl _ _
  · exact ⟨rfl, rfl, rfl, Nat.le_refl _, fun _ _ _ => rfl⟩
theorem run_range_title {w : World} {b : Nat} {es : List Ln} (hb : w.heap[b]? = some (tObj es)) : (Instr.range 84 (.map (some b))).run Tryz.prog w = .ok (.pointer (some ⟨w.heap.size, 0, none⟩)) (w.alloc (itObj b es.length [])) := by
  have hb' : w.heap[b]? = some (.map (tEnts 0 es).toArray es.length) := hb
  unfold Instr.range
  simp only [Sem.run_bind, run_underlying Tryz.underlying84, Result.andThen_ok, MapKept.run_getObj_map hb', Sem.run_pure]
  rfl

set_option maxRecDepth 100000 in
set_option maxHeartbeats 1600000 in
theorem collect_any (b : Nat) (es : List Ln) (w : World) (hb : w.heap[b]? = some (tObj es)) (hd : Dist es) (hlen : es.length ≤ 1000000) :
    Calls Tryz.prog 57 #[.map (some b)] w (RetOwn2 w 51 3 (lns (colL es)) (colE es)) := by
  have hR := run_range_title hb
  have hbl := lt_of_some hb
  have HB := Lib.hid hb
  have HD := Lib.hid hd
  clear hb hd
  go_enter Tryz.func57, Tryz.ntmps57
  go_wp2_with fail
  clear hR
  go_loopw [4] (fun t wr => ∃ seen : List Nat, Hid (wr.heap[w.heap.size]? = some (itObj b es.length seen)) ∧ Hid (wr.heap[b]? = some (tObj es)) ∧ Own wr w.heap.size 51 3 t (lns ((picks es seen).filter nz)) ∧ Hid (∀ x ∈ picks es seen, totB x.amt = true) ∧ Hid seen.Nodup ∧ seen.length + ((List.range es.length).filter fun i => !seen.contains i).length ≤ es.length ∧ Below w.heap.size w wr) (fun _ wr => itLeft wr w.heap.size)
  case atStart => exact ⟨[], heap_alloc_new w _, (Below.heap_alloc w _ _ hbl).trans HB.out, Own.nil _ _ _ _, (fun x hx => by cases hx), List.nodup_nil, by rw [left_start]; simp, (Below.refl _ _).alloc (Nat.le_refl _) _⟩
  case round =>
    obtain ⟨seen, H1, H2, hown, H3, H4, hcnt, hbw⟩ := hrel
    have hbs := hbw.size
    rcases run_next_title H1.out H2.out 0 with ⟨i, l, W1, hl, hni, hW1, hN⟩ | ⟨W1, hall, hW1, hN⟩
    · have hil : i < es.length := (List.getElem?_eq_some_iff.1 hl).1
      have hr1 : W1.heap[w.heap.size]? = some (itObj b es.length seen) := by rcases hW1 with rfl | rfl <;> exact H1.out
      have hg0 : wr.grownBy (setB W1 w.heap.size (itObj b es.length (seen ++ [i]))) (some w.heap.size) := (drew_grown hW1 _).trans setB_grown
      have hA : (setB W1 w.heap.size (itObj b es.length (seen ++ [i]))).heap[w.heap.size]? = some (itObj b es.length (seen ++ [i])) := setB_at (lt_of_some hr1)
      generalize setB W1 w.heap.size (itObj b es.length (seen ++ [i])) = W2 at hN hg0 hA
      have hB2 : W2.heap[b]? = some (tObj es) := (hg0.block b (by omega) (by intro h; injection h; omega)).trans H2.out
      have hE := run_entry_it hA hB2 hl
      have hN' : ∀ ty, (Instr.next (.pointer (some ⟨w.heap.size, 0, none⟩)) false ty).run Tryz.prog wr = .ok (.tuple #[.bool true, .agg #[.int .i64 l.kind, .string l.code], .int .i64 l.amt]) W2 := fun _ => hN
      have hown2 := hown.set_it H1.out hg0
      have hb2 : Below w.heap.size w W2 := hbw.grown hg0 hbs (fun k hk => by injection hk; omega)
      have hbs2 := hb2.size
      have hlt := left_less hil hni
      have hpl := picks_le es seen
      have HA := Lib.hid hA; have HB2 := Lib.hid hB2; have HP := Lib.hid (picks_snoc es seen i l hl); have HLT := Lib.hid hlt
      have HNI := Lib.hid hni
      have HL := Lib.hid hl
      have h5 : seen.length < es.length := by omega
      have hcnt2 : Hid ((seen ++ [i]).length + ((List.range es.length).filter fun j => !(seen ++ [i]).contains j).length ≤ es.length) := by
        rw [Hid, List.length_append]; simp only [List.length_singleton]; omega
      have hnd2 : Hid (seen ++ [i]).Nodup := by
        rw [Hid, List.nodup_append]
        exact ⟨H4.out, by simp, by simpa using fun a ha (e : a = i) => hni (e ▸ ha)⟩
      clear hN hr1 hW1 hA hB2 hlt hl hni hcnt
      cases ht : totB l.amt
      · have HE : Hid (colE es = 4) := by
          rw [Hid, colE, if_neg]
          intro hh
          rw [List.all_eq_true] at hh
          have := hh l (List.mem_of_getElem? HL.out)
          rw [ht] at this; cases this
        go_wp2_with (go_at_call 69; refine (isTotal_any _ _).mono ?_; rintro e w' ⟨rfl, rfl⟩)
        go_ret2
        exact ⟨_, tup_int HE.out.symm, by rw [colL, HE.out]; exact Own.nil _ _ _ _, hb2.alloc hbs2 _⟩
      · have hT : Hid (∀ x ∈ picks es (seen ++ [i]), totB x.amt = true) := by
          intro x hx
          rw [HP.out] at hx
          rcases List.mem_append.1 hx with hx | hx
          · exact H3.out x hx
          · rw [List.mem_singleton.1 hx]; exact ht
        cases hz : (l.amt != 0)
        · have hF : Hid ((picks es (seen ++ [i])).filter nz = (picks es seen).filter nz) := by
            rw [Hid, HP.out, List.filter_append]; simp at hz; simp [nz, hz]
          go_wp2_with (go_at_call 69; refine (isTotal_any _ _).mono ?_; rintro e w' ⟨rfl, rfl⟩)
          go_roundw
          case rel => exact ⟨seen ++ [i], (Below.heap_alloc W2 _ _ (lt_of_some HA.out)).trans HA.out, (Below.heap_alloc W2 _ _ (lt_of_some HB2.out)).trans HB2.out, by rw [hF.out]; exact hown2.alloc _, hT, hnd2, hcnt2, hb2.alloc hbs2 _⟩
          case measure => rw [itLeft_at H1.out, itLeft_at ((Below.heap_alloc W2 _ _ (lt_of_some HA.out)).trans HA.out)]; exact HLT.out
        · have hF : Hid ((picks es (seen ++ [i])).filter nz = (picks es seen).filter nz ++ [l]) := by
            rw [Hid, HP.out, List.filter_append]; simp at hz; simp [nz, hz]
          go_wp2_with (first
            | (go_at_call 69; refine (isTotal_any _ _).mono ?_; rintro e w' ⟨rfl, rfl⟩)
            | (at_builtin; refine wpList_append_sl rfl (.tmp 19) (.tmp 26) rfl rowLn w.heap.size _ _ _ (lns [l]) rfl ((hown2.alloc _).alloc _) rfl (Sl.one (by simp) rfl) (lns_wide _) (by rw [lns_len, lns_len]; unfold maxLen; simp; omega) (by rw [lns_len, lns_len]; simp; omega) (by simp; omega) ?_; intro v3 w3 hown3 hg3 _; have hb3 := Own.grown ((hown2.alloc _).alloc _) ((hb2.alloc hbs2 _).alloc (by simp; omega) _) hg3 (by simp; omega); rw [← lns_append, ← hF.out] at hown3))
          have hit3 := hown2.keep_obj hg3 HA.out (by intro c t f h; simp [itObj] at h)
          have hmp3 := hown2.keep_obj hg3 HB2.out (by intro c t f h; simp [tObj] at h)
          have HI3 := Lib.hid hit3; have HM3 := Lib.hid hmp3
          clear hit3 hmp3
          go_wp2
          go_roundw
          case rel => exact ⟨seen ++ [i], HI3, HM3, hown3, hT, hnd2, hcnt2, hb3⟩
          case measure => rw [itLeft_at H1.out, itLeft_at HI3.out]; exact HLT.out
    · have hb1 : Below w.heap.size w W1 := by rcases hW1 with rfl | rfl <;> exact ⟨hbw.os, hbw.tape, hbw.output, hbw.size, hbw.block⟩
      have hown1 : Own W1 w.heap.size 51 3 u4 (lns ((picks es seen).filter nz)) := by rcases hW1 with rfl | rfl <;> exact hown
      have hN' : ∀ ty, (Instr.next (.pointer (some ⟨w.heap.size, 0, none⟩)) false ty).run Tryz.prog wr = .ok (.tuple #[.bool false]) W1 := fun _ => hN
      have hpl := picks_le es seen
      have HE : Hid (colE es = 0) := by
        rw [Hid, colE, if_pos]
        rw [List.all_eq_true]
        exact fun x hx => H3.out x ((picks_all hall x).2 hx)
      have HALL := Lib.hid hall
      clear hN hall
      go_wp2_with (go_at_call 70; refine (sortLn_any _ _ w.heap.size _ hown1 (by omega)).mono ?_; rintro e w2 ⟨rfl, l', hp, hs, hown2, hg2⟩; have hb2 := Own.grown hown1 hb1 hg2 hb1.size)
      go_ret2
      have hL : l' = srtLn (es.filter nz) := sorted_is (dist_filter (picks_dist HD.out H4.out) nz) hp hs HD.out fun x => by rw [List.mem_filter, picks_all HALL.out]
      exact ⟨_, tup_int HE.out.symm, by rw [colL, HE.out, if_pos rfl, ← hL]; exact hown2, hb2⟩

end Go.Proofs.YtjbhabfflcbebaaGreat
