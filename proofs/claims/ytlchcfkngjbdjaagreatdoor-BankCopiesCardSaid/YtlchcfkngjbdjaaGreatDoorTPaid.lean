/- transfer.Bank.Paid: a sum over a map, in whatever order. -/
import Derived.Test.YtlchcfkngjbdjaaGreatDoorTBank
namespace Go.Proofs.YtlchcfkngjbdjaaGreatDoor
open Go.RowKit Go.Shelf

def payOf (k : Int) (l : List Pay) : Int := ((l.filter fun p => decide (p.e = k)).map (·.a)).sum
def paidB (k : Int) (fs : List Fil) : Int := (fs.map fun f => payOf k f.l).sum
theorem payOf_snoc {k : Int} {l : List Pay} {j : Nat} (h : j < l.length) : payOf k (l.take (j + 1)) = payOf k (l.take j) + (if (l[j]).e = k then (l[j]).a else 0) := by
  unfold payOf
  rw [List.take_succ_eq_append_getElem h, List.filter_append, List.map_append, List.sum_append]
  by_cases hk : (l[j]).e = k
  · simp [hk]
  · simp [hk]
theorem payOf_bounds {k : Int} : ∀ {l : List Pay}, (∀ p ∈ l, payV p) → 0 ≤ payOf k l ∧ payOf k l ≤ l.length * 1000000000000
  | [], _ => by simp [payOf]
  | p :: r, h => by
    have ih := payOf_bounds (k := k) (l := r) fun q hq => h q (by simp [hq])
    have hp := h p (by simp)
    unfold payV at hp
    unfold payOf at ih ⊢
    by_cases hk : p.e = k
    · simp only [List.filter_cons, hk, decide_true, if_true, List.map_cons, List.sum_cons, List.length_cons]; omega
    · simp only [List.filter_cons, hk, decide_false, Bool.false_eq_true, if_false, List.length_cons]; omega
theorem sum_perm {l m : List Int} (h : l.Perm m) : l.sum = m.sum := by
  induction h with
  | nil => rfl
  | cons x _ ih => simp [ih]
  | swap x y l => simp; omega
  | trans _ _ a b => exact a.trans b
/-- the sum over the files that have come -/
def sumSeen (fs : List Fil) (k : Int) (seen : List Nat) : Int := (seen.map fun i => payOf k (fs.getD i ⟨0, 0, []⟩).l).sum
theorem seen_all {fs : List Fil} {k : Int} {seen : List Nat} (hn : seen.Nodup) (hl : ∀ i ∈ seen, i < fs.length) (ha : ∀ i, i < fs.length → i ∈ seen) : sumSeen fs k seen = paidB k fs := by
  have hp : seen.Perm (List.range fs.length) := (List.perm_ext_iff_of_nodup hn List.nodup_range).2 fun i => ⟨fun h => List.mem_range.2 (hl i h), fun h => ha i (List.mem_range.1 h)⟩
  unfold sumSeen paidB
  rw [sum_perm (hp.map _)]
  congr 1
  apply List.ext_getElem (by simp)
  intro i h1 h2
  simp only [List.length_map, List.length_range] at h1
  simp [List.getD, h1]
theorem seen_bounds {fs : List Fil} {k : Int} (hv : ∀ f ∈ fs, filB f = true) : ∀ {seen : List Nat}, 0 ≤ sumSeen fs k seen ∧ sumSeen fs k seen ≤ seen.length * 4096000000000000
  | [] => by simp [sumSeen]
  | i :: r => by
    have ih := seen_bounds (k := k) hv (seen := r)
    have hb : 0 ≤ payOf k (fs.getD i ⟨0, 0, []⟩).l ∧ payOf k (fs.getD i ⟨0, 0, []⟩).l ≤ 4096000000000000 := by
      rw [List.getD]
      cases hf : fs[i]? with
      | none => simp [payOf]
      | some f =>
        have h := filB_of (hv f (List.mem_of_getElem? hf))
        have hp := payOf_bounds (k := k) h.2.2.2.2.2.1
        simp only [Option.getD_some]
        omega
    simp only [sumSeen, List.map_cons, List.sum_cons, List.length_cons] at ih ⊢
    omega
/-- how many entries have not come yet -/
def itLeft (w : World) (r : Nat) : Nat := match w.heap[r]? with
  | some (.mapIter _ n seen _) => ((List.range n).filter fun i => !seen.toList.contains i).length
  | _ => 0
theorem itLeft_at {w : World} {r m n : Nat} {seen : List Nat} (h : w.heap[r]? = some (itObj m n seen)) : itLeft w r = ((List.range n).filter fun i => !seen.contains i).length := by
  unfold itLeft; rw [h]; rfl
theorem left_less {n i : Nat} {seen : List Nat} (hi : i < n) (hn : i ∉ seen) : ((List.range n).filter fun j => !(seen ++ [i]).contains j).length < ((List.range n).filter fun j => !seen.contains j).length := by
  have e : ((List.range n).filter fun j => !(seen ++ [i]).contains j) = ((List.range n).filter fun j => !seen.contains j).filter fun j => decide (j ≠ i) := by
    rw [List.filter_filter]
    congr 1
    funext j
    rw [Bool.eq_iff_iff]
    simp
    constructor
    · rintro ⟨h1, h2⟩; exact ⟨h2, h1⟩
    · rintro ⟨h1, h2⟩; exact ⟨h2, h1⟩
  rw [e]
  refine List.length_filter_lt_length_iff_exists.2 ⟨i, ?_, by simp⟩
  simp [hi, hn]
theorem drew_grown {w W1 : World} (h : W1 = w ∨ W1 = w.drew) (row : Option Nat) : w.grownBy W1 row := by
  rcases h with rfl | rfl
  · exact World.grownBy.refl _ _
  · exact ⟨rfl, rfl, rfl, Nat.le_refl _, fun _ _ _ => rfl⟩
theorem run_range_i {w : World} {b : Nat} {es : List (Int × Value)} (hb : w.heap[b]? = some (iObj es)) : (Instr.range 55 (.map (some b))).run Tryz.prog w = .ok (.pointer (some ⟨w.heap.size, 0, none⟩)) (w.alloc (itObj b es.length [])) := by
  have hb' : w.heap[b]? = some (.map (iEnts 0 es).toArray es.length) := hb
  unfold Instr.range
  simp only [Sem.run_bind, run_underlying Tryz.underlying55, Result.andThen_ok, MapKept.run_getObj_map hb', Sem.run_pure]
  rfl
theorem left_start (n : Nat) : ((List.range n).filter fun i => !([] : List Nat).contains i).length = n := by
  rw [List.filter_eq_self.2 (by simp)]; simp
/-- where the loop over the files stands -/
structure PdS (w : World) (M : Nat) (es : List (Fil × Value)) (seen : List Nat) (wr : World) : Prop where
  it : wr.heap[w.heap.size]? = some (itObj M es.length seen)
  nodup : seen.Nodup
  lt : ∀ i ∈ seen, i < es.length
  cnt : seen.length + ((List.range es.length).filter fun i => !seen.contains i).length ≤ es.length
  below : Below w.heap.size w wr
theorem PdS.same {w w' wr : World} {M : Nat} {es : List (Fil × Value)} {seen : List Nat} (h : PdS w M es seen wr) (hb : Below wr.heap.size wr w') : PdS w M es seen w' :=
  ⟨(hb.block _ (lt_of_some h.it)).trans h.it, h.nodup, h.lt, h.cnt, h.below.trans (hb.mono h.below.size)⟩
theorem sumSeen_snoc {fs : List Fil} {k : Int} {seen : List Nat} {i : Nat} {f : Fil} (h : fs[i]? = some f) : sumSeen fs k (seen ++ [i]) = sumSeen fs k seen + payOf k f.l := by
  simp [sumSeen, List.getD, h]
set_option maxRecDepth 100000 in
set_option maxHeartbeats 2000000 in
theorem Paid_any (B M : Nat) (es : List (Fil × Value)) (k : Int) (w : World) (hb : BankS w B M es) (hl : es.length ≤ 1000) :
    Calls Tryz.prog 22 #[.pointer (some ⟨B, 0, none⟩), .int .i64 k] w fun e w' => e = .returned (.int .i64 (paidB k (es.map (·.1)))) ∧ Below w.heap.size w w' := by
  have HB := Lib.hid hb
  have hq := eq_nil_bank B
  have c0 := hb.box.cell 0
  simp only [List.getElem?_toArray, List.getElem?_cons_zero] at c0
  have hR := run_range_i hb.map
  rw [List.length_map] at hR
  have hml := lt_of_some hb.map
  have hval : ∀ f ∈ es.map (·.1), filB f = true := fun f hf => by
    obtain ⟨p, hp, rfl⟩ := List.mem_map.1 hf
    exact hb.val p hp
  have HVAL := Lib.hid hval
  have h00 : PdS w M es [] (w.alloc (itObj M es.length [])) := ⟨heap_alloc_new w _, List.nodup_nil, (fun i hi => absurd hi (by simp)), by rw [left_start]; simp, (Below.refl _ _).alloc (Nat.le_refl _) _⟩
  clear hb hval
  go_enter Tryz.func22, Tryz.ntmps22
  go_wp2_with fail
  clear hR hq c0
  go_loopw [5] (fun t wr => ∃ seen : List Nat, t = .int .i64 (sumSeen (es.map (·.1)) k seen) ∧ Hid (PdS w M es seen wr)) (fun _ wr => itLeft wr w.heap.size)
  case atStart => exact ⟨[], rfl, h00⟩
  case round =>
    clear h00
    obtain ⟨seen, rfl, HS⟩ := hrel
    obtain ⟨wo, rfl⟩ : ∃ wo : World, wo = wr := ⟨_, rfl⟩
    have hbs := HS.out.below.size
    have hBo := HB.out.below HS.out.below
    have HSB := seen_bounds (k := k) HVAL.out (seen := seen)
    have hcn := HS.out.cnt
    have hi0 := HS.out.it
    rw [show es.length = (es.map entB).length by simp] at hi0
    rcases run_next_i hi0 hBo.map 0 with ⟨i, l, W1, hl1, hni, hW1, hN⟩ | ⟨W1, hall, hW1, hN⟩
    · rw [List.getElem?_map] at hl1
      obtain ⟨⟨f, v⟩, hfv, rfl⟩ := Option.map_eq_some_iff.1 hl1
      have hil : i < es.length := (List.getElem?_eq_some_iff.1 hfv).1
      have hr1 : W1.heap[w.heap.size]? = some (itObj M (es.map entB).length seen) := by rcases hW1 with rfl | rfl <;> exact hi0
      have hg0 : wo.grownBy (setB W1 w.heap.size (itObj M (es.map entB).length (seen ++ [i]))) (some w.heap.size) := (drew_grown hW1 _).trans setB_grown
      have hA : (setB W1 w.heap.size (itObj M (es.map entB).length (seen ++ [i]))).heap[w.heap.size]? = some (itObj M (es.map entB).length (seen ++ [i])) := setB_at (lt_of_some hr1)
      generalize setB W1 w.heap.size (itObj M (es.map entB).length (seen ++ [i])) = W2 at hN hg0 hA
      have hb2 : Below w.heap.size w W2 := HS.out.below.grown hg0 hbs (fun k hk => by injection hk; omega)
      have hB2 := HB.out.below hb2
      have hE := run_entry_i hA hB2.map (by rw [List.getElem?_map, hfv]; rfl : (es.map entB)[i]? = some (entB (f, v)))
      obtain ⟨Av, cv, hv⟩ : ∃ A c, v = .slice A f.l.length c := by
        obtain ⟨A, c, h, _⟩ := hB2.pay (f, v) (List.mem_of_getElem? hfv)
        rw [pays_len] at h; exact ⟨A, c, h⟩
      subst hv
      have hent : entB (f, Value.slice Av f.l.length cv) = (f.n, .agg #[.int .i64 f.n, .int .i64 f.d, .slice Av f.l.length cv]) := rfl
      rw [hent] at hN hE
      have hN' : ∀ ty, (Instr.next (.pointer (some ⟨w.heap.size, 0, none⟩)) false ty).run Tryz.prog wo = .ok (.tuple #[.bool true, .int .i64 f.n, .agg #[.int .i64 f.n, .int .i64 f.d, .slice Av f.l.length cv]]) W2 := fun _ => hN
      have HSL := Lib.hid (hB2.pay (f, .slice Av f.l.length cv) (List.mem_of_getElem? hfv))
      have HFL := Lib.hid (filB_of (HVAL.out f (List.mem_map.2 ⟨_, List.mem_of_getElem? hfv, rfl⟩)))
      have hl4 := HFL.out.2.2.2.2.1
      have hpv := HFL.out.2.2.2.2.2.1
      have HPV := Lib.hid hpv
      have hlt := left_less hil hni
      rw [List.length_map] at hA
      have HPD : Hid (PdS w M es (seen ++ [i]) W2) := by
        refine ⟨hA, ?_, fun j hj => ?_, ?_, hb2⟩
        · rw [List.nodup_append]
          exact ⟨HS.out.nodup, by simp, by simpa using fun a ha (e : a = i) => hni (e ▸ ha)⟩
        · rcases List.mem_append.1 hj with hj | hj
          · exact HS.out.lt j hj
          · rw [List.mem_singleton.1 hj]; exact hil
        · rw [List.length_append]; simp only [List.length_singleton]; omega
      have HSN := Lib.hid (sumSeen_snoc (k := k) (seen := seen) (show (es.map (·.1))[i]? = some f by rw [List.getElem?_map, hfv]; rfl))
      have HLT := Lib.hid hlt
      have hb22 := hb2.size
      clear hN hr1 hW1 hA hB2 hlt hfv hni hent hl1 hg0 hi0 hpv
      have hal := (Below.refl W2.heap.size W2).alloc (Nat.le_refl _) (.cells #[.int .i64 f.n, .int .i64 f.d, .slice Av f.l.length cv] 37)
      go_wp2_with fail
      obtain ⟨W3, hW3⟩ : ∃ W3, W2.alloc (.cells #[.int .i64 f.n, .int .i64 f.d, .slice Av f.l.length cv] 37) = W3 := ⟨_, rfl⟩
      rw [hW3] at hal ⊢
      have HPD3 := Lib.hid (HPD.out.same hal)
      have HSL3 := Lib.hid (HSL.out.below hal)
      clear hW3 hal hE hN'
      obtain ⟨sm, hsm⟩ : ∃ sm, sumSeen (es.map (·.1)) k seen = sm := ⟨_, rfl⟩
      rw [hsm] at HSN HSB ⊢
      clear hsm
      go_loopw [5, 24] (fun t j wr => ∃ j' : Nat, j' ≤ f.l.length ∧ j = .int .i64 j' ∧ t = .int .i64 (sm + payOf k (f.l.take j')) ∧ Hid (Below W3.heap.size W3 wr)) (fun _ j _ => f.l.length - (intOf j).toNat)
      case atStart => exact ⟨0, by omega, rfl, by simp [payOf], Below.refl _ _⟩
      case round =>
        obtain ⟨j, hj, rfl, rfl, HBW⟩ := hrel
        obtain ⟨wi, rfl⟩ : ∃ wi : World, wi = wr := ⟨_, rfl⟩
        have hbi := HBW.out.size
        have hpb := payOf_bounds (k := k) (l := f.l.take j) fun p hp => HPV.out p (List.mem_of_mem_take hp)
        rw [List.length_take, Nat.min_eq_left hj] at hpb
        by_cases hjl : j < f.l.length
        · obtain ⟨bk, off, rfl, hc⟩ := (HSL3.out.below HBW.out).cells (by rw [pays_len]; omega)
          obtain ⟨d0, d1⟩ := hc.pay hjl
          have HPS := Lib.hid (payOf_snoc (k := k) hjl)
          have hpj := HPV.out _ (List.getElem_mem hjl)
          unfold payV at hpj
          obtain ⟨x, hx⟩ : ∃ x, f.l[j] = x := ⟨_, rfl⟩
          rw [hx] at d0 d1 HPS hpj
          clear hx hc
          have HB3 : Hid (Below W3.heap.size W3 (wi.alloc (.cells #[.int .i64 x.e, .int .i64 x.a] 46))) := HBW.out.alloc hbi _
          obtain ⟨pp, hpp⟩ : ∃ pp, payOf k (f.l.take j) = pp := ⟨_, rfl⟩
          rw [hpp] at HPS hpb ⊢
          clear hpp
          cases hxk : (x.e == k)
          · have HPS2 : Hid (payOf k (f.l.take (j + 1)) = pp) := by rw [Hid, HPS.out, if_neg (by simpa using hxk)]; omega
            go_wp2
            go_roundw
            case rel => exact ⟨j + 1, by omega, by go_num, by rw [HPS2.out], HB3⟩
            case measure => simp [intOf]; omega
          · have HPS2 : Hid (payOf k (f.l.take (j + 1)) = pp + x.a) := by rw [Hid, HPS.out, if_pos (by simpa using hxk)]
            go_wp2
            go_roundw
            case rel => exact ⟨j + 1, by omega, by go_num, by rw [HPS2.out]; congr 1; omega, HB3⟩
            case measure => simp [intOf]; omega
        · obtain rfl : j = f.l.length := by omega
          rw [List.take_length]
          have HE2 := Lib.hid (HPD3.out.same HBW.out)
          go_wp2
          go_roundw
          case rel => exact ⟨seen ++ [i], by rw [HSN.out], HE2⟩
          case measure => rw [itLeft_at HS.out.it, itLeft_at HE2.out.it]; exact HLT.out
    · have hb1 : Below w.heap.size w W1 := by rcases hW1 with rfl | rfl <;> exact ⟨HS.out.below.os, HS.out.below.tape, HS.out.below.output, HS.out.below.size, HS.out.below.block⟩
      have hN' : ∀ ty, (Instr.next (.pointer (some ⟨w.heap.size, 0, none⟩)) false ty).run Tryz.prog wo = .ok (.tuple #[.bool false]) W1 := fun _ => hN
      have HALL := Lib.hid (seen_all (fs := es.map (·.1)) (k := k) HS.out.nodup (by rw [List.length_map]; exact HS.out.lt) (by rw [List.length_map] at hall ⊢; exact hall))
      have HB1 := Lib.hid hb1
      clear hN hall hW1 hb1
      go_wp2
      go_ret
      exact ⟨ret_int HALL.out, HB1.out⟩
end Go.Proofs.YtlchcfkngjbdjaaGreatDoor
