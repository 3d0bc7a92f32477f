/- Proved: the tied card on AuthorityCopies: whatever the arguments (a slice of numbers), where the listed package variables hold what the program's text lays, the law returns true, and each argument reads as before. -/
import Derived.Test.YtnkephafpebfkaaGreatDoorMapG
import Derived.Test.YtnkephafpebfkaaGreatDoorKeyS
import Derived.Maps.Own
import Derived.Test.YtnkephafpebfkaaGreatDoorFpa
import Derived.Test.YtnkephafpebfkaaGreatDoorAuS
import Derived.Test.YtnkephafpebfkaaGreatDoorQt
import Derived.Deep.RegionHeld3
import Derived.Test.YtnkephafpebfkaaGreatDoorRfAS
import Derived.Test.YtnkephafpebfkaaGreatDoorSet
import Derived.Test.YtnkephafpebfkaaGreatDoorGb
import Derived.Test.YtnkephafpebfkaaGreatDoorIter
import Derived.Shelf.SlIterI.Nil
import Derived.Shelf.SortM.Plain
import Derived.Shelf.SortM.SortNone
import Derived.Test.YtnkephafpebfkaaGreatDoorRLt
import Derived.Test.YtnkephafpebfkaaGreatDoorRSm
import Derived.Test.YtnkephafpebfkaaGreatDoorRtS
import Derived.Test.YtnkephafpebfkaaGreatDoorLineR
import Derived.Test.YtnkephafpebfkaaGreatDoorRow3
import Derived.Test.YtnkephafpebfkaaGreatDoorExt
import Derived.Test.YtnkephafpebfkaaGreatDoorSet1
import Derived.Test.YtnkephafpebfkaaGreatDoorFv
import Derived.Sort.Walk0
import Derived.IntWalk
import Derived.Test.YtnkephafpebfkaaGreatDoorBs
import Derived.Test.YtnkephafpebfkaaGreatDoorFe
import Derived.Test.YtnkephafpebfkaaGreatDoorRfNum
import Derived.Test.YtnkephafpebfkaaGreatDoorSpl
import Derived.Deep.RegionWith
import Derived.Test.YtnkephafpebfkaaGreatDoorRfLin
import Derived.Deep.CutBlock
import Derived.Deep.DeepCutAuto
import Derived.Deep.QuietTactic
import Derived.BigQuiet
import Derived.RegionTactic
import Derived.Test.YtnkephafpebfkaaGreatDoorFAS
import Derived.Test.YtnkephafpebfkaaGreatDoorRgS
import Derived.Test.YtnkephafpebfkaaGreatDoorRNx
import Derived.Test.YtnkephafpebfkaaGreatDoorDkC
import Derived.Test.YtnkephafpebfkaaGreatDoorAtoi
import Derived.Test.YtnkephafpebfkaaGreatDoorRows
import Derived.Test.YtnkephafpebfkaaGreatDoorTie
import Derived.ProofKit
import Derived.LaidMore
import Derived.OpenShut
import Derived.Stop.Joined
import Derived.Stop.LaidErr
import Derived.Lib.LaidTab
import Derived.Lay
import Derived.Test.YtnkephafpebfkaaGreatDoorOpenS
import Derived.Test.YtnkephafpebfkaaGreatDoorLaw
import Derived.Test.YtnkephafpebfkaaGreatDoorCards
import Derived.SevenTiedAt
/- A map with whole numbers as keys, entry by entry, as the shelf's contracts of maps.Keys want it. -/
namespace Go.Proofs.YtnkephafpebfkaaGreatDoor
open Go.RowKit Go.Maps Go.MapKept Go.WideElems Go.ChangeMaps

/-- how a value reads that nobody looks at -/
def anyElem (_ : Value) : Option (DataW Unit × List MemPlace) := some (.nil, [])
theorem keysAre_fold (l : List (Lit × DataW Unit)) (h1 : ∀ p ∈ l, ∃ z, p.1 = Lit.int .i64 z) (h2 : l.Pairwise (fun p q => p.1 ≠ q.1)) (ks : List Int) (hk : ∀ z, (∃ p ∈ l, p.1 = Lit.int .i64 z) ↔ z ∈ ks) : KeysAre (.map (l.foldr DataW.insert [])) ks := by
  have key : ∀ l : List (Lit × DataW Unit), l.Pairwise (fun p q => p.1 ≠ q.1) → (∀ y, y ∈ l.foldr DataW.insert [] ↔ y ∈ l) ∧ (l.foldr DataW.insert []).Pairwise (fun p q => p.1 ≠ q.1) := by
    intro l
    induction l with
    | nil => intro _; exact ⟨fun y => by simp, by simp⟩
    | cons a r ih =>
      intro h
      obtain ⟨ha, hr⟩ := List.pairwise_cons.1 h
      obtain ⟨i1, i2⟩ := ih hr
      refine ⟨fun y => ?_, ?_⟩
      · rw [List.foldr_cons, mem_insert, i1, List.mem_cons]
      · rw [List.foldr_cons]
        exact pair_insert i2 fun y hy => ha y ((i1 y).1 hy)
  obtain ⟨k1, k2⟩ := key l h2
  refine ⟨_, rfl, fun p hp => h1 p ((k1 p).1 hp), k2, fun z => ?_⟩
  rw [← hk z]
  constructor
  · rintro ⟨p, hp, hz⟩; exact ⟨p, (k1 p).1 hp, hz⟩
  · rintro ⟨p, hp, hz⟩; exact ⟨p, (k1 p).2 hp, hz⟩
theorem iEnts_mem {j : Nat} {es : List (Int × Value)} {x : MapEntry} (h : x ∈ iEnts j es) : ∃ i p, es[i]? = some p ∧ x = iEnt (j + i) p := by
  obtain ⟨i, hi⟩ := List.getElem?_of_mem h
  rw [iEnts_get] at hi
  obtain ⟨p, hp, he⟩ := Option.map_eq_some_iff.1 hi
  exact ⟨i, p, hp, he.symm⟩
set_option maxRecDepth 100000 in
theorem iObj_owns {w : World} {b : Nat} {es : List (Int × Value)} (hb : w.heap[b]? = some (iObj es)) (hn : (es.map (·.1)).Nodup) (hw : ∀ p ∈ es, -9223372036854775808 ≤ p.1 ∧ p.1 ≤ 9223372036854775807) (hl : es.length ≤ 1000000) :
    ∃ D : DataW Unit, w.ownsMap Tryz.prog 3 anyElem b es.length D ∧ KeysAre D (es.map (·.1)) := by
  have hwf : ∀ p ∈ es, (Lit.int .i64 p.1).wf = true := fun p hp => by
    have := hw p hp
    have e1 : IntKind.i64.min = -9223372036854775808 := rfl
    have e2 : IntKind.i64.max = 9223372036854775807 := rfl
    simp only [Lit.wf, Bool.and_eq_true, decide_eq_true_eq]; omega
  have hrd : ∀ x ∈ iEnts 0 es, ∃ p ∈ es, x.key = .int .i64 p.1 ∧ WideElems.rd Tryz.prog 3 anyElem x = some (Lit.int .i64 p.1, .nil) := fun x hx => by
    obtain ⟨i, p, hp, rfl⟩ := iEnts_mem hx
    have hm := List.mem_of_getElem? hp
    exact ⟨p, hm, rfl, Go.WideElems.rd_mk (key := .int .i64 p.1) (val := p.2) (yv := ((DataW.nil : DataW Unit), [])) (keyOf_int_mk Tryz.underlying3 (hwf p hm)) rfl⟩
  have hlen : (iEnts 0 es).length = es.length := iEnts_len 0 es
  have hkeys : ∀ (j : Nat) (es : List (Int × Value)), (iEnts j es).map (·.key) = es.map fun p => Value.int .i64 p.1 := by
    intro j es
    apply List.ext_getElem?
    intro i
    rw [List.getElem?_map, iEnts_get, List.getElem?_map]
    cases es[i]? <;> rfl
  have hborn : (iEnts 0 es).map (·.born) = List.range es.length := by
    apply List.ext_getElem?
    intro i
    rw [List.getElem?_map, iEnts_get]
    by_cases hi : i < es.length
    · rw [List.getElem?_eq_getElem hi]
      simp [iEnt, hi]
    · rw [List.getElem?_eq_none (by omega), List.getElem?_eq_none (by simp; omega)]; rfl
  refine ⟨_, ⟨(iEnts 0 es).toArray, es.length, hb, ⟨by rw [List.size_toArray, hlen]; unfold maxLen; omega, ⟨fun x hx => ?_, ?_, ?_⟩, fun x hx => ?_⟩, by rw [List.size_toArray, hlen]; exact Nat.le_refl _, rfl⟩, ?_⟩
  · obtain ⟨i, p, hp, rfl⟩ := iEnts_mem (by simpa using hx)
    have := (List.getElem?_eq_some_iff.1 hp).1
    simp [iEnt]; exact this
  · rw [hborn]; exact List.nodup_range
  · rw [hkeys, List.nodup_iff_pairwise_ne, List.pairwise_map]
    rw [List.nodup_iff_pairwise_ne, List.pairwise_map] at hn
    exact hn.imp fun h e => h (by injection e)
  · obtain ⟨p, _, _, h⟩ := hrd x (by simpa using hx)
    exact ⟨_, h⟩
  · have hrg : ∀ x ∈ iEnts 0 es, ∃ p ∈ es, x.key = .int .i64 p.1 ∧ WideElems.rg Tryz.prog 3 anyElem x = (Lit.int .i64 p.1, .nil) := fun x hx => by
      obtain ⟨p, h1, h2, h3⟩ := hrd x hx
      exact ⟨p, h1, h2, by rw [WideElems.rg, h3]; rfl⟩
    have hmap : (iEnts 0 es).map (WideElems.rg Tryz.prog 3 anyElem) = es.map fun p => (Lit.int .i64 p.1, DataW.nil) := by
      apply List.ext_getElem?
      intro i
      rw [List.getElem?_map, List.getElem?_map, iEnts_get]
      cases hp : es[i]? with
      | none => rfl
      | some p =>
        have hm : iEnt i p ∈ iEnts 0 es := List.mem_of_getElem? (i := i) (by rw [iEnts_get, hp]; simp)
        obtain ⟨q, _, h2, h3⟩ := hrg _ hm
        simp only [iEnt, Value.int.injEq, true_and] at h2
        simp only [Option.map_some, Nat.zero_add, h3, h2]
    rw [hmap]
    refine keysAre_fold _ (fun p hp => ?_) ?_ _ (fun z => ?_)
    · obtain ⟨q, _, rfl⟩ := List.mem_map.1 hp; exact ⟨_, rfl⟩
    · rw [List.pairwise_map]
      rw [List.nodup_iff_pairwise_ne, List.pairwise_map] at hn
      exact hn.imp fun h e => h (by injection e)
    · constructor
      · rintro ⟨p, hp, hz⟩
        obtain ⟨q, hq, rfl⟩ := List.mem_map.1 hp
        simp only [Lit.int.injEq, true_and] at hz
        exact List.mem_map.2 ⟨q, hq, hz⟩
      · intro hz
        obtain ⟨q, hq, rfl⟩ := List.mem_map.1 hz
        exact ⟨_, List.mem_map.2 ⟨q, hq, rfl⟩, rfl⟩
end Go.Proofs.YtnkephafpebfkaaGreatDoor
/- Contract of filing.Decode. -/
namespace Go.Proofs.YtnkephafpebfkaaGreatDoor
open Go.RowKit Go.Shelf

/-- the call returns a return and a number -/
def RetRet (f : Ret) (er : Int) (w : World) (e : Ending) (w' : World) : Prop :=
  ∃ v, e = .returned (.tuple #[.agg (f.vals v), .int .i64 er]) ∧ Own w' w.heap.size 56 3 v (lns f.l) ∧ Below w.heap.size w w'
theorem RetRet.no {f : Ret} {er : Int} {w w' : World} (h : f = ⟨0, 0, []⟩) (hb : Below w.heap.size w w') : RetRet f er w (.returned (.tuple #[.agg #[.int .i64 0, .int .i64 0, .slice none 0 0], .int .i64 er])) w' := by
  subst h; exact ⟨_, rfl, Own.nil _ _ _ _, hb⟩
set_option maxRecDepth 100000 in
set_option maxHeartbeats 2000000 in
theorem DecodeR_any (s : ByteArray) (w : World) (hT : Tabs w) (hE : Errs w) :
    Calls Tryz.prog 18 #[.string s] w (RetRet (decR s.data.toList) (decE s.data.toList) w) := by
  have HT := Lib.hid hT
  have HER := Lib.hid hE
  clear hT hE
  have hsz : s.data.toList.length = s.size := by simp
  have hr0 := Row.new w 25 #[.int .i64 0, .int .i64 0, .slice none 0 0]
  have hB0 := (Below.refl w.heap.size w).alloc (Nat.le_refl _) (.cells #[.int .i64 0, .int .i64 0, .slice none 0 0] 25)
  by_cases hl : 65536 < s.size
  · have HD : Hid (decE s.data.toList = 3) := by rw [Hid, decE, if_pos (by omega)]
    have HD2 := Lib.hid (decR_no (s := s.data.toList) (by rw [HD.out]; decide))
    go_enter Tryz.func18, Tryz.ntmps18
    go_wp2
    refine bodyPost_ret (v := .tuple #[.agg #[.int .i64 0, .int .i64 0, .slice none 0 0], .int .i64 3]) (by simp [results, Tryz.results18, go_sem]) rfl ?_
    rw [HD.out]
    exact RetRet.no HD2.out hB0
  have HDE : Hid (decE s.data.toList = match parseR s.data.toList with
    | some r => if retB r then 0 else 6
    | none => 6) := by rw [Hid, decE, if_neg (by omega)]; rfl
  clear hsz
  go_enter Tryz.func18, Tryz.ntmps18
  go_wp2_with fail
  obtain ⟨w0, hw0⟩ : ∃ w0, w.alloc (.cells #[.int .i64 0, .int .i64 0, .slice none 0 0] 25) = w0 := ⟨_, rfl⟩
  rw [hw0] at hr0 hB0 ⊢
  obtain ⟨r, hr⟩ : ∃ r, w.heap.size = r := ⟨_, rfl⟩
  rw [hr] at hr0 ⊢
  have hwr : w.heap.size ≤ r := by omega
  clear hw0
  refine (parseR_any s w0 (HT.out.below hB0) (HER.out.below hB0) (by omega)).mono ?_
  rintro e w1 ⟨hb1, hp⟩
  have hB1 := below_after hB0 hb1 hB0.size
  have hr1 := hr0.below hb1 hr0.lt
  have hz0 := hB0.size
  have hr0l := hr0.lt
  have hs1 := hB1.size
  clear hB0 hr0 hb1
  have H0 : ∀ W er, Below w.heap.size w W → decE s.data.toList = er → er ≠ 0 → RetRet (decR s.data.toList) (decE s.data.toList) w (.returned (.tuple #[.agg #[.int .i64 0, .int .i64 0, .slice none 0 0], .int .i64 er])) W := fun W er hb he hn => by
    rw [he]; exact RetRet.no (decR_no (by rw [he]; exact hn)) hb
  have HNO := Lib.hid H0
  clear H0
  rcases hp with ⟨f, v, hpf, rfl, hown⟩ | ⟨hpf, rfl⟩
  rotate_left
  · have HE : Hid (decE s.data.toList = 6) := by rw [Hid, HDE.out, hpf]
    have hq := Below.set3 hB1 hwr (.int .i64 0) (.int .i64 0) (.slice none 0 0)
    have hQ := (hq.alloc hq.size (.cells #[.int .i64 0, .int .i64 0, .slice none 0 0] 25))
    have hR := ((Row.set3 hr1 (.int .i64 0) (.int .i64 0) (.slice none 0 0)).alloc (.cells #[.int .i64 0, .int .i64 0, .slice none 0 0] 25))
    obtain ⟨⟨a0, a1, a2, al⟩, ⟨b0, b1, b2⟩⟩ := row3 hr1
    have HR := Lib.hid (row3 hR).1
    have HQ := Lib.hid hQ
    clear hq hQ hR hr1 hpf
    go_wp2
    obtain ⟨z0, z1, z2, -⟩ := HR.out
    refine bodyPost_ret (v := .tuple #[.agg #[.int .i64 0, .int .i64 0, .slice none 0 0], .int .i64 6]) (by simp only [results, Tryz.results18, go_sem]; simp [z0, z1, z2, go_sem]) rfl ?_
    exact HNO.out _ 6 HQ.out HE.out (by decide)
  · have HVL : Hid (f.vals v = #[.int .i64 f.p, .int .i64 f.v, v]) := rfl
    rw [HVL.out]
    have HPF := Lib.hid hpf
    have HD2 : Hid (decE s.data.toList = if retB f then 0 else 6) := by rw [Hid, HDE.out, hpf]
    have hsl := hown.sl (by omega)
    obtain ⟨Av, cv, rfl⟩ := hown.form
    rw [lns_len] at hown hsl HVL ⊢
    have hx1 := Row.new w1 25 #[.int .i64 f.p, .int .i64 f.v, .slice Av f.l.length cv]
    have hx3 := (Below.refl w1.heap.size w1).alloc (Nat.le_refl _) (.cells #[.int .i64 f.p, .int .i64 f.v, .slice Av f.l.length cv] 25)
    clear hpf
    obtain ⟨w2, hw2⟩ : ∃ w2, w1.alloc (.cells #[.int .i64 f.p, .int .i64 f.v, .slice Av f.l.length cv] 25) = w2 := ⟨_, rfl⟩
    rw [hw2] at hx1 hx3
    have hB2 := below_after hB1 hx3 hB1.size
    have hr2 := hr1.below hx3 hr1.lt
    have HS2 := Lib.hid (hsl.below hx3)
    have HO2 := Lib.hid (hown.kept hx3)
    have HV : Hid (Calls Tryz.prog 15 #[.agg #[.int .i64 f.p, .int .i64 f.v, .slice Av f.l.length cv]] w2 fun e w' => e = .returned (.bool (retB f)) ∧ Below w2.heap.size w2 w') := ValidR_any f _ w2 HS2.out
    obtain ⟨⟨y0, y1, y2, yl⟩, -⟩ := row3 hx1
    go_wp2_with fail
    refine HV.out.mono ?_
    rintro e w3 ⟨rfl, hb3⟩
    have hB3 := below_after hB2 hb3 hB2.size
    have hr3 := hr2.below hb3 hr2.lt
    have hy1 := hx1.below hb3 hx1.lt
    have HO3 := Lib.hid (HO2.out.kept hb3)
    obtain ⟨b, hb⟩ : ∃ b, w1.heap.size = b := ⟨_, rfl⟩
    rw [hb] at hy1 ⊢
    clear hB2 hr2 hx1 HS2 HO2 hb3 HV y0 y1 y2 yl hw2 hx3 hr1 hB1 hown hsl hb
    obtain ⟨⟨a0, a1, a2, al⟩, ⟨b0, b1, b2⟩⟩ := row3 hr3
    cases hF : retB f
    · rw [hF] at HD2
      have HE : Hid (decE s.data.toList = 6) := HD2.out
      have HQ := Lib.hid (Below.set3 hB3 hwr (.int .i64 0) (.int .i64 0) (.slice none 0 0))
      have HR := Lib.hid (row3 (Row.set3 hr3 (.int .i64 0) (.int .i64 0) (.slice none 0 0))).1
      clear hF hr3 hy1 hB3
      go_wp2
      obtain ⟨z0, z1, z2, -⟩ := HR.out
      refine bodyPost_ret (v := .tuple #[.agg #[.int .i64 0, .int .i64 0, .slice none 0 0], .int .i64 6]) (by simp only [results, Tryz.results18, go_sem]; simp [z0, z1, z2, go_sem]) rfl ?_
      exact HNO.out _ 6 HQ.out HE.out (by decide)
    · rw [hF] at HD2
      have HD3 : Hid (decE s.data.toList = 0) := HD2.out
      obtain ⟨⟨c0, c1, c2, cl⟩, -⟩ := row3 hy1
      have HFI : Hid (decR s.data.toList = f) := by rw [Hid, decR, if_pos HD3.out, HPF.out]
      have hS := Row.set3 hr3 (.int .i64 f.p) (.int .i64 f.v) (.slice Av f.l.length cv)
      have HQ := Lib.hid (Below.set3 hB3 hwr (.int .i64 f.p) (.int .i64 f.v) (.slice Av f.l.length cv))
      have HR := Lib.hid (row3 hS).1
      have HON := Lib.hid (own3 HO3.out (r := r) hr0l (.int .i64 f.p) (.int .i64 f.v) (.slice Av f.l.length cv))
      clear hF hr3 hy1 hS hB3
      go_wp2
      obtain ⟨z0, z1, z2, -⟩ := HR.out
      refine bodyPost_ret (v := .tuple #[.agg #[.int .i64 f.p, .int .i64 f.v, .slice Av f.l.length cv], .int .i64 0]) (by simp only [results, Tryz.results18, go_sem]; simp [z0, z1, z2, go_sem]) rfl ?_
      rw [HD3.out, HFI.out]
      exact ⟨_, rfl, HON.out.more hz0, HQ.out⟩
end Go.Proofs.YtnkephafpebfkaaGreatDoor
/- filing.Authority: New, Submit. -/
namespace Go.Proofs.YtnkephafpebfkaaGreatDoor
open Go.RowKit Go.Shelf

/-- an authority in block B with its map in block M -/
structure AuthS (w : World) (B M : Nat) (es : List (Ret × Value)) : Prop where
  box : Row w B 89 #[.map (some M)]
  map : w.heap[M]? = some (iObj (es.map entA))
  ln : ∀ p ∈ es, Sl w 3 p.2 (lns p.1.l)
  val : ∀ p ∈ es, retB p.1 = true
  dist : DistR (es.map (·.1))
theorem AuthS.below {w w' : World} {B M : Nat} {es : List (Ret × Value)} (h : AuthS w B M es) (hb : Below w.heap.size w w') : AuthS w' B M es :=
  ⟨h.box.below hb h.box.lt, (hb.block M (lt_of_some h.map)).trans h.map, fun p hp => (h.ln p hp).below hb, h.val, h.dist⟩
theorem grownBy_of_below {w w' : World} {row : Option Nat} (h : Below w.heap.size w w') : w.grownBy w' row := ⟨h.os, h.tape, h.output, h.size, fun k hk _ => h.block k hk⟩
theorem grown_trans' {w w1 w2 : World} {row : Option Nat} (h1 : w.grownBy w1 row) (h2 : w1.grownBy w2 row) : w.grownBy w2 row :=
  ⟨h2.os.trans h1.os, h2.tape.trans h1.tape, h2.output.trans h1.output, Nat.le_trans h1.size h2.size, fun i hi hne => (h2.block i (Nat.lt_of_lt_of_le hi h1.size) hne).trans (h1.block i hi hne)⟩
theorem auth_ty : Tryz.prog.underlying 87 = some (.map 3 25) := Tryz.underlying87
theorem zero_ret (w : World) : (zeroValue 25).run Tryz.prog w = .ok (.agg #[.int .i64 0, .int .i64 0, .slice none 0 0]) w := by kernel_rfl
theorem eq_nil_map (m : Nat) (w : World) : (binOp .eql 87 (.map (some m)) (.map none)).run Tryz.prog w = .ok (.bool false) w := by kernel_rfl
theorem eq_nil_auth (b : Nat) (w : World) : (binOp .eql 44 (.pointer (some ⟨b, 0, none⟩)) (.pointer none)).run Tryz.prog w = .ok (.bool false) w := by kernel_rfl
theorem field_ver (x y : Int) (A : Option Addr) (n c : Nat) (w : World) : (Instr.field 25 (.agg #[.int .i64 x, .int .i64 y, .slice A n c]) 1).run Tryz.prog w = .ok (.int .i64 y) w := by kernel_rfl
theorem NewA_any (w : World) : Calls Tryz.prog 21 #[] w fun e w' => ∃ B M, e = .returned (.pointer (some ⟨B, 0, none⟩)) ∧ AuthS w' B M [] ∧ Below w.heap.size w w' ∧ w.heap.size ≤ M ∧ M < B := by
  have hmm := @run_makeMap Tryz.prog
  go_enter Tryz.func21, Tryz.ntmps21
  go_wp2
  go_ret
  have hb := (Below.refl w.heap.size w).alloc (Nat.le_refl _) (.map #[] 0)
  refine ⟨w.heap.size + 1, w.heap.size, rfl, ⟨?_, ?_, (fun p hp => absurd hp (by simp)), (fun p hp => absurd hp (by simp)), .nil⟩, hb.alloc hb.size _, Nat.le_refl _, by omega⟩
  · have := Row.new (w.alloc (.map #[] 0)) 89 #[.map (some w.heap.size)]
    rwa [World.size_alloc] at this
  · exact (Below.heap_alloc _ _ _ (by simp)).trans (heap_alloc_new w _)
/-- a slice of the call's own does not lie in a map -/
theorem own_not_map {w : World} {base e sz M n : Nat} {v : Value} {es : List (List Value)} {a : Array MapEntry} (h : Own w base e sz v es) (hm : w.heap[M]? = some (.map a n)) : v.ownBlock = none ∨ v.ownBlock ≠ some M := by
  cases hv : v.ownBlock with
  | none => exact .inl rfl
  | some g =>
    refine .inr fun e => ?_
    rcases h.1.2 with ⟨rfl, _⟩ | ⟨g1, c1, cur1, rfl, _, hg1, _⟩
    · simp [Value.ownBlock] at hv
    · simp only [Value.ownBlock, Option.some.injEq] at hv e
      rw [hv, e, hm] at hg1
      cases hg1
/-- the version that the map knows -/
theorem get_ver {w : World} {B M : Nat} {es : List (Ret × Value)} (h : AuthS w B M es) (p : Int) : ∃ (x : Int) (A : Option Addr) (n c : Nat), ((getI (es.map entA) p).getD (.agg #[.int .i64 0, .int .i64 0, .slice none 0 0])) = .agg #[.int .i64 x, .int .i64 (verP (es.map (·.1)) p), .slice A n c] := by
  obtain ⟨h1, h2⟩ := get_ret h.dist p
  cases hh : hasP (es.map (·.1)) p
  · rw [h2 hh, verP_lat, latP_no hh]
    exact ⟨0, none, 0, 0, rfl⟩
  · obtain ⟨v, hv, he⟩ := h1 hh
    obtain ⟨A, n, c, hv'⟩ := (h.ln _ hv).is
    rw [he, verP_lat]
    simp only at hv'
    exact ⟨_, A, n, c, by rw [Option.getD_some, Ret.vals, hv']⟩
/-- what Submit leaves -/
def SubT (w : World) (B M : Nat) (es : List (Ret × Value)) (s : List UInt8) (e : Ending) (w' : World) : Prop :=
  ∃ es', e = .returned (.int .i64 (subE (es.map (·.1)) s)) ∧ AuthS w' B M es' ∧ es'.map (·.1) = subA (es.map (·.1)) s ∧ w.grownBy w' (some M) ∧ ∀ p ∈ es', p ∈ es ∨ Own w' w.heap.size 56 3 p.2 (lns p.1.l)
set_option maxRecDepth 100000 in
set_option maxHeartbeats 4000000 in
theorem SubmitA_any (B M : Nat) (es : List (Ret × Value)) (s : ByteArray) (w : World) (hb : AuthS w B M es) (hT : Tabs w) (hE : Errs w) :
    Calls Tryz.prog 24 #[.pointer (some ⟨B, 0, none⟩), .string s] w (SubT w B M es s.data.toList) := by
  have HS : Hid (subE (es.map (·.1)) s.data.toList = if decE s.data.toList = 0 then (if (decR s.data.toList).v ≤ verP (es.map (·.1)) (decR s.data.toList).p then 8 else if verP (es.map (·.1)) (decR s.data.toList).p + 1 < (decR s.data.toList).v then 16 else 0) else decE s.data.toList) := rfl
  have HF : Hid (subA (es.map (·.1)) s.data.toList = if subE (es.map (·.1)) s.data.toList = 0 then putR (es.map (·.1)) (decR s.data.toList) else (es.map (·.1))) := rfl
  have HB := Lib.hid hb
  clear hb
  have hq := eq_nil_auth B
  have HD := Lib.hid (DecodeR_any s w hT hE)
  obtain ⟨f, hf⟩ : ∃ f, decR s.data.toList = f := ⟨_, rfl⟩
  obtain ⟨er, her⟩ : ∃ er, decE s.data.toList = er := ⟨_, rfl⟩
  rw [hf, her] at HD
  rw [hf, her] at HS
  rw [hf] at HF
  have HFV : Hid (er = 0 → retB f = true) := fun h => by
    have := (decE_ok (her.trans h)).2
    rwa [hf] at this
  clear hf her
  go_enter Tryz.func24, Tryz.ntmps24
  go_wp2_with fail
  refine HD.out.mono ?_
  rintro e w1 ⟨v, rfl, hown, hb1⟩
  have hvl : f.vals v = #[.int .i64 f.p, .int .i64 f.v, v] := rfl
  rw [hvl]
  clear hvl hq
  have hB1 := HB.out.below hb1
  obtain ⟨Av, cv, rfl⟩ := hown.form
  rw [lns_len] at hown ⊢
  have hs1 := hb1.size
  by_cases h0 : er = 0
  rotate_left
  · have hne : (er != 0) = true := by simpa using h0
    have HS2 : Hid (subE (es.map (·.1)) s.data.toList = er) := by rw [Hid, HS.out, if_neg h0]
    have HF2 : Hid (subA (es.map (·.1)) s.data.toList = es.map (·.1)) := by rw [Hid, HF.out, HS2.out, if_neg h0]
    have HBN := Lib.hid (hB1.below ((Below.refl w1.heap.size w1).alloc (Nat.le_refl _) (.cells #[.int .i64 f.p, .int .i64 f.v, .slice Av f.l.length cv] 25)))
    have HG : Hid (w.grownBy (w1.alloc (.cells #[.int .i64 f.p, .int .i64 f.v, .slice Av f.l.length cv] 25)) (some M)) := grownBy_of_below (hb1.alloc hs1 _)
    clear h0 hB1 hown
    go_wp2
    go_ret
    exact ⟨es, by rw [HS2.out]; rfl, HBN.out, HF2.out.symm, HG.out, fun p hp => .inl hp⟩
  · subst h0
    have hfv := (retB_iff _).1 (HFV.out (by trivial))
    have hv0 := hfv.v0
    have hv1 := hfv.v1
    have hx := Row.new w1 25 #[.int .i64 f.p, .int .i64 f.v, .slice Av f.l.length cv]
    have hal := (Below.refl w1.heap.size w1).alloc (Nat.le_refl _) (.cells #[.int .i64 f.p, .int .i64 f.v, .slice Av f.l.length cv] 25)
    have hB2 := hB1.below hal
    have hb2 := below_after hb1 hal hs1
    have hO2 := Lib.hid (hown.kept hal)
    obtain ⟨x, A', n', c', hget⟩ := get_ver hB1 f.p
    obtain ⟨kv, hkv⟩ : ∃ kv, verP (es.map (·.1)) f.p = kv := ⟨_, rfl⟩
    have hkvb : 0 ≤ kv ∧ kv ≤ 65536 := by
      rw [← hkv, verP_lat]
      cases hh : hasP (es.map (·.1)) f.p
      · rw [latP_no hh]; simp
      · obtain ⟨q, hq, he⟩ := List.mem_map.1 (latP_mem hh).1
        have := (retB_iff _).1 (hB1.val q hq)
        have a0 := this.v0
        have a1 := this.v1
        rw [← he]; omega
    rw [hkv] at hget HS
    clear hkv
    obtain ⟨k0, k1⟩ := hkvb
    clear hfv
    go_wp2_with fail
    obtain ⟨w2, hw2⟩ : ∃ w2, w1.alloc (.cells #[.int .i64 f.p, .int .i64 f.v, .slice Av f.l.length cv] 25) = w2 := ⟨_, rfl⟩
    rw [hw2] at hx hal hB2 hb2 hO2 ⊢
    obtain ⟨b, hbb⟩ : ∃ b, w1.heap.size = b := ⟨_, rfl⟩
    rw [hbb] at hx ⊢
    have HB2 := Lib.hid hB2
    have E1 := fun y : Ext w2 => (run_lookup_i auth_ty (zero_ret y.val) (hB2.below y.property).map f.p).2
    rw [hget] at E1
    have c0 := hB2.box.cell 0
    have cl := hB2.box.lt
    simp only [List.getElem?_toArray, List.getElem?_cons_zero] at c0
    obtain ⟨⟨d0, d1, d2, dl⟩, -⟩ := row3 hx
    have HX := Lib.hid hx
    have y0 := ext_cell cl c0
    have y1 := ext_cell dl d0
    have y2 := ext_cell dl d1
    have y3 := ext_cell dl d2
    clear hx hw2 hB1 hB2 hown hget hal hbb c0 d0 d1 d2
    have EF := fun W => field_ver x kv A' n' c' W
    refine region_ext (by kernel_rfl) (by kernel_rfl) ?_
    repeat (go_big_quiet_step (fail))
    refine wpQuiet_nil ?_
    rintro _ ⟨y, rfl⟩
    have hb3 := below_after hb2 y.property hb2.size
    have hB3 := HB2.out.below y.property
    have hx3 := HX.out.below y.property HX.out.lt
    have HO3 : Hid (Own y.val w.heap.size 56 3 (.slice Av f.l.length cv) (lns f.l)) := hO2.out.kept y.property
    generalize y.val = w3 at hb3 hB3 hx3 HO3 ⊢
    clear E1 EF y0 y1 y2 y3 y cl dl HB2 HX hO2 hb2
    have c0 := hB3.box.cell 0
    have cl := hB3.box.lt
    simp only [List.getElem?_toArray, List.getElem?_cons_zero] at c0
    obtain ⟨⟨d0, d1, d2, dl⟩, -⟩ := row3 hx3
    by_cases hle : f.v ≤ kv
    · have HS2 : Hid (subE (es.map (·.1)) s.data.toList = 8) := by rw [Hid, HS.out, if_pos (by trivial), if_pos hle]
      have HF2 : Hid (subA (es.map (·.1)) s.data.toList = es.map (·.1)) := by rw [Hid, HF.out, HS2.out, if_neg (by decide)]
      have hd : decide (f.v ≤ kv) = true := decide_eq_true hle
      have HG : Hid (w.grownBy w3 (some M)) := grownBy_of_below hb3
      have HBN := Lib.hid hB3
      clear hle hB3 hx3
      go_wp2
      go_ret
      exact ⟨es, by rw [HS2.out]; rfl, HBN.out, HF2.out.symm, HG.out, fun p hp => .inl hp⟩
    have hd : decide (f.v ≤ kv) = false := decide_eq_false hle
    by_cases hgt : kv + 1 < f.v
    · have HS2 : Hid (subE (es.map (·.1)) s.data.toList = 16) := by rw [Hid, HS.out, if_pos (by trivial), if_neg hle, if_pos hgt]
      have HF2 : Hid (subA (es.map (·.1)) s.data.toList = es.map (·.1)) := by rw [Hid, HF.out, HS2.out, if_neg (by decide)]
      have HG : Hid (w.grownBy w3 (some M)) := grownBy_of_below hb3
      have HBN := Lib.hid hB3
      clear hle hB3 hx3
      go_wp2
      go_ret
      exact ⟨es, by rw [HS2.out]; rfl, HBN.out, HF2.out.symm, HG.out, fun p hp => .inl hp⟩
    have HS2 : Hid (subE (es.map (·.1)) s.data.toList = 0) := by rw [Hid, HS.out, if_pos (by trivial), if_neg hle, if_neg hgt]
    have HF2 : Hid (subA (es.map (·.1)) s.data.toList = putR (es.map (·.1)) f) := by rw [Hid, HF.out, HS2.out, if_pos rfl]
    have qm := eq_nil_map M
    clear hle
    go_wp2_with fail
    have y0 := ext_cell cl c0
    have y1 := ext_cell dl d0
    have y2 := ext_cell dl d1
    have y3 := ext_cell dl d2
    have HB3 := Lib.hid hB3
    have HX3 := Lib.hid hx3
    have hbM : b ≠ M := fun e => by have := hx3; unfold Row at this; rw [e, hB3.map] at this; cases this
    have hBM : B ≠ M := fun e => by have := hB3.box; unfold Row at this; rw [e, hB3.map] at this; cases this
    clear c0 d0 d1 d2 hB3 hx3
    refine region_ext_tail 7 (by kernel_rfl) (by kernel_rfl) ?_
    simp only [List.take_succ_cons, List.take_zero, List.drop_succ_cons, List.drop_zero]
    repeat (go_big_quiet_step (fail))
    refine wpQuiet_nil ?_
    rintro _ ⟨y, rfl⟩
    have hB4 := HB3.out.below y.property
    have hb4 := below_after hb3 y.property hb3.size
    have HO4 := Lib.hid (HO3.out.kept y.property)
    generalize y.val = w4 at hB4 hb4 HO4 ⊢
    clear y0 y1 y2 y3 y HB3 HX3 HO3 hb3
    have hput := putI_ents hB4.dist f (.slice Av f.l.length cv)
    have hM4 := lt_of_some hB4.map
    have E3 := run_update_i auth_ty hB4.map f.p (.agg #[.int .i64 f.p, .int .i64 f.v, .slice Av f.l.length cv])
    rw [show (Value.agg #[.int .i64 f.p, .int .i64 f.v, .slice Av f.l.length cv]) = .agg (f.vals (.slice Av f.l.length cv)) from rfl, hput] at E3
    rw [show (Value.agg (f.vals (.slice Av f.l.length cv))) = .agg #[.int .i64 f.p, .int .i64 f.v, .slice Av f.l.length cv] from rfl] at E3
    have hg5 : w4.grownBy (setB w4 M (iObj ((putE es f (.slice Av f.l.length cv)).map entA))) (some M) := setB_grown
    have hm5 : (setB w4 M (iObj ((putE es f (.slice Av f.l.length cv)).map entA))).heap[M]? = some (iObj ((putE es f (.slice Av f.l.length cv)).map entA)) := setB_at hM4
    obtain ⟨w5, hw5⟩ : ∃ w5, setB w4 M (iObj ((putE es f (.slice Av f.l.length cv)).map entA)) = w5 := ⟨_, rfl⟩
    rw [hw5] at E3 hg5 hm5
    have HEND : Hid (AuthS w5 B M (putE es f (.slice Av f.l.length cv)) ∧ w.grownBy w5 (some M) ∧ Own w5 w.heap.size 56 3 (.slice Av f.l.length cv) (lns f.l)) := by
      refine ⟨⟨hB4.box.keep hg5 (fun e => hBM (Option.some.inj e)), hm5, fun p hp => ?_, fun p hp => ?_, by rw [putE_fst]; exact hB4.dist.put f⟩, ?_, HO4.out.keepG hg5 (own_not_map HO4.out hB4.map)⟩
      · rcases putE_mem hp with hp | rfl
        · exact (hB4.ln p hp).ln_far hg5 (noLn_map hB4.map)
        · exact (HO4.out.sl (by omega)).ln_far hg5 (noLn_map hB4.map)
      · rcases putE_mem hp with hp | rfl
        · exact hB4.val p hp
        · exact HFV.out (by trivial)
      · exact grown_trans' (grownBy_of_below hb4) hg5
    clear hw5 hg5 hm5 hB4 HO4 hput hM4 hb4
    go_wp2
    go_ret
    exact ⟨_, by rw [HS2.out]; rfl, HEND.out.1, by rw [HF2.out, putE_fst], HEND.out.2.1, fun p hp => by
      rcases putE_mem hp with hp | rfl
      · exact .inl hp
      · exact .inr HEND.out.2.2⟩
end Go.Proofs.YtnkephafpebfkaaGreatDoor
/- The reference's authority in memory. -/
namespace Go.Proofs.YtnkephafpebfkaaGreatDoor
open Go.RowKit Go.Shelf

/-- a block whose cells are of another type is not a slice's own -/
theorem own_not_ty {w : World} {base e sz X : Nat} {v : Value} {es : List (List Value)} (h : Own w base e sz v es) {c : Array Value} {t : TypeId} {z : Nat × Nat} (hx : w.heap[X]? = some (.cells c t z)) (hne : e ≠ t) : v.ownBlock = none ∨ v.ownBlock ≠ some X := by
  cases hv : v.ownBlock with
  | none => exact .inl rfl
  | some g =>
    refine .inr fun e' => hne ?_
    rcases h.1.2 with ⟨rfl, _⟩ | ⟨g1, c1, cur1, rfl, _, hg1, _⟩
    · simp [Value.ownBlock] at hv
    · simp only [Value.ownBlock, Option.some.injEq] at hv e'
      rw [hv, e', hx] at hg1
      simp only [Option.some.injEq, Obj.cells.injEq] at hg1
      exact hg1.2.1.symm
/-- a block that the reference may write: its own box, or its own returns -/
def RefX (w : World) (X : Nat) : Prop := ∃ c t z, w.heap[X]? = some (.cells c t z) ∧ (t = 49 ∨ t = 25)
theorem ty_ln : 56 ≠ 49 ∧ 56 ≠ 25 ∧ 89 ≠ 49 ∧ 89 ≠ 25 ∧ 25 ≠ 49 := by decide
theorem RefX.own {w : World} {X base : Nat} (h : RefX w X) {v : Value} {es : List (List Value)} (ho : Own w base 56 3 v es) : v.ownBlock = none ∨ v.ownBlock ≠ some X := by
  obtain ⟨c, t, z, h1, rfl | rfl⟩ := h
  · exact own_not_ty ho h1 ty_ln.1
  · exact own_not_ty ho h1 ty_ln.2.1
theorem RefX.row {w : World} {X B : Nat} (h : RefX w X) {cs : Array Value} (hr : Row w B 89 cs) : B ≠ X := fun e => by
  obtain ⟨c, t, z, h1, h2⟩ := h
  unfold Row at hr
  rw [e, h1] at hr
  simp only [Option.some.injEq, Obj.cells.injEq] at hr
  rcases h2 with rfl | rfl
  · exact ty_ln.2.2.1 hr.2.1.symm
  · exact ty_ln.2.2.2.1 hr.2.1.symm
theorem RefX.map {w : World} {X M : Nat} (h : RefX w X) {es : List (Int × Value)} (hm : w.heap[M]? = some (iObj es)) : M ≠ X := fun e => by
  obtain ⟨c, t, z, h1, h2⟩ := h
  rw [e, h1] at hm
  cases hm
/-- the reference's authority in block R: its returns in ascending order, all of the call's own -/
structure RefA (w : World) (base R : Nat) (ps : List (Ret × Value)) : Prop where
  ex : ∃ v, Row w R 49 #[v] ∧ Own w base 25 3 v (rets ps)
  ln : ∀ p ∈ ps, Own w base 56 3 p.2 (lns p.1.l)
  val : ∀ p ∈ ps, retB p.1 = true
  asc : AscR (ps.map (·.1))
  low : base ≤ R
theorem RefA.at {w : World} {base R : Nat} {ps : List (Ret × Value)} (h : RefA w base R ps) : ∃ v, Row w R 49 #[v] ∧ RetsAt w v ps := by
  obtain ⟨v, h1, h2⟩ := h.ex
  exact ⟨v, h1, h2.sl (by omega), fun p hp => (h.ln p hp).sl (by omega)⟩
theorem RefA.below {w w' : World} {base R : Nat} {ps : List (Ret × Value)} (h : RefA w base R ps) (hb : Below w.heap.size w w') : RefA w' base R ps := by
  obtain ⟨v, h1, h2⟩ := h.ex
  exact ⟨⟨v, h1.below hb h1.lt, h2.kept hb⟩, fun p hp => (h.ln p hp).kept hb, h.val, h.asc, h.low⟩
/-- what lies ahead of a block that grows stays -/
theorem RefA.keep {w w' : World} {base R X : Nat} {ps : List (Ret × Value)} (h : RefA w base R ps) (hg : w.grownBy w' (some X)) (hX : X < base) : RefA w' base R ps := by
  obtain ⟨v, h1, h2⟩ := h.ex
  have key : ∀ {v e sz es}, Own w base e sz v es → v.ownBlock = none ∨ v.ownBlock ≠ some X := fun {v _ _ _} ho => by
    cases hv : v.ownBlock with
    | none => exact .inl rfl
    | some g =>
      refine .inr fun e => ?_
      have := (ho.1.lt g hv).1
      injection e; omega
  have := h.low
  exact ⟨⟨v, h1.keep hg (by intro e; injection e; omega), h2.keepG hg (key h2)⟩, fun p hp => (h.ln p hp).keepG hg (key (h.ln p hp)), h.val, h.asc, h.low⟩
/-- the map of the other authority grows -/
theorem RefA.keepM {w w' : World} {base R M n : Nat} {a : Array MapEntry} {ps : List (Ret × Value)} (h : RefA w base R ps) (hg : w.grownBy w' (some M)) (hm : w.heap[M]? = some (.map a n)) : RefA w' base R ps := by
  obtain ⟨v, h1, h2⟩ := h.ex
  refine ⟨⟨v, h1.keep hg (fun e => ?_), h2.keepG hg (own_not_map h2 hm)⟩, fun p hp => (h.ln p hp).keepG hg (own_not_map (h.ln p hp) hm), h.val, h.asc, h.low⟩
  injection e with e
  unfold Row at h1
  rw [e, hm] at h1; cases h1
/-- the lines of the map's returns are the call's own -/
def AuO (w : World) (base : Nat) (es : List (Ret × Value)) : Prop := ∀ p ∈ es, Own w base 56 3 p.2 (lns p.1.l)
theorem AuO.below {w w' : World} {base : Nat} {es : List (Ret × Value)} (h : AuO w base es) (hb : Below w.heap.size w w') : AuO w' base es := fun p hp => (h p hp).kept hb
/-- the reference writes into its own memory: the authority stays -/
theorem AuthS.ref {w w' : World} {B M X base : Nat} {es : List (Ret × Value)} (h : AuthS w B M es) (ho : AuO w base es) (hg : w.grownBy w' (some X)) (hx : RefX w X) : AuthS w' B M es ∧ AuO w' base es := by
  have hO : AuO w' base es := fun p hp => (ho p hp).keepG hg (hx.own (ho p hp))
  refine ⟨⟨h.box.keep hg (fun e => hx.row h.box (Option.some.inj e)), (hg.block M (lt_of_some h.map) (fun e => hx.map h.map (Option.some.inj e))).trans h.map, fun p hp => (hO p hp).sl (by omega), h.val, h.dist⟩, hO⟩
/-- the block is the reference's box, or its returns' -/
def MineX (w : World) (R X : Nat) : Prop := X = R ∨ ∃ v, Row w R 49 #[v] ∧ v.ownBlock = some X
/-- what the reference's Submit leaves -/
def SubRA (w : World) (base R : Nat) (ps : List (Ret × Value)) (s : List UInt8) (e : Ending) (w' : World) : Prop :=
  ∃ ps' X, e = .returned (.int .i64 (subE (ps.map (·.1)) s)) ∧ RefA w' base R ps' ∧ (ps'.map (·.1)).Perm (subA (ps.map (·.1)) s) ∧ w.grownBy w' (some X) ∧ RefX w X ∧ base ≤ X ∧ MineX w R X
/-- the reference changes nothing but its own memory -/
theorem RefA.box_x {w : World} {base R : Nat} {ps : List (Ret × Value)} (h : RefA w base R ps) : RefX w R := by
  obtain ⟨v, h1, _⟩ := h.ex
  exact ⟨_, _, _, h1, .inl rfl⟩
end Go.Proofs.YtnkephafpebfkaaGreatDoor
/- maps.Keys and slices.Sorted at a map of returns; filing.Authority.Periods. -/
namespace Go.Proofs.YtnkephafpebfkaaGreatDoor
open Go.RowKit Go.Maps Go.Sort Go.Shelf

/-- the two contracts of slices.Sort at this dump -/
theorem sortsA (m : Nat) : AnyZI.SortsIn Tryz.prog Tryz.sortedA_ren Fence.wide m :=
  ⟨fun blk off cap ss W hH hblk hsz => callsIn_wide.2 (AnyM.slices_Sort_int Tryz.sortA blk off cap ss W hH hblk hsz),
   fun p cap W => callsIn_wide.2 (AnyM.slices_Sort_int_none Tryz.sortA p cap W)⟩
theorem keys_any (mb : Option Nat) (w : World) : Calls Tryz.prog 55 #[.map mb] w fun e w' => e = .returned (.func (.func 76) #[] #[.pointer (some ⟨w.heap.size, 0, none⟩)]) ∧ w' = w.alloc (.cells #[.map mb] 87) :=
  (callsIn_wide (n := 5)).1 (AnyZI.keys_in Tryz.keysA Fence.wide 5 trivial rfl mb w)
theorem length_insert (x : Lit × DataW Unit) (l : List (Lit × DataW Unit)) : (DataW.insert x l).length = l.length + 1 := by
  induction l with
  | nil => rfl
  | cons a r ih =>
    simp only [DataW.insert]
    split
    · rfl
    · simp [ih]
theorem owns_size {w : World} {k : TypeId} {R : Value → Option (DataW Unit × List MemPlace)} {b n : Nat} {D : DataW Unit} (h : w.ownsMap Tryz.prog k R b n D) : Maps.size D ≤ n := by
  obtain ⟨es, clock, _, _, hs, rfl⟩ := h
  have key : ∀ l : List (Lit × DataW Unit), (l.foldr DataW.insert []).length = l.length := by
    intro l
    induction l with
    | nil => rfl
    | cons a r ih => rw [List.foldr_cons, length_insert, ih]; rfl
  rw [Maps.size_eq, key, List.length_map]
  simpa using hs
set_option maxHeartbeats 1000000 in
theorem sortedKeys (b nn : Nat) (D : DataW Unit) (l : List Int) (R : Value → Option (DataW Unit × List MemPlace)) (w : World) (hown : w.ownsMap Tryz.prog 3 R b nn D) (hk : KeysAre D l) (hn : nn ≤ 1000000) :
    Calls Tryz.prog 54 #[.func (.func 76) #[] #[.pointer (some ⟨w.heap.size, 0, none⟩)]] (w.alloc (.cells #[.map (some b)] 87)) (RetOwn (w.alloc (.cells #[.map (some b)] 87)) 3 1 (ints (asI l))) := by
  have hsz := owns_size hown
  have hbl := hown.lt
  refine (callsIn_wide (n := 5)).1 ?_
  have hseq : SeqGives Fence.wide 2 Tryz.prog 76 #[.pointer (some ⟨w.heap.size, 0, none⟩)] encZ (fun ss => ss.Perm (intKeys D)) (Maps.size D) (w.alloc (.cells #[.map (some b)] 87)) :=
    AnyZI.keys_gives (ρ := Tryz.keysA_ren) { Tryz.keysA with } Fence.wide _ trivial rfl (by omega) w.heap.size b nn D _ (by simp) (by simp) (by
      obtain ⟨es, clock, hb, Ft, hs, hD⟩ := hown
      exact ⟨es, clock, (Below.heap_alloc _ _ b hbl).trans hb, Ft, hs, hD⟩)
  have cS := AnyZI.sorted_in Tryz.sortedA Fence.wide 5 trivial trivial trivial trivial rfl (by omega) (sortsA _) (enters_of Tryz.func75 (by kernel_rfl) rfl) 76 #[.pointer (some ⟨w.heap.size, 0, none⟩)] trivial (enters_of Tryz.func76 (by kernel_rfl) rfl) _ _ (by unfold maxLen; omega) (by omega) _ hseq
  refine cS.mono ?_
  rintro e w' ⟨v, ss, rfl, hS, hrow, _, hb⟩
  refine ⟨v, rfl, ⟨?_, fun x hx => ?_⟩, hb⟩
  · rw [hk.sorted hS] at hrow
    have hl : ss.length = (ints (asI l)).length := by
      have := congrArg List.length (hk.sorted hS)
      rw [List.length_mergeSort] at this
      rw [ints_len, this]
    have hf : (ints (asI l)).flatten = (asI l).map encZ := by
      rw [ints]
      induction asI l with
      | nil => rfl
      | cons a r ih => simp [ih]
    rw [← hl, hf]; exact hrow
  · obtain ⟨z, _, rfl⟩ := List.mem_map.1 hx
    exact ⟨rfl, by simp [Value.oneCell']⟩
theorem DistR.nodup {fs : List Ret} (h : DistR fs) : (fs.map (·.p)).Nodup := by
  rw [List.nodup_iff_pairwise_ne, List.pairwise_map]
  exact h
theorem periods_asc {fs ps : List Ret} (h : fs.Perm ps) (ha : AscR ps) : asI (fs.map (·.p)) = ps.map (·.p) := by
  refine Asc.unique (asI_asc _) ?_ fun x => ?_
  · unfold Asc
    rw [List.pairwise_map]; exact ha
  · rw [mem_asI]; exact (h.map _).mem_iff
set_option maxRecDepth 100000 in
set_option maxHeartbeats 2000000 in
theorem Periods_any (B M : Nat) (es : List (Ret × Value)) (w : World) (hb : AuthS w B M es) (hl : es.length ≤ 1000) :
    Calls Tryz.prog 31 #[.pointer (some ⟨B, 0, none⟩)] w (RetOwn w 3 1 (ints (asI ((es.map (·.1)).map (·.p))))) := by
  have hq := eq_nil_auth B
  have c0 := hb.box.cell 0
  have cl := hb.box.lt
  simp only [List.getElem?_toArray, List.getElem?_cons_zero] at c0
  have hke : (es.map entA).map (·.1) = (es.map (·.1)).map (·.p) := by simp [entA]
  obtain ⟨D, hD, hKA⟩ := iObj_owns hb.map (by rw [hke]; exact hb.dist.nodup) (fun p hp => by
    obtain ⟨q, hq, rfl⟩ := List.mem_map.1 hp
    have := (retB_iff _).1 (hb.val q hq)
    have h0 := this.p0
    have h1 := this.p1
    simp only [entA]; omega) (by simp; omega)
  rw [hke] at hKA
  have HSK := Lib.hid (sortedKeys M _ D _ anyElem w hD hKA (by simp; omega))
  obtain ⟨ns, hns⟩ : ∃ ns, asI ((es.map (·.1)).map (·.p)) = ns := ⟨_, rfl⟩
  rw [hns] at HSK
  rw [hns]
  clear hb hD hKA hke hns
  go_enter Tryz.func31, Tryz.ntmps31
  go_wp2_with fail
  refine (keys_any (some M) w).mono ?_
  rintro e w0 ⟨rfl, rfl⟩
  have hal := (Below.refl w.heap.size w).alloc (Nat.le_refl _) (.cells #[.map (some M)] 87)
  go_wp2_with fail
  refine HSK.out.mono ?_
  rintro e w1 ⟨x, rfl, hown, hb1⟩
  have hB1 := below_after hal hb1 hal.size
  have hso := hown.more hal.size
  have HF := Lib.hid (And.intro hso hB1)
  clear hal hb1 hown c0 cl hq HSK hso hB1
  go_wp2
  go_ret
  exact ⟨x, rfl, HF.out.1, HF.out.2⟩
end Go.Proofs.YtnkephafpebfkaaGreatDoor
/- filing.Authority.Total: a sum over a map, in whatever order. Written by gen_ftot.py. -/
namespace Go.Proofs.YtnkephafpebfkaaGreatDoor
open Go.RowKit Go.Shelf

/-- the amounts of a kind and code -/
def sumK (k : Int) (c : ByteArray) (l : List Ln) : Int := ((l.filter fun x => decide (x.kind = k) && decide (x.code = c)).map (·.amt)).sum
def totR (k : Int) (c : ByteArray) (fs : List Ret) : Int := (fs.map fun f => sumK k c f.l).sum
theorem sumK_snoc {k : Int} {c : ByteArray} {l : List Ln} {j : Nat} (h : j < l.length) : sumK k c (l.take (j + 1)) = sumK k c (l.take j) + (if (l[j]).kind = k ∧ (l[j]).code = c then (l[j]).amt else 0) := by
  unfold sumK
  rw [List.take_succ_eq_append_getElem h, List.filter_append, List.map_append, List.sum_append]
  by_cases hk : (l[j]).kind = k ∧ (l[j]).code = c
  · simp [hk]
  · rw [if_neg hk, List.filter_cons_of_neg (by simpa using hk)]; simp
def amtV (x : Ln) : Prop := -1000000000000 ≤ x.amt ∧ x.amt ≤ 1000000000000
theorem sumK_bounds {k : Int} {c : ByteArray} : ∀ {l : List Ln}, (∀ x ∈ l, amtV x) → -(l.length * 1000000000000 : Int) ≤ sumK k c l ∧ sumK k c l ≤ l.length * 1000000000000
  | [], _ => by simp [sumK]
  | x :: r, h => by
    have ih := sumK_bounds (k := k) (c := c) (l := r) fun q hq => h q (by simp [hq])
    have hp := h x (by simp)
    unfold amtV at hp
    unfold sumK at ih ⊢
    by_cases hk : x.kind = k ∧ x.code = c
    · rw [List.filter_cons_of_pos (by simpa using hk)]
      simp only [List.map_cons, List.sum_cons, List.length_cons]; omega
    · rw [List.filter_cons_of_neg (by simpa using hk)]
      simp only [List.length_cons]; omega
theorem ret_amts {f : Ret} (h : retB f = true) : ∀ x ∈ f.l, amtV x := fun x hx => by
  have := formed_of (formB_formed (((retB_iff f).1 h).f x hx))
  exact ⟨this.a0, this.a1⟩
theorem sumK_ret {k : Int} {c : ByteArray} {f : Ret} (h : retB f = true) : -256000000000000 ≤ sumK k c f.l ∧ sumK k c f.l ≤ 256000000000000 := by
  have h1 := sumK_bounds (k := k) (c := c) (ret_amts h)
  have h2 := ((retB_iff f).1 h).n
  omega
theorem sum_perm {l m : List Int} (h : l.Perm m) : l.sum = m.sum := by
  induction h with
  | nil => rfl
  | cons x _ ih => simp [ih]
  | swap x y l => simp; omega
  | trans _ _ a b => exact a.trans b
theorem totR_perm {a b : List Ret} (h : a.Perm b) (k : Int) (c : ByteArray) : totR k c a = totR k c b := sum_perm (h.map _)
theorem totR_take {k : Int} {c : ByteArray} {fs : List Ret} {j : Nat} (h : j < fs.length) : totR k c (fs.take (j + 1)) = totR k c (fs.take j) + sumK k c (fs[j]).l := by
  unfold totR
  rw [List.take_succ_eq_append_getElem h, List.map_append, List.sum_append]
  simp only [List.map_cons, List.map_nil, List.sum_cons, List.sum_nil, Int.add_zero]
theorem totR_bounds {k : Int} {c : ByteArray} : ∀ {fs : List Ret}, (∀ f ∈ fs, retB f = true) → -(fs.length * 256000000000000 : Int) ≤ totR k c fs ∧ totR k c fs ≤ fs.length * 256000000000000
  | [], _ => by simp [totR]
  | f :: r, h => by
    have ih := totR_bounds (k := k) (c := c) (fs := r) fun q hq => h q (by simp [hq])
    have hp := sumK_ret (k := k) (c := c) (h f (by simp))
    unfold totR at ih ⊢
    simp only [List.map_cons, List.sum_cons, List.length_cons]; omega
/-- the sum over the returns that have come -/
def sumSeen (fs : List Ret) (k : Int) (c : ByteArray) (seen : List Nat) : Int := (seen.map fun i => sumK k c (fs.getD i ⟨0, 0, []⟩).l).sum
theorem seen_all {fs : List Ret} {k : Int} {c : ByteArray} {seen : List Nat} (hn : seen.Nodup) (hl : ∀ i ∈ seen, i < fs.length) (ha : ∀ i, i < fs.length → i ∈ seen) : sumSeen fs k c seen = totR k c fs := by
  have hp : seen.Perm (List.range fs.length) := (List.perm_ext_iff_of_nodup hn List.nodup_range).2 fun i => ⟨fun h => List.mem_range.2 (hl i h), fun h => ha i (List.mem_range.1 h)⟩
  unfold sumSeen totR
  rw [sum_perm (hp.map _)]
  congr 1
  apply List.ext_getElem (by simp)
  intro i h1 h2
  simp only [List.length_map, List.length_range] at h1
  simp [List.getD, h1]
theorem seen_bounds {fs : List Ret} {k : Int} {c : ByteArray} (hv : ∀ f ∈ fs, retB f = true) : ∀ {seen : List Nat}, -(seen.length * 256000000000000 : Int) ≤ sumSeen fs k c seen ∧ sumSeen fs k c seen ≤ seen.length * 256000000000000
  | [] => by simp [sumSeen]
  | i :: r => by
    have ih := seen_bounds (k := k) (c := c) hv (seen := r)
    have hb : -256000000000000 ≤ sumK k c (fs.getD i ⟨0, 0, []⟩).l ∧ sumK k c (fs.getD i ⟨0, 0, []⟩).l ≤ 256000000000000 := by
      rw [List.getD]
      cases hf : fs[i]? with
      | none => simp [sumK]
      | some f =>
        simp only [Option.getD_some]
        exact sumK_ret (hv f (List.mem_of_getElem? hf))
    simp only [sumSeen, List.map_cons, List.sum_cons, List.length_cons] at ih ⊢
    omega
theorem sumSeen_snoc {fs : List Ret} {k : Int} {c : ByteArray} {seen : List Nat} {i : Nat} {f : Ret} (h : fs[i]? = some f) : sumSeen fs k c (seen ++ [i]) = sumSeen fs k c seen + sumK k c f.l := by
  simp [sumSeen, List.getD, h]
theorem code_eq {a b : ByteArray} : (a.toList = b.toList) ↔ a = b := by
  rw [ByteArray.toList_eq, ByteArray.toList_eq]
  constructor
  · intro h
    obtain ⟨⟨x⟩⟩ := a
    obtain ⟨⟨y⟩⟩ := b
    simp at h
    simp [h]
  · intro h; rw [h]
/-- how many entries have not come yet -/
def itLeft (w : World) (r : Nat) : Nat := match w.heap[r]? with
  | some (.mapIter _ n seen _) => ((List.range n).filter fun i => !seen.toList.contains i).length
  | _ => 0
theorem itLeft_at {w : World} {r m n : Nat} {seen : List Nat} (h : w.heap[r]? = some (itObj m n seen)) : itLeft w r = ((List.range n).filter fun i => !seen.contains i).length := by
  unfold itLeft; rw [h]; rfl
theorem left_less {n i : Nat} {seen : List Nat} (hi : i < n) (hn : i ∉ seen) : ((List.range n).filter fun j => !(seen ++ [i]).contains j).length < ((List.range n).filter fun j => !seen.contains j).length := by
  have e : ((List.range n).filter fun j => !(seen ++ [i]).contains j) = ((List.range n).filter fun j => !seen.contains j).filter fun j => decide (j ≠ i) := by
    rw [List.filter_filter]
    congr 1
    funext j
    rw [Bool.eq_iff_iff]
    simp
    constructor
    · rintro ⟨h1, h2⟩; exact ⟨h2, h1⟩
    · rintro ⟨h1, h2⟩; exact ⟨h2, h1⟩
  rw [e]
  refine List.length_filter_lt_length_iff_exists.2 ⟨i, ?_, by simp⟩
  simp [hi, hn]
theorem drew_grown {w W1 : World} (h : W1 = w ∨ W1 = w.drew) (row : Option Nat) : w.grownBy W1 row := by
  rcases h with rfl | rfl
  · exact World.grownBy.refl _ _
  · exact ⟨rfl, rfl, rfl, Nat.le_refl _, fun _ _ _ => rfl⟩
theorem run_range_i {w : World} {b : Nat} {es : List (Int × Value)} (hb : w.heap[b]? = some (iObj es)) : (Instr.range 87 (.map (some b))).run Tryz.prog w = .ok (.pointer (some ⟨w.heap.size, 0, none⟩)) (w.alloc (itObj b es.length [])) := by
  have hb' : w.heap[b]? = some (.map (iEnts 0 es).toArray es.length) := hb
  unfold Instr.range
  simp only [Sem.run_bind, run_underlying Tryz.underlying87, Result.andThen_ok, MapKept.run_getObj_map hb', Sem.run_pure]
  rfl
theorem left_start (n : Nat) : ((List.range n).filter fun i => !([] : List Nat).contains i).length = n := by
  rw [List.filter_eq_self.2 (by simp)]; simp
/-- where the loop over the files stands -/
structure PdS (w : World) (M : Nat) (es : List (Ret × Value)) (seen : List Nat) (wr : World) : Prop where
  it : wr.heap[w.heap.size]? = some (itObj M es.length seen)
  nodup : seen.Nodup
  lt : ∀ i ∈ seen, i < es.length
  cnt : seen.length + ((List.range es.length).filter fun i => !seen.contains i).length ≤ es.length
  below : Below w.heap.size w wr
theorem PdS.same {w w' wr : World} {M : Nat} {es : List (Ret × Value)} {seen : List Nat} (h : PdS w M es seen wr) (hb : Below wr.heap.size wr w') : PdS w M es seen w' :=
  ⟨(hb.block _ (lt_of_some h.it)).trans h.it, h.nodup, h.lt, h.cnt, h.below.trans (hb.mono h.below.size)⟩
set_option maxRecDepth 100000 in
set_option maxHeartbeats 2000000 in
theorem TotalA_any (B M : Nat) (es : List (Ret × Value)) (k : Int) (c : ByteArray) (w : World) (hb : AuthS w B M es) (hl : es.length ≤ 1000) :
    Calls Tryz.prog 32 #[.pointer (some ⟨B, 0, none⟩), .int .i64 k, .string c] w fun e w' => e = .returned (.int .i64 (totR k c (es.map (·.1)))) ∧ Below w.heap.size w w' := by
  have HB := Lib.hid hb
  have hq := eq_nil_auth B
  have c0 := hb.box.cell 0
  simp only [List.getElem?_toArray, List.getElem?_cons_zero] at c0
  have hR := run_range_i hb.map
  rw [List.length_map] at hR
  have hml := lt_of_some hb.map
  have hval : ∀ f ∈ es.map (·.1), retB f = true := fun f hf => by
    obtain ⟨p, hp, rfl⟩ := List.mem_map.1 hf
    exact hb.val p hp
  have HVAL := Lib.hid hval
  have h00 : PdS w M es [] (w.alloc (itObj M es.length [])) := ⟨heap_alloc_new w _, List.nodup_nil, (fun i hi => absurd hi (by simp)), by rw [left_start]; simp, (Below.refl _ _).alloc (Nat.le_refl _) _⟩
  clear hb hval
  go_enter Tryz.func32, Tryz.ntmps32
  go_wp2_with fail
  clear hR hq c0
  go_loopw [7] (fun t wr => ∃ seen : List Nat, t = .int .i64 (sumSeen (es.map (·.1)) k c seen) ∧ Hid (PdS w M es seen wr)) (fun _ wr => itLeft wr w.heap.size)
  case atStart => exact ⟨[], rfl, h00⟩
  case round =>
    clear h00
    obtain ⟨seen, rfl, HS⟩ := hrel
    obtain ⟨wo, rfl⟩ : ∃ wo : World, wo = wr := ⟨_, rfl⟩
    have hbs := HS.out.below.size
    have hBo := HB.out.below HS.out.below
    have HSB := seen_bounds (k := k) (c := c) HVAL.out (seen := seen)
    have hcn := HS.out.cnt
    have hi0 := HS.out.it
    rw [show es.length = (es.map entA).length by simp] at hi0
    rcases run_next_i hi0 hBo.map 0 with ⟨i, l, W1, hl1, hni, hW1, hN⟩ | ⟨W1, hall, hW1, hN⟩
    · rw [List.getElem?_map] at hl1
      obtain ⟨⟨f, v⟩, hfv, rfl⟩ := Option.map_eq_some_iff.1 hl1
      have hil : i < es.length := (List.getElem?_eq_some_iff.1 hfv).1
      have hr1 : W1.heap[w.heap.size]? = some (itObj M (es.map entA).length seen) := by rcases hW1 with rfl | rfl <;> exact hi0
      have hg0 : wo.grownBy (setB W1 w.heap.size (itObj M (es.map entA).length (seen ++ [i]))) (some w.heap.size) := (drew_grown hW1 _).trans setB_grown
      have hA : (setB W1 w.heap.size (itObj M (es.map entA).length (seen ++ [i]))).heap[w.heap.size]? = some (itObj M (es.map entA).length (seen ++ [i])) := setB_at (lt_of_some hr1)
      generalize setB W1 w.heap.size (itObj M (es.map entA).length (seen ++ [i])) = W2 at hN hg0 hA
      have hb2 : Below w.heap.size w W2 := HS.out.below.grown hg0 hbs (fun k hk => by injection hk; omega)
      have hB2 := HB.out.below hb2
      have hE := run_entry_i hA hB2.map (by rw [List.getElem?_map, hfv]; rfl : (es.map entA)[i]? = some (entA (f, v)))
      obtain ⟨Av, cv, hv⟩ : ∃ A c, v = .slice A f.l.length c := by
        obtain ⟨A, c, h, _⟩ := hB2.ln (f, v) (List.mem_of_getElem? hfv)
        rw [lns_len] at h; exact ⟨A, c, h⟩
      subst hv
      have hent : entA (f, Value.slice Av f.l.length cv) = (f.p, .agg #[.int .i64 f.p, .int .i64 f.v, .slice Av f.l.length cv]) := rfl
      rw [hent] at hN hE
      have hN' : ∀ ty, (Instr.next (.pointer (some ⟨w.heap.size, 0, none⟩)) false ty).run Tryz.prog wo = .ok (.tuple #[.bool true, .int .i64 f.p, .agg #[.int .i64 f.p, .int .i64 f.v, .slice Av f.l.length cv]]) W2 := fun _ => hN
      have HSL := Lib.hid (hB2.ln (f, .slice Av f.l.length cv) (List.mem_of_getElem? hfv))
      have HFL := Lib.hid (HVAL.out f (List.mem_map.2 ⟨_, List.mem_of_getElem? hfv, rfl⟩))
      have hl4 := ((retB_iff f).1 HFL.out).n
      have hpv := ret_amts HFL.out
      have HPV := Lib.hid hpv
      have hlt := left_less hil hni
      rw [List.length_map] at hA
      have HPD : Hid (PdS w M es (seen ++ [i]) W2) := by
        refine ⟨hA, ?_, fun j hj => ?_, ?_, hb2⟩
        · rw [List.nodup_append]
          exact ⟨HS.out.nodup, by simp, by simpa using fun a ha (e : a = i) => hni (e ▸ ha)⟩
        · rcases List.mem_append.1 hj with hj | hj
          · exact HS.out.lt j hj
          · rw [List.mem_singleton.1 hj]; exact hil
        · rw [List.length_append]; simp only [List.length_singleton]; omega
      have HSN := Lib.hid (sumSeen_snoc (k := k) (c := c) (seen := seen) (show (es.map (·.1))[i]? = some f by rw [List.getElem?_map, hfv]; rfl))
      have HLT := Lib.hid hlt
      have hb22 := hb2.size
      clear hN hr1 hW1 hA hB2 hlt hfv hni hent hl1 hg0 hi0 hpv
      have hal := (Below.refl W2.heap.size W2).alloc (Nat.le_refl _) (.cells #[.int .i64 f.p, .int .i64 f.v, .slice Av f.l.length cv] 25)
      go_wp2_with fail
      obtain ⟨W3, hW3⟩ : ∃ W3, W2.alloc (.cells #[.int .i64 f.p, .int .i64 f.v, .slice Av f.l.length cv] 25) = W3 := ⟨_, rfl⟩
      rw [hW3] at hal ⊢
      have HPD3 := Lib.hid (HPD.out.same hal)
      have HSL3 := Lib.hid (HSL.out.below hal)
      clear hW3 hal hE hN'
      obtain ⟨sm, hsm⟩ : ∃ sm, sumSeen (es.map (·.1)) k c seen = sm := ⟨_, rfl⟩
      rw [hsm] at HSN HSB ⊢
      clear hsm
      go_loopw [7, 26] (fun t j wr => ∃ j' : Nat, j' ≤ f.l.length ∧ j = .int .i64 j' ∧ t = .int .i64 (sm + sumK k c (f.l.take j')) ∧ Hid (Below W3.heap.size W3 wr)) (fun _ j _ => f.l.length - (intOf j).toNat)
      case atStart => exact ⟨0, by omega, rfl, by simp [sumK], Below.refl _ _⟩
      case round =>
        obtain ⟨j, hj, rfl, rfl, HBW⟩ := hrel
        obtain ⟨wi, rfl⟩ : ∃ wi : World, wi = wr := ⟨_, rfl⟩
        have hbi := HBW.out.size
        have hpb := sumK_bounds (k := k) (c := c) (l := f.l.take j) fun p hp => HPV.out p (List.mem_of_mem_take hp)
        rw [List.length_take, Nat.min_eq_left hj] at hpb
        by_cases hjl : j < f.l.length
        · obtain ⟨bk, off, rfl, hcx⟩ := (HSL3.out.below HBW.out).cells (by rw [lns_len]; omega)
          obtain ⟨d0, d1, d2⟩ := hcx.ln hjl
          have HPS := Lib.hid (sumK_snoc (k := k) (c := c) hjl)
          have hpj := HPV.out _ (List.getElem_mem hjl)
          unfold amtV at hpj
          obtain ⟨x, hx⟩ : ∃ x, f.l[j] = x := ⟨_, rfl⟩
          rw [hx] at d0 d1 d2 HPS hpj
          clear hx hcx
          have HB3 : Hid (Below W3.heap.size W3 (wi.alloc (.cells #[.int .i64 x.kind, .string x.code, .int .i64 x.amt] 56))) := HBW.out.alloc hbi _
          obtain ⟨pp, hpp⟩ : ∃ pp, sumK k c (f.l.take j) = pp := ⟨_, rfl⟩
          rw [hpp] at HPS hpb ⊢
          clear hpp
          cases hxk : (x.kind == k)
          · have HPS2 : Hid (sumK k c (f.l.take (j + 1)) = pp) := by rw [Hid, HPS.out, if_neg (fun h => by simp [h.1] at hxk)]; omega
            go_wp2
            go_roundw
            case rel => exact ⟨j + 1, by omega, by go_num, by rw [HPS2.out], HB3⟩
            case measure => simp [intOf]; omega
          · by_cases hcc : x.code = c
            · have HPS2 : Hid (sumK k c (f.l.take (j + 1)) = pp + x.amt) := by rw [Hid, HPS.out, if_pos ⟨by simpa using hxk, hcc⟩]
              obtain ⟨t3, t4⟩ : (x.code.toList == c.toList) = true ∧ x.code.toList = c.toList := by rw [hcc]; simp
              clear hcc
              go_wp2
              go_roundw
              case rel => exact ⟨j + 1, by omega, by go_num, by rw [HPS2.out]; congr 1; omega, HB3⟩
              case measure => simp [intOf]; omega
            · have HPS2 : Hid (sumK k c (f.l.take (j + 1)) = pp) := by rw [Hid, HPS.out, if_neg (fun h => hcc h.2)]; omega
              obtain ⟨t3, t4⟩ : (x.code.toList == c.toList) = false ∧ ¬ x.code.toList = c.toList := by
                have : ¬ x.code.toList = c.toList := fun h => hcc (code_eq.1 h)
                exact ⟨by simpa using this, this⟩
              clear hcc
              go_wp2
              go_roundw
              case rel => exact ⟨j + 1, by omega, by go_num, by rw [HPS2.out], HB3⟩
              case measure => simp [intOf]; omega
        · obtain rfl : j = f.l.length := by omega
          rw [List.take_length]
          have HE2 := Lib.hid (HPD3.out.same HBW.out)
          go_wp2
          go_roundw
          case rel => exact ⟨seen ++ [i], by rw [HSN.out], HE2⟩
          case measure => rw [itLeft_at HS.out.it, itLeft_at HE2.out.it]; exact HLT.out
    · have hb1 : Below w.heap.size w W1 := by rcases hW1 with rfl | rfl <;> exact ⟨HS.out.below.os, HS.out.below.tape, HS.out.below.output, HS.out.below.size, HS.out.below.block⟩
      have hN' : ∀ ty, (Instr.next (.pointer (some ⟨w.heap.size, 0, none⟩)) false ty).run Tryz.prog wo = .ok (.tuple #[.bool false]) W1 := fun _ => hN
      have HALL := Lib.hid (seen_all (fs := es.map (·.1)) (k := k) (c := c) HS.out.nodup (by rw [List.length_map]; exact HS.out.lt) (by rw [List.length_map] at hall ⊢; exact hall))
      have HB1 := Lib.hid hb1
      clear hN hall hW1 hb1
      go_wp2
      go_ret
      exact ⟨ret_int HALL.out, HB1.out⟩
end Go.Proofs.YtnkephafpebfkaaGreatDoor
/- ref43.Authority: Total, Latest. -/
namespace Go.Proofs.YtnkephafpebfkaaGreatDoor
open Go.RowKit Go.Shelf

set_option maxRecDepth 100000 in
set_option maxHeartbeats 4000000 in
theorem refTotal_any (base R : Nat) (ps : List (Ret × Value)) (k : Int) (c : ByteArray) (w : World) (h : RefA w base R ps) (hl : ps.length ≤ 1000) :
    Calls Tryz.prog 49 #[.pointer (some ⟨R, 0, none⟩), .int .i64 k, .string c] w fun e w' => e = .returned (.int .i64 (totR k c (ps.map (·.1)))) ∧ Below w.heap.size w w' := by
  obtain ⟨v, hr, hf⟩ := h.at
  have HV := Lib.hid h.val
  have HRR := Lib.hid hr
  have HRF := Lib.hid hf
  obtain ⟨A, cap, rfl, hc1, hc2, -, -⟩ := hf.sl
  rw [rets_len] at hc1 HRR HRF
  unfold maxLen at hc2
  clear h hr hf
  have HML : Hid (∀ j, ((ps.map (·.1)).take j).length ≤ 1000) := fun j => by rw [List.length_take, List.length_map]; omega
  go_enter Tryz.func49, Tryz.ntmps49
  go_wp2_with fail
  go_loopw [7, 8] (fun t i wr => ∃ j : Nat, j ≤ ps.length ∧ i = .int .i64 j ∧ t = .int .i64 (totR k c ((ps.map (·.1)).take j)) ∧ Hid (Below w.heap.size w wr)) (fun _ i _ => ps.length - (intOf i).toNat)
  case atStart => exact ⟨0, by omega, rfl, by simp [totR], Below.refl _ _⟩
  case round =>
    obtain ⟨j, hj, rfl, rfl, HB⟩ := hrel
    obtain ⟨wo, rfl⟩ : ∃ wo : World, wo = wr := ⟨_, rfl⟩
    have c0 := (HRR.out.below HB.out HRR.out.lt).cell 0
    have cl := Nat.lt_of_lt_of_le HRR.out.lt HB.out.size
    simp only [List.getElem?_toArray, List.getElem?_cons_zero] at c0
    by_cases hlt : j < ps.length
    · have HRF1 := Lib.hid (HRF.out.below HB.out)
      obtain ⟨bk, off, rfl, hc⟩ := HRF1.out.sl.cells (by rw [rets_len]; omega)
      obtain ⟨k0, k1, k2⟩ := hc.ret hlt
      have i1 : (j : Int) < (ps.length : Int) := by omega
      have hsn := totR_take (k := k) (c := c) (fs := ps.map (·.1)) (j := j) (by simpa using hlt)
      rw [List.getElem_map] at hsn
      have hmem := List.getElem_mem hlt
      have hfv := HV.out _ hmem
      have hsl := HRF1.out.ln _ hmem
      have hbd := totR_bounds (k := k) (c := c) (fs := (ps.map (·.1)).take j) (fun f hf => by
        obtain ⟨p, hp, rfl⟩ := List.mem_map.1 (List.mem_of_mem_take hf)
        exact HV.out p hp)
      have hml := HML.out j
      obtain ⟨nn, hnn⟩ : ∃ nn, ((ps.map (·.1)).take j).length = nn := ⟨_, rfl⟩
      rw [hnn] at hbd hml
      obtain ⟨p, hp⟩ : ∃ p, ps[j] = p := ⟨_, rfl⟩
      rw [hp] at k0 k1 k2 hsn hfv hsl
      obtain ⟨f, u⟩ := p
      simp only at k0 k1 k2 hsn hfv hsl
      obtain ⟨Au, cu, rfl⟩ : ∃ A c, u = .slice A f.l.length c := by
        obtain ⟨A, c, h, _⟩ := hsl
        rw [lns_len] at h; exact ⟨A, c, h⟩
      have HSN := Lib.hid hsn
      have HSL := Lib.hid hsl
      have hbk := hc.1
      have hl4 := ((retB_iff f).1 hfv).n
      have HPV := Lib.hid (ret_amts hfv)
      obtain ⟨sm, hsm⟩ : ∃ sm, totR k c ((ps.map (·.1)).take j) = sm := ⟨_, rfl⟩
      rw [hsm] at HSN hbd ⊢
      clear hc hsn hmem hfv hsl hp hsm hnn
      go_wp2_with fail
      go_loopw [7, 9] (fun t i wr => ∃ q : Nat, q ≤ f.l.length ∧ i = .int .i64 q ∧ t = .int .i64 (sm + sumK k c (f.l.take q)) ∧ Hid (Below wo.heap.size wo wr)) (fun _ i _ => f.l.length - (intOf i).toNat)
      case atStart => exact ⟨0, by omega, rfl, by simp [sumK], Below.refl _ _⟩
      case round =>
        obtain ⟨q, hq, rfl, rfl, HBW⟩ := hrel
        obtain ⟨wi, rfl⟩ : ∃ wi : World, wi = wr := ⟨_, rfl⟩
        have hbi := HBW.out.size
        have d0 := (HBW.out.cell (p := ⟨R, 0, none⟩) cl).trans c0
        have d2 := (HBW.out.cell (p := ⟨bk, off + j * 3 + 2, none⟩) hbk).trans k2
        have dl := Nat.lt_of_lt_of_le cl hbi
        have hpb := sumK_bounds (k := k) (c := c) (l := f.l.take q) fun p hp => HPV.out p (List.mem_of_mem_take hp)
        rw [List.length_take, Nat.min_eq_left hq] at hpb
        by_cases hql : q < f.l.length
        · obtain ⟨b2, o2, rfl, hcx⟩ := (HSL.out.below HBW.out).cells (by rw [lns_len]; omega)
          obtain ⟨e0, e1, e2⟩ := hcx.ln hql
          have i2 : (q : Int) < (f.l.length : Int) := by omega
          have HPS := Lib.hid (sumK_snoc (k := k) (c := c) hql)
          have hpj := HPV.out _ (List.getElem_mem hql)
          unfold amtV at hpj
          obtain ⟨x, hx⟩ : ∃ x, f.l[q] = x := ⟨_, rfl⟩
          rw [hx] at e0 e1 e2 HPS hpj
          clear hx hcx c0 k0 k1 k2
          have HB3 : Hid (Below wo.heap.size wo (wi.alloc (.cells #[.int .i64 x.kind, .string x.code, .int .i64 x.amt] 56))) := HBW.out.alloc hbi _
          obtain ⟨pp, hpp⟩ : ∃ pp, sumK k c (f.l.take q) = pp := ⟨_, rfl⟩
          rw [hpp] at HPS hpb ⊢
          clear hpp
          cases hxk : (x.kind == k)
          · have HPS2 : Hid (sumK k c (f.l.take (q + 1)) = pp) := by rw [Hid, HPS.out, if_neg (fun h => by simp [h.1] at hxk)]; omega
            go_wp2
            go_roundw
            case rel => exact ⟨q + 1, by omega, by go_num, by rw [HPS2.out], HB3⟩
            case measure => simp [intOf]; omega
          · by_cases hcc : x.code = c
            · have HPS2 : Hid (sumK k c (f.l.take (q + 1)) = pp + x.amt) := by rw [Hid, HPS.out, if_pos ⟨by simpa using hxk, hcc⟩]
              obtain ⟨t3, t4⟩ : (x.code.toList == c.toList) = true ∧ x.code.toList = c.toList := by rw [hcc]; simp
              clear hcc
              go_wp2
              go_roundw
              case rel => exact ⟨q + 1, by omega, by go_num, by rw [HPS2.out]; congr 1; omega, HB3⟩
              case measure => simp [intOf]; omega
            · have HPS2 : Hid (sumK k c (f.l.take (q + 1)) = pp) := by rw [Hid, HPS.out, if_neg (fun h => hcc h.2)]; omega
              obtain ⟨t3, t4⟩ : (x.code.toList == c.toList) = false ∧ ¬ x.code.toList = c.toList := by
                have : ¬ x.code.toList = c.toList := fun h => hcc (code_eq.1 h)
                exact ⟨by simpa using this, this⟩
              clear hcc
              go_wp2
              go_roundw
              case rel => exact ⟨q + 1, by omega, by go_num, by rw [HPS2.out], HB3⟩
              case measure => simp [intOf]; omega
        · obtain rfl : q = f.l.length := by omega
          rw [List.take_length]
          have HE2 := Lib.hid (below_after HB.out HBW.out HB.out.size)
          clear c0 k0 k1 k2
          go_wp2
          go_roundw
          case rel => exact ⟨j + 1, by omega, by go_num, by rw [HSN.out], HE2⟩
          case measure => simp [intOf]; omega
    · obtain rfl : j = ps.length := by omega
      have HT : Hid ((ps.map (·.1)).take ps.length = ps.map (·.1)) := by rw [Hid, List.take_of_length_le (by simp)]
      rw [HT.out]
      go_wp2
      go_ret
      exact ⟨rfl, HB.out⟩
set_option maxRecDepth 100000 in
set_option maxHeartbeats 2000000 in
theorem refLatestA_any (base R : Nat) (ps : List (Ret × Value)) (p : Int) (w : World) (h : RefA w base R ps) :
    Calls Tryz.prog 50 #[.pointer (some ⟨R, 0, none⟩), .int .i64 p] w (RetLat (latP (ps.map (·.1)) p) (hasP (ps.map (·.1)) p) w) := by
  have hr0 := Row.new w 25 #[.int .i64 0, .int .i64 0, .slice none 0 0]
  have hB0 := (Below.refl w.heap.size w).alloc (Nat.le_refl _) (.cells #[.int .i64 0, .int .i64 0, .slice none 0 0] 25)
  obtain ⟨w0, hw0⟩ : ∃ w0, w.alloc (.cells #[.int .i64 0, .int .i64 0, .slice none 0 0] 25) = w0 := ⟨_, rfl⟩
  rw [hw0] at hr0 hB0
  obtain ⟨v, hR, hf⟩ := (h.below hB0).at
  have HLT := Lib.hid (Latest_any ps v p w0 hf (fun q hq => ((retB_iff _).1 (h.val q hq)).n))
  have c0 := hR.cell 0
  have cl := hR.lt
  simp only [List.getElem?_toArray, List.getElem?_cons_zero] at c0
  obtain ⟨lt, hlt⟩ : ∃ lt, latP (ps.map (·.1)) p = lt := ⟨_, rfl⟩
  obtain ⟨hs, hhs⟩ : ∃ hs, hasP (ps.map (·.1)) p = hs := ⟨_, rfl⟩
  rw [hlt, hhs] at HLT
  rw [hlt, hhs]
  obtain ⟨r, hr⟩ : ∃ r, w.heap.size = r := ⟨_, rfl⟩
  have hwr : w.heap.size ≤ r := by omega
  rw [hr] at hr0
  clear h hf hR hlt hhs
  go_enter Tryz.func50, Tryz.ntmps50
  go_wp2_with fail
  refine HLT.out.mono ?_
  rintro e w2 ⟨v2, rfl, hown2, hb2⟩
  obtain ⟨A2, c2, rfl⟩ := hown2.form
  rw [lns_len] at hown2 ⊢
  have HGV2 : Hid (lt.vals (.slice A2 lt.l.length c2) = #[.int .i64 lt.p, .int .i64 lt.v, .slice A2 lt.l.length c2]) := rfl
  rw [HGV2.out]
  have hB2 := below_after hB0 hb2 hB0.size
  have hr2 := hr0.below hb2 hr0.lt
  have hr0l := hr0.lt
  have hs0 := hB0.size
  obtain ⟨⟨a0, a1, a2, al⟩, ⟨f0, f1, f2⟩⟩ := row3 hr2
  have HZ := Lib.hid (row3 (Row.set3 hr2 (.int .i64 lt.p) (.int .i64 lt.v) (.slice A2 lt.l.length c2))).1
  have HQ := Lib.hid (Below.set3 hB2 hwr (.int .i64 lt.p) (.int .i64 lt.v) (.slice A2 lt.l.length c2))
  have HO := Lib.hid ((own3 hown2 hr0l (.int .i64 lt.p) (.int .i64 lt.v) (.slice A2 lt.l.length c2)).more hs0)
  clear c0 cl hw0 hr hr0 hB0 hb2 hB2 hr2 hown2 HLT
  go_wp2
  obtain ⟨z0, z1, z2, -⟩ := HZ.out
  refine bodyPost_ret (v := .tuple #[.agg #[.int .i64 lt.p, .int .i64 lt.v, .slice A2 lt.l.length c2], .bool hs]) (by simp only [results, Tryz.results50, go_sem]; simp [z0, z1, z2, go_sem]) rfl ?_
  exact ⟨_, rfl, HO.out, HQ.out⟩
end Go.Proofs.YtnkephafpebfkaaGreatDoor
/- slices.Clone at lines; filing.copyReturn; filing.Authority.Latest. -/
namespace Go.Proofs.YtnkephafpebfkaaGreatDoor
open Go.RowKit Go.Shelf

theorem lnNil_none (w : World) : (binOp .eql 23 (.slice none 0 0) (.slice none 0 0)).run Tryz.prog w = .ok (.bool true) w := by
  kernel_rfl
theorem lnNil_some (a : Addr) (n c : Nat) (w : World) : (binOp .eql 23 (.slice (some a) n c) (.slice none 0 0)).run Tryz.prog w = .ok (.bool false) w := by
  kernel_rfl
set_option maxRecDepth 10000 in
theorem cloneLn_any (l : List Ln) (v : Value) (w : World) (hsl : Sl w 3 v (lns l)) (hl : l.length ≤ 4096) :
    Calls Tryz.prog 73 #[v] w (RetOwn w 56 3 (lns l)) := by
  have H := Lib.hid hsl
  obtain ⟨A, cap, rfl, h1, h2, h0, h3⟩ := hsl
  rw [lns_len] at h1
  cases A with
  | none =>
    have hl0 : l = [] := List.eq_nil_of_length_eq_zero (by have := h0 rfl; omega)
    subst hl0
    obtain rfl := h0 rfl
    clear h3 h0 h1 h2 hl
    show Calls _ _ #[.slice none 0 0] _ _
    have E := lnNil_none w
    go_enter Tryz.func73, Tryz.ntmps73
    go_wp2
    go_ret
    exact ⟨_, rfl, Own.nil _ _ _ _, Below.refl _ _⟩
  | some a =>
    clear h0 h3
    obtain ⟨b, o, k⟩ := a
    rw [lns_len] at H ⊢
    have E := lnNil_some ⟨b, o, k⟩ l.length cap w
    have hb1 : Below w.heap.size w (w.alloc (.cells #[] 56)) := (Below.refl _ _).alloc (Nat.le_refl _) _
    go_enter Tryz.func73, Tryz.ntmps73
    go_wp2_with (at_builtin; (refine wpList_append_sl rfl (.tmp 5) (.tmp 6) rfl rowLn w.heap.size _ _ [] (lns l) rfl (own_lit0 w _ 3 _ (Nat.le_refl _)) rfl (H.out.below hb1) (lns_wide l) (by rw [lns_len]; unfold maxLen; simp; omega) (by rw [lns_len]; simp; omega) hb1.size ?_); intro v4 w4 hown4 hg4 _; have hb4 := Own.grown (own_lit0 w _ 3 _ (Nat.le_refl _)) hb1 hg4 hb1.size)
    go_ret
    exact ⟨_, rfl, hown4, hb4⟩
/-- the call returns a return like this one, with lines of its own -/
def RetCopy (f : Ret) (w : World) (e : Ending) (w' : World) : Prop := ∃ v, e = .returned (.agg (f.vals v)) ∧ Own w' w.heap.size 56 3 v (lns f.l) ∧ Below w.heap.size w w'
set_option maxRecDepth 100000 in
set_option maxHeartbeats 1000000 in
theorem copyReturn_any (f : Ret) (v : Value) (w : World) (hsl : Sl w 3 v (lns f.l)) (hl : f.l.length ≤ 4096) :
    Calls Tryz.prog 53 #[.agg (f.vals v)] w (RetCopy f w) := by
  have H := Lib.hid hsl
  obtain ⟨A, cap, rfl, -⟩ := hsl
  rw [lns_len] at H ⊢
  have HVL : Hid (f.vals (.slice A f.l.length cap) = #[.int .i64 f.p, .int .i64 f.v, .slice A f.l.length cap]) := rfl
  rw [HVL.out]
  obtain ⟨hx1, hx2, hx3⟩ := row_new2 w 25 25 #[.int .i64 f.p, .int .i64 f.v, .slice A f.l.length cap] #[.int .i64 0, .int .i64 0, .slice none 0 0]
  go_enter Tryz.func53, Tryz.ntmps53
  go_wp2_with fail
  obtain ⟨w1, hw1⟩ : ∃ w1, (w.alloc (.cells #[.int .i64 f.p, .int .i64 f.v, .slice A f.l.length cap] 25)).alloc (.cells #[.int .i64 0, .int .i64 0, .slice none 0 0] 25) = w1 := ⟨_, rfl⟩
  rw [hw1] at hx1 hx2 hx3 ⊢
  obtain ⟨b, hb⟩ : ∃ b, w.heap.size = b := ⟨_, rfl⟩
  obtain ⟨q, hq⟩ : ∃ q, w.heap.size + 1 = q := ⟨_, rfl⟩
  have hbq : b ≠ q := by omega
  have hbw : w.heap.size ≤ b := by omega
  have hqw : w.heap.size ≤ q := by omega
  rw [hq] at hx2 ⊢
  rw [hb] at hx1 ⊢
  clear hw1 hb hq
  refine (cloneLn_any f.l _ w1 (H.out.below hx3) hl).mono ?_
  rintro e w2 ⟨u, rfl, hown, hb2⟩
  have hB2 := below_after hx3 hb2 hx3.size
  have hy1 := hx1.below hb2 hx1.lt
  have hy2 := hx2.below hb2 hx2.lt
  have hb1l := hx1.lt
  have hq1l := hx2.lt
  obtain ⟨Au, cu, rfl⟩ := hown.form
  rw [lns_len] at hown ⊢
  have r1 := hy1.set 2 (.slice Au f.l.length cu)
  have r2 := hy2.far (p := ⟨b, 2, none⟩) (show q ≠ b from hbq.symm) (.slice Au f.l.length cu)
  have r3 := Lib.hid (row3 (r2.set3 (.int .i64 f.p) (.int .i64 f.v) (.slice Au f.l.length cu))).1
  have HBF := Lib.hid (Below.set3 (hB2.setCell (p := ⟨b, 2, none⟩) hbw (.slice Au f.l.length cu)) hqw (.int .i64 f.p) (.int .i64 f.v) (.slice Au f.l.length cu))
  have hz := hx3.size
  have HOF := Lib.hid ((own3 (own_set hown hb1l 2 (.slice Au f.l.length cu)) hq1l (.int .i64 f.p) (.int .i64 f.v) (.slice Au f.l.length cu)).more hz)
  obtain ⟨⟨a0, a1, a2, al⟩, ⟨f0, f1, f2⟩⟩ := row3 hy1
  obtain ⟨⟨c0, c1, c2, cl⟩, ⟨g0, g1, g2⟩⟩ := row3 hy2
  clear hx1 hx2 hx3 hb2 hB2 hy1 hy2 r1 r2 hown hz
  go_wp2
  obtain ⟨z0, z1, z2, -⟩ := r3.out
  refine bodyPost_ret (v := .agg #[.int .i64 f.p, .int .i64 f.v, .slice Au f.l.length cu]) (by simp only [results, Tryz.results53, go_sem]; simp [z0, z1, z2, go_sem]) rfl ?_
  exact ⟨_, rfl, HOF.out, HBF.out⟩
/-- what the map knows of a period -/
theorem get_lat {w : World} {B M : Nat} {es : List (Ret × Value)} (h : AuthS w B M es) (p : Int) : ∃ v, ((getI (es.map entA) p).getD (.agg #[.int .i64 0, .int .i64 0, .slice none 0 0])) = .agg ((latP (es.map (·.1)) p).vals v) ∧ (getI (es.map entA) p).isSome = hasP (es.map (·.1)) p ∧ Sl w 3 v (lns (latP (es.map (·.1)) p).l) ∧ (latP (es.map (·.1)) p).l.length ≤ 256 := by
  obtain ⟨h1, h2⟩ := get_ret h.dist p
  cases hh : hasP (es.map (·.1)) p
  · rw [h2 hh, latP_no hh]
    exact ⟨.slice none 0 0, rfl, rfl, Sl.nil _ _, by simp⟩
  · obtain ⟨v, hv, he⟩ := h1 hh
    rw [he]
    exact ⟨v, rfl, rfl, h.ln _ hv, ((retB_iff _).1 (h.val _ hv)).n⟩
set_option maxRecDepth 100000 in
set_option maxHeartbeats 2000000 in
theorem LatestA_any (B M : Nat) (es : List (Ret × Value)) (p : Int) (w : World) (hb : AuthS w B M es) :
    Calls Tryz.prog 30 #[.pointer (some ⟨B, 0, none⟩), .int .i64 p] w (RetLat (latP (es.map (·.1)) p) (hasP (es.map (·.1)) p) w) := by
  have hq := eq_nil_auth B
  have hr0 := Row.new w 25 #[.int .i64 0, .int .i64 0, .slice none 0 0]
  have hB0 := (Below.refl w.heap.size w).alloc (Nat.le_refl _) (.cells #[.int .i64 0, .int .i64 0, .slice none 0 0] 25)
  obtain ⟨w0, hw0⟩ : ∃ w0, w.alloc (.cells #[.int .i64 0, .int .i64 0, .slice none 0 0] 25) = w0 := ⟨_, rfl⟩
  rw [hw0] at hr0 hB0
  have hb0 := hb.below hB0
  obtain ⟨v, e1, e2, hsl, hln⟩ := get_lat hb0 p
  obtain ⟨lt, hlt⟩ : ∃ lt, latP (es.map (·.1)) p = lt := ⟨_, rfl⟩
  obtain ⟨hs, hhs⟩ : ∃ hs, hasP (es.map (·.1)) p = hs := ⟨_, rfl⟩
  rw [hlt] at e1 hsl hln ⊢
  rw [hhs] at e2 ⊢
  have E1 := (run_lookup_i auth_ty (zero_ret w0) hb0.map p).1
  rw [e1, e2] at E1
  obtain ⟨Av, cv, rfl⟩ : ∃ Av cv, v = .slice Av lt.l.length cv := by
    obtain ⟨Av, cv, h, _⟩ := hsl
    rw [lns_len] at h
    exact ⟨Av, cv, h⟩
  have HGV : Hid (lt.vals (.slice Av lt.l.length cv) = #[.int .i64 lt.p, .int .i64 lt.v, .slice Av lt.l.length cv]) := rfl
  rw [HGV.out] at E1
  have HSL := Lib.hid hsl
  have c0 := hb0.box.cell 0
  have cl := hb0.box.lt
  simp only [List.getElem?_toArray, List.getElem?_cons_zero] at c0
  clear hsl e1 e2 hlt hhs hb0 hb
  go_enter Tryz.func30, Tryz.ntmps30
  have hal := (Below.refl w0.heap.size w0).alloc (Nat.le_refl _) (.cells #[.int .i64 lt.p, .int .i64 lt.v, .slice Av lt.l.length cv] 25)
  have hx1 := Row.new w0 25 #[.int .i64 lt.p, .int .i64 lt.v, .slice Av lt.l.length cv]
  have hr1 := hr0.below hal hr0.lt
  have hB1 := below_after hB0 hal hB0.size
  obtain ⟨w1, hw1⟩ : ∃ w1, w0.alloc (.cells #[.int .i64 lt.p, .int .i64 lt.v, .slice Av lt.l.length cv] 25) = w1 := ⟨_, rfl⟩
  rw [hw1] at hx1 hr1 hB1 hal
  have HCP : Hid (Calls Tryz.prog 53 #[.agg #[.int .i64 lt.p, .int .i64 lt.v, .slice Av lt.l.length cv]] w1 (RetCopy lt w1)) := copyReturn_any lt _ w1 (HSL.out.below hal) (by omega)
  obtain ⟨r, hr⟩ : ∃ r, w.heap.size = r := ⟨_, rfl⟩
  have hwr : w.heap.size ≤ r := by omega
  rw [hr] at hr1
  obtain ⟨⟨y0, y1, y2, yl⟩, -⟩ := row3 hx1
  clear hr0 hB0 hal
  go_wp2_with fail
  refine HCP.out.mono ?_
  rintro e w2 ⟨v2, rfl, hown2, hb2⟩
  obtain ⟨A2, c2, rfl⟩ := hown2.form
  rw [lns_len] at hown2 ⊢
  have HGV2 : Hid (lt.vals (.slice A2 lt.l.length c2) = #[.int .i64 lt.p, .int .i64 lt.v, .slice A2 lt.l.length c2]) := rfl
  rw [HGV2.out]
  have hB2 := below_after hB1 hb2 hB1.size
  have hr2 := hr1.below hb2 hr1.lt
  have hr1l := hr1.lt
  have hs1 := hB1.size
  obtain ⟨⟨a0, a1, a2, al⟩, ⟨f0, f1, f2⟩⟩ := row3 hr2
  have HZ := Lib.hid (row3 (Row.set3 hr2 (.int .i64 lt.p) (.int .i64 lt.v) (.slice A2 lt.l.length c2))).1
  have HQ := Lib.hid (Below.set3 hB2 hwr (.int .i64 lt.p) (.int .i64 lt.v) (.slice A2 lt.l.length c2))
  have HO := Lib.hid ((own3 hown2 hr1l (.int .i64 lt.p) (.int .i64 lt.v) (.slice A2 lt.l.length c2)).more hs1)
  clear E1 c0 cl hq hw0 hw1 hr hx1 hr1 hB1 hb2 hB2 hr2 hown2 y0 y1 y2 yl HCP
  go_wp2
  obtain ⟨z0, z1, z2, -⟩ := HZ.out
  refine bodyPost_ret (v := .tuple #[.agg #[.int .i64 lt.p, .int .i64 lt.v, .slice A2 lt.l.length c2], .bool hs]) (by simp only [results, Tryz.results30, go_sem]; simp [z0, z1, z2, go_sem]) rfl ?_
  exact ⟨_, rfl, HO.out, HQ.out⟩
end Go.Proofs.YtnkephafpebfkaaGreatDoor
/- payrolllaw43.agree: an authority in the state of the reference. -/
namespace Go.Proofs.YtnkephafpebfkaaGreatDoor
open Go.RowKit Go.Shelf

/-- an authority and the reference's authority know the same returns -/
structure AgrA (w : World) (base B M R : Nat) (es ps : List (Ret × Value)) : Prop where
  auth : AuthS w B M es
  own : AuO w base es
  ref : RefA w base R ps
  perm : (es.map (·.1)).Perm (ps.map (·.1))
theorem AgrA.below {w w' : World} {base B M R : Nat} {es ps : List (Ret × Value)} (h : AgrA w base B M R es ps) (hb : Below w.heap.size w w') : AgrA w' base B M R es ps := ⟨h.auth.below hb, h.own.below hb, h.ref.below hb, h.perm⟩
theorem AgrA.len {w : World} {base B M R : Nat} {es ps : List (Ret × Value)} (h : AgrA w base B M R es ps) : ps.length = es.length := by
  have := h.perm.length_eq
  simpa using this.symm
theorem lat_ref {w : World} {base B M R : Nat} {es ps : List (Ret × Value)} (h : AgrA w base B M R es ps) {j : Nat} (hj : j < ps.length) : latP (es.map (·.1)) (ps[j]).1.p = (ps[j]).1 ∧ hasP (es.map (·.1)) (ps[j]).1.p = true := by
  have hm : (ps[j]).1 ∈ ps.map (·.1) := List.mem_map.2 ⟨_, List.getElem_mem hj, rfl⟩
  have h1 := h.ref.asc.dist.lat hm
  have h2 := latP_perm h.perm h.auth.dist (ps[j]).1.p
  rw [h2.1, h2.2.2]
  exact ⟨h1.1, h1.2.2⟩
theorem Sl.at {w : World} {sz b off n cap : Nat} {es : List (List Value)} (h : Sl w sz (.slice (some ⟨b, off, none⟩) n cap) es) (h0 : 0 < es.length) : CellsAt w sz b off es := by
  obtain ⟨b', o', hA, hc⟩ := h.cells h0
  injection hA with hA
  injection hA with h1 h2
  subst h1 h2
  exact hc
set_option maxRecDepth 100000 in
set_option maxHeartbeats 8000000 in
theorem agreeA_any (base B M R : Nat) (es ps : List (Ret × Value)) (w : World) (h : AgrA w base B M R es ps) (hl : es.length ≤ 1000) :
    Calls Tryz.prog 26 #[.pointer (some ⟨B, 0, none⟩), .pointer (some ⟨R, 0, none⟩)] w (SameP w true) := by
  have HA := Lib.hid h
  have hpl : ps.length ≤ 1000 := by rw [h.len]; exact hl
  have HNS := Lib.hid (periods_asc h.perm h.ref.asc)
  have HPE := Lib.hid (Periods_any B M es w h.auth hl)
  rw [HNS.out] at HPE
  obtain ⟨ns, hns⟩ : ∃ ns, (ps.map (·.1)).map (·.p) = ns := ⟨_, rfl⟩
  have hnl : ns.length = ps.length := by rw [← hns]; simp
  have HNL := Lib.hid hnl
  have HNJ : Hid (∀ j (hj : j < ps.length) (hn : j < ns.length), ns[j] = (ps[j]).1.p) := fun j hj hn => by
    simp only [← hns, List.getElem_map]
  rw [hns] at HPE
  have hq := eq_nil_auth B
  have HT1 := Lib.hid (totR_perm h.perm 6 ⟨#[]⟩)
  have HT2 := Lib.hid (totR_perm h.perm 4 ⟨#[97]⟩)
  have HV := Lib.hid h.ref.val
  obtain ⟨vR, hRr, hRf⟩ := h.ref.at
  obtain ⟨AR, capR, rfl, hc1, hc2, -, -⟩ := hRf.sl
  rw [rets_len] at hc1 hRr hRf
  unfold maxLen at hc2
  have HRR := Lib.hid hRr
  have HRF := Lib.hid hRf
  clear h hns hRr hRf HNS hnl
  go_enter Tryz.func26, Tryz.ntmps26
  go_wp2_with fail
  refine HPE.out.mono ?_
  rintro e w1 ⟨xp, rfl, hownp, hb1⟩
  have HSP := Lib.hid (hownp.sl (by omega))
  obtain ⟨Ap, cp, rfl⟩ := hownp.form
  rw [ints_len] at HSP ⊢
  have HB1 := Lib.hid hb1
  have hnl := HNL.out
  have hne : ((ns.length : Int) != (ps.length : Int)) = false := by simp; omega
  have c0 := (HRR.out.below hb1 HRR.out.lt).cell 0
  have cl := Nat.lt_of_lt_of_le HRR.out.lt hb1.size
  simp only [List.getElem?_toArray, List.getElem?_cons_zero] at c0
  have HA1 := Lib.hid (HA.out.below hb1)
  have HC1 := Lib.hid (TotalA_any B M es 6 ⟨#[]⟩ w1 HA1.out.auth hl)
  rw [HT1.out] at HC1
  obtain ⟨T1, hT1⟩ : ∃ T, totR 6 ⟨#[]⟩ (ps.map (·.1)) = T := ⟨_, rfl⟩
  have HTE1 := Lib.hid hT1
  rw [hT1] at HC1
  clear hb1 hownp HPE hq hT1
  go_wp2_with fail
  refine HC1.out.mono ?_
  rintro e w2 ⟨rfl, hb2⟩
  have HA2 := Lib.hid (HA1.out.below hb2)
  have HB2 := Lib.hid (below_after HB1.out hb2 HB1.out.size)
  have HC2 := Lib.hid (refTotal_any base R ps 6 ⟨#[]⟩ w2 HA2.out.ref hpl)
  rw [HTE1.out] at HC2
  have HP2 := Lib.hid hb2
  clear hb2 HC1 c0 cl hne
  go_wp2_with fail
  refine HC2.out.mono ?_
  rintro e w3 ⟨rfl, hb3⟩
  have HA3 := Lib.hid (HA2.out.below hb3)
  have HB3 := Lib.hid (below_after HB2.out hb3 HB2.out.size)
  have HP3 := Lib.hid (below_after HP2.out hb3 HP2.out.size)
  have HC3 := Lib.hid (TotalA_any B M es 4 ⟨#[97]⟩ w3 HA3.out.auth hl)
  rw [HT2.out] at HC3
  obtain ⟨T2, hT2⟩ : ∃ T, totR 4 ⟨#[97]⟩ (ps.map (·.1)) = T := ⟨_, rfl⟩
  have HTE2 := Lib.hid hT2
  rw [hT2] at HC3
  clear hb3 HC2 hT2
  go_wp2_with fail
  refine HC3.out.mono ?_
  rintro e w4 ⟨rfl, hb4⟩
  have HA4 := Lib.hid (HA3.out.below hb4)
  have HB4 := Lib.hid (below_after HB3.out hb4 HB3.out.size)
  have HP4 := Lib.hid (below_after HP3.out hb4 HP3.out.size)
  have HC4 := Lib.hid (refTotal_any base R ps 4 ⟨#[97]⟩ w4 HA4.out.ref hpl)
  rw [HTE2.out] at HC4
  clear hb4 HC3
  go_wp2_with fail
  refine HC4.out.mono ?_
  rintro e w5 ⟨rfl, hb5⟩
  have HB5 := Lib.hid (below_after HB4.out hb5 HB4.out.size)
  have HP5 := Lib.hid (below_after HP4.out hb5 HP4.out.size)
  clear hb5 HC4 HA1 HA2 HA3 HA4 HB1 HB2 HB3 HB4 HP2 HP3 HP4 HTE1 HTE2 HT1 HT2
  go_wp2_with fail
  go_loopw [6] (fun i wr => ∃ k : Nat, k ≤ ns.length ∧ i = .int .i64 k ∧ Hid (Below w.heap.size w wr) ∧ Hid (Below w1.heap.size w1 wr)) (fun i _ => ns.length - (intOf i).toNat)
  case atStart => exact ⟨0, by omega, rfl, HB5, HP5⟩
  case round =>
    clear HB5 HP5
    obtain ⟨j, hj, rfl, HB, HP⟩ := hrel
    obtain ⟨wo, rfl⟩ : ∃ wo : World, wo = wr := ⟨_, rfl⟩
    have hAo := HA.out.below HB.out
    by_cases hlt : j < ns.length
    · have hltp : j < ps.length := by omega
      obtain ⟨bp, op, hAp, -⟩ := (HSP.out.below HP.out).cells (by rw [ints_len]; omega)
      subst hAp
      have hcp := (HSP.out.below HP.out).at (by rw [ints_len]; omega)
      have HNF : Hid ((ints ns)[j]? = some [.int .i64 ns[j]]) := by simp [Hid, ints, hlt]
      have g0 := hcp.2 j [.int .i64 ns[j]] (by simp [ints, hlt]) 0 _ rfl
      rw [Nat.mul_one, Nat.add_zero] at g0
      have gl := hcp.1
      have i1 : (j : Int) < (ns.length : Int) := by omega
      have i2 : (j : Int) < (ps.length : Int) := by omega
      have HLA := Lib.hid (LatestA_any B M es ns[j] wo hAo.auth)
      have hla := lat_ref hAo hltp
      rw [← HNJ.out j hltp hlt] at hla
      rw [hla.1, hla.2] at HLA
      have HLT := Lib.hid hltp
      have hnj := HNJ.out j hltp hlt
      have hvf := HV.out _ (List.getElem_mem hltp)
      obtain ⟨q, hq⟩ : ∃ q, ps[j]'hltp = q := ⟨_, rfl⟩
      have HQ := Lib.hid hq
      rw [hq] at HLA hnj hvf
      obtain ⟨F, u⟩ := q
      simp only at HLA hnj hvf
      obtain ⟨n, hn⟩ : ∃ n, ns[j] = n := ⟨_, rfl⟩
      rw [hn] at g0 HLA hnj HNF
      subst hnj
      have hfl := ((retB_iff F).1 hvf).n
      clear hla hvf hn hcp hAo hq
      go_wp2_with fail
      refine HLA.out.mono ?_
      rintro e wa ⟨va, rfl, howna, hba⟩
      have hsla := howna.sl (by omega)
      obtain ⟨Aa, ca, rfl⟩ := howna.form
      rw [lns_len] at hsla ⊢
      have hgv : F.vals (.slice Aa F.l.length ca) = #[.int .i64 F.p, .int .i64 F.v, .slice Aa F.l.length ca] := rfl
      rw [hgv]
      have hal := (Below.refl wa.heap.size wa).alloc (Nat.le_refl _) (.cells #[.int .i64 F.p, .int .i64 F.v, .slice Aa F.l.length ca] 25)
      have hX := Row.new wa 25 #[.int .i64 F.p, .int .i64 F.v, .slice Aa F.l.length ca]
      have hB6 := below_after (below_after HB.out hba HB.out.size) hal (below_after HB.out hba HB.out.size).size
      have hP6 := below_after (below_after HP.out hba HP.out.size) hal (below_after HP.out hba HP.out.size).size
      have hs6 := hsla.below hal
      obtain ⟨w6, hw6⟩ : ∃ w6, wa.alloc (.cells #[.int .i64 F.p, .int .i64 F.v, .slice Aa F.l.length ca] 25) = w6 := ⟨_, rfl⟩
      rw [hw6] at hX hB6 hP6 hs6
      obtain ⟨x, hx⟩ : ∃ x, wa.heap.size = x := ⟨_, rfl⟩
      have hR6 := HRR.out.below hB6 HRR.out.lt
      have hF6 := HRF.out.below hB6
      have c0 := hR6.cell 0
      have cl := hR6.lt
      simp only [List.getElem?_toArray, List.getElem?_cons_zero] at c0
      obtain ⟨bk, off, hAR, hcr⟩ := hF6.sl.cells (by rw [rets_len]; omega)
      subst hAR
      obtain ⟨k0, k1, k2⟩ := hcr.ret HLT.out
      have hsq := hF6.ln _ (List.getElem_mem HLT.out)
      rw [HQ.out] at k0 k1 k2 hsq
      simp only at k0 k1 k2 hsq
      obtain ⟨Au, cu, hu⟩ : ∃ A c, u = .slice A F.l.length c := by
        obtain ⟨A, c, h, _⟩ := hsq
        rw [lns_len] at h; exact ⟨A, c, h⟩
      subst hu
      have hkl := hcr.1
      have HSM : Hid (∀ y : Ext w6, Calls Tryz.prog 20 #[.agg #[.int .i64 F.p, .int .i64 F.v, .slice Aa F.l.length ca], .agg #[.int .i64 F.p, .int .i64 F.v, .slice Au F.l.length cu]] y.val fun e w' => e = .returned (.bool true) ∧ Below y.val.heap.size y.val w') := fun y => by
        have := SameR_any F F (.slice Aa F.l.length ca) (.slice Au F.l.length cu) y.val (hs6.below y.property) (hsq.below y.property) (by omega) (by omega)
        rw [decide_eq_true rfl] at this
        exact this
      have g6 := ((HSP.out.below hP6).at (by rw [ints_len]; omega)).2 j [.int .i64 F.p] (HNF.out) 0 _ rfl
      rw [Nat.mul_one, Nat.add_zero] at g6
      have gl6 := ((HSP.out.below hP6).at (by rw [ints_len]; omega)).1
      have y0 := ext_cell cl c0
      have z0 := ext_cell gl6 g6
      have u0 := ext_cell hkl k0
      have u1 := ext_cell hkl k1
      have u2 := ext_cell hkl k2
      obtain ⟨⟨x0, x1, x2, xl⟩, -⟩ := row3 hX
      rw [hx] at x0 x1 x2 xl
      have t0 := ext_cell xl x0
      have t1 := ext_cell xl x1
      have t2 := ext_cell xl x2
      have HBF : Hid (∀ y : Ext w6, Below w.heap.size w y.val ∧ Below w1.heap.size w1 y.val) := fun y => ⟨below_after hB6 y.property hB6.size, below_after hP6 y.property hP6.size⟩
      clear hgv hal hba howna hsla hX hB6 hP6 hs6 hR6 hF6 hcr hsq k0 k1 k2 c0 cl g6 x0 x1 x2 g0 gl HB HP
      go_wp2_with fail
      try rw [hw6]
      try rw [hx]
      clear hw6 hx
      refine region_ext (by kernel_rfl) (by kernel_rfl) ?_
      repeat (go_big_quiet_step ((go_at_call 20; exact ext_call (HSM.out _))))
      refine wpQuiet_nil ?_
      rintro _ ⟨y, rfl⟩
      have HB7 := Lib.hid (HBF.out y).1
      have HP7 := Lib.hid (HBF.out y).2
      generalize y.val = w7 at HB7 HP7 ⊢
      clear y0 z0 u0 u1 u2 t0 t1 t2 y HSM HBF
      go_wp2
      go_roundw
      case rel => exact ⟨j + 1, by omega, by go_num, HB7, HP7⟩
      case measure => simp [intOf]; omega
    · obtain rfl : j = ns.length := by omega
      have hL7 := latP_perm hAo.perm hAo.auth.dist 7
      have HL1 := Lib.hid (LatestA_any B M es 7 wo hAo.auth)
      obtain ⟨F, hF⟩ : ∃ F, latP (ps.map (·.1)) 7 = F := ⟨_, rfl⟩
      obtain ⟨hs, hhs⟩ : ∃ hs, hasP (ps.map (·.1)) 7 = hs := ⟨_, rfl⟩
      rw [hL7.1, hL7.2.2, hF, hhs] at HL1
      have hfl : F.l.length ≤ 256 := by
        rw [← hF]
        cases hh : hasP (ps.map (·.1)) 7
        · rw [latP_no hh]; simp
        · obtain ⟨q, hq, hq1⟩ := List.mem_map.1 (latP_mem hh).1
          rw [← hq1]; exact ((retB_iff _).1 (HV.out q hq)).n
      have HFE := Lib.hid (And.intro hF hhs)
      clear hL7 hF hhs HP
      go_wp2_with fail
      refine HL1.out.mono ?_
      rintro e wa ⟨va, rfl, howna, hba⟩
      have hsla := howna.sl (by omega)
      obtain ⟨Aa, ca, rfl⟩ := howna.form
      rw [lns_len] at hsla ⊢
      have hgv : F.vals (.slice Aa F.l.length ca) = #[.int .i64 F.p, .int .i64 F.v, .slice Aa F.l.length ca] := rfl
      rw [hgv]
      have hal := (Below.refl wa.heap.size wa).alloc (Nat.le_refl _) (.cells #[.int .i64 F.p, .int .i64 F.v, .slice Aa F.l.length ca] 25)
      have hX := Row.new wa 25 #[.int .i64 F.p, .int .i64 F.v, .slice Aa F.l.length ca]
      have hB6 := below_after (below_after HB.out hba HB.out.size) hal (below_after HB.out hba HB.out.size).size
      have hs6 := hsla.below hal
      have hA6 := (hAo.below hba).below hal
      go_wp2_with fail
      obtain ⟨w6, hw6⟩ : ∃ w6, wa.alloc (.cells #[.int .i64 F.p, .int .i64 F.v, .slice Aa F.l.length ca] 25) = w6 := ⟨_, rfl⟩
      rw [hw6] at hX hB6 hs6 hA6 ⊢
      obtain ⟨x, hx⟩ : ∃ x, wa.heap.size = x := ⟨_, rfl⟩
      rw [hx] at hX ⊢
      have HL2 := Lib.hid (refLatestA_any base R ps 7 w6 hA6.ref)
      rw [HFE.out.1, HFE.out.2] at HL2
      clear hgv hal hba howna hsla hA6 hw6 hx HL1 hAo HB
      refine HL2.out.mono ?_
      rintro e wb ⟨vb, rfl, hownb, hbb⟩
      have hslb := hownb.sl (by omega)
      obtain ⟨Ab, cb, rfl⟩ := hownb.form
      rw [lns_len] at hslb ⊢
      have hgv : F.vals (.slice Ab F.l.length cb) = #[.int .i64 F.p, .int .i64 F.v, .slice Ab F.l.length cb] := rfl
      rw [hgv]
      have hal := (Below.refl wb.heap.size wb).alloc (Nat.le_refl _) (.cells #[.int .i64 F.p, .int .i64 F.v, .slice Ab F.l.length cb] 25)
      have hY := Row.new wb 25 #[.int .i64 F.p, .int .i64 F.v, .slice Ab F.l.length cb]
      have hX7 := (hX.below hbb hX.lt).below hal (hX.below hbb hX.lt).lt
      have hB7 := below_after (below_after hB6 hbb hB6.size) hal (below_after hB6 hbb hB6.size).size
      have hs7 := (hs6.below hbb).below hal
      have hs8 := hslb.below hal
      obtain ⟨w7, hw7⟩ : ∃ w7, wb.alloc (.cells #[.int .i64 F.p, .int .i64 F.v, .slice Ab F.l.length cb] 25) = w7 := ⟨_, rfl⟩
      rw [hw7] at hY hX7 hB7 hs7 hs8
      have HSM : Hid (Calls Tryz.prog 20 #[.agg #[.int .i64 F.p, .int .i64 F.v, .slice Aa F.l.length ca], .agg #[.int .i64 F.p, .int .i64 F.v, .slice Ab F.l.length cb]] w7 (SameP w7 true)) := by
        have := SameR_any F F (.slice Aa F.l.length ca) (.slice Ab F.l.length cb) w7 hs7 hs8 (by omega) (by omega)
        rw [decide_eq_true rfl] at this
        exact this
      have HB7 := Lib.hid hB7
      obtain ⟨⟨x0, x1, x2, xl⟩, -⟩ := row3 hX7
      obtain ⟨⟨y0, y1, y2, yl⟩, -⟩ := row3 hY
      clear hgv hal hX hB6 hs6 hbb hownb hslb hY hX7 hB7 hs7 hs8 HL2 HFE
      cases hs
      all_goals
        go_wp2_with fail
        refine HSM.out.mono ?_
        rintro e w8 ⟨rfl, hb8⟩
        have HB8 := Lib.hid (below_after HB7.out hb8 HB7.out.size)
        clear hw7 x0 x1 x2 xl y0 y1 y2 yl hb8 HSM
        go_wp2
        go_ret
        exact ⟨rfl, HB8.out⟩
end Go.Proofs.YtnkephafpebfkaaGreatDoor
/- filing.Authority.Copy. -/
namespace Go.Proofs.YtnkephafpebfkaaGreatDoor
open Go.RowKit Go.Shelf

theorem noLn_iter {w : World} {X m n : Nat} {seen : List Nat} (h : w.heap[X]? = some (itObj m n seen)) : NoLn w X := fun off x y hh => by simp [World.cell?, h, itObj] at hh
theorem AuthS.grown {w w' : World} {B M X : Nat} {es : List (Ret × Value)} (h : AuthS w B M es) (hg : w.grownBy w' (some X)) (hB : B ≠ X) (hM : M ≠ X) (hx : NoLn w X) : AuthS w' B M es :=
  ⟨h.box.keep hg (fun e => hB (Option.some.inj e)), (hg.block M (lt_of_some h.map) (fun e => hM (Option.some.inj e))).trans h.map, fun p hp => (h.ln p hp).ln_far hg hx, h.val, h.dist⟩
/-- a return more in an authority's map -/
theorem AuthS.put {w : World} {B M : Nat} {es : List (Ret × Value)} (h : AuthS w B M es) {f : Ret} {u : Value} (hs : Sl w 3 u (lns f.l)) (hf : retB f = true) (hne : B ≠ M) (hfr : ∀ g ∈ es.map (·.1), g.p ≠ f.p) : AuthS (setB w M (iObj ((es ++ [(f, u)]).map entA))) B M (es ++ [(f, u)]) := by
  have hg : w.grownBy (setB w M (iObj ((es ++ [(f, u)]).map entA))) (some M) := setB_grown
  refine ⟨h.box.keep hg (fun e => hne (Option.some.inj e)), setB_at (lt_of_some h.map), fun p hp => ?_, fun p hp => ?_, ?_⟩
  · rcases List.mem_append.1 hp with hp | hp
    · exact (h.ln p hp).ln_far hg (noLn_map h.map)
    · rw [List.mem_singleton.1 hp]; exact hs.ln_far hg (noLn_map h.map)
  · rcases List.mem_append.1 hp with hp | hp
    · exact h.val p hp
    · rw [List.mem_singleton.1 hp]; exact hf
  · rw [List.map_append]
    unfold DistR
    rw [List.pairwise_append]
    refine ⟨h.dist, by simp, fun a ha b hb => ?_⟩
    simp only [List.map_cons, List.map_nil, List.mem_singleton] at hb
    subst hb
    exact hfr a ha
theorem own_not_it {w : World} {base e sz M m n : Nat} {seen : List Nat} {v : Value} {es : List (List Value)} (h : Own w base e sz v es) (hm : w.heap[M]? = some (itObj m n seen)) : v.ownBlock = none ∨ v.ownBlock ≠ some M := by
  cases hv : v.ownBlock with
  | none => exact .inl rfl
  | some g =>
    refine .inr fun e => ?_
    rcases h.1.2 with ⟨rfl, _⟩ | ⟨g1, c1, cur1, rfl, _, hg1, _⟩
    · simp [Value.ownBlock] at hv
    · simp only [Value.ownBlock, Option.some.injEq] at hv e
      rw [hv, e, hm] at hg1
      simp [itObj] at hg1
theorem auO_put {w : World} {base M n : Nat} {a : Array MapEntry} {o : Obj} {es : List (Ret × Value)} {f : Ret} {u : Value} (h : AuO w base es) (hu : Own w base 56 3 u (lns f.l)) (hm : w.heap[M]? = some (.map a n)) : AuO (setB w M o) base (es ++ [(f, u)]) := fun p hp => by
  have hg : w.grownBy (setB w M o) (some M) := setB_grown
  rcases List.mem_append.1 hp with hp | hp
  · exact (h p hp).keepG hg (own_not_map (h p hp) hm)
  · rw [List.mem_singleton.1 hp]; exact hu.keepG hg (own_not_map hu hm)
def atF (fs : List Ret) (i : Nat) : Ret := fs.getD i ⟨0, 0, []⟩
/-- the call returns an authority of its own with the same returns -/
def RetAuth (fs : List Ret) (w : World) (e : Ending) (w' : World) : Prop :=
  ∃ B2 M2 es', e = .returned (.pointer (some ⟨B2, 0, none⟩)) ∧ AuthS w' B2 M2 es' ∧ AuO w' w.heap.size es' ∧ (es'.map (·.1)).Perm fs ∧ w.heap.size ≤ M2 ∧ w.heap.size ≤ B2 ∧ Below w.heap.size w w'
/-- where the loop stands -/
structure CpS (w w1 : World) (M B2 M2 : Nat) (es : List (Ret × Value)) (seen : List Nat) (wr : World) : Prop where
  it : wr.heap[w1.heap.size]? = some (itObj M es.length seen)
  nodup : seen.Nodup
  lt : ∀ i ∈ seen, i < es.length
  below : Below w.heap.size w wr
  big : w1.heap.size < wr.heap.size
  bank : ∃ es', AuthS wr B2 M2 es' ∧ AuO wr w.heap.size es' ∧ es'.map (·.1) = seen.map (atF (es.map (·.1)))
theorem seen_perm {fs : List Ret} {seen : List Nat} (hn : seen.Nodup) (hl : ∀ i ∈ seen, i < fs.length) (ha : ∀ i, i < fs.length → i ∈ seen) : (seen.map (atF fs)).Perm fs := by
  have hp : seen.Perm (List.range fs.length) := (List.perm_ext_iff_of_nodup hn List.nodup_range).2 fun i => ⟨fun h => List.mem_range.2 (hl i h), fun h => ha i (List.mem_range.1 h)⟩
  refine (hp.map _).trans ?_
  have : (List.range fs.length).map (atF fs) = fs := by
    apply List.ext_getElem (by simp)
    intro i h1 h2
    simp [atF, List.getD, h2]
  rw [this]
theorem findI_fresh {es' : List (Ret × Value)} {k : Int} (h : ∀ f ∈ es'.map (·.1), f.p ≠ k) (j : Nat) : findI k j (es'.map entA) = none := by
  induction es' generalizing j with
  | nil => rfl
  | cons p r ih =>
    simp only [List.map_cons, findI, entA]
    rw [if_neg (fun e => h p.1 (by simp) e.symm)]
    exact ih (fun f hf => h f (by simp at hf ⊢; exact .inr hf)) (j + 1)
set_option maxRecDepth 100000 in
set_option maxHeartbeats 4000000 in
theorem CopyA_any (B M : Nat) (es : List (Ret × Value)) (w : World) (hb : AuthS w B M es) :
    Calls Tryz.prog 28 #[.pointer (some ⟨B, 0, none⟩)] w (RetAuth (es.map (·.1)) w) := by
  have HB := Lib.hid hb
  have HND := Lib.hid hb.dist
  have hq := eq_nil_auth B
  clear hb
  go_enter Tryz.func28, Tryz.ntmps28
  go_wp2_with fail
  refine (NewA_any w).mono ?_
  rintro e w1 ⟨B2, M2, rfl, hbk, hb1, hM2, hMB⟩
  have hB1 := HB.out.below hb1
  have c0 := hB1.box.cell 0
  have cl := hB1.box.lt
  simp only [List.getElem?_toArray, List.getElem?_cons_zero] at c0
  have hR := run_range_i hB1.map
  rw [List.length_map] at hR
  have hml := lt_of_some HB.out.map
  have hbl := HB.out.box.lt
  have hs1 := hb1.size
  have hM2l := lt_of_some hbk.map
  have hB2l := hbk.box.lt
  have hal := (Below.refl w1.heap.size w1).alloc (Nat.le_refl _) (itObj M es.length [])
  have HQB := Lib.hid (hbk.below hal)
  have h00 : CpS w w1 M B2 M2 es [] (w1.alloc (itObj M es.length [])) := ⟨heap_alloc_new w1 _, List.nodup_nil, (fun i hi => absurd hi (by simp)), below_after hb1 hal hb1.size, by simp, [], HQB.out, (fun p hp => by cases hp), rfl⟩
  clear hbk hal hB1
  go_wp2_with fail
  clear hR hq c0 cl HQB
  go_loopw [] (fun wr => ∃ seen : List Nat, Hid (CpS w w1 M B2 M2 es seen wr)) (fun wr => itLeft wr w1.heap.size)
  case atStart => exact ⟨[], h00⟩
  case round =>
    clear h00
    obtain ⟨seen, HS⟩ := hrel
    obtain ⟨wo, rfl⟩ : ∃ wo : World, wo = wr := ⟨_, rfl⟩
    have hbs := HS.out.below.size
    have hbig := HS.out.big
    have hBo := HB.out.below HS.out.below
    have hi0 := HS.out.it
    rw [show es.length = (es.map entA).length by simp] at hi0
    rcases run_next_i hi0 hBo.map 0 with ⟨i, l, W1, hl1, hni, hW1, hN⟩ | ⟨W1, hall, hW1, hN⟩
    · rw [List.getElem?_map] at hl1
      obtain ⟨⟨f, v⟩, hfv, rfl⟩ := Option.map_eq_some_iff.1 hl1
      have hil : i < es.length := (List.getElem?_eq_some_iff.1 hfv).1
      have hr1 : W1.heap[w1.heap.size]? = some (itObj M (es.map entA).length seen) := by rcases hW1 with rfl | rfl <;> exact hi0
      have hg0 : wo.grownBy (setB W1 w1.heap.size (itObj M (es.map entA).length (seen ++ [i]))) (some w1.heap.size) := (drew_grown hW1 _).trans setB_grown
      have hA : (setB W1 w1.heap.size (itObj M (es.map entA).length (seen ++ [i]))).heap[w1.heap.size]? = some (itObj M (es.map entA).length (seen ++ [i])) := setB_at (lt_of_some hr1)
      generalize setB W1 w1.heap.size (itObj M (es.map entA).length (seen ++ [i])) = W2 at hN hg0 hA
      have hb2 : Below w.heap.size w W2 := HS.out.below.grown hg0 hbs (fun k hk => by injection hk; omega)
      have hB2 := HB.out.below hb2
      have hE := run_entry_i hA hB2.map (by rw [List.getElem?_map, hfv]; rfl : (es.map entA)[i]? = some (entA (f, v)))
      obtain ⟨Av, cv, hv⟩ : ∃ A c, v = .slice A f.l.length c := by
        obtain ⟨A, c, h, _⟩ := hB2.ln (f, v) (List.mem_of_getElem? hfv)
        rw [lns_len] at h; exact ⟨A, c, h⟩
      subst hv
      have hent : entA (f, Value.slice Av f.l.length cv) = (f.p, .agg #[.int .i64 f.p, .int .i64 f.v, .slice Av f.l.length cv]) := rfl
      rw [hent] at hN hE
      have hN' : ∀ ty, (Instr.next (.pointer (some ⟨w1.heap.size, 0, none⟩)) false ty).run Tryz.prog wo = .ok (.tuple #[.bool true, .int .i64 f.p, .agg #[.int .i64 f.p, .int .i64 f.v, .slice Av f.l.length cv]]) W2 := fun _ => hN
      have HSL := Lib.hid (hB2.ln (f, .slice Av f.l.length cv) (List.mem_of_getElem? hfv))
      have HFL := Lib.hid (HB.out.val _ (List.mem_of_getElem? hfv))
      have hlt := left_less hil hni
      rw [List.length_map] at hA
      obtain ⟨es', hbk', hao', hes'⟩ := HS.out.bank
      have hQ2 := hbk'.grown hg0 (by omega) (by omega) (noLn_iter hi0)
      have hao2 : AuO W2 w.heap.size es' := fun p hp => (hao' p hp).keepG hg0 (own_not_it (hao' p hp) hi0)
      have hfi : atF (es.map (·.1)) i = f := by simp [atF, List.getD, List.getElem?_map, hfv]
      have HFR : Hid (∀ g ∈ es'.map (·.1), g.p ≠ f.p) := fun g hg => by
        rw [hes'] at hg
        obtain ⟨j, hj, rfl⟩ := List.mem_map.1 hg
        have hjl := HS.out.lt j hj
        have hne : j ≠ i := fun e => hni (e ▸ hj)
        have hnd := HND.out
        unfold DistR at hnd
        rw [List.pairwise_iff_getElem] at hnd
        have e1 : ((es.map (·.1))[j]'(by simpa using hjl)) = atF (es.map (·.1)) j := by simp [atF, List.getD, hjl]
        have e2 : ((es.map (·.1))[i]'(by simpa using hil)) = f := by rw [← hfi]; simp [atF, List.getD, hil]
        rcases Nat.lt_or_gt_of_ne hne with h | h
        · have := hnd j i (by simpa using hjl) (by simpa using hil) h
          rw [e1, e2] at this; exact this
        · have := hnd i j (by simpa using hil) (by simpa using hjl) h
          rw [e1, e2] at this; exact fun e => this e.symm
      have HPU : Hid (∀ v', putI f.p (.agg #[.int .i64 f.p, .int .i64 f.v, v']) (es'.map entA) = (es' ++ [(f, v')]).map entA) := fun v' => by
        rw [findI_none (j := 0) (findI_fresh HFR.out 0)]
        simp [entA, Ret.vals]
      have HES := Lib.hid hes'
      have HFI := Lib.hid hfi
      have HNS := Lib.hid hni
      have HLT := Lib.hid hlt
      have HVB := Lib.hid hbk'.val
      have hz2 := hg0.size
      clear hN hr1 hW1 hB2 hlt hfv hni hent hl1 hg0 hi0 hbk' hao' hes' hfi
      have hal := (Below.refl W2.heap.size W2).alloc (Nat.le_refl _) (.cells #[.int .i64 f.p, .int .i64 f.v, .slice Av f.l.length cv] 25)
      have hx3 := Row.new W2 25 #[.int .i64 f.p, .int .i64 f.v, .slice Av f.l.length cv]
      go_wp2_with fail
      obtain ⟨W3, hW3⟩ : ∃ W3, W2.alloc (.cells #[.int .i64 f.p, .int .i64 f.v, .slice Av f.l.length cv] 25) = W3 := ⟨_, rfl⟩
      rw [hW3] at hal hx3 ⊢
      obtain ⟨g, hg⟩ : ∃ g, W2.heap.size = g := ⟨_, rfl⟩
      rw [hg] at hx3 ⊢
      have hgM : M2 < g := by omega
      have hit3 := (hal.block _ (lt_of_some hA)).trans hA
      have hQ3 := hQ2.below hal
      have HSL3 := Lib.hid (HSL.out.below hal)
      have hb3 := below_after hb2 hal hb2.size
      have c0 := hQ3.box.cell 0
      have cl := hQ3.box.lt
      have cf := hQ3.box.frozen 0
      simp only [List.getElem?_toArray, List.getElem?_cons_zero] at c0
      obtain ⟨⟨d0, d1, d2, dl⟩, -⟩ := row3 hx3
      have HQ3 := Lib.hid hQ3
      have HAO3 := Lib.hid (hao2.below hal)
      have HI3 := Lib.hid hit3
      have HB3 := Lib.hid hb3
      have hz3 := hal.size
      clear hW3 hg hE hN' hA hQ2 hao2 hal hx3 hit3 hQ3 hb3 hb2 HSL
      have HC : Hid (∀ W, Below W3.heap.size W3 W → Calls Tryz.prog 53 #[.agg #[.int .i64 f.p, .int .i64 f.v, .slice Av f.l.length cv]] W (RetCopy f W)) := fun W hb => copyReturn_any f _ W (HSL3.out.below hb) (Nat.le_trans ((retB_iff f).1 HFL.out).n (by omega))
      have hMr : M2 ≠ w1.heap.size := by omega
      have hN7 : (seen ++ [i]).Nodup := by
        rw [List.nodup_append]
        exact ⟨HS.out.nodup, by simp, by simpa using fun a ha (e : a = i) => HNS.out (e ▸ ha)⟩
      have hL7 : ∀ j ∈ seen ++ [i], j < es.length := fun j hj => by
        rcases List.mem_append.1 hj with hj | hj
        · exact HS.out.lt j hj
        · rw [List.mem_singleton.1 hj]; exact hil
      have HN7 := Lib.hid hN7
      have HL7 := Lib.hid hL7
      clear hN7 hL7
      go_region_held3 (fun w' => w'.cell? ⟨B2, 0, none⟩ = some (.map (some M2)) ∧ w'.cell? ⟨g, 0, none⟩ = some (.int .i64 f.p) ∧ w'.cell? ⟨g, 1, none⟩ = some (.int .i64 f.v) ∧ w'.cell? ⟨g, 2, none⟩ = some (.slice Av f.l.length cv)) (go_keep) ((go_at_call 53; refine (HC.out _ ((Below.refl _ _).drew)).mono ?_; rintro e w8 ⟨u, rfl, hown8, hb8⟩; obtain ⟨Au, cu, rfl⟩ := hown8.form; rw [lns_len] at hown8 ⊢; have hvl : f.vals (.slice Au f.l.length cu) = #[.int .i64 f.p, .int .i64 f.v, .slice Au f.l.length cu] := rfl; rw [hvl]; clear hvl; have hb8' : Below W3.heap.size W3 w8 := below_after ((Below.refl _ _).drew) hb8 (Nat.le_refl _); have k0 := (hb8'.cell (p := ⟨B2, 0, none⟩) cl).trans c0; have k1 := (hb8'.cell (p := ⟨g, 0, none⟩) dl).trans d0; have k2 := (hb8'.cell (p := ⟨g, 1, none⟩) dl).trans d1; have k3 := (hb8'.cell (p := ⟨g, 2, none⟩) dl).trans d2; have hQ8 := HQ3.out.below hb8'; have E3 := run_update_i auth_ty hQ8.map f.p (.agg #[.int .i64 f.p, .int .i64 f.v, .slice Au f.l.length cu]); rw [HPU.out] at E3; have H8 : Hid (CpS w w1 M B2 M2 es (seen ++ [i]) (setB w8 M2 (iObj ((es' ++ [(f, Value.slice Au f.l.length cu)]).map entA)))) := ⟨(setB_grown.block _ (lt_of_some ((hb8'.block _ (lt_of_some HI3.out)).trans HI3.out)) (fun e => hMr (Option.some.inj e.symm))).trans ((hb8'.block _ (lt_of_some HI3.out)).trans HI3.out), HN7.out, HL7.out, (below_after HB3.out hb8' HB3.out.size).grown setB_grown (below_after HB3.out hb8' HB3.out.size).size (fun k hk => by injection hk; omega), Nat.lt_of_lt_of_le (Nat.lt_of_lt_of_le hbig (Nat.le_trans hz2 (Nat.le_trans hz3 hb8'.size))) (by simp [setB]), _, hQ8.put (hown8.sl (by omega)) HFL.out (by omega) HFR.out, auO_put (HAO3.out.below hb8') (hown8.more (by first | exact HB3.out.size | (have := HB3.out.size; simp; omega))) hQ8.map, by rw [List.map_append, List.map_append, HES.out]; simp [HFI.out]⟩; have hg9 : w8.grownBy (setB w8 M2 (iObj ((es' ++ [(f, Value.slice Au f.l.length cu)]).map entA))) (some M2) := setB_grown; obtain ⟨w9, hw9⟩ : ∃ w9, setB w8 M2 (iObj ((es' ++ [(f, Value.slice Au f.l.length cu)]).map entA)) = w9 := ⟨_, rfl⟩; rw [hw9] at E3 H8 hg9; have hz8 := hb8'.size; have j0 := (World.cell?_of_block (w := w8) (a := ⟨B2, 0, none⟩) (hg9.block B2 (by omega) (fun e => by injection e; omega))).trans k0; have j1 := (World.cell?_of_block (w := w8) (a := ⟨g, 0, none⟩) (hg9.block g (by omega) (fun e => by injection e; omega))).trans k1; have j2 := (World.cell?_of_block (w := w8) (a := ⟨g, 1, none⟩) (hg9.block g (by omega) (fun e => by injection e; omega))).trans k2; have j3 := (World.cell?_of_block (w := w8) (a := ⟨g, 2, none⟩) (hg9.block g (by omega) (fun e => by injection e; omega))).trans k3; clear hown8 hb8 hb8' hQ8 hg9 hw9))
      clear k0 k1 k2 k3 j0 j1 j2 j3 E3 c0 cf d0 d1 d2
      go_wp2
      go_roundw
      case rel => exact ⟨seen ++ [i], H8⟩
      case measure => rw [itLeft_at HS.out.it, itLeft_at H8.out.it]; exact HLT.out
    · have hb1' : Below w.heap.size w W1 := by rcases hW1 with rfl | rfl <;> exact ⟨HS.out.below.os, HS.out.below.tape, HS.out.below.output, HS.out.below.size, HS.out.below.block⟩
      have hN' : ∀ ty, (Instr.next (.pointer (some ⟨w1.heap.size, 0, none⟩)) false ty).run Tryz.prog wo = .ok (.tuple #[.bool false]) W1 := fun _ => hN
      obtain ⟨es', hbk', hao', hes'⟩ := HS.out.bank
      have HBK : Hid (AuthS W1 B2 M2 es') := by rcases hW1 with rfl | rfl; exact hbk'; exact hbk'.below (Below.refl _ _).drew
      have HAK : Hid (AuO W1 w.heap.size es') := by rcases hW1 with rfl | rfl; exact hao'; exact hao'.below (Below.refl _ _).drew
      have HP : Hid ((es'.map (·.1)).Perm (es.map (·.1))) := by
        rw [Hid, hes']
        exact seen_perm HS.out.nodup (by rw [List.length_map]; exact HS.out.lt) (by rw [List.length_map] at hall ⊢; exact hall)
      have HB1 := Lib.hid hb1'
      clear hN hall hW1 hb1' hbk' hao' hes'
      go_wp2
      go_ret
      exact ⟨B2, M2, es', rfl, HBK.out, HAK.out, HP.out, hM2, by omega, HB1.out⟩
end Go.Proofs.YtnkephafpebfkaaGreatDoor
/- How ref43.Decode reads a text: no program in sight. -/
namespace Go.Proofs.YtnkephafpebfkaaGreatDoor

theorem split_snoc (c : UInt8) : ∀ b : List UInt8, splitBy c (b ++ [c]) = splitBy c b ++ [[]]
  | [] => by rw [List.nil_append]; unfold splitBy; rw [if_pos rfl]; rfl
  | x :: r => by
    have ih := split_snoc c r
    rw [List.cons_append]
    conv => lhs; unfold splitBy
    conv => rhs; unfold splitBy
    by_cases hx : x = c
    · rw [if_pos hx, if_pos hx, ih]; rfl
    · rw [if_neg hx, if_neg hx, ih]
      cases hr : splitBy c r with
      | nil => exact absurd hr (splitBy_ne c r)
      | cons h t => rfl
theorem split_ret {r : Ret} (h : RetOk r) : splitBy 10 (retT r) = retL r ++ [[]] := by
  rw [retT_join, split_snoc, split_join (retL_ne r) h.lines]
theorem join_nil_snoc (c : UInt8) : ∀ ls : List (List UInt8), ls ≠ [] → joinBy c (ls ++ [[]]) = joinBy c ls ++ [c]
  | [], h => absurd rfl h
  | [a], _ => by simp [joinBy]
  | a :: b :: r, _ => by
    have ih := join_nil_snoc c (b :: r) (by simp)
    rw [List.cons_append, join_cons (l := (b :: r) ++ [[]]) (by simp), ih, join_cons (l := b :: r) (by simp), List.append_assoc]
    rfl
/-- the text of no valid return -/
def NoRet (s : List UInt8) : Prop := ∀ r, retB r = true → s ≠ retT r
theorem noRet_dec {s : List UInt8} (hl : s.length ≤ 65536) (h : NoRet s) : decE s = 6 ∧ decR s = ⟨0, 0, []⟩ :=
  ⟨decE_no hl h, decR_no (by rw [decE_no hl h]; decide)⟩
section
variable {s : List UInt8} {ls : List (List UInt8)} {rest : List UInt8}
theorem lines_eq (h : splitBy 10 s = ls ++ [rest]) {r : Ret} (hr : retB r = true) (e : s = retT r) : ls = retL r ∧ rest = [] := by
  rw [e, split_ret ((retB_iff r).1 hr)] at h
  obtain ⟨h1, h2⟩ := List.append_inj' h rfl
  simp only [List.cons.injEq, and_true] at h2
  exact ⟨h1.symm, h2.symm⟩
theorem no_rest (h : splitBy 10 s = ls ++ [rest]) (hr : ¬ rest = []) : NoRet s := fun _ h1 e => hr (lines_eq h h1 e).2
theorem no_short (h : splitBy 10 s = ls ++ [rest]) (hr : ls.length < 2) : NoRet s := fun r h1 e => by
  have := (lines_eq h h1 e).1
  rw [this] at hr
  simp [retL] at hr; omega
theorem no_end (h : splitBy 10 s = ls ++ [rest]) {x : List UInt8} (hx : ls[ls.length - 1]? = some x) (hr : ¬ x = wEnd) : NoRet s := fun r h1 e => by
  have := (lines_eq h h1 e).1
  rw [this] at hx
  apply hr
  simp [retL] at hx
  exact hx.symm
theorem head_eq (h : splitBy 10 s = ls ++ [rest]) {x : List UInt8} (hx : ls[0]? = some x) {r : Ret} (hr : retB r = true) (e : s = retT r) : splitBy 32 x = [wRet, Lib.itoa r.p, wVer, Lib.itoa r.v] := by
  have := (lines_eq h hr e).1
  rw [this] at hx
  simp [retL] at hx
  rw [← hx, headR_words]
theorem no_head (h : splitBy 10 s = ls ++ [rest]) {x : List UInt8} (hx : ls[0]? = some x) {W : List (List UInt8)} (hW : splitBy 32 x = W) (hr : ¬ W.length = 4 ∨ ¬ W.getD 0 [] = wRet ∨ ¬ W.getD 2 [] = wVer ∨ numZ (W.getD 1 []) = none ∨ numZ (W.getD 3 []) = none) : NoRet s := fun r h1 e => by
  have hh := head_eq h hx h1 e
  rw [hW] at hh
  subst hh
  have ho := (retB_iff r).1 h1
  have h2 := ho.p0; have h3 := ho.p1; have h4 := ho.v0; have h5 := ho.v1
  rcases hr with hr | hr | hr | hr | hr
  · exact hr rfl
  · exact hr rfl
  · exact hr rfl
  · have : numZ (Lib.itoa r.p) = some r.p := numZ_iff.2 ⟨rfl, by omega, by omega⟩
    rw [show ([wRet, Lib.itoa r.p, wVer, Lib.itoa r.v].getD 1 []) = Lib.itoa r.p from rfl, this] at hr; cases hr
  · have : numZ (Lib.itoa r.v) = some r.v := numZ_iff.2 ⟨rfl, by omega, by omega⟩
    rw [show ([wRet, Lib.itoa r.p, wVer, Lib.itoa r.v].getD 3 []) = Lib.itoa r.v from rfl, this] at hr; cases hr
theorem mid_eq (h : splitBy 10 s = ls ++ [rest]) {r : Ret} (hr : retB r = true) (e : s = retT r) {i : Nat} (h0 : 1 ≤ i) (hi : i + 1 < ls.length) : ∃ x ∈ r.l, ls[i]? = some (lnT x) := by
  have := (lines_eq h hr e).1
  subst this
  have hl : (retL r).length = r.l.length + 2 := by simp [retL]
  obtain ⟨j, rfl⟩ : ∃ j, i = j + 1 := ⟨i - 1, by omega⟩
  have hj : j < r.l.length := by omega
  refine ⟨r.l[j], List.getElem_mem hj, ?_⟩
  have : (retL r)[j + 1]? = (r.l.map lnT ++ [wEnd])[j]? := by
    show (headR r.p r.v :: r.l.map lnT ++ [wEnd])[j + 1]? = _
    rw [List.cons_append, List.getElem?_cons_succ]
  rw [this, List.getElem?_append_left (by simpa using hj), List.getElem?_map, List.getElem?_eq_getElem hj]
  rfl
/-- the line that some words are -/
def IsLn (W : List (List UInt8)) (x : Ln) : Prop := formB x = true ∧ W = wordsL x
def NoLine (W : List (List UInt8)) : Prop := ∀ x, formB x = true → ¬ W = wordsL x
theorem no_line (h : splitBy 10 s = ls ++ [rest]) {i : Nat} (h0 : 1 ≤ i) (hi : i + 1 < ls.length) {y : List UInt8} (hy : ls[i]? = some y) (hn : NoLine (splitBy 32 y)) : NoRet s := fun r h1 e => by
  obtain ⟨x, hx, hm⟩ := mid_eq h h1 e h0 hi
  rw [hm] at hy
  injection hy with hy
  subst hy
  have hf := ((retB_iff r).1 h1).f x hx
  exact hn x hf (lnT_words (formed_of (formB_formed hf)))
/-- where the loop stands: so many lines are read -/
def RdI (ls : List (List UInt8)) (i : Nat) (acc : List Ln) : Prop := 1 ≤ i ∧ acc.length + 1 = i ∧ (∀ x ∈ acc, formB x = true) ∧ ∀ j (h : j < acc.length), ls[j + 1]? = some (lnT acc[j])
theorem rdI_start (ls : List (List UInt8)) : RdI ls 1 [] := ⟨Nat.le_refl _, rfl, (fun _ h => by cases h), fun j h => by simp at h⟩
theorem RdI.next {ls : List (List UInt8)} {i : Nat} {acc : List Ln} (h : RdI ls i acc) {y : List UInt8} (hy : ls[i]? = some y) {x : Ln} (hx : IsLn (splitBy 32 y) x) : RdI ls (i + 1) (acc ++ [x]) := by
  obtain ⟨h1, h2, h3, h4⟩ := h
  refine ⟨by omega, by simp; omega, ?_, ?_⟩
  · intro z hz
    rcases List.mem_append.1 hz with hz | hz
    · exact h3 z hz
    · rw [List.mem_singleton.1 hz]; exact hx.1
  · intro j hj
    simp only [List.length_append, List.length_cons, List.length_nil, Nat.zero_add] at hj
    by_cases hl : j < acc.length
    · rw [List.getElem_append_left hl]; exact h4 j hl
    · obtain rfl : j = acc.length := by omega
      rw [h2, hy]
      simp only [List.getElem_concat_length]
      rw [← join_split 32 y, hx.2]; rfl
theorem rdI_mid {ls : List (List UInt8)} {acc : List Ln} (hl : 2 ≤ ls.length) (h : RdI ls (ls.length - 1) acc) : (ls.drop 1).take (ls.length - 2) = acc.map lnT := by
  obtain ⟨h1, h2, h3, h4⟩ := h
  apply List.ext_getElem?
  intro j
  by_cases hj : j < acc.length
  · rw [List.getElem?_take, if_pos (by omega), List.getElem?_drop, Nat.add_comm 1 j, h4 j hj, List.getElem?_map, List.getElem?_eq_getElem hj]; rfl
  · rw [List.getElem?_eq_none (by simp; omega), List.getElem?_eq_none (by simp; omega)]
theorem map_inj {a b : List Ln} (ha : ∀ x ∈ a, Formed x) (hb : ∀ x ∈ b, Formed x) (h : a.map lnT = b.map lnT) : a = b := by
  induction a generalizing b with
  | nil => cases b with
    | nil => rfl
    | cons y t => cases h
  | cons x r ih => cases b with
    | nil => cases h
    | cons y t =>
      simp only [List.map_cons, List.cons.injEq] at h
      rw [lnT_inj (ha x (by simp)) (hb y (by simp)) h.1, ih (fun z hz => ha z (by simp [hz])) (fun z hz => hb z (by simp [hz])) h.2]
/-- the end: the return that was read, if it is valid -/
theorem end_dec (h : splitBy 10 s = ls ++ [rest]) (hrest : rest = []) (hl : 2 ≤ ls.length) (he : ls[ls.length - 1]? = some wEnd) {x : List UInt8} (hx : ls[0]? = some x) {a b : Int} {wa wb : List UInt8}
    (hW : splitBy 32 x = [wRet, wa, wVer, wb]) (ha : numZ wa = some a) (hb : numZ wb = some b) {acc : List Ln} (hacc : RdI ls (ls.length - 1) acc) (_hs : s.length ≤ 65536) :
    (retB ⟨a, b, acc⟩ = true → decE s = 0 ∧ decR s = ⟨a, b, acc⟩) ∧ (retB ⟨a, b, acc⟩ = false → NoRet s) := by
  have hm := rdI_mid hl hacc
  have h0 : ls.getD 0 [] = x := by simp [List.getD, hx]
  have h6 : ls.getD (ls.length - 1) [] = wEnd := by simp [List.getD, he]
  have hp := parts2 [] hl
  rw [h0, h6, hm] at hp
  have hxe : x = headR a b := by
    rw [← join_split 32 x, hW, (numZ_iff.1 ha).1, (numZ_iff.1 hb).1]; rfl
  have hls : ls = retL ⟨a, b, acc⟩ := by rw [hp, hxe]; rfl
  refine ⟨fun hr => ?_, fun hr r h1 e => ?_⟩
  · have hse : s = retT ⟨a, b, acc⟩ := by
      rw [retT_join, ← hls, ← join_nil_snoc 10 ls (by intro e; rw [e] at hl; simp at hl), ← join_split 10 s, h, hrest]
    rw [hse]; exact dec_of hr
  · have e1 := (lines_eq h h1 e).1
    have e2 := head_eq h hx h1 e
    rw [hW] at e2
    simp only [List.cons.injEq, and_true, true_and] at e2
    have ho := (retB_iff r).1 h1
    have h2 := ho.p0; have h3 := ho.p1; have h4 := ho.v0; have h5 := ho.v1
    have q1 : numZ (Lib.itoa r.p) = some r.p := numZ_iff.2 ⟨rfl, by omega, by omega⟩
    have q2 : numZ (Lib.itoa r.v) = some r.v := numZ_iff.2 ⟨rfl, by omega, by omega⟩
    rw [e2.1, q1] at ha
    rw [e2.2, q2] at hb
    injection ha with ha
    injection hb with hb
    have e3 : acc.map lnT = r.l.map lnT := by
      rw [hls] at e1
      have : (headR a b :: acc.map lnT ++ [wEnd]) = headR r.p r.v :: r.l.map lnT ++ [wEnd] := e1
      rw [List.cons_append, List.cons_append] at this
      injection this with _ this
      exact (List.append_inj' this rfl).1
    have e4 := map_inj (fun z hz => formed_of (formB_formed (hacc.2.2.1 z hz))) (fun z hz => formed_of (formB_formed (ho.f z hz))) e3
    obtain ⟨p, v, l⟩ := r
    simp only at ha hb e4
    subst ha hb e4
    rw [h1] at hr; cases hr
end
end Go.Proofs.YtnkephafpebfkaaGreatDoor
/- How ref34.Line reads words: no program in sight. -/
namespace Go.Proofs.YtnkephafpebfkaaGreatDoor

theorem wordL_at {j : Nat} (h : j < 10) : wordL ((j : Int) + 1) = wAll.getD j [] := by
  unfold wordL
  rw [if_pos (by omega), show ((j : Int) + 1 - 1).toNat = j by omega]
theorem wordsL_head (x : Ln) : ∃ r, wordsL x = wordL x.kind :: r := by
  unfold wordsL; split
  · exact ⟨_, rfl⟩
  · exact ⟨_, rfl⟩
/-- a line's kind is told by its first word -/
theorem kind_of {x : Ln} (h : formB x = true) {j : Nat} (hj : j < 10) {a : List UInt8} {r : List (List UInt8)} (hw : a :: r = wordsL x) (ha : a = wAll.getD j []) : x.kind = (j : Int) + 1 := by
  have hf := formed_of (formB_formed h)
  obtain ⟨k, hk, hkk, hv⟩ := hf.wd
  obtain ⟨q, hq⟩ := wordsL_head x
  rw [hq] at hw
  injection hw with hw _
  rw [ha, hv] at hw
  rw [hkk, word_inj j hj k hk hw]
theorem noLn_kind {a : List UInt8} {r : List (List UInt8)} (h : ∀ j : Nat, j < 10 → ¬ a = wAll.getD j []) : NoLine (a :: r) := fun x hx e => by
  obtain ⟨k, hk, hkk, hv⟩ := (formed_of (formB_formed hx)).wd
  obtain ⟨q, hq⟩ := wordsL_head x
  rw [hq] at e
  injection e with e _
  exact h k hk (by rw [e, hv])
section
variable {j : Nat} {a : List UInt8} {r : List (List UInt8)}
theorem noLn_bare (hj : j < 10) (ha : a = wAll.getD j []) (hb : bareB ((j : Int) + 1) = true) (hl : ¬ (a :: r).length = 2) : NoLine (a :: r) := fun x hx e => by
  have hk := kind_of hx hj e ha
  apply hl
  rw [e, wordsL, hk, if_pos hb]; rfl
theorem noLn_full (hj : j < 10) (ha : a = wAll.getD j []) (hb : bareB ((j : Int) + 1) = false) (hl : ¬ (a :: r).length = 3) : NoLine (a :: r) := fun x hx e => by
  have hk := kind_of hx hj e ha
  apply hl
  rw [e, wordsL, hk, hb]; rfl
theorem amt_num {x : Ln} (h : formB x = true) : numZ (Lib.itoa x.amt) = some x.amt := by
  have hf := formed_of (formB_formed h)
  have := hf.a0; have := hf.a1
  exact numZ_iff.2 ⟨rfl, by omega, by omega⟩
theorem ln_bare (hj : j < 10) (ha : a = wAll.getD j []) (hb : bareB ((j : Int) + 1) = true) {b : List UInt8} :
    (numZ b = none → NoLine [a, b]) ∧ ∀ n, numZ b = some n → (formB ⟨(j : Int) + 1, ⟨#[]⟩, n⟩ = true → IsLn [a, b] ⟨(j : Int) + 1, ⟨#[]⟩, n⟩) ∧ (formB ⟨(j : Int) + 1, ⟨#[]⟩, n⟩ = false → NoLine [a, b]) := by
  have key : ∀ x, formB x = true → [a, b] = wordsL x → x.kind = (j : Int) + 1 ∧ x.code = ⟨#[]⟩ ∧ numZ b = some x.amt := fun x hx e => by
    have hk := kind_of hx hj e ha
    have hf := formed_of (formB_formed hx)
    rw [wordsL, hk, if_pos hb] at e
    simp only [List.cons.injEq, and_true] at e
    exact ⟨hk, hf.b (by rw [hk]; exact hb), by rw [e.2]; exact amt_num hx⟩
  refine ⟨fun hn x hx e => ?_, fun n hn => ⟨fun hf => ⟨hf, ?_⟩, fun hf x hx e => ?_⟩⟩
  · rw [(key x hx e).2.2] at hn; cases hn
  · rw [wordsL, hb, if_pos rfl, wordL_at hj, ← ha, (numZ_iff.1 hn).1]
  · obtain ⟨h1, h2, h3⟩ := key x hx e
    rw [hn] at h3
    injection h3 with h3
    obtain ⟨k, c, m⟩ := x
    simp only at h1 h2 h3
    subst h1 h2 h3
    rw [hx] at hf; cases hf
theorem ln_full (hj : j < 10) (ha : a = wAll.getD j []) (hb : bareB ((j : Int) + 1) = false) {c : ByteArray} {b : List UInt8} :
    (numZ b = none → NoLine [a, c.data.toList, b]) ∧ ∀ n, numZ b = some n → (formB ⟨(j : Int) + 1, c, n⟩ = true → IsLn [a, c.data.toList, b] ⟨(j : Int) + 1, c, n⟩) ∧ (formB ⟨(j : Int) + 1, c, n⟩ = false → NoLine [a, c.data.toList, b]) := by
  have key : ∀ x, formB x = true → [a, c.data.toList, b] = wordsL x → x.kind = (j : Int) + 1 ∧ x.code = c ∧ numZ b = some x.amt := fun x hx e => by
    have hk := kind_of hx hj e ha
    rw [wordsL, hk, hb] at e
    simp only [Bool.false_eq_true, if_false, List.cons.injEq, and_true] at e
    refine ⟨hk, ?_, by rw [e.2.2]; exact amt_num hx⟩
    have h2 := e.2.1
    obtain ⟨k, ⟨⟨d⟩⟩, m⟩ := x
    obtain ⟨⟨q⟩⟩ := c
    simp at h2
    simp [h2]
  refine ⟨fun hn x hx e => ?_, fun n hn => ⟨fun hf => ⟨hf, ?_⟩, fun hf x hx e => ?_⟩⟩
  · rw [(key x hx e).2.2] at hn; cases hn
  · rw [wordsL, hb]
    simp only [Bool.false_eq_true, if_false]
    rw [wordL_at hj, ← ha, (numZ_iff.1 hn).1]
  · obtain ⟨h1, h2, h3⟩ := key x hx e
    rw [hn] at h3
    injection h3 with h3
    obtain ⟨k, c', m⟩ := x
    simp only at h1 h2 h3
    subst h1 h2 h3
    rw [hx] at hf; cases hf
end
end Go.Proofs.YtnkephafpebfkaaGreatDoor
/- Contracts of the reference: Less, Ordered, Filed, Form, Valid. -/
namespace Go.Proofs.YtnkephafpebfkaaGreatDoor
open Go.RowKit Go.Sort

set_option maxHeartbeats 800000 in
theorem Less_any (a b : Ln) (w : World) :
    Calls Tryz.prog 85 #[.agg #[.int .i64 a.kind, .string a.code, .int .i64 a.amt], .agg #[.int .i64 b.kind, .string b.code, .int .i64 b.amt]] w fun e w' => e = .returned (.bool (lnLt a b)) ∧ Below w.heap.size w w' := by
  by_cases h1 : a.kind < b.kind
  · have H : Hid (lnLt a b = true) := by simp [Hid, lnLt, h1]
    have d1 : decide (a.kind < b.kind) = true := decide_eq_true h1
    go_enter Tryz.func85, Tryz.ntmps85
    go_wp2
    go_ret
    exact ⟨ret_bool H.out.symm, ((Below.refl _ _).alloc (Nat.le_refl _) _).alloc (by simp) _⟩
  have d1 : decide (a.kind < b.kind) = false := decide_eq_false h1
  cases e2 : (a.kind == b.kind)
  · have H : Hid (lnLt a b = false) := by simp [Hid, lnLt, h1, show ¬ a.kind = b.kind by simpa using e2]
    go_enter Tryz.func85, Tryz.ntmps85
    go_wp2
    go_ret
    exact ⟨ret_bool H.out.symm, ((Below.refl _ _).alloc (Nat.le_refl _) _).alloc (by simp) _⟩
  · have H : Hid (lnLt a b = Op.bytesLess a.code.toList b.code.toList) := by
      rw [Hid, bytesLess_eq]
      simp [lnLt, show a.kind = b.kind by simpa using e2]
    go_enter Tryz.func85, Tryz.ntmps85
    go_wp2
    go_ret
    exact ⟨ret_bool H.out.symm, ((Below.refl _ _).alloc (Nat.le_refl _) _).alloc (by simp) _⟩


/-- the lines up to k are in order -/
def OrdOk (l : List Ln) (k : Nat) : Prop := ∀ j (h : j < l.length), j < k → formB l[j] = true ∧ ∀ h0 : 0 < j, lnLt (l[j - 1]'(by omega)) l[j] = true
theorem ordOk_end {l : List Ln} (h : OrdOk l l.length) : ordB l = true := by
  rw [ordB_iff]
  exact ⟨fun j hj => (h j hj hj).1, fun j hj => (h (j + 1) hj hj).2 (by omega)⟩
theorem ordOk_form {l : List Ln} {k : Nat} (hk : k < l.length) (h : formB l[k] = false) : ordB l = false := by
  rw [Bool.eq_false_iff]
  intro hh
  have := ((ordB_iff _).1 hh).1 k hk
  rw [h] at this; cases this
theorem ordOk_lt {l : List Ln} {k : Nat} (hk : k + 1 < l.length) (h : lnLt (l[k]'(by omega)) l[k + 1] = false) : ordB l = false := by
  rw [Bool.eq_false_iff]
  intro hh
  have := ((ordB_iff _).1 hh).2 k hk
  rw [h] at this; cases this
set_option maxRecDepth 100000 in
set_option maxHeartbeats 4000000 in
theorem Ordered_any (l : List Ln) (v : Value) (w : World) (hv : Sl w 3 v (lns l)) :
    Calls Tryz.prog 66 #[v] w fun e w' => e = .returned (.bool (ordB l)) ∧ Below w.heap.size w w' := by
  have HV := Lib.hid hv
  obtain ⟨A, cap, rfl, h1, h2, _, _⟩ := hv
  rw [lns_len] at h1 HV ⊢
  unfold maxLen at h2
  go_enter Tryz.func66, Tryz.ntmps66
  go_wp2
  go_loopw [3] (fun i wr => ∃ k : Nat, k ≤ l.length ∧ i = .int .i64 k ∧ Hid (Below w.heap.size w wr) ∧ Hid (OrdOk l k)) (fun i _ => l.length - (intOf i).toNat)
  case atStart => exact ⟨0, by omega, rfl, Below.refl _ _, fun j _ h => by omega⟩
  case round =>
    obtain ⟨k, hk, rfl, HB, HK⟩ := hrel
    obtain ⟨wo, rfl⟩ : ∃ wo : World, wo = wr := ⟨_, rfl⟩
    by_cases hlt : k < l.length
    · obtain ⟨bk, off, rfl, hc⟩ := (HV.out.below HB.out).cells (by rw [lns_len]; omega)
      have hbl := hc.1
      obtain ⟨c0, c1, c2⟩ := hc.ln hlt
      have i1 : (k : Int) < (l.length : Int) := by omega
      have HFD := Lib.hid (fun h => ordOk_form hlt h)
      have HPR : Hid (∀ (j : Nat) (hj : j < l.length), ∀ y : Ext wo, y.val.cell? ⟨bk, off + j * 3, none⟩ = some (.int .i64 (l[j]).kind) ∧ y.val.cell? ⟨bk, off + j * 3 + 1, none⟩ = some (.string (l[j]).code) ∧ y.val.cell? ⟨bk, off + j * 3 + 2, none⟩ = some (.int .i64 (l[j]).amt)) := fun j hj y => ⟨ext_cell hbl (hc.ln hj).1 y, ext_cell hbl (hc.ln hj).2.1 y, ext_cell hbl (hc.ln hj).2.2 y⟩
      obtain ⟨x, hx⟩ : ∃ x, l[k] = x := ⟨_, rfl⟩
      have HX := Lib.hid hx
      rw [hx] at c0 c1 c2 HFD
      have d0 := ext_cell hbl c0
      have d1 := ext_cell hbl c1
      have d2 := ext_cell hbl c2
      have HF := Lib.hid (fun y : Ext wo => refForm_any x y.val)
      have HBY : Hid (∀ y : Ext wo, Below w.heap.size w y.val) := fun y => below_after HB.out y.property HB.out.size
      clear hx hc c0 c1 c2
      cases hf : formB x
      · rw [hf] at HF
        have HE := Lib.hid (HFD.out hf)
        clear hf HFD HPR
        go_wp2_with fail
        refine region_ext (by kernel_rfl) (by kernel_rfl) ?_
        repeat (go_big_quiet_step ((go_at_call 72; exact ext_call (HF.out _))))
        refine wpQuiet_nil ?_
        rintro _ ⟨y, rfl⟩
        go_wp2
        go_ret
        exact ⟨ret_bool HE.out.symm, HBY.out y⟩
      rw [hf] at HF
      have HFM := Lib.hid hf
      clear hf HFD
      rcases Nat.eq_zero_or_pos k with rfl | hk0
      · have HN : Hid (OrdOk l (0 + 1)) := fun j hj h => by
          obtain rfl : j = 0 := by omega
          exact ⟨by rw [HX.out]; exact HFM.out, fun h => by omega⟩
        simp only [Nat.zero_mul, Nat.add_zero] at d0 d1 d2
        clear HPR
        go_wp2_with fail
        refine region_ext (by kernel_rfl) (by kernel_rfl) ?_
        repeat (go_big_quiet_step ((go_at_call 72; exact ext_call (HF.out _))))
        refine wpQuiet_nil ?_
        rintro _ ⟨y, rfl⟩
        go_wp2
        go_roundw
        case rel => exact ⟨0 + 1, by omega, by go_num, HBY.out y, HN.out⟩
        case measure => simp [intOf]; omega
      · obtain ⟨j, rfl⟩ : ∃ j, k = j + 1 := ⟨k - 1, by omega⟩
        have hjl : j < l.length := by omega
        have HP := HPR.out j hjl
        have HOD := Lib.hid (fun h => ordOk_lt (k := j) hlt h)
        rw [HX.out] at HOD
        have HKJ : Hid (lnLt (l[j]'hjl) x = true → OrdOk l (j + 1 + 1)) := fun hl' i hi hik => by
          by_cases e : i = j + 1
          · subst e
            refine ⟨by rw [HX.out]; exact HFM.out, fun _ => ?_⟩
            rw [HX.out]
            exact hl'
          · exact HK.out i hi (by omega)
        obtain ⟨y, hy⟩ : ∃ y, l[j] = y := ⟨_, rfl⟩
        rw [hy] at HP HOD HKJ
        have p0 := fun z => (HP z).1
        have p1 := fun z => (HP z).2.1
        have p2 := fun z => (HP z).2.2
        have HLS := Lib.hid (fun z : Ext wo => Less_any y x z.val)
        have i2 : (j : Int) < (l.length : Int) := by omega
        have s2 : IntKind.i64.wrap ((j : Int) + 1 - 1) = (j : Int) := by rw [show (j : Int) + 1 - 1 = (j : Int) by omega]; exact IntWalk.i64_in _ (by omega)
        clear hy HP HPR
        cases hly : lnLt y x
        · rw [hly] at HLS
          have HE := Lib.hid (HOD.out hly)
          clear hly HOD HKJ
          go_wp2_with fail
          refine region_ext (by kernel_rfl) (by kernel_rfl) ?_
          repeat (go_big_quiet_step (first | (go_at_call 72; exact ext_call (HF.out _)) | (go_at_call 85; exact ext_call (HLS.out _))))
          refine wpQuiet_nil ?_
          rintro _ ⟨z, rfl⟩
          go_wp2
          go_ret
          exact ⟨ret_bool HE.out.symm, HBY.out z⟩
        · rw [hly] at HLS
          have HN := Lib.hid (HKJ.out hly)
          clear hly HOD HKJ
          go_wp2_with fail
          refine region_ext (by kernel_rfl) (by kernel_rfl) ?_
          repeat (go_big_quiet_step (first | (go_at_call 72; exact ext_call (HF.out _)) | (go_at_call 85; exact ext_call (HLS.out _))))
          refine wpQuiet_nil ?_
          rintro _ ⟨z, rfl⟩
          go_wp2
          go_roundw
          case rel => exact ⟨j + 1 + 1, by omega, by go_num, HBY.out z, HN.out⟩
          case measure => simp [intOf]; omega
    · obtain rfl : k = l.length := by omega
      have HE := Lib.hid (ordOk_end HK.out)
      go_wp2
      go_ret
      exact ⟨ret_bool HE.out.symm, HB.out⟩
theorem Filed_any (k : Int) (w : World) :
    Calls Tryz.prog 67 #[.int .i64 k] w fun e w' => e = .returned (.bool (filedB k)) ∧ w = w' := by
  cases h4 : (k == 4)
  · cases h5 : (k == 5)
    · go_enter Tryz.func67, Tryz.ntmps67
      go_wp2
      go_ret
      exact ⟨ret_bool (by simp at h4 h5; simp [filedB, h4, h5]; rfl), rfl⟩
    · go_enter Tryz.func67, Tryz.ntmps67
      go_wp2
      go_ret
      exact ⟨ret_bool (by simp at h5; simp [filedB, h5]), rfl⟩
  · go_enter Tryz.func67, Tryz.ntmps67
    go_wp2
    go_ret
    exact ⟨ret_bool (by simp at h4; simp [filedB, h4]), rfl⟩
def formR (l : List Ln) : Bool := l.all (fun x => filedB x.kind) && ordB l
set_option maxRecDepth 100000 in
set_option maxHeartbeats 2000000 in
theorem FormL_any (l : List Ln) (v : Value) (w : World) (hv : Sl w 3 v (lns l)) :
    Calls Tryz.prog 42 #[v] w fun e w' => e = .returned (.bool (formR l)) ∧ Below w.heap.size w w' := by
  have HV := Lib.hid hv
  have HO := Lib.hid (Ordered_any l v w hv)
  have HFR : Hid (formR l = (l.all (fun x => filedB x.kind) && ordB l)) := rfl
  obtain ⟨A, cap, rfl, h1, h2, _, _⟩ := hv
  rw [lns_len] at h1 HV HO ⊢
  unfold maxLen at h2
  cases ho : ordB l
  · rw [ho] at HO HFR
    have HE : Hid (formR l = false) := by rw [Hid, HFR.out, Bool.and_false]
    clear ho
    go_enter Tryz.func42, Tryz.ntmps42
    go_wp2_with fail
    refine HO.out.mono ?_
    rintro e w1 ⟨rfl, hb1⟩
    go_wp2
    go_ret
    exact ⟨ret_bool HE.out.symm, hb1⟩
  rw [ho] at HO HFR
  clear ho
  go_enter Tryz.func42, Tryz.ntmps42
  go_wp2_with fail
  refine HO.out.mono ?_
  rintro e w1 ⟨rfl, hb1⟩
  go_wp2_with fail
  go_loopw [3] (fun i wr => ∃ k : Nat, k ≤ l.length ∧ i = .int .i64 k ∧ Hid (Below w.heap.size w wr) ∧ Hid ((l.take k).all (fun x => filedB x.kind) = true)) (fun i _ => l.length - (intOf i).toNat)
  case atStart => exact ⟨0, by omega, rfl, hb1, rfl⟩
  case round =>
    clear hb1
    obtain ⟨k, hk, rfl, HB, HK⟩ := hrel
    obtain ⟨wo, rfl⟩ : ∃ wo : World, wo = wr := ⟨_, rfl⟩
    by_cases hlt : k < l.length
    · obtain ⟨bk, off, rfl, hc⟩ := (HV.out.below HB.out).cells (by rw [lns_len]; omega)
      have hbl := hc.1
      obtain ⟨c0, c1, c2⟩ := hc.ln hlt
      have i1 : (k : Int) < (l.length : Int) := by omega
      have HTK : Hid ((l.take (k + 1)).all (fun x => filedB x.kind) = filedB (l[k]).kind) := by
        rw [Hid, List.take_succ_eq_append_getElem hlt, List.all_append, HK.out]; simp
      have HNO : Hid (filedB (l[k]).kind = false → formR l = false) := fun h => by
        rw [HFR.out, Bool.and_true, Bool.eq_false_iff]
        intro hh
        have := List.all_eq_true.1 hh _ (List.getElem_mem hlt)
        rw [h] at this; cases this
      obtain ⟨x, hx⟩ : ∃ x, l[k] = x := ⟨_, rfl⟩
      rw [hx] at c0 c1 c2 HTK HNO
      have HFI := Lib.hid (Filed_any x.kind wo)
      clear hx hc
      cases hf : filedB x.kind
      · rw [hf] at HFI
        have HE := Lib.hid (HNO.out hf)
        clear hf HNO HTK
        go_wp2_with fail
        refine HFI.out.mono ?_
        rintro e w' ⟨rfl, rfl⟩
        go_wp2
        go_ret
        exact ⟨ret_bool HE.out.symm, HB.out⟩
      · rw [hf] at HFI HTK
        clear hf HNO
        go_wp2_with fail
        refine HFI.out.mono ?_
        rintro e w' ⟨rfl, rfl⟩
        go_wp2
        go_roundw
        case rel => exact ⟨k + 1, by omega, by go_num, HB.out, HTK.out⟩
        case measure => simp [intOf]; omega
    · have hkk : k = l.length := by omega
      have HE : Hid (formR l = true) := by
        have := HK.out
        rw [List.take_of_length_le (by omega)] at this
        rw [Hid, HFR.out, this]; rfl
      subst hkk
      go_wp2
      go_ret
      exact ⟨ret_bool HE.out.symm, HB.out⟩
set_option maxRecDepth 100000 in
set_option maxHeartbeats 2000000 in
theorem refValidR_any (r : Ret) (v : Value) (w : World) (hv : Sl w 3 v (lns r.l)) :
    Calls Tryz.prog 16 #[.agg (r.vals v)] w fun e w' => e = .returned (.bool (retB r)) ∧ Below w.heap.size w w' := by
  have HV := Lib.hid hv
  obtain ⟨A, cap, rfl, h1, h2, _, _⟩ := hv
  rw [lns_len] at h1 HV ⊢
  unfold maxLen at h2
  obtain ⟨n, d, l⟩ := r
  have hvals : Ret.vals ⟨n, d, l⟩ (.slice A l.length cap) = #[.int .i64 n, .int .i64 d, .slice A l.length cap] := rfl
  simp only [hvals] at h1 HV ⊢
  have HRB : Hid (retB ⟨n, d, l⟩ = (decide (0 ≤ n) && (decide (n ≤ 84005) && (decide (1 ≤ d) && (decide (d ≤ 65536) && (decide (l.length ≤ 256) && formR l)))))) := rfl
  clear hvals
  by_cases q1 : 0 ≤ n
  rotate_left
  · have HF : Hid (retB ⟨n, d, l⟩ = false) := by rw [Hid, HRB.out, decide_eq_false q1]; rfl
    go_enter Tryz.func16, Tryz.ntmps16
    go_wp2
    go_ret
    exact ⟨ret_bool HF.out.symm, (Below.refl _ _).alloc (Nat.le_refl _) _⟩
  by_cases q2 : n ≤ 84005
  rotate_left
  · have HF : Hid (retB ⟨n, d, l⟩ = false) := by rw [Hid, HRB.out, decide_eq_false q2]; simp
    go_enter Tryz.func16, Tryz.ntmps16
    go_wp2
    go_ret
    exact ⟨ret_bool HF.out.symm, (Below.refl _ _).alloc (Nat.le_refl _) _⟩
  by_cases q3 : 1 ≤ d
  rotate_left
  · have HF : Hid (retB ⟨n, d, l⟩ = false) := by rw [Hid, HRB.out, decide_eq_false q3]; simp
    go_enter Tryz.func16, Tryz.ntmps16
    go_wp2
    go_ret
    exact ⟨ret_bool HF.out.symm, (Below.refl _ _).alloc (Nat.le_refl _) _⟩
  by_cases q4 : d ≤ 65536
  rotate_left
  · have HF : Hid (retB ⟨n, d, l⟩ = false) := by rw [Hid, HRB.out, decide_eq_false q4]; simp
    go_enter Tryz.func16, Tryz.ntmps16
    go_wp2
    go_ret
    exact ⟨ret_bool HF.out.symm, (Below.refl _ _).alloc (Nat.le_refl _) _⟩
  by_cases q5 : l.length ≤ 256
  rotate_left
  · have HF : Hid (retB ⟨n, d, l⟩ = false) := by rw [Hid, HRB.out, decide_eq_false q5]; simp
    go_enter Tryz.func16, Tryz.ntmps16
    go_wp2
    go_ret
    exact ⟨ret_bool HF.out.symm, (Below.refl _ _).alloc (Nat.le_refl _) _⟩
  have HF : Hid (retB ⟨n, d, l⟩ = formR l) := by
    rw [Hid, HRB.out, decide_eq_true q1, decide_eq_true q2, decide_eq_true q3, decide_eq_true q4, decide_eq_true q5]; rfl
  have hB := (Below.refl w.heap.size w).alloc (Nat.le_refl _) (.cells #[.int .i64 n, .int .i64 d, .slice A l.length cap] 25)
  have HC := Lib.hid (FormL_any l (.slice A l.length cap) _ (HV.out.below hB))
  go_enter Tryz.func16, Tryz.ntmps16
  go_wp2_with fail
  refine HC.out.mono ?_
  rintro e w1 ⟨rfl, hb1⟩
  have hB1 := below_after hB hb1 hB.size
  clear hB hb1
  go_wp2
  go_ret
  exact ⟨ret_bool HF.out.symm, hB1⟩
end Go.Proofs.YtnkephafpebfkaaGreatDoor
/- Contracts of the reference: Word, Text, Encode. -/
namespace Go.Proofs.YtnkephafpebfkaaGreatDoor
open Go.RowKit Go.Shelf

theorem word_at (j : Nat) (h : j < 10) : (#[Value.string ⟨#[101, 97, 114, 110, 105, 110, 103]⟩, .string ⟨#[98, 101, 110, 101, 102, 105, 116]⟩, .string ⟨#[98, 101, 102, 111, 114, 101]⟩, .string ⟨#[108, 101, 118, 121]⟩, .string ⟨#[101, 109, 112, 108, 111, 121, 101, 114]⟩, .string ⟨#[116, 97, 120]⟩, .string ⟨#[97, 116, 116, 97, 99, 104, 101, 100]⟩, .string ⟨#[97, 102, 116, 101, 114]⟩, .string ⟨#[110, 101, 116]⟩, .string ⟨#[115, 104, 111, 114, 116]⟩] : Array Value)[j]? = some (.string (bsOf (wAll.getD j []))) := by
  match j, h with
  | 0, _ => rfl
  | 1, _ => rfl
  | 2, _ => rfl
  | 3, _ => rfl
  | 4, _ => rfl
  | 5, _ => rfl
  | 6, _ => rfl
  | 7, _ => rfl
  | 8, _ => rfl
  | 9, _ => rfl
theorem wordL_out {k : Int} (h : k < 1 ∨ 10 < k) : wordL k = [] := by
  unfold wordL
  rcases h with h | h
  · rw [if_neg (by omega)]
  · rw [if_pos (by omega), List.getD, List.getElem?_eq_none]
    · rfl
    · show wAll.length ≤ _
      have : wAll.length = 10 := rfl
      omega
theorem wordR_any (k : Int) (w : World) (h0 : -9223372036854775808 ≤ k) (h1 : k ≤ 9223372036854775807) :
    Calls Tryz.prog 61 #[.int .i64 k] w fun e w' => e = .returned (.string (bsOf (wordL k))) ∧ Below w.heap.size w w' := by
  by_cases q0 : k < 1
  · have H : Hid (bsOf (wordL k) = ⟨#[]⟩) := by rw [Hid, wordL_out (.inl q0)]; rfl
    go_enter Tryz.func61, Tryz.ntmps61
    go_wp2
    go_ret
    exact ⟨by rw [H.out]; rfl, (Below.refl _ _).alloc (Nat.le_refl _) _⟩
  by_cases q1 : 10 < k
  · have H : Hid (bsOf (wordL k) = ⟨#[]⟩) := by rw [Hid, wordL_out (.inr q1)]; rfl
    go_enter Tryz.func61, Tryz.ntmps61
    go_wp2
    go_ret
    exact ⟨by rw [H.out]; rfl, (Below.refl _ _).alloc (Nat.le_refl _) _⟩
  obtain ⟨j, hj⟩ : ∃ j : Nat, k = (j : Int) + 1 := ⟨(k - 1).toNat, by omega⟩
  subst hj
  have hj10 : j < 10 := by omega
  have H : Hid (wordL ((j : Int) + 1) = wAll.getD j []) := by
    unfold wordL
    rw [Hid, if_pos (by omega), show ((j : Int) + 1 - 1).toNat = j by omega]
  have HC := Lib.hid (word_at j hj10)
  have s1 : IntKind.i64.wrap ((j : Int) + 1 - 1) = (j : Int) := by rw [show (j : Int) + 1 - 1 = (j : Int) by omega]; exact IntWalk.i64_in _ (by omega)
  have s2 : ((j : Int) + 1 - 1) = (j : Int) := by omega
  have c0 : ∀ (o : Array Value), o[j]? = some (.string (bsOf (wAll.getD j []))) → (w.alloc (.cells o 9)).cell? ⟨w.heap.size, j, none⟩ = some (.string (bsOf (wAll.getD j []))) := fun o ho => by
    rw [World.cell?_alloc_new]; exact ho
  have c1 := c0 _ HC.out
  clear c0
  go_enter Tryz.func61, Tryz.ntmps61
  go_wp2
  go_ret
  exact ⟨by rw [H.out]; rfl, (Below.refl _ _).alloc (Nat.le_refl _) _⟩
theorem word_sz {x : Ln} (h : Formed x) : (bsOf (wordL x.kind)).size ≤ 8 := by
  obtain ⟨j, hj, _, hw⟩ := h.wd
  have hf := word_free j hj
  rw [bsOf_size, hw]
  exact hf.2.2
theorem lnT_bare {x : Ln} (h : bareB x.kind = true) : lnT x ++ [10] = wordL x.kind ++ [32] ++ Lib.itoa x.amt ++ [10] := by
  rw [lnT, wordsL, if_pos h]; simp [joinBy]
theorem lnT_code {x : Ln} (h : bareB x.kind = false) : lnT x ++ [10] = wordL x.kind ++ [32] ++ x.code.data.toList ++ [32] ++ Lib.itoa x.amt ++ [10] := by
  rw [lnT, wordsL, h]; simp [joinBy]
set_option maxRecDepth 100000 in
set_option maxHeartbeats 2000000 in
theorem Text_any (x : Ln) (w : World) (hf : Formed x) :
    Calls Tryz.prog 39 #[.agg #[.int .i64 x.kind, .string x.code, .int .i64 x.amt]] w fun e w' => e = .returned (.string (bsOf (lnT x ++ [10]))) ∧ Below w.heap.size w w' := by
  have a0 := hf.a0
  have a1 := hf.a1
  have k0 := hf.k0
  have k1 := hf.k1
  have hB := (Below.refl w.heap.size w).alloc (Nat.le_refl _) (.cells #[.int .i64 x.kind, .string x.code, .int .i64 x.amt] 56)
  have hr := Row.new w 56 #[.int .i64 x.kind, .string x.code, .int .i64 x.amt]
  obtain ⟨w1, hw1⟩ : ∃ w1, w.alloc (.cells #[.int .i64 x.kind, .string x.code, .int .i64 x.amt] 56) = w1 := ⟨_, rfl⟩
  rw [hw1] at hB hr
  obtain ⟨⟨y0, y1, y2, yl⟩, -⟩ := row3 hr
  have z0 := ext_cell yl y0
  have z1 := ext_cell yl y1
  have z2 := ext_cell yl y2
  have HW := Lib.hid (fun y : Ext w1 => wordR_any x.kind y.val (by omega) (by omega))
  have HD : Hid (∀ y : Ext w1, Calls Tryz.prog 38 #[.int .i64 x.amt] y.val fun e w' => e = .returned (.string (bsOf (Lib.itoa x.amt))) ∧ Below y.val.heap.size y.val w') := fun y => (Decimal_any x.amt y.val (by omega) (by omega)).mono fun _ _ h => h.bs
  have s1 := word_sz hf
  have s2 := itoa_20 x.amt (by omega) (by omega)
  have s3 := code_len hf
  have HBY : Hid (∀ y : Ext w1, Below w.heap.size w y.val) := fun y => below_after hB y.property hB.size
  obtain ⟨W, hW⟩ : ∃ W, wordL x.kind = W := ⟨_, rfl⟩
  obtain ⟨I, hI⟩ : ∃ I, Lib.itoa x.amt = I := ⟨_, rfl⟩
  rw [hW] at HW s1
  rw [hI] at HD s2
  have HIW := Lib.hid (And.intro hW hI)
  clear hB hr hW hI hf
  go_enter Tryz.func39, Tryz.ntmps39
  go_wp2_with fail
  cases hb : bareB x.kind
  · have HT : Hid (lnT x ++ [10] = W ++ [32] ++ x.code.data.toList ++ [32] ++ I ++ [10]) := by rw [Hid, lnT_code hb, HIW.out.1, HIW.out.2]
    refine (refBare_any x.kind _).mono ?_
    rintro e w' ⟨rfl, rfl⟩
    rw [hb]
    clear hb y0 y1 y2
    go_wp2_with fail
    refine region_ext (by kernel_rfl) (by kernel_rfl) ?_
    repeat (go_big_quiet_step (first | (go_at_call 61; exact ext_call (HW.out _)) | (go_at_call 38; exact ext_call (HD.out _))))
    refine wpQuiet_nil ?_
    rintro _ ⟨y, rfl⟩
    go_wp2
    refine bodyPost_ret (v := .string _) (by simp [results, Tryz.results39, go_sem]; rfl) rfl ?_
    refine ⟨?_, HBY.out y⟩
    congr 2
    refine bsOf_eq ?_
    rw [HT.out]
    simp only [app_list, bsOf_list]
  · have HT : Hid (lnT x ++ [10] = W ++ [32] ++ I ++ [10]) := by rw [Hid, lnT_bare hb, HIW.out.1, HIW.out.2]
    refine (refBare_any x.kind _).mono ?_
    rintro e w' ⟨rfl, rfl⟩
    rw [hb]
    clear hb y0 y1 y2
    go_wp2_with fail
    refine region_ext (by kernel_rfl) (by kernel_rfl) ?_
    repeat (go_big_quiet_step (first | (go_at_call 61; exact ext_call (HW.out _)) | (go_at_call 38; exact ext_call (HD.out _))))
    refine wpQuiet_nil ?_
    rintro _ ⟨y, rfl⟩
    go_wp2
    refine bodyPost_ret (v := .string _) (by simp [results, Tryz.results39, go_sem]; rfl) rfl ?_
    refine ⟨?_, HBY.out y⟩
    congr 2
    refine bsOf_eq ?_
    rw [HT.out]
    simp only [app_list, bsOf_list]
set_option maxRecDepth 100000 in
set_option maxHeartbeats 4000000 in
theorem refEncodeR_any (r : Ret) (v : Value) (w : World) (hv : Sl w 3 v (lns r.l)) :
    Calls Tryz.prog 14 #[.agg (r.vals v)] w fun e w' => e = .returned (.tuple #[.string (bsOf (encT r)), .int .i64 (encE r)]) ∧ Below w.heap.size w w' := by
  have HV := Lib.hid hv
  obtain ⟨A, cap, rfl, h1, h2, _, _⟩ := hv
  rw [lns_len] at h1 HV ⊢
  unfold maxLen at h2
  obtain ⟨n, d, l⟩ := r
  have hvals : Ret.vals ⟨n, d, l⟩ (.slice A l.length cap) = #[.int .i64 n, .int .i64 d, .slice A l.length cap] := rfl
  simp only [hvals] at h1 HV ⊢
  have hR := Row.new w 25 #[.int .i64 n, .int .i64 d, .slice A l.length cap]
  have hB := (Below.refl w.heap.size w).alloc (Nat.le_refl _) (.cells #[.int .i64 n, .int .i64 d, .slice A l.length cap] 25)
  obtain ⟨w0, hw0⟩ : ∃ w0, w.alloc (.cells #[.int .i64 n, .int .i64 d, .slice A l.length cap] 25) = w0 := ⟨_, rfl⟩
  rw [hw0] at hR hB
  have HVA : Hid (Calls Tryz.prog 16 #[.agg #[.int .i64 n, .int .i64 d, .slice A l.length cap]] w0 fun e w' => e = .returned (.bool (retB ⟨n, d, l⟩)) ∧ Below w0.heap.size w0 w') := refValidR_any ⟨n, d, l⟩ _ w0 (HV.out.below hB)
  clear hvals
  obtain ⟨g, hg⟩ : ∃ g, w.heap.size = g := ⟨_, rfl⟩
  rw [hg] at hR
  obtain ⟨⟨x0, x1, x2, xl⟩, -⟩ := row3 hR
  go_enter Tryz.func14, Tryz.ntmps14
  go_wp2_with fail
  clear hw0 hg x0 x1 x2 xl
  refine HVA.out.mono ?_
  rintro e w1 ⟨rfl, hb1⟩
  have hB1 := below_after hB hb1 hB.size
  have hR1 := hR.below hb1 hR.lt
  clear hB hR hb1 HVA
  cases hfv : retB ⟨n, d, l⟩
  · have HE : Hid (bsOf (encT ⟨n, d, l⟩) = ⟨#[]⟩ ∧ encE ⟨n, d, l⟩ = 1) := ⟨by rw [encT, hfv]; rfl, by rw [encE, hfv]; rfl⟩
    clear hfv
    go_wp2
    refine bodyPost_ret (v := .tuple #[.string ⟨#[]⟩, .int .i64 1]) (by simp [results, Tryz.results14, go_sem]) rfl ?_
    exact ⟨by rw [HE.out.1, HE.out.2], hB1⟩
  have hok := (retB_iff _).1 hfv
  have f1 := hok.p0
  have f2 := hok.p1
  have f3 := hok.v0
  have f4 := hok.v1
  have f5 := hok.n
  simp only at f1 f2 f3 f4 f5
  have HF := Lib.hid (fun x hx => formed_of (formB_formed (hok.f x hx)))
  have HE : Hid (encT ⟨n, d, l⟩ = headR n d ++ [10] ++ lnsT l ++ (wEnd ++ [10]) ∧ encE ⟨n, d, l⟩ = 0) := ⟨by rw [encT, hfv, if_pos rfl, retT_eq], by rw [encE, hfv]; rfl⟩
  have hc : ∀ (x : Int) (w : World), -9223372036854775808 ≤ x → x ≤ 9223372036854775807 → Calls Tryz.prog 38 #[.int .i64 x] w fun e w' => e = .returned (.string (bsOf (Lib.itoa x))) ∧ Below w.heap.size w w' := fun x w g1 g2 => (Decimal_any x w g1 g2).mono fun _ _ h => h.bs
  have HC := Lib.hid hc
  have s1 := itoa_20 n (by omega) (by omega)
  have s2 := itoa_20 d (by omega) (by omega)
  clear hfv hok hc
  obtain ⟨⟨x0, x1, x2, xl⟩, -⟩ := row3 hR1
  have y0 := ext_cell xl x0
  have y1 := ext_cell xl x1
  have hbx : Hid (∀ y : Ext w1, Below w.heap.size w y.val ∧ Row y.val g 25 #[.int .i64 n, .int .i64 d, .slice A l.length cap]) := fun y => ⟨hB1.trans (y.property.mono hB1.size), hR1.below y.property xl⟩
  clear x0 x1 x2
  go_wp2_with fail
  refine region_ext (by kernel_rfl) (by kernel_rfl) ?_
  repeat (go_big_quiet_step ((go_at_call 38; exact ext_call (HC.out _ _ (by omega) (by omega)))))
  refine wpQuiet_nil ?_
  rintro _ ⟨y, rfl⟩
  obtain ⟨hBy, hRy⟩ := hbx.out y
  obtain ⟨hd, hhd⟩ : ∃ hd : ByteArray, (⟨#[114, 101, 116, 117, 114, 110, 32]⟩ ++ bsOf (Lib.itoa n) ++ ⟨#[32, 118, 101, 114, 115, 105, 111, 110, 32]⟩ ++ bsOf (Lib.itoa d) ++ ⟨#[10]⟩ : ByteArray) = hd := ⟨_, rfl⟩
  have hH : hd.data.toList = headR n d ++ [10] := by
    rw [← hhd, headR_eq]; simp only [app_list, bsOf_list]
  have hz0 : hd.size ≤ 500 := by
    rw [← hhd]
    simp only [ByteArray.size_append]
    have a1 : (⟨#[114, 101, 116, 117, 114, 110, 32]⟩ : ByteArray).size = 7 := rfl
    have a2 : (⟨#[32, 118, 101, 114, 115, 105, 111, 110, 32]⟩ : ByteArray).size = 9 := rfl
    have a3 : (⟨#[10]⟩ : ByteArray).size = 1 := rfl
    omega
  have HH := Lib.hid hH
  generalize y.val = w2 at hBy hRy ⊢
  rw [hhd]
  clear hhd hH y0 y1 hbx hB1 hR1 xl s1 s2 y
  have HS0 : Hid (hd.data.toList = headR n d ++ [10] ++ lnsT (l.take 0)) := by rw [Hid, HH.out]; simp [lnsT]
  have HB0 := Lib.hid (And.intro hBy hRy)
  clear hBy hRy HH
  go_wp2_with fail
  go_loopw [4, 5] (fun o i wr => ∃ (s : ByteArray) (k : Nat), o = .string s ∧ i = .int .i64 k ∧ k ≤ l.length ∧ s.size ≤ 500 + 500 * k ∧ Hid (s.data.toList = headR n d ++ [10] ++ lnsT (l.take k)) ∧ Hid (Below w.heap.size w wr ∧ Row wr g 25 #[.int .i64 n, .int .i64 d, .slice A l.length cap])) (fun _ i _ => l.length - (intOf i).toNat)
  case atStart => exact ⟨hd, 0, rfl, rfl, by omega, by omega, HS0.out, HB0.out⟩
  case round =>
    clear HS0 HB0 hz0
    obtain ⟨s, k, rfl, rfl, hk, hsz, HS, HB⟩ := hrel
    obtain ⟨wo, rfl⟩ : ∃ wo : World, wo = wr := ⟨_, rfl⟩
    obtain ⟨⟨x0, x1, x2, xl⟩, -⟩ := row3 HB.out.2
    by_cases hlt : k < l.length
    · obtain ⟨bk, off, rfl, hcw⟩ := HV.out.cells (by rw [lns_len]; omega)
      have hc0 := hcw.below HB.out.1 hcw.1
      have hbl := hc0.1
      obtain ⟨c0, c1, c2⟩ := hc0.ln hlt
      have HTK := Lib.hid (lnsT_snoc hlt)
      have hfx := HF.out _ (List.getElem_mem hlt)
      have hll := lnT_len hfx
      obtain ⟨x, hx⟩ : ∃ x, l[k] = x := ⟨_, rfl⟩
      rw [hx] at c0 c1 c2 HTK hfx hll
      have HTXT := Lib.hid (Text_any x wo hfx)
      have i1 : (k : Int) < (l.length : Int) := by omega
      obtain ⟨T, hT⟩ : ∃ T, bsOf (lnT x ++ [10]) = T := ⟨_, rfl⟩
      have HTL : Hid (T.data.toList = lnT x ++ [10]) := by rw [Hid, ← hT, bsOf_list]
      have htz : T.size ≤ 100 := by rw [← hT, bsOf_size, List.length_append, List.length_singleton]; omega
      rw [hT] at HTXT
      clear hx hcw hc0 hfx hT
      go_wp2_with fail
      refine HTXT.out.mono ?_
      rintro e w3 ⟨rfl, hb3⟩
      have HB3 : Hid (Below w.heap.size w w3 ∧ Row w3 g 25 #[.int .i64 n, .int .i64 d, .slice (some ⟨bk, off, none⟩) l.length cap]) := ⟨below_after HB.out.1 hb3 HB.out.1.size, HB.out.2.below hb3 xl⟩
      clear x0 x1 x2 xl c0 c1 c2 hb3 HTXT HB hbl
      obtain ⟨ns, hns⟩ : ∃ ns : ByteArray, s ++ T = ns := ⟨_, rfl⟩
      have HN : Hid (ns.data.toList = headR n d ++ [10] ++ lnsT (l.take (k + 1))) := by
        rw [Hid, ← hns, HTK.out, app_list, HS.out, HTL.out]; simp only [List.append_assoc]
      have hNz : ns.size ≤ 500 + 500 * (k + 1) := by rw [← hns, ByteArray.size_append]; omega
      have HNS := Lib.hid hns
      clear hns
      go_wp2
      go_roundw
      case rel => exact ⟨ns, k + 1, by rw [HNS.out], by go_num, by omega, hNz, HN.out, HB3.out⟩
      case measure => simp [intOf]; omega
    · obtain rfl : k = l.length := by omega
      have HS1 : Hid (s.data.toList = headR n d ++ [10] ++ lnsT l) := by rw [Hid, HS.out, List.take_length]
      have HBF := Lib.hid HB.out.1
      clear HS HB
      go_wp2
      refine bodyPost_ret (v := .tuple #[.string _, .int .i64 0]) (by simp [results, Tryz.results14, go_sem]; rfl) rfl ?_
      refine ⟨?_, HBF.out⟩
      rw [HE.out.2]
      congr 4
      refine congrArg Value.string (bsOf_eq ?_)
      rw [HE.out.1, app_list, HS1.out]; rfl
end Go.Proofs.YtnkephafpebfkaaGreatDoor
/- Contract of ref34.Line. Written by gen_rfln.py. -/
namespace Go.Proofs.YtnkephafpebfkaaGreatDoor
open Go.RowKit Go.Shelf

/-- the call returns the line that some words are, or says that they are none -/
def LnP (L : List (List UInt8)) (w : World) (e : Ending) (w' : World) : Prop :=
  ∃ (x : Ln) (b : Bool), e = .returned (.tuple #[.agg #[.int .i64 x.kind, .string x.code, .int .i64 x.amt], .bool b]) ∧ ((b = true ∧ IsLn L x) ∨ (b = false ∧ NoLine L)) ∧ Below w.heap.size w w'
/-- the result's box, as at the start -/
structure LnS (w : World) (r : Nat) (wx : World) : Prop where
  res : Row wx r 56 #[.int .i64 0, .string ⟨#[]⟩, .int .i64 0]
  below : Below w.heap.size w wx
theorem LnS.same {w wx w' : World} {r : Nat} (h : LnS w r wx) (hb : Below wx.heap.size wx w') : LnS w r w' := ⟨h.res.below hb h.res.lt, below_after h.below hb h.below.size⟩
theorem str_yes2 {q T : ByteArray} (h : q.data.toList = T.data.toList) : (q.toList == T.toList) = true ∧ q.toList = T.toList := by
  rw [ByteArray.toList_eq, ByteArray.toList_eq, h]; simp
theorem str_no2 {q T : ByteArray} (h : ¬ q.data.toList = T.data.toList) : (q.toList == T.toList) = false ∧ ¬ q.toList = T.toList := by
  rw [ByteArray.toList_eq, ByteArray.toList_eq]; exact ⟨by simpa using h, h⟩
theorem wds3 {W : List ByteArray} (hl : W.length = 3) : ∃ a b c, W = [a, b, c] := by
  match W, hl with
  | [a, b, c], _ => exact ⟨a, b, c, rfl⟩
theorem wds2 {W : List ByteArray} (hl : W.length = 2) : ∃ a b, W = [a, b] := by
  match W, hl with
  | [a, b], _ => exact ⟨a, b, rfl⟩
set_option maxRecDepth 100000 in
set_option maxHeartbeats 8000000 in
theorem refLine_any (W : List ByteArray) (A : Option Addr) (cap : Nat) (w : World) (hv : Sl w 1 (.slice A W.length cap) (txts W)) (h0 : 0 < W.length) (hz : ∀ p ∈ W, p.size ≤ 1000000000) :
    Calls Tryz.prog 47 #[.slice A W.length cap] w (LnP (W.map (·.data.toList)) w) := by
  obtain ⟨bk, off, rfl, hc⟩ := hv.cells (by rw [txts_len]; omega)
  have q0 := hc.txt (k := 0) h0
  rw [Nat.add_zero] at q0
  have hbl := hc.1
  have HC := Lib.hid hc
  have HZ := Lib.hid hz
  obtain ⟨a, ha⟩ : ∃ a, W[0] = a := ⟨_, rfl⟩
  obtain ⟨R, hR⟩ : ∃ R, (W.map (·.data.toList)).drop 1 = R := ⟨_, rfl⟩
  have HWM : Hid (W.map (·.data.toList) = a.data.toList :: R) := by
    rw [Hid, ← hR, ← ha]
    cases W with
    | nil => simp at h0
    | cons x t => rfl
  rw [ha] at q0
  have hr0 := Row.new w 56 #[.int .i64 0, .string ⟨#[]⟩, .int .i64 0]
  have hB0 := (Below.refl w.heap.size w).alloc (Nat.le_refl _) (.cells #[.int .i64 0, .string ⟨#[]⟩, .int .i64 0] 56)
  clear hv hc hz ha hR
  go_enter Tryz.func47, Tryz.ntmps47
  go_wp2_with fail
  obtain ⟨w0, hw0⟩ : ∃ w0, w.alloc (.cells #[.int .i64 0, .string ⟨#[]⟩, .int .i64 0] 56) = w0 := ⟨_, rfl⟩
  rw [hw0] at hr0 hB0 ⊢
  obtain ⟨r, hr⟩ : ∃ r, w.heap.size = r := ⟨_, rfl⟩
  rw [hr] at hr0 ⊢
  have hwr : w.heap.size ≤ r := by omega
  have HS0 : Hid (LnS w r w0) := ⟨hr0, hB0⟩
  clear hw0 hr hr0 hB0
  go_loopw [4] (fun i wr => ∃ j : Nat, j ≤ 10 ∧ i = .int .i64 ((j : Int) + 1) ∧ Hid (LnS w r wr) ∧ Hid (∀ q : Nat, q < j → ¬ a.data.toList = wAll.getD q [])) (fun i _ => 11 - (intOf i).toNat)
  case atStart => exact ⟨0, by omega, rfl, HS0, fun q hq => by omega⟩
  case round =>
    clear HS0
    obtain ⟨j, hj, rfl, HS, HK⟩ := hrel
    obtain ⟨wo, rfl⟩ : ∃ wo : World, wo = wr := ⟨_, rfl⟩
    have hbo := HS.out.below.size
    by_cases hlt : j < 10
    · have i1 : decide ((j : Int) + 1 ≤ 10) = true := by simp; omega
      have HW : Hid (∀ y : Ext wo, Calls Tryz.prog 61 #[.int .i64 ((j : Int) + 1)] y.val fun e w' => e = .returned (.string (bsOf (wordL ((j : Int) + 1)))) ∧ Below y.val.heap.size y.val w') := fun y => wordR_any _ y.val (by omega) (by omega)
      obtain ⟨T, hT⟩ : ∃ T, bsOf (wordL ((j : Int) + 1)) = T := ⟨_, rfl⟩
      have HTL : Hid (T.data.toList = wAll.getD j []) := by rw [Hid, ← hT, bsOf_list, wordL_at hlt]
      rw [hT] at HW
      have hblo := Nat.lt_of_lt_of_le hbl hbo
      have g0 := ext_cell hblo ((HS.out.below.cell (p := ⟨bk, off, none⟩) hbl).trans q0)
      have hbx : Hid (∀ y : Ext wo, LnS w r y.val) := fun y => HS.out.same y.property
      clear hT HS
      go_wp2_with fail
      refine region_ext (by kernel_rfl) (by kernel_rfl) ?_
      repeat (go_big_quiet_step ((go_at_call 61; exact ext_call (HW.out _))))
      refine wpQuiet_nil ?_
      rintro _ ⟨y, rfl⟩
      have HS2 := Lib.hid (hbx.out y)
      generalize y.val = w2 at HS2 ⊢
      clear g0 hbx HW y hbo hblo
      by_cases heq : a.data.toList = T.data.toList
      rotate_left
      · obtain ⟨t3, t4⟩ := str_no2 heq
        have HK2 : Hid (∀ q : Nat, q < j + 1 → ¬ a.data.toList = wAll.getD q []) := fun q hq => by
          by_cases h : q < j
          · exact HK.out q h
          · obtain rfl : q = j := by omega
            rw [← HTL.out]; exact heq
        have s1 : IntKind.i64.wrap ((j : Int) + 1 + 1) = (j : Int) + 1 + 1 := IntWalk.i64_in _ (by omega)
        clear heq
        simp only [t3, Bool.not_false]
        go_wp2
        go_roundw
        case rel => exact ⟨j + 1, by omega, by go_num, HS2, HK2⟩
        case measure => simp [intOf]; omega
      obtain ⟨t3, t4⟩ := str_yes2 heq
      simp only [t3, Bool.not_true]
      have HAT : Hid (a.data.toList = wAll.getD j []) := by rw [Hid, heq, HTL.out]
      have hS2 := HS2.out
      have hb2 := hS2.below.size
      have hal := (Below.refl w2.heap.size w2).alloc (Nat.le_refl _) (.cells #[.int .i64 ((j : Int) + 1), .string ⟨#[]⟩, .int .i64 0] 56)
      have hX := Row.new w2 56 #[.int .i64 ((j : Int) + 1), .string ⟨#[]⟩, .int .i64 0]
      have i2 : ((j : Int) + 1 ≤ 10) := by omega
      go_wp2_with fail
      obtain ⟨w3, hw3⟩ : ∃ w3, w2.alloc (.cells #[.int .i64 ((j : Int) + 1), .string ⟨#[]⟩, .int .i64 0] 56) = w3 := ⟨_, rfl⟩
      rw [hw3] at hal hX ⊢
      obtain ⟨m, hm⟩ : ∃ m, w2.heap.size = m := ⟨_, rfl⟩
      have hS3 := hS2.same hal
      have hrm : r ≠ m := by have := hS2.res.lt; omega
      have hmw : w.heap.size ≤ m := by omega
      have hb3 := hS3.below.size
      have HC3 := Lib.hid (HC.out.below hS3.below hbl)
      have hbl3 := Nat.lt_of_lt_of_le hbl hb3
      rw [hm] at hX ⊢
      clear heq HTL hS2 hal HS2 HK hb2 hb3 hw3 hm t3 t4
      refine (refBare_any _ _).mono ?_
      rintro e w4 ⟨rfl, rfl⟩
      cases hb : bareB ((j : Int) + 1)
      · have HBR := Lib.hid hb
        clear hb
        by_cases hl3 : W.length = 3
        rotate_left
        · have hn : ((W.length : Int) != 3) = true := by simp; omega
          have HN : Hid (NoLine (W.map (·.data.toList))) := by
            rw [Hid, HWM.out]
            refine noLn_full hlt HAT.out HBR.out ?_
            rw [← HWM.out, List.length_map]; exact hl3
          clear hl3
          have HQ := Lib.hid (Below.set3 hS3.below hwr (.int .i64 0) (.string ⟨#[]⟩) (.int .i64 0))
          have HR := Lib.hid (row3 (Row.set3 hS3.res (.int .i64 0) (.string ⟨#[]⟩) (.int .i64 0))).1
          obtain ⟨⟨a0, a1, a2, al⟩, ⟨b0, b1, b2⟩⟩ := row3 hS3.res
          go_wp2
          obtain ⟨z0, z1, z2, -⟩ := HR.out
          refine bodyPost_ret (v := .tuple #[.agg #[.int .i64 0, .string ⟨#[]⟩, .int .i64 0], .bool false]) (by simp only [results, Tryz.results47, go_sem]; simp [z0, z1, z2, go_sem]) rfl ?_
          exact ⟨⟨0, ⟨#[]⟩, 0⟩, false, rfl, .inr ⟨rfl, HN.out⟩, HQ.out⟩
        obtain ⟨a', b, c, rfl⟩ := wds3 hl3
        have zc := HZ.out c (by simp)
        have hS4 : LnS w r (w3.setCell ⟨m, 1, none⟩ (.string b)) := ⟨hS3.res.far (p := ⟨m, 1, none⟩) hrm _, hS3.below.setCell (p := ⟨m, 1, none⟩) hmw _⟩
        have g1 := HC3.out.txt (k := 1) (by simp)
        have g2 := (HC.out.below hS4.below hbl).txt (k := 2) (by simp)
        simp only [List.getElem_cons_succ, List.getElem_cons_zero] at g1 g2
        have HLF := Lib.hid (ln_full hlt HAT.out HBR.out (c := b) (b := c.data.toList))
        have HWE : Hid ([a', b, c].map (·.data.toList) = [a.data.toList, b.data.toList, c.data.toList]) := by
          have := HWM.out
          simp only [List.map_cons, List.map_nil, List.cons.injEq] at this
          rw [Hid]; simp [this.1]
        have hX4 := hX.set 1 (.string b)
        have hX4' : Row (w3.setCell ⟨m, 1, none⟩ (.string b)) m 56 #[.int .i64 ((j : Int) + 1), .string b, .int .i64 0] := hX4
        obtain ⟨⟨x0, x1, x2, xl⟩, ⟨f0, f1, f2⟩⟩ := row3 hX
        have h3 : ([a', b, c] : List ByteArray).length = 3 := rfl
        rw [h3]
        clear hl3 hX hX4 h3
        go_wp2_with fail
        clear x0 x1 x2 xl f0 f1 f2 g1
        obtain ⟨w4, hw4⟩ : ∃ w4, w3.setCell ⟨m, 1, none⟩ (.string b) = w4 := ⟨_, rfl⟩
        rw [hw4] at hS4 hX4' g2 ⊢
        clear hw4 hS3 HC3 hbl3 g2
        refine (Number_any c w4 (by omega)).mono ?_
        rintro e w5 ⟨rfl, rfl⟩
        obtain ⟨o, ho⟩ : ∃ o, numZ c.data.toList = o := ⟨_, rfl⟩
        rw [ho] at HLF ⊢
        clear ho
        cases o with
        | none =>
          simp only [Option.getD_none, Option.isSome_none]
          have HN : Hid (NoLine ([a', b, c].map (·.data.toList))) := by rw [Hid, HWE.out]; exact HLF.out.1 rfl
          have hX5 : Row (w4.setCell ⟨m, 2, none⟩ (.int .i64 0)) m 56 #[.int .i64 ((j : Int) + 1), .string b, .int .i64 0] := hX4'.set 2 (.int .i64 0)
          have hS5 : LnS w r (w4.setCell ⟨m, 2, none⟩ (.int .i64 0)) := ⟨hS4.res.far (p := ⟨m, 2, none⟩) hrm _, hS4.below.setCell (p := ⟨m, 2, none⟩) hmw _⟩
          obtain ⟨⟨x0, x1, x2, xl⟩, ⟨f0, f1, f2⟩⟩ := row3 hX4'
          clear HLF HWE
          go_wp2_with fail
          clear x0 x1 x2 xl f0 f1 f2
          obtain ⟨w5, hw5⟩ : ∃ w5, w4.setCell ⟨m, 2, none⟩ (.int .i64 0) = w5 := ⟨_, rfl⟩
          rw [hw5] at hS5 hX5 ⊢
          have HQR : Hid (Below w.heap.size w (((w5.setCell ⟨r, 0, none⟩ (.int .i64 ((j : Int) + 1))).setCell ⟨r, 1, none⟩ (.string b)).setCell ⟨r, 2, none⟩ (.int .i64 0)).drew ∧ Row (((w5.setCell ⟨r, 0, none⟩ (.int .i64 ((j : Int) + 1))).setCell ⟨r, 1, none⟩ (.string b)).setCell ⟨r, 2, none⟩ (.int .i64 0)).drew r 56 #[.int .i64 ((j : Int) + 1), .string b, .int .i64 0]) := ⟨(Below.set3 hS5.below hwr _ _ _).drew, Row.set3 hS5.res _ _ _⟩
          obtain ⟨⟨x0, x1, x2, xl⟩, ⟨f0, f1, f2⟩⟩ := row3 hX5
          obtain ⟨⟨a0, a1, a2, al⟩, ⟨b0, b1, b2⟩⟩ := row3 hS5.res
          clear hw5 hX4' hS4 hS5 hX5
          go_region
          all_goals
            go_wp2
            obtain ⟨W', hW'⟩ : ∃ W', (((w5.setCell ⟨r, 0, none⟩ (.int .i64 ((j : Int) + 1))).setCell ⟨r, 1, none⟩ (.string b)).setCell ⟨r, 2, none⟩ (.int .i64 0)).drew = W' := ⟨_, rfl⟩
            rw [hW'] at HQR ⊢
            obtain ⟨⟨z0, z1, z2, -⟩, -⟩ := row3 HQR.out.2
            clear hW' x0 x1 x2 xl f0 f1 f2 a0 a1 a2 al b0 b1 b2
            refine bodyPost_ret (v := .tuple #[.agg #[.int .i64 ((j : Int) + 1), .string b, .int .i64 0], .bool false]) (by simp only [results, Tryz.results47, go_sem]; simp [z0, z1, z2, go_sem]) rfl ?_
            exact ⟨⟨(j : Int) + 1, b, 0⟩, false, rfl, .inr ⟨rfl, HN.out⟩, HQR.out.1⟩
        | some n =>
          simp only [Option.getD_some, Option.isSome_some]
          have hX5 : Row (w4.setCell ⟨m, 2, none⟩ (.int .i64 n)) m 56 #[.int .i64 ((j : Int) + 1), .string b, .int .i64 n] := hX4'.set 2 (.int .i64 n)
          have hS5 : LnS w r (w4.setCell ⟨m, 2, none⟩ (.int .i64 n)) := ⟨hS4.res.far (p := ⟨m, 2, none⟩) hrm _, hS4.below.setCell (p := ⟨m, 2, none⟩) hmw _⟩
          obtain ⟨⟨x0, x1, x2, xl⟩, ⟨f0, f1, f2⟩⟩ := row3 hX4'
          go_wp2_with fail
          clear x0 x1 x2 xl f0 f1 f2
          obtain ⟨w5, hw5⟩ : ∃ w5, w4.setCell ⟨m, 2, none⟩ (.int .i64 n) = w5 := ⟨_, rfl⟩
          rw [hw5] at hS5 hX5 ⊢
          have hS6 : LnS w r w5.drew := hS5.same (Below.refl _ _).drew
          have hX6 : Row w5.drew m 56 #[.int .i64 ((j : Int) + 1), .string b, .int .i64 n] := hX5
          have HFO := Lib.hid (refForm_any ⟨(j : Int) + 1, b, n⟩ w5.drew)
          have HOR : Hid ((formB ⟨(j : Int) + 1, b, n⟩ = true ∧ IsLn ([a', b, c].map (·.data.toList)) ⟨(j : Int) + 1, b, n⟩) ∨ (formB ⟨(j : Int) + 1, b, n⟩ = false ∧ NoLine ([a', b, c].map (·.data.toList)))) := by
            rw [Hid, HWE.out]
            cases hf : formB ⟨(j : Int) + 1, b, n⟩
            · exact .inr ⟨rfl, (HLF.out.2 n rfl).2 hf⟩
            · exact .inl ⟨rfl, (HLF.out.2 n rfl).1 hf⟩
          obtain ⟨fb, hfb⟩ : ∃ fb, formB ⟨(j : Int) + 1, b, n⟩ = fb := ⟨_, rfl⟩
          rw [hfb] at HFO HOR
          have HS6 := Lib.hid (And.intro hS6 hX6)
          obtain ⟨⟨x0, x1, x2, xl⟩, ⟨f0, f1, f2⟩⟩ := row3 hX5
          clear hw5 hX4' hS4 HLF HWE hfb hS5 hX5 hS6 hX6
          go_region_with ((go_at_call 72; refine HFO.out.mono ?_; rintro e w6 ⟨rfl, hb6⟩; have hS7 := HS6.out.1.same hb6; have HQ := Lib.hid (Below.set3 hS7.below hwr (.int .i64 ((j : Int) + 1)) (.string b) (.int .i64 n)); have HR := Lib.hid (row3 (Row.set3 hS7.res (.int .i64 ((j : Int) + 1)) (.string b) (.int .i64 n))).1; obtain ⟨⟨k0, k1, k2, kl⟩, ⟨l0, l1, l2⟩⟩ := row3 (HS6.out.2.below hb6 HS6.out.2.lt); obtain ⟨⟨a0, a1, a2, al⟩, ⟨b0, b1, b2⟩⟩ := row3 hS7.res; clear hb6 hS7))
          all_goals
            go_wp2
            obtain ⟨z0, z1, z2, -⟩ := HR.out
            refine bodyPost_ret (v := .tuple #[.agg #[.int .i64 ((j : Int) + 1), .string b, .int .i64 n], .bool fb]) (by simp only [results, Tryz.results47, go_sem]; simp [z0, z1, z2, go_sem]) rfl ?_
            exact ⟨⟨(j : Int) + 1, b, n⟩, fb, rfl, HOR.out, HQ.out⟩
      · have HBR := Lib.hid hb
        clear hb
        by_cases hl2 : W.length = 2
        rotate_left
        · have hn : ((W.length : Int) != 2) = true := by simp; omega
          have HN : Hid (NoLine (W.map (·.data.toList))) := by
            rw [Hid, HWM.out]
            refine noLn_bare hlt HAT.out HBR.out ?_
            rw [← HWM.out, List.length_map]; exact hl2
          clear hl2
          have HQ := Lib.hid (Below.set3 hS3.below hwr (.int .i64 0) (.string ⟨#[]⟩) (.int .i64 0))
          have HR := Lib.hid (row3 (Row.set3 hS3.res (.int .i64 0) (.string ⟨#[]⟩) (.int .i64 0))).1
          obtain ⟨⟨a0, a1, a2, al⟩, ⟨b0, b1, b2⟩⟩ := row3 hS3.res
          go_wp2
          obtain ⟨z0, z1, z2, -⟩ := HR.out
          refine bodyPost_ret (v := .tuple #[.agg #[.int .i64 0, .string ⟨#[]⟩, .int .i64 0], .bool false]) (by simp only [results, Tryz.results47, go_sem]; simp [z0, z1, z2, go_sem]) rfl ?_
          exact ⟨⟨0, ⟨#[]⟩, 0⟩, false, rfl, .inr ⟨rfl, HN.out⟩, HQ.out⟩
        obtain ⟨a', c, rfl⟩ := wds2 hl2
        have zc := HZ.out c (by simp)
        have g2 := HC3.out.txt (k := 1) (by simp)
        simp only [List.getElem_cons_succ, List.getElem_cons_zero] at g2
        have HLF := Lib.hid (ln_bare hlt HAT.out HBR.out (b := c.data.toList))
        have HWE : Hid ([a', c].map (·.data.toList) = [a.data.toList, c.data.toList]) := by
          have := HWM.out
          simp only [List.map_cons, List.map_nil, List.cons.injEq] at this
          rw [Hid]; simp [this.1]
        have h3 : ([a', c] : List ByteArray).length = 2 := rfl
        rw [h3]
        clear hl2 h3
        go_wp2_with fail
        clear HC3 hbl3 g2
        obtain ⟨w4, hw4⟩ : ∃ w4, w4 = w3 := ⟨_, rfl⟩
        subst hw4
        have hS4 := hS3
        have hX4' := hX
        clear hS3 hX
        refine (Number_any c w4 (by omega)).mono ?_
        rintro e w5 ⟨rfl, rfl⟩
        obtain ⟨o, ho⟩ : ∃ o, numZ c.data.toList = o := ⟨_, rfl⟩
        rw [ho] at HLF ⊢
        clear ho
        cases o with
        | none =>
          simp only [Option.getD_none, Option.isSome_none]
          have HN : Hid (NoLine ([a', c].map (·.data.toList))) := by rw [Hid, HWE.out]; exact HLF.out.1 rfl
          have hX5 : Row (w4.setCell ⟨m, 2, none⟩ (.int .i64 0)) m 56 #[.int .i64 ((j : Int) + 1), .string ⟨#[]⟩, .int .i64 0] := hX4'.set 2 (.int .i64 0)
          have hS5 : LnS w r (w4.setCell ⟨m, 2, none⟩ (.int .i64 0)) := ⟨hS4.res.far (p := ⟨m, 2, none⟩) hrm _, hS4.below.setCell (p := ⟨m, 2, none⟩) hmw _⟩
          obtain ⟨⟨x0, x1, x2, xl⟩, ⟨f0, f1, f2⟩⟩ := row3 hX4'
          clear HLF HWE
          go_wp2_with fail
          clear x0 x1 x2 xl f0 f1 f2
          obtain ⟨w5, hw5⟩ : ∃ w5, w4.setCell ⟨m, 2, none⟩ (.int .i64 0) = w5 := ⟨_, rfl⟩
          rw [hw5] at hS5 hX5 ⊢
          have HQR : Hid (Below w.heap.size w (((w5.setCell ⟨r, 0, none⟩ (.int .i64 ((j : Int) + 1))).setCell ⟨r, 1, none⟩ (.string ⟨#[]⟩)).setCell ⟨r, 2, none⟩ (.int .i64 0)).drew ∧ Row (((w5.setCell ⟨r, 0, none⟩ (.int .i64 ((j : Int) + 1))).setCell ⟨r, 1, none⟩ (.string ⟨#[]⟩)).setCell ⟨r, 2, none⟩ (.int .i64 0)).drew r 56 #[.int .i64 ((j : Int) + 1), .string ⟨#[]⟩, .int .i64 0]) := ⟨(Below.set3 hS5.below hwr _ _ _).drew, Row.set3 hS5.res _ _ _⟩
          obtain ⟨⟨x0, x1, x2, xl⟩, ⟨f0, f1, f2⟩⟩ := row3 hX5
          obtain ⟨⟨a0, a1, a2, al⟩, ⟨b0, b1, b2⟩⟩ := row3 hS5.res
          clear hw5 hX4' hS4 hS5 hX5
          go_region
          all_goals
            go_wp2
            obtain ⟨W', hW'⟩ : ∃ W', (((w5.setCell ⟨r, 0, none⟩ (.int .i64 ((j : Int) + 1))).setCell ⟨r, 1, none⟩ (.string ⟨#[]⟩)).setCell ⟨r, 2, none⟩ (.int .i64 0)).drew = W' := ⟨_, rfl⟩
            rw [hW'] at HQR ⊢
            obtain ⟨⟨z0, z1, z2, -⟩, -⟩ := row3 HQR.out.2
            clear hW' x0 x1 x2 xl f0 f1 f2 a0 a1 a2 al b0 b1 b2
            refine bodyPost_ret (v := .tuple #[.agg #[.int .i64 ((j : Int) + 1), .string ⟨#[]⟩, .int .i64 0], .bool false]) (by simp only [results, Tryz.results47, go_sem]; simp [z0, z1, z2, go_sem]) rfl ?_
            exact ⟨⟨(j : Int) + 1, ⟨#[]⟩, 0⟩, false, rfl, .inr ⟨rfl, HN.out⟩, HQR.out.1⟩
        | some n =>
          simp only [Option.getD_some, Option.isSome_some]
          have hX5 : Row (w4.setCell ⟨m, 2, none⟩ (.int .i64 n)) m 56 #[.int .i64 ((j : Int) + 1), .string ⟨#[]⟩, .int .i64 n] := hX4'.set 2 (.int .i64 n)
          have hS5 : LnS w r (w4.setCell ⟨m, 2, none⟩ (.int .i64 n)) := ⟨hS4.res.far (p := ⟨m, 2, none⟩) hrm _, hS4.below.setCell (p := ⟨m, 2, none⟩) hmw _⟩
          obtain ⟨⟨x0, x1, x2, xl⟩, ⟨f0, f1, f2⟩⟩ := row3 hX4'
          go_wp2_with fail
          clear x0 x1 x2 xl f0 f1 f2
          obtain ⟨w5, hw5⟩ : ∃ w5, w4.setCell ⟨m, 2, none⟩ (.int .i64 n) = w5 := ⟨_, rfl⟩
          rw [hw5] at hS5 hX5 ⊢
          have hS6 : LnS w r w5.drew := hS5.same (Below.refl _ _).drew
          have hX6 : Row w5.drew m 56 #[.int .i64 ((j : Int) + 1), .string ⟨#[]⟩, .int .i64 n] := hX5
          have HFO := Lib.hid (refForm_any ⟨(j : Int) + 1, ⟨#[]⟩, n⟩ w5.drew)
          have HOR : Hid ((formB ⟨(j : Int) + 1, ⟨#[]⟩, n⟩ = true ∧ IsLn ([a', c].map (·.data.toList)) ⟨(j : Int) + 1, ⟨#[]⟩, n⟩) ∨ (formB ⟨(j : Int) + 1, ⟨#[]⟩, n⟩ = false ∧ NoLine ([a', c].map (·.data.toList)))) := by
            rw [Hid, HWE.out]
            cases hf : formB ⟨(j : Int) + 1, ⟨#[]⟩, n⟩
            · exact .inr ⟨rfl, (HLF.out.2 n rfl).2 hf⟩
            · exact .inl ⟨rfl, (HLF.out.2 n rfl).1 hf⟩
          obtain ⟨fb, hfb⟩ : ∃ fb, formB ⟨(j : Int) + 1, ⟨#[]⟩, n⟩ = fb := ⟨_, rfl⟩
          rw [hfb] at HFO HOR
          have HS6 := Lib.hid (And.intro hS6 hX6)
          obtain ⟨⟨x0, x1, x2, xl⟩, ⟨f0, f1, f2⟩⟩ := row3 hX5
          clear hw5 hX4' hS4 HLF HWE hfb hS5 hX5 hS6 hX6
          go_region_with ((go_at_call 72; refine HFO.out.mono ?_; rintro e w6 ⟨rfl, hb6⟩; have hS7 := HS6.out.1.same hb6; have HQ := Lib.hid (Below.set3 hS7.below hwr (.int .i64 ((j : Int) + 1)) (.string ⟨#[]⟩) (.int .i64 n)); have HR := Lib.hid (row3 (Row.set3 hS7.res (.int .i64 ((j : Int) + 1)) (.string ⟨#[]⟩) (.int .i64 n))).1; obtain ⟨⟨k0, k1, k2, kl⟩, ⟨l0, l1, l2⟩⟩ := row3 (HS6.out.2.below hb6 HS6.out.2.lt); obtain ⟨⟨a0, a1, a2, al⟩, ⟨b0, b1, b2⟩⟩ := row3 hS7.res; clear hb6 hS7))
          all_goals
            go_wp2
            obtain ⟨z0, z1, z2, -⟩ := HR.out
            refine bodyPost_ret (v := .tuple #[.agg #[.int .i64 ((j : Int) + 1), .string ⟨#[]⟩, .int .i64 n], .bool fb]) (by simp only [results, Tryz.results47, go_sem]; simp [z0, z1, z2, go_sem]) rfl ?_
            exact ⟨⟨(j : Int) + 1, ⟨#[]⟩, n⟩, fb, rfl, HOR.out, HQ.out⟩
    · obtain rfl : j = 10 := by omega
      have HN : Hid (NoLine (W.map (·.data.toList))) := by rw [Hid, HWM.out]; exact noLn_kind HK.out
      have hS3 := HS.out
      clear HS HK
      have HQ := Lib.hid (Below.set3 hS3.below hwr (.int .i64 0) (.string ⟨#[]⟩) (.int .i64 0))
      have HR := Lib.hid (row3 (Row.set3 hS3.res (.int .i64 0) (.string ⟨#[]⟩) (.int .i64 0))).1
      obtain ⟨⟨a0, a1, a2, al⟩, ⟨b0, b1, b2⟩⟩ := row3 hS3.res
      go_wp2
      obtain ⟨z0, z1, z2, -⟩ := HR.out
      refine bodyPost_ret (v := .tuple #[.agg #[.int .i64 0, .string ⟨#[]⟩, .int .i64 0], .bool false]) (by simp only [results, Tryz.results47, go_sem]; simp [z0, z1, z2, go_sem]) rfl ?_
      exact ⟨⟨0, ⟨#[]⟩, 0⟩, false, rfl, .inr ⟨rfl, HN.out⟩, HQ.out⟩
end Go.Proofs.YtnkephafpebfkaaGreatDoor
/- Contract of ref43.Decode. Written by gen_rfdr.py. -/
namespace Go.Proofs.YtnkephafpebfkaaGreatDoor
open Go.RowKit Go.Shelf

/-- the result lies as at the start; nothing below has turned -/
structure RdS (w : World) (r : Nat) (wx : World) : Prop where
  res : Row wx r 25 #[.int .i64 0, .int .i64 0, .slice none 0 0]
  below : Below w.heap.size w wx
theorem RdS.same {w wx w' : World} {r : Nat} (h : RdS w r wx) (hb : Below wx.heap.size wx w') : RdS w r w' := ⟨h.res.below hb h.res.lt, below_after h.below hb h.below.size⟩
set_option maxRecDepth 100000 in
set_option maxHeartbeats 16000000 in
theorem refDecodeR_any (s : ByteArray) (w : World) (hs0 : s.size ≤ 1000000000) :
    Calls Tryz.prog 19 #[.string s] w (RetRet (decR s.data.toList) (decE s.data.toList) w) := by
  have hsz : s.data.toList.length = s.size := by simp
  have hr0 := Row.new w 25 #[.int .i64 0, .int .i64 0, .slice none 0 0]
  have hB0 := (Below.refl w.heap.size w).alloc (Nat.le_refl _) (.cells #[.int .i64 0, .int .i64 0, .slice none 0 0] 25)
  by_cases hl : 65536 < s.size
  · have HD : Hid (decE s.data.toList = 3) := by rw [Hid, decE, if_pos (by omega)]
    have HD2 := Lib.hid (decR_no (s := s.data.toList) (by rw [HD.out]; decide))
    clear hsz
    go_enter Tryz.func19, Tryz.ntmps19
    go_wp2
    refine bodyPost_ret (v := .tuple #[.agg #[.int .i64 0, .int .i64 0, .slice none 0 0], .int .i64 3]) (by simp [results, Tryz.results19, go_sem]) rfl ?_
    rw [HD.out]
    exact RetRet.no HD2.out hB0
  have HLE : Hid (s.data.toList.length ≤ 65536) := by rw [Hid, hsz]; omega
  clear hsz
  go_enter Tryz.func19, Tryz.ntmps19
  go_wp2_with fail
  obtain ⟨w0, hw0⟩ : ∃ w0, w.alloc (.cells #[.int .i64 0, .int .i64 0, .slice none 0 0] 25) = w0 := ⟨_, rfl⟩
  rw [hw0] at hr0 hB0 ⊢
  obtain ⟨r, hr⟩ : ∃ r, w.heap.size = r := ⟨_, rfl⟩
  rw [hr] at hr0 ⊢
  have hwr : w.heap.size ≤ r := by omega
  have hS0 : RdS w r w0 := ⟨hr0, hB0⟩
  clear hw0 hr hr0 hB0
  refine (refLines_any s w0 (by omega)).mono ?_
  rintro e w1 ⟨P, A1, cap1, rest, rfl, hP, hPs, hPl, hsl1, hb1⟩
  have HSP := Lib.hid hP
  have HPS := Lib.hid hPs
  have HS1 := Lib.hid hsl1
  have hS1 := hS0.same hb1
  have hcm : cap1 ≤ maxLen ∧ P.length ≤ cap1 := by
    obtain ⟨A', cap', hv, k1, k2, _, _⟩ := hsl1
    injection hv with e1 e2 e3
    subst e1 e3
    rw [txts_len] at k1
    exact ⟨k2, k1⟩
  obtain ⟨hcm, hcl⟩ := hcm
  unfold maxLen at hcm
  have HML : Hid ((P.map (·.data.toList)).length = P.length) := List.length_map _
  clear hP hPs hsl1 hb1 hS0
  by_cases hre : rest = []
  rotate_left
  · have hNR := no_rest HSP.out hre
    rw [decide_eq_false hre]
    clear hre
    have HN := Lib.hid (noRet_dec HLE.out hNR)
    have HQ := Lib.hid (Below.set3 hS1.below hwr (.int .i64 0) (.int .i64 0) (.slice none 0 0))
    have HR := Lib.hid (row3 (Row.set3 hS1.res (.int .i64 0) (.int .i64 0) (.slice none 0 0))).1
    obtain ⟨⟨a0, a1, a2, al⟩, ⟨b0, b1, b2⟩⟩ := row3 hS1.res
    clear hNR
    go_wp2
    obtain ⟨z0, z1, z2, -⟩ := HR.out
    refine bodyPost_ret (v := .tuple #[.agg #[.int .i64 0, .int .i64 0, .slice none 0 0], .int .i64 6]) (by simp only [results, Tryz.results19, go_sem]; simp [z0, z1, z2, go_sem]) rfl ?_
    rw [HN.out.1]
    exact RetRet.no HN.out.2 HQ.out
  have HRE := Lib.hid hre
  rw [decide_eq_true hre]
  clear hre
  by_cases hL2 : 2 ≤ P.length
  rotate_left
  · have hNR := no_short HSP.out (by rw [HML.out]; omega)
    have i1 : decide ((P.length : Int) < 2) = true := by simp; omega
    have HN := Lib.hid (noRet_dec HLE.out hNR)
    have HQ := Lib.hid (Below.set3 hS1.below hwr (.int .i64 0) (.int .i64 0) (.slice none 0 0))
    have HR := Lib.hid (row3 (Row.set3 hS1.res (.int .i64 0) (.int .i64 0) (.slice none 0 0))).1
    obtain ⟨⟨a0, a1, a2, al⟩, ⟨b0, b1, b2⟩⟩ := row3 hS1.res
    clear hNR
    go_wp2
    obtain ⟨z0, z1, z2, -⟩ := HR.out
    refine bodyPost_ret (v := .tuple #[.agg #[.int .i64 0, .int .i64 0, .slice none 0 0], .int .i64 6]) (by simp only [results, Tryz.results19, go_sem]; simp [z0, z1, z2, go_sem]) rfl ?_
    rw [HN.out.1]
    exact RetRet.no HN.out.2 HQ.out
  have i1 : decide ((P.length : Int) < 2) = false := by simp; omega
  have i2 : ((P.length : Int) - 1) < (P.length : Int) := by omega
  have i3 : (0 : Int) ≤ ((P.length : Int) - 1) := by omega
  have i4 : ((P.length : Int) - 1).toNat = P.length - 1 := by omega
  obtain ⟨bp, op, rfl, hc⟩ := HS1.out.cells (by rw [txts_len]; omega)
  have q1 := hc.txt (k := P.length - 1) (by omega)
  have hbl := hc.1
  have HEE := Lib.hid (show (P.map (·.data.toList))[(P.map (·.data.toList)).length - 1]? = some (P[P.length - 1]).data.toList by
    rw [List.length_map, List.getElem?_map, List.getElem?_eq_getElem (show P.length - 1 < P.length by omega)]; rfl)
  obtain ⟨pe, hpe⟩ : ∃ pe, P[P.length - 1] = pe := ⟨_, rfl⟩
  rw [hpe] at q1 HEE
  clear hpe
  by_cases hend : pe.data.toList = wEnd
  rotate_left
  · have hNR := no_end HSP.out HEE.out hend
    obtain ⟨t3, t4⟩ := str_no (l := [101, 110, 100]) hend
    clear hend
    have HN := Lib.hid (noRet_dec HLE.out hNR)
    have HQ := Lib.hid (Below.set3 hS1.below hwr (.int .i64 0) (.int .i64 0) (.slice none 0 0))
    have HR := Lib.hid (row3 (Row.set3 hS1.res (.int .i64 0) (.int .i64 0) (.slice none 0 0))).1
    obtain ⟨⟨a0, a1, a2, al⟩, ⟨b0, b1, b2⟩⟩ := row3 hS1.res
    clear hNR
    go_wp2
    obtain ⟨z0, z1, z2, -⟩ := HR.out
    refine bodyPost_ret (v := .tuple #[.agg #[.int .i64 0, .int .i64 0, .slice none 0 0], .int .i64 6]) (by simp only [results, Tryz.results19, go_sem]; simp [z0, z1, z2, go_sem]) rfl ?_
    rw [HN.out.1]
    exact RetRet.no HN.out.2 HQ.out
  obtain ⟨t3, t4⟩ := str_yes (l := [101, 110, 100]) hend
  have HEN : Hid ((P.map (·.data.toList))[(P.map (·.data.toList)).length - 1]? = some wEnd) := by rw [Hid, HEE.out, hend]
  have HC1 := Lib.hid hc
  have q0 := hc.txt (k := 0) (by omega)
  rw [Nat.add_zero] at q0
  have HX0 := Lib.hid (show (P.map (·.data.toList))[0]? = some (P[0]).data.toList by rw [List.getElem?_map, List.getElem?_eq_getElem (show 0 < P.length by omega)]; rfl)
  have z0 := HPS.out _ (List.getElem_mem (show 0 < P.length by omega))
  obtain ⟨p0, hp0⟩ : ∃ x, P[0] = x := ⟨_, rfl⟩
  rw [hp0] at q0 HX0 z0
  clear hp0 hend HEE hc
  have k0 : 0 < P.length := by omega
  go_wp2_with fail
  clear q1 t3 t4 i2 i3 i4 q0
  refine (Words_any p0 w1 (by omega)).mono ?_
  rintro e w3 ⟨W, A3, c3, rfl, hW, hWs, -, hsl3, hb3⟩
  have hS3 := hS1.same hb3
  have HB13 := Lib.hid hb3
  have HW := Lib.hid hW
  have HWS := Lib.hid hWs
  have HSL := Lib.hid hsl3
  clear hb3 hW hWs hsl3
  by_cases hl4 : W.length = 4
  rotate_left
  · have hNR := no_head HSP.out HX0.out HW.out.symm (.inl (by rw [List.length_map]; exact hl4))
    have hne : ((W.length : Int) != 4) = true := by simp; omega
    clear hl4
    have HN := Lib.hid (noRet_dec HLE.out hNR)
    have HQ := Lib.hid (Below.set3 hS3.below hwr (.int .i64 0) (.int .i64 0) (.slice none 0 0))
    have HR := Lib.hid (row3 (Row.set3 hS3.res (.int .i64 0) (.int .i64 0) (.slice none 0 0))).1
    obtain ⟨⟨a0, a1, a2, al⟩, ⟨b0, b1, b2⟩⟩ := row3 hS3.res
    clear hNR
    go_wp2
    obtain ⟨z0, z1, z2, -⟩ := HR.out
    refine bodyPost_ret (v := .tuple #[.agg #[.int .i64 0, .int .i64 0, .slice none 0 0], .int .i64 6]) (by simp only [results, Tryz.results19, go_sem]; simp [z0, z1, z2, go_sem]) rfl ?_
    rw [HN.out.1]
    exact RetRet.no HN.out.2 HQ.out
  obtain ⟨xa, xb, xc, xd, bk, off, hWe, rfl, hk3, ga, gb, gc, gd⟩ := words4 HSL.out hl4
  rw [hl4]
  rw [hWe] at HW
  have zb : xb.size ≤ 1000000000 := by have := HWS.out xb (by rw [hWe]; simp); omega
  have zd : xd.size ≤ 1000000000 := by have := HWS.out xd (by rw [hWe]; simp); omega
  clear hl4 hWe HWS HSL
  have HW4 : Hid (splitBy 32 p0.data.toList = [xa.data.toList, xb.data.toList, xc.data.toList, xd.data.toList]) := HW.out.symm
  clear HW
  by_cases ha : xa.data.toList = wRet
  rotate_left
  · have hNR := no_head HSP.out HX0.out HW4.out (.inr (.inl ha))
    obtain ⟨t3, t4⟩ := str_no (l := [114, 101, 116, 117, 114, 110]) ha
    clear ha
    have HN := Lib.hid (noRet_dec HLE.out hNR)
    have HQ := Lib.hid (Below.set3 hS3.below hwr (.int .i64 0) (.int .i64 0) (.slice none 0 0))
    have HR := Lib.hid (row3 (Row.set3 hS3.res (.int .i64 0) (.int .i64 0) (.slice none 0 0))).1
    obtain ⟨⟨a0, a1, a2, al⟩, ⟨b0, b1, b2⟩⟩ := row3 hS3.res
    clear hNR
    go_wp2
    obtain ⟨z0, z1, z2, -⟩ := HR.out
    refine bodyPost_ret (v := .tuple #[.agg #[.int .i64 0, .int .i64 0, .slice none 0 0], .int .i64 6]) (by simp only [results, Tryz.results19, go_sem]; simp [z0, z1, z2, go_sem]) rfl ?_
    rw [HN.out.1]
    exact RetRet.no HN.out.2 HQ.out
  obtain ⟨t3, t4⟩ := str_yes (l := [114, 101, 116, 117, 114, 110]) ha
  by_cases hcd : xc.data.toList = wVer
  rotate_left
  · have hNR := no_head HSP.out HX0.out HW4.out (.inr (.inr (.inl hcd)))
    obtain ⟨t5, t6⟩ := str_no (l := [118, 101, 114, 115, 105, 111, 110]) hcd
    clear ha hcd
    have HN := Lib.hid (noRet_dec HLE.out hNR)
    have HQ := Lib.hid (Below.set3 hS3.below hwr (.int .i64 0) (.int .i64 0) (.slice none 0 0))
    have HR := Lib.hid (row3 (Row.set3 hS3.res (.int .i64 0) (.int .i64 0) (.slice none 0 0))).1
    obtain ⟨⟨a0, a1, a2, al⟩, ⟨b0, b1, b2⟩⟩ := row3 hS3.res
    clear hNR
    go_wp2
    obtain ⟨z0, z1, z2, -⟩ := HR.out
    refine bodyPost_ret (v := .tuple #[.agg #[.int .i64 0, .int .i64 0, .slice none 0 0], .int .i64 6]) (by simp only [results, Tryz.results19, go_sem]; simp [z0, z1, z2, go_sem]) rfl ?_
    rw [HN.out.1]
    exact RetRet.no HN.out.2 HQ.out
  obtain ⟨t5, t6⟩ := str_yes (l := [118, 101, 114, 115, 105, 111, 110]) hcd
  have HWX : Hid (splitBy 32 p0.data.toList = [wRet, xb.data.toList, wVer, xd.data.toList]) := by rw [Hid, HW4.out, ha, hcd]
  clear ha hcd
  go_wp2_with fail
  refine (Number_any xb w3 (by omega)).mono ?_
  rintro e w3' ⟨rfl, rfl⟩
  clear t3 t4 t5 t6 ga gb gc
  go_wp2_with fail
  refine (Number_any xd w3 (by omega)).mono ?_
  rintro e w3' ⟨rfl, rfl⟩
  clear gd
  have HN1 : Hid (∃ a ok, (numZ xb.data.toList).getD 0 = a ∧ (numZ xb.data.toList).isSome = ok ∧ (ok = true → numZ xb.data.toList = some a) ∧ (ok = false → numZ xb.data.toList = none)) := by
    cases numZ xb.data.toList with
    | none => exact ⟨0, false, rfl, rfl, by simp, by simp⟩
    | some a => exact ⟨a, true, rfl, rfl, by simp, by simp⟩
  have HN2 : Hid (∃ a ok, (numZ xd.data.toList).getD 0 = a ∧ (numZ xd.data.toList).isSome = ok ∧ (ok = true → numZ xd.data.toList = some a) ∧ (ok = false → numZ xd.data.toList = none)) := by
    cases numZ xd.data.toList with
    | none => exact ⟨0, false, rfl, rfl, by simp, by simp⟩
    | some a => exact ⟨a, true, rfl, rfl, by simp, by simp⟩
  obtain ⟨n, ok1, e1, e2, h3, h4⟩ := HN1.out
  rw [e1, e2]
  have HA := Lib.hid (And.intro h3 h4)
  clear e1 e2 h3 h4 HN1
  obtain ⟨d, ok2, e1, e2, h3, h4⟩ := HN2.out
  rw [e1, e2]
  have HB := Lib.hid (And.intro h3 h4)
  clear e1 e2 h3 h4 HN2
  have hs0' : PaS w3 w3.heap.size n d [] (.slice none 0 0) (w3.alloc (.cells #[.int .i64 n, .int .i64 d, .slice none 0 0] 25)) := by
    have hb := ((Below.refl w3.heap.size w3).alloc (Nat.le_refl _) (.cells #[.int .i64 n, .int .i64 d, .slice none 0 0] 25))
    have hr := Row.new w3 25 #[.int .i64 n, .int .i64 d, .slice none 0 0]
    exact ⟨hb, hr, Own.nil _ _ _ _, by simp [Value.ownBlock], Nat.le_refl _⟩
  go_wp2_with fail
  obtain ⟨w4, hw4⟩ : ∃ w4, w3.alloc (.cells #[.int .i64 n, .int .i64 d, .slice none 0 0] 25) = w4 := ⟨_, rfl⟩
  obtain ⟨m, hm⟩ : ∃ m, w3.heap.size = m := ⟨_, rfl⟩
  rw [hm] at hs0'
  rw [hw4] at hs0' ⊢
  rw [hm]
  have hmw : w3.heap.size ≤ m := by omega
  have hs3w := hS3.below.size
  have hmr : ¬ m = r := by have := hS3.res.lt; omega
  have hrm : ¬ r = m := by omega
  have hr3l := hS3.res.lt
  clear hw4 i1
  go_loopw [12] (fun i wr => ∃ j : Nat, ∃ acc : List Ln, ∃ v, 1 ≤ j ∧ j ≤ P.length - 1 ∧ i = .int .i64 j ∧ acc.length ≤ j ∧ Hid (RdI (P.map (·.data.toList)) j acc) ∧ Hid (PaS w3 m n d acc v wr)) (fun i _ => P.length - (intOf i).toNat)
  case atStart => exact ⟨1, [], _, by omega, by omega, rfl, by simp, rdI_start _, hs0'⟩
  case round =>
    clear hs0'
    obtain ⟨j, acc, v, hj1, hj2, rfl, hacc, HI, HS⟩ := hrel
    obtain ⟨wo, rfl⟩ : ∃ wo : World, wo = wr := ⟨_, rfl⟩
    have hSo := hS3.same HS.out.below
    have hb1o := below_after HB13.out HS.out.below HB13.out.size
    have hco := HC1.out.below hb1o HC1.out.1
    have hblo := hco.1
    have hjP : j < P.length := by omega
    have q0 := hco.txt hjP
    have hpz := HPS.out _ (List.getElem_mem hjP)
    by_cases hlt : j < P.length - 1
    · have hji : (j : Int) < (P.length : Int) - 1 := by omega
      have HPJ := Lib.hid (show (P.map (·.data.toList))[j]? = some (P[j]).data.toList by rw [List.getElem?_map, List.getElem?_eq_getElem hjP]; rfl)
      obtain ⟨px, hpx⟩ : ∃ x, P[j] = x := ⟨_, rfl⟩
      rw [hpx] at q0 hpz HPJ
      clear hpx hco hb1o
      go_wp2_with fail
      refine (Words_any px wo (by omega)).mono ?_
      rintro e w5 ⟨W, A3, c3, rfl, hW, hWs, -, hsl3, hb5⟩
      have hS5 := hSo.same hb5
      have HS5 := Lib.hid (HS.out.same hb5)
      have hW0 : 0 < W.length := by
        have : (W.map (·.data.toList)) ≠ [] := by rw [hW]; exact splitBy_ne _ _
        cases W with
        | nil => exact absurd rfl this
        | cons a t => simp
      have HL := Lib.hid (refLine_any W A3 c3 w5 hsl3 hW0 (fun p hp => by have := hWs p hp; omega))
      rw [hW] at HL
      clear hb5 hSo q0 hblo hW hWs hsl3 HS
      go_wp2_with fail
      refine HL.out.mono ?_
      rintro e w6 ⟨x, good, rfl, hor, hb6⟩
      have HOR := Lib.hid hor
      have hS6 := hS5.same hb6
      have HS6 := Lib.hid (HS5.out.same hb6)
      have hal := (Below.refl w6.heap.size w6).alloc (Nat.le_refl _) (.cells #[.int .i64 x.kind, .string x.code, .int .i64 x.amt] 56)
      have hS7 := hS6.same hal
      have HS7 := Lib.hid (HS6.out.same hal)
      have hrx := Row.new w6 56 #[.int .i64 x.kind, .string x.code, .int .i64 x.amt]
      clear hor hb6 hal hS5 HS5 HL hS6
      obtain ⟨⟨y0, y1, y2, yl⟩, -⟩ := row3 hrx
      obtain ⟨w7, hw7⟩ : ∃ w7, w6.alloc (.cells #[.int .i64 x.kind, .string x.code, .int .i64 x.amt] 56) = w7 := ⟨_, rfl⟩
      rw [hw7] at hS7 HS7 y0 y1 y2 yl
      cases good
      · have hNR : NoRet s.data.toList := by
          rcases HOR.out with h | h
          · exact absurd h.1 (by simp)
          · exact no_line HSP.out hj1 (by rw [HML.out]; omega) HPJ.out h.2
        clear hrx y0 y1 y2 yl
        have HN := Lib.hid (noRet_dec HLE.out hNR)
        have HQ := Lib.hid (Below.set3 hS7.below hwr (.int .i64 0) (.int .i64 0) (.slice none 0 0))
        have HR := Lib.hid (row3 (Row.set3 hS7.res (.int .i64 0) (.int .i64 0) (.slice none 0 0))).1
        obtain ⟨⟨a0, a1, a2, al⟩, ⟨b0, b1, b2⟩⟩ := row3 hS7.res
        clear hNR
        go_wp2
        obtain ⟨z0, z1, z2, -⟩ := HR.out
        refine bodyPost_ret (v := .tuple #[.agg #[.int .i64 0, .int .i64 0, .slice none 0 0], .int .i64 6]) (by simp only [results, Tryz.results19, go_sem]; simp [z0, z1, z2, go_sem]) rfl ?_
        rw [HN.out.1]
        exact RetRet.no HN.out.2 HQ.out
      have HIL : Hid (IsLn (splitBy 32 px.data.toList) x) := by
        rcases HOR.out with h | h
        · exact h.2
        · exact absurd h.1 (by simp)
      have HI2 := Lib.hid (HI.out.next HPJ.out HIL.out)
      clear HOR HIL HI hS7
      have gm := HS7.out.box.cell 2
      have fm := HS7.out.box.frozen 2
      have gl := HS7.out.box.lt
      simp only [List.getElem?_toArray, List.getElem?_cons_succ, List.getElem?_cons_zero] at gm
      have hs7 := HS7.out.below.size
      go_wp2_with (at_builtin; (refine wpList_append_sl rfl (.tmp 98) (.tmp 100) rfl rowLn w3.heap.size _ _ (lns acc) [Ln.vals x] rfl (HS7.out.own.alloc _) rfl (Sl.one rfl rfl) (lns_wide [x]) (by simp only [lns_len, List.length_cons, List.length_nil]; unfold maxLen; omega) (by simp only [lns_len, List.length_cons, List.length_nil]; omega) (by simp only [World.size_alloc]; omega) ?_); intro v7 w8 hown7 hg7 hv7; obtain ⟨g7, c7, rfl, hc7⟩ := hown7.form1 (by simp); simp only [List.length_append, lns_len, List.length_cons, List.length_nil, Nat.zero_add] at hown7 hg7 hv7 hc7 ⊢; have H7 := Lib.hid (HS7.out.app x hown7 hg7 hv7); have u2 := H7.out.2.cell 2; have u3 := H7.out.2.frozen 2; have u4 := H7.out.2.lt; simp only [List.getElem?_toArray, List.getElem?_cons_succ, List.getElem?_cons_zero] at u2)
      have R := Lib.hid H7.out.1
      clear gm fm gl y0 y1 y2 yl hown7 hg7 hv7 hw7
      go_roundw
      case rel => exact ⟨j + 1, acc ++ [x], _, by omega, by omega, by go_num, by simp only [List.length_append, List.length_cons, List.length_nil]; omega, HI2, R⟩
      case measure => simp only [intOf]; omega
    · obtain rfl : j = P.length - 1 := by omega
      have hji : ¬ ((P.length - 1 : Nat) : Int) < (P.length : Int) - 1 := by omega
      clear hlt hb1o hco q0 hpz
      obtain ⟨Av, cv, rfl⟩ := HS.out.own.form
      rw [lns_len] at HS
      obtain ⟨⟨x0, x1, x2, xl⟩, -⟩ := row3 HS.out.box
      cases ok1
      · have hNR := no_head HSP.out HX0.out HW4.out (.inr (.inr (.inr (.inl (HA.out.2 rfl)))))
        have HN := Lib.hid (noRet_dec HLE.out hNR)
        have HQ := Lib.hid (Below.set3 hSo.below hwr (.int .i64 0) (.int .i64 0) (.slice none 0 0))
        have HR := Lib.hid (row3 (Row.set3 hSo.res (.int .i64 0) (.int .i64 0) (.slice none 0 0))).1
        obtain ⟨⟨a0, a1, a2, al⟩, ⟨b0, b1, b2⟩⟩ := row3 hSo.res
        clear hNR
        go_wp2
        obtain ⟨z0, z1, z2, -⟩ := HR.out
        refine bodyPost_ret (v := .tuple #[.agg #[.int .i64 0, .int .i64 0, .slice none 0 0], .int .i64 6]) (by simp only [results, Tryz.results19, go_sem]; simp [z0, z1, z2, go_sem]) rfl ?_
        rw [HN.out.1]
        exact RetRet.no HN.out.2 HQ.out
      cases ok2
      · have hNR := no_head HSP.out HX0.out HW4.out (.inr (.inr (.inr (.inr (HB.out.2 rfl)))))
        have HN := Lib.hid (noRet_dec HLE.out hNR)
        have HQ := Lib.hid (Below.set3 hSo.below hwr (.int .i64 0) (.int .i64 0) (.slice none 0 0))
        have HR := Lib.hid (row3 (Row.set3 hSo.res (.int .i64 0) (.int .i64 0) (.slice none 0 0))).1
        obtain ⟨⟨a0, a1, a2, al⟩, ⟨b0, b1, b2⟩⟩ := row3 hSo.res
        clear hNR
        go_wp2
        obtain ⟨z0, z1, z2, -⟩ := HR.out
        refine bodyPost_ret (v := .tuple #[.agg #[.int .i64 0, .int .i64 0, .slice none 0 0], .int .i64 6]) (by simp only [results, Tryz.results19, go_sem]; simp [z0, z1, z2, go_sem]) rfl ?_
        rw [HN.out.1]
        exact RetRet.no HN.out.2 HQ.out
      have HRI : Hid (RdI (P.map (·.data.toList)) ((P.map (·.data.toList)).length - 1) acc) := by rw [Hid, HML.out]; exact HI.out
      have HED := Lib.hid (end_dec HSP.out HRE.out (by rw [HML.out]; omega) HEN.out HX0.out HWX.out (HA.out.1 rfl) (HB.out.1 rfl) HRI.out HLE.out)
      have HVA : Hid (Calls Tryz.prog 16 #[.agg #[.int .i64 n, .int .i64 d, .slice Av acc.length cv]] wo fun e w' => e = .returned (.bool (retB ⟨n, d, acc⟩)) ∧ Below wo.heap.size wo w') := refValidR_any ⟨n, d, acc⟩ _ wo (HS.out.own.sl (by omega))
      clear HI HRI HA HB
      go_wp2_with fail
      refine HVA.out.mono ?_
      rintro e w6 ⟨rfl, hb6⟩
      have hS6 := hSo.same hb6
      have HS6 := Lib.hid (HS.out.same hb6)
      clear x0 x1 x2 xl hb6 HVA HS hSo
      cases hF : retB ⟨n, d, acc⟩
      · have hNR := HED.out.2 hF
        clear hF
        have HN := Lib.hid (noRet_dec HLE.out hNR)
        have HQ := Lib.hid (Below.set3 hS6.below hwr (.int .i64 0) (.int .i64 0) (.slice none 0 0))
        have HR := Lib.hid (row3 (Row.set3 hS6.res (.int .i64 0) (.int .i64 0) (.slice none 0 0))).1
        obtain ⟨⟨a0, a1, a2, al⟩, ⟨b0, b1, b2⟩⟩ := row3 hS6.res
        clear hNR
        go_wp2
        obtain ⟨z0, z1, z2, -⟩ := HR.out
        refine bodyPost_ret (v := .tuple #[.agg #[.int .i64 0, .int .i64 0, .slice none 0 0], .int .i64 6]) (by simp only [results, Tryz.results19, go_sem]; simp [z0, z1, z2, go_sem]) rfl ?_
        rw [HN.out.1]
        exact RetRet.no HN.out.2 HQ.out
      have HE := Lib.hid (HED.out.1 hF)
      clear hF HED
      obtain ⟨⟨b0, b1, b2, bl⟩, -⟩ := row3 HS6.out.box
      obtain ⟨⟨a0, a1, a2, al⟩, ⟨e0, e1, e2⟩⟩ := row3 hS6.res
      have HZ := Lib.hid (row3 (Row.set3 hS6.res (.int .i64 n) (.int .i64 d) (.slice Av acc.length cv))).1
      have HQ := Lib.hid (Below.set3 hS6.below hwr (.int .i64 n) (.int .i64 d) (.slice Av acc.length cv))
      have HON := Lib.hid ((own3 HS6.out.own (r := r) hr3l (.int .i64 n) (.int .i64 d) (.slice Av acc.length cv)).more (show w.heap.size ≤ w3.heap.size by omega))
      clear hS6 HS6
      go_wp2
      obtain ⟨z0, z1, z2, _⟩ := HZ.out
      refine bodyPost_ret (v := .tuple #[.agg #[.int .i64 n, .int .i64 d, .slice Av acc.length cv], .int .i64 0]) (by simp only [results, Tryz.results19, go_sem]; simp [z0, z1, z2, go_sem]) rfl ?_
      rw [HE.out.1, HE.out.2]
      exact ⟨_, rfl, HON.out, HQ.out⟩
end Go.Proofs.YtnkephafpebfkaaGreatDoor
/- Contract of ref43.Authority.Submit. Written by gen_rfsuba.py. -/
namespace Go.Proofs.YtnkephafpebfkaaGreatDoor
open Go.RowKit Go.Shelf

theorem grown_none {w w' : World} (h : w.grownBy w' (Value.slice none 0 0).ownBlock) : Below w.heap.size w w' := ⟨h.os, h.tape, h.output, h.size, fun i hi => h.block i hi (by simp [Value.ownBlock])⟩
theorem apart_ge {w : World} {base e sz : Nat} {v u : Value} {es : List (List Value)} (h : Own w base e sz v es) (hu : ∀ g, u.ownBlock = some g → w.heap.size ≤ g) : v.ownBlock = none ∨ v.ownBlock ≠ u.ownBlock := by
  cases hv : v.ownBlock with
  | none => exact .inl rfl
  | some g =>
    refine .inr fun e => ?_
    have h1 := (h.1.lt g hv).2
    have h2 := hu g e.symm
    omega
theorem own_low {v : Value} {n : Nat} (h : v.ownBlock = none ∨ v.ownBlock = some n) : ∀ g, v.ownBlock = some g → n ≤ g := fun g hg => by
  rcases h with h | h
  · rw [h] at hg; cases hg
  · rw [h] at hg; injection hg with hg; omega
theorem own_low2 {v u : Value} {n m : Nat} (h : v.ownBlock = u.ownBlock ∨ v.ownBlock = some n) (hu : ∀ g, u.ownBlock = some g → m ≤ g) (hm : m ≤ n) : ∀ g, v.ownBlock = some g → m ≤ g := fun g hg => by
  rcases h with h | h
  · rw [h] at hg; exact hu g hg
  · rw [h] at hg; injection hg with hg; omega
theorem RefA.keepR {w w' : World} {base R : Nat} {p : Ret × Value} (h : Own w base 56 3 p.2 (lns p.1.l)) (hg : w.grownBy w' (some R)) (hx : RefX w R) : Own w' base 56 3 p.2 (lns p.1.l) := h.keepG hg (hx.own h)
/-- nothing changes: an answer that is an error -/
theorem subA_no {w w' : World} {base R : Nat} {ps : List (Ret × Value)} {s : List UInt8} {er : Int} (h : RefA w base R ps) (hb : Below w.heap.size w w') (hS : subE (ps.map (·.1)) s = er) (h0 : er ≠ 0) : SubRA w base R ps s (.returned (.int .i64 er)) w' :=
  ⟨ps, R, by rw [hS], h.below hb, by rw [subA, hS, if_neg h0], grownBy_of_below hb, h.box_x, h.low, .inl rfl⟩
theorem sub_fin {w w6 : World} {base R k cap cv : Nat} {A Av : Option Addr} {ps : List (Ret × Value)} {f : Ret} {v6 : Value} {s : List UInt8} (hF0 : RefA w base R ps) (hR6 : Row w6 R 49 #[.slice A ps.length cap])
    (hown : Own w6 w.heap.size 25 3 v6 ((rets ps).take k ++ [[.int .i64 f.p, .int .i64 f.v, .slice Av f.l.length cv]] ++ (rets ps).drop k)) (hO : Own w6 w.heap.size 56 3 (.slice Av f.l.length cv) (lns f.l))
    (hf : retB f = true) (hIN : ((ps.map (·.1)).take k ++ f :: (ps.map (·.1)).drop k).Perm (putR (ps.map (·.1)) f) ∧ AscR ((ps.map (·.1)).take k ++ f :: (ps.map (·.1)).drop k))
    (hB6 : Below w.heap.size w w6) (hRl : R < w.heap.size) (hS : subE (ps.map (·.1)) s = 0) (hF : subA (ps.map (·.1)) s = putR (ps.map (·.1)) f) : SubRA w base R ps s (.returned (.int .i64 0)) (w6.setCell ⟨R, 0, none⟩ v6) := by
  have hg := grown_set w6 R 0 v6
  have hlow := hF0.low
  have hx6 : RefX w6 R := ⟨_, _, _, hR6, .inl rfl⟩
  have hmap : (ps.take k ++ (f, Value.slice Av f.l.length cv) :: ps.drop k).map (·.1) = (ps.map (·.1)).take k ++ f :: (ps.map (·.1)).drop k := by
    simp [List.map_take, List.map_drop]
  refine ⟨ps.take k ++ (f, .slice Av f.l.length cv) :: ps.drop k, R, by rw [hS], ⟨⟨v6, hR6.set 0 v6, ?_⟩, fun p hp => ?_, fun p hp => ?_, ?_, hlow⟩, ?_, gb_set (grownBy_of_below hB6) (.inl rfl) v6, hF0.box_x, hlow, .inl rfl⟩
  · have := (hown.keepG hg (own_not_ty hown hR6 ty_ln.2.2.2.2)).more (show base ≤ w.heap.size by omega)
    have e : rets (ps.take k ++ (f, Value.slice Av f.l.length cv) :: ps.drop k) = (rets ps).take k ++ [[.int .i64 f.p, .int .i64 f.v, .slice Av f.l.length cv]] ++ (rets ps).drop k := by
      simp [rets, List.map_take, List.map_drop, Ret.vals]
    rw [e]; exact this
  · rcases List.mem_append.1 hp with hp | hp
    · exact RefA.keepR ((hF0.ln p (List.mem_of_mem_take hp)).kept hB6) hg hx6
    · rcases List.mem_cons.1 hp with rfl | hp
      · exact RefA.keepR (p := (f, .slice Av f.l.length cv)) (hO.more (by omega)) hg hx6
      · exact RefA.keepR ((hF0.ln p (List.mem_of_mem_drop hp)).kept hB6) hg hx6
  · rcases List.mem_append.1 hp with hp | hp
    · exact hF0.val p (List.mem_of_mem_take hp)
    · rcases List.mem_cons.1 hp with rfl | hp
      · exact hf
      · exact hF0.val p (List.mem_of_mem_drop hp)
  · rw [hmap]; exact hIN.2
  · rw [hmap, hF]; exact hIN.1
/-- a return put in place -/
theorem sub_set {w w3 : World} {base R k g cap cv : Nat} {Av : Option Addr} {ps : List (Ret × Value)} {f : Ret} {s : List UInt8} (hF0 : RefA w base R ps) (hbox : Row w R 49 #[.slice (some ⟨g, 0, none⟩) ps.length cap]) (ho0 : Own w base 25 3 (.slice (some ⟨g, 0, none⟩) ps.length cap) (rets ps))
    (hO : Own w3 w.heap.size 56 3 (.slice Av f.l.length cv) (lns f.l)) (hf : retB f = true) (hk : k < ps.length) (he : (ps[k]).1.p = f.p)
    (hB3 : Below w.heap.size w w3) (hS : subE (ps.map (·.1)) s = 0) (hF : subA (ps.map (·.1)) s = putR (ps.map (·.1)) f) : SubRA w base R ps s (.returned (.int .i64 0)) (storeRun w3 g (k * 3) [.int .i64 f.p, .int .i64 f.v, .slice Av f.l.length cv]) := by
  have hlow := hF0.low
  have hRl := hbox.lt
  have ho3 := ho0.kept hB3
  obtain ⟨hw, hg⟩ := ho3.store (by omega) k (by rw [rets_len]; exact hk) [.int .i64 f.p, .int .i64 f.v, .slice Av f.l.length cv] rfl (by simp [Value.oneCell'])
  obtain ⟨gl, gr⟩ := ho3.1.lt g rfl
  have gl0 := ho0.1.lt g rfl
  have hXw : ∀ {wx : World}, Own wx base 25 3 (.slice (some ⟨g, 0, none⟩) ps.length cap) (rets ps) → RefX wx g := fun {wx} ho => by
    rcases ho.1.2 with ⟨h, _⟩ | ⟨g1, c1, cur1, h, _, hg1, _⟩
    · cases h
    · injection h with h
      injection h with h
      injection h with h
      subst h
      exact ⟨_, _, _, hg1, .inr rfl⟩
  have hx3 := hXw ho3
  have hne : R ≠ g := fun e => by
    obtain ⟨c, t, z, h1, h2⟩ := hXw ho0
    rcases ho0.1.2 with ⟨h, _⟩ | ⟨g1, c1, cur1, h, _, hg1, _⟩
    · cases h
    · injection h with h
      injection h with h
      injection h with h
      subst h
      unfold Row at hbox
      rw [e, hg1] at hbox
      simp only [Option.some.injEq, Obj.cells.injEq] at hbox
      exact ty_ln.2.2.2.2 hbox.2.1
  have hkm : k < (ps.map (·.1)).length := by simpa using hk
  have hem : ((ps.map (fun p : Ret × Value => p.1))[k]'hkm).p = f.p := by simpa using he
  obtain ⟨hp1, hp2⟩ := put_yes hF0.asc hkm hem
  have hmap : (ps.set k (f, Value.slice Av f.l.length cv)).map (·.1) = (ps.map (·.1)).set k f := by rw [List.map_set]
  have hgw : w.grownBy (storeRun w3 g (k * 3) [.int .i64 f.p, .int .i64 f.v, .slice Av f.l.length cv]) (some g) :=
    ⟨hg.os.trans hB3.os, hg.tape.trans hB3.tape, hg.output.trans hB3.output, Nat.le_trans hB3.size hg.size, fun i hi hn => (hg.block i (Nat.lt_of_lt_of_le hi hB3.size) hn).trans (hB3.block i hi)⟩
  refine ⟨ps.set k (f, .slice Av f.l.length cv), g, by rw [hS], ⟨⟨.slice (some ⟨g, 0, none⟩) ps.length cap, (hbox.below hB3 hRl).keep hg (fun e => hne (Option.some.inj e)), ?_⟩, fun p hp => ?_, fun p hp => ?_, ?_, hlow⟩, ?_, hgw, hXw ho0, gl0.1, .inr ⟨_, hbox, rfl⟩⟩
  · have e : rets (ps.set k (f, Value.slice Av f.l.length cv)) = (rets ps).set k [.int .i64 f.p, .int .i64 f.v, .slice Av f.l.length cv] := by
      simp [rets, List.map_set, Ret.vals]
    rw [e]; exact hw
  · rcases List.mem_or_eq_of_mem_set hp with hp | rfl
    · exact RefA.keepR ((hF0.ln p hp).kept hB3) hg hx3
    · exact RefA.keepR (p := (f, .slice Av f.l.length cv)) (hO.more (by omega)) hg hx3
  · rcases List.mem_or_eq_of_mem_set hp with hp | rfl
    · exact hF0.val p hp
    · exact hf
  · rw [hmap]; exact hp2
  · rw [hmap, hF, hp1]
set_option maxRecDepth 100000 in
set_option maxHeartbeats 8000000 in
theorem refSubmitA_any (base R : Nat) (ps : List (Ret × Value)) (s : ByteArray) (w : World) (hR : RefA w base R ps) (hl : ps.length ≤ 1000) (hs0 : s.size ≤ 1000000000) :
    Calls Tryz.prog 25 #[.pointer (some ⟨R, 0, none⟩), .string s] w (SubRA w base R ps s.data.toList) := by
  have HS : Hid (subE (ps.map (·.1)) s.data.toList = if decE s.data.toList = 0 then (if (decR s.data.toList).v ≤ verP (ps.map (·.1)) (decR s.data.toList).p then 8 else if verP (ps.map (·.1)) (decR s.data.toList).p + 1 < (decR s.data.toList).v then 16 else 0) else decE s.data.toList) := rfl
  have HF : Hid (subA (ps.map (·.1)) s.data.toList = if subE (ps.map (·.1)) s.data.toList = 0 then putR (ps.map (·.1)) (decR s.data.toList) else (ps.map (·.1))) := rfl
  have HR := Lib.hid hR
  obtain ⟨vR, hRr0, hRo0⟩ := hR.ex
  have hRf0 : RetsAt w vR ps := ⟨hRo0.sl (by omega), fun p hp => (hR.ln p hp).sl (by omega)⟩
  obtain ⟨A, cap, rfl, hc1, hc2, -, -⟩ := hRf0.sl
  rw [rets_len] at hc1 hRr0 hRf0 hRo0
  have HRO0 := Lib.hid hRo0
  unfold maxLen at hc2
  have HRR0 := Lib.hid hRr0
  have HRF0 := Lib.hid hRf0
  have hRlt := hRr0.lt
  have hval := hR.val
  have hasc := hR.asc
  clear hRr0 hRf0 hRo0 hR
  have HD := Lib.hid (refDecodeR_any s w hs0)
  obtain ⟨f, hf⟩ : ∃ f, decR s.data.toList = f := ⟨_, rfl⟩
  obtain ⟨er, her⟩ : ∃ er, decE s.data.toList = er := ⟨_, rfl⟩
  rw [hf, her] at HD
  rw [hf, her] at HS
  rw [hf] at HF
  have HFV : Hid (er = 0 → retB f = true) := fun h => by
    have := (decE_ok (her.trans h)).2
    rwa [hf] at this
  clear hf her
  go_enter Tryz.func25, Tryz.ntmps25
  go_wp2_with fail
  refine HD.out.mono ?_
  rintro e w1 ⟨v, rfl, hown, hb1⟩
  have hvl : f.vals v = #[.int .i64 f.p, .int .i64 f.v, v] := rfl
  rw [hvl]
  clear hvl HD
  obtain ⟨Av, cv, rfl⟩ := hown.form
  rw [lns_len] at hown ⊢
  have hs1 := hb1.size
  by_cases h0 : er = 0
  rotate_left
  · have hne : (er != 0) = true := by simpa using h0
    have HS2 : Hid (subE (ps.map (·.1)) s.data.toList = er) := by rw [Hid, HS.out, if_neg h0]
    have HE := Lib.hid (subA_no HR.out (hb1.alloc hs1 (.cells #[.int .i64 f.p, .int .i64 f.v, .slice Av f.l.length cv] 25)) HS2.out h0)
    clear h0 hown hval hasc
    go_wp2
    go_ret
    exact HE.out
  · subst h0
    have HFV2 := Lib.hid (HFV.out rfl)
    have hx := Row.new w1 25 #[.int .i64 f.p, .int .i64 f.v, .slice Av f.l.length cv]
    have hal := (Below.refl w1.heap.size w1).alloc (Nat.le_refl _) (.cells #[.int .i64 f.p, .int .i64 f.v, .slice Av f.l.length cv] 25)
    have hb2 := below_after hb1 hal hs1
    have hO2 := Lib.hid (hown.kept hal)
    go_upto_block 0 with (fail)
    obtain ⟨w2, hw2⟩ : ∃ w2, w1.alloc (.cells #[.int .i64 f.p, .int .i64 f.v, .slice Av f.l.length cv] 25) = w2 := ⟨_, rfl⟩
    rw [hw2] at hx hal hb2 hO2 ⊢
    obtain ⟨b, hbb⟩ : ∃ b, w1.heap.size = b := ⟨_, rfl⟩
    rw [hbb] at hx ⊢
    have hbR : R ≠ b := by omega
    have hbp : ps.length ≤ 1000 := hl
    clear hw2 hown hal hbb HFV
    have HV := Lib.hid hval
    have HASC := Lib.hid hasc
    have HRF := Lib.hid (HRF0.out.below hb2)
    have HRR := Lib.hid (HRR0.out.below hb2 hRlt)
    have hX := hx
    clear hval hasc hx
    go_cut [7] (fun x wx => ∃ k : Nat, k ≤ ps.length ∧ x = .int .i64 k ∧ Hid (∀ i (h : i < k) (h' : i < ps.length), (ps[i]).1.p < f.p) ∧ Hid (∀ h : k < ps.length, ¬ (ps[k]).1.p < f.p) ∧ Hid (Below w2.heap.size w2 wx))
    case first =>
      go_wp2_with fail
      go_loopw [7] (fun x wr => ∃ k : Nat, k ≤ ps.length ∧ x = .int .i64 k ∧ Hid (∀ i (h : i < k) (h' : i < ps.length), (ps[i]).1.p < f.p) ∧ Hid (Below w2.heap.size w2 wr)) (fun x _ => ps.length - (intOf x).toNat)
      case atStart => exact ⟨0, by omega, rfl, (fun i h => by omega), Below.refl _ _⟩
      case round =>
        obtain ⟨k, hk, rfl, HI, HB⟩ := hrel
        obtain ⟨wo, rfl⟩ : ∃ wo : World, wo = wr := ⟨_, rfl⟩
        have hbl := HB.out.size
        have c0 := (HRR.out.below HB.out HRR.out.lt).cell 0
        have cl := Nat.lt_of_lt_of_le HRR.out.lt hbl
        simp only [List.getElem?_toArray, List.getElem?_cons_zero] at c0
        obtain ⟨⟨d0, d1, d2, dl⟩, -⟩ := row3 (hX.below HB.out hX.lt)
        by_cases hlt : k < ps.length
        · obtain ⟨bk, off, rfl, hc⟩ := (HRF.out.below HB.out).sl.cells (by rw [rets_len]; omega)
          obtain ⟨k0, k1, k2⟩ := hc.ret hlt
          have i1 : (k : Int) < (ps.length : Int) := by omega
          have i2 : decide ((k : Int) < (ps.length : Int)) = true := decide_eq_true i1
          have i3 : decide (k < ps.length) = true := decide_eq_true hlt
          obtain ⟨x, hx⟩ : ∃ x, (ps[k]).1.p = x := ⟨_, rfl⟩
          have HX := Lib.hid hx
          rw [hx] at k0
          clear hx hc
          by_cases hxf : x < f.p
          · have j1 : decide (x < f.p) = true := decide_eq_true hxf
            have HI2 : Hid (∀ i (h : i < k + 1) (h' : i < ps.length), (ps[i]).1.p < f.p) := fun i hi hil => by
              by_cases e : i = k
              · subst e; rw [HX.out]; exact hxf
              · exact HI.out i (by omega) hil
            clear hxf
            go_wp2_with fail
            go_quiet (fail)
            go_wp2
            go_roundw
            case rel => exact ⟨k + 1, by omega, by go_num, HI2, Below.draws HB.out _⟩
            case measure => simp [intOf]; omega
          · have j1 : decide (x < f.p) = false := decide_eq_false hxf
            have HI3 : Hid (∀ h : k < ps.length, ¬ (ps[k]).1.p < f.p) := fun h => by rw [HX.out]; exact hxf
            go_wp2_with fail
            go_quiet (fail)
            go_wp2_with fail
            go_meet
            exact ⟨k, hk, rfl, HI, HI3, Below.draws HB.out _⟩
        · have i2 : decide ((k : Int) < (ps.length : Int)) = false := by simp; omega
          have i3 : decide (k < ps.length) = false := decide_eq_false hlt
          have HI3 : Hid (∀ h : k < ps.length, ¬ (ps[k]).1.p < f.p) := fun h => absurd h hlt
          go_wp2_with fail
          go_quiet (fail)
          go_wp2_with fail
          go_meet
          exact ⟨k, hk, rfl, HI, HI3, Below.draws HB.out _⟩
    case rest =>
      obtain ⟨k, hk, rfl, HI, HI3, HB⟩ := hcut
      obtain ⟨wo, hwo⟩ : ∃ wo : World, wo = wc := ⟨_, rfl⟩
      subst hwo
      obtain ⟨kn, hkn⟩ : ∃ kn : Bool, (match ps[k]? with | some p => p.1.p == f.p | none => false) = kn := ⟨_, rfl⟩
      go_upto_region 7 with (fail)
      go_cut [8] (fun c wx => c = .bool kn ∧ Below wo.heap.size wo wx)
      case first =>
        have hbl := HB.out.size
        have c0 := (HRR.out.below HB.out HRR.out.lt).cell 0
        have cl := Nat.lt_of_lt_of_le HRR.out.lt hbl
        simp only [List.getElem?_toArray, List.getElem?_cons_zero] at c0
        obtain ⟨⟨d0, d1, d2, dl⟩, -⟩ := row3 (hX.below HB.out hX.lt)
        by_cases hlt : k < ps.length
        · obtain ⟨bk, off, rfl, hc⟩ := (HRF.out.below HB.out).sl.cells (by rw [rets_len]; omega)
          obtain ⟨k0, k1, k2⟩ := hc.ret hlt
          have i1 : (k : Int) < (ps.length : Int) := by omega
          have i2 : decide ((k : Int) < (ps.length : Int)) = true := decide_eq_true i1
          have i3 : decide (k < ps.length) = true := decide_eq_true hlt
          rw [List.getElem?_eq_getElem hlt] at hkn
          simp only at hkn
          obtain ⟨x, hx⟩ : ∃ x, (ps[k]).1.p = x := ⟨_, rfl⟩
          rw [hx] at k0 hkn
          clear hx hc
          cases hxf : (x == f.p)
          · rw [hxf] at hkn
            subst hkn
            go_quiet (fail)
            go_wp2_with fail
            go_meet
            exact ⟨rfl, Below.draws (Below.refl _ _) _⟩
          · rw [hxf] at hkn
            subst hkn
            go_quiet (fail)
            go_wp2_with fail
            go_meet
            exact ⟨rfl, Below.draws (Below.refl _ _) _⟩
        · have i2 : decide ((k : Int) < (ps.length : Int)) = false := by simp; omega
          have i3 : decide (k < ps.length) = false := decide_eq_false hlt
          rw [List.getElem?_eq_none (by omega)] at hkn
          simp only at hkn
          subst hkn
          go_quiet (fail)
          go_wp2_with fail
          go_meet
          exact ⟨rfl, Below.draws (Below.refl _ _) _⟩
      case rest =>
        obtain ⟨rfl, hb3⟩ := hcut
        obtain ⟨w3, hw3⟩ : ∃ w3 : World, w3 = wc := ⟨_, rfl⟩
        subst hw3
        have hB3 : Below w2.heap.size w2 w3 := HB.out.trans (hb3.mono HB.out.size)
        have hbw := below_after hb2 hB3 hb2.size
        have hl23 := hB3.size
        have hw2 := hb2.size
        have hX3 := hX.below hB3 hX.lt
        have hO3 := Lib.hid (hO2.out.kept hB3)
        obtain ⟨⟨d0, d1, d2, dl⟩, -⟩ := row3 hX3
        have c0 := (HRR0.out.below hbw hRlt).cell 0
        have cl := Nat.lt_of_lt_of_le hRlt hbw.size
        simp only [List.getElem?_toArray, List.getElem?_cons_zero] at c0
        have hokf := (retB_iff f).1 HFV2.out
        have fv0 := hokf.v0
        have fv1 := hokf.v1
        have HBW := Lib.hid hbw
        clear hX3 hokf
        cases kn
        rotate_left
        · have hlt : k < ps.length := by
            rcases Nat.lt_or_ge k ps.length with h | h
            · exact h
            · rw [List.getElem?_eq_none h] at hkn; cases hkn
          rw [List.getElem?_eq_getElem hlt] at hkn
          have HKP : Hid ((ps[k]).1.p = f.p) := by rw [Hid]; simpa using hkn
          have hkm : k < (ps.map (·.1)).length := by simpa using hlt
          have HVE : Hid (verP (ps.map (·.1)) f.p = (ps[k]).1.v) := by
            have := (place_yes HASC.out hkm (by simpa using HKP.out)).2
            simpa [Hid] using this
          have hpv := (retB_iff _).1 (HV.out _ (List.getElem_mem hlt))
          have v0 := hpv.v0
          have v1 := hpv.v1
          obtain ⟨g, cap', hAe, hcl'⟩ := HRO0.out.form1 (by rw [rets_len]; omega)
          injection hAe with hA1 hA2 hA3
          subst hA1
          obtain ⟨bk, off, hbo, hcc⟩ := (HRF0.out.below hbw).sl.cells (by rw [rets_len]; omega)
          injection hbo with hbo
          injection hbo with hb1' hb2'
          subst hb1' hb2'
          obtain ⟨k0, k1, k2⟩ := hcc.ret hlt
          rw [Nat.zero_add] at k0 k1 k2
          have gl := hcc.1
          have f0 := (HRO0.out.kept hbw).frozenE (k * 3)
          have f1 := (HRO0.out.kept hbw).frozenE (k * 3 + 1)
          have f2 := (HRO0.out.kept hbw).frozenE (k * 3 + 2)
          have i1 : (k : Int) < (ps.length : Int) := by omega
          have HLT := Lib.hid hlt
          have HSE := Lib.hid HS.out
          rw [if_pos trivial, HVE.out] at HSE
          obtain ⟨x, hx⟩ : ∃ x, ps[k]'hlt = x := ⟨_, rfl⟩
          have HPX := Lib.hid hx
          rw [hx] at k0 k1 k2 HSE v0 v1
          obtain ⟨⟨xp, xv, xl⟩, u⟩ := x
          simp only at k0 k1 k2 HSE v0 v1
          clear hx hkn hpv hcc hA2 hA3 hkm HI HI3 HB hb3 hB3 hbw
          have sx : IntKind.i64.wrap (xv + 1) = xv + 1 := IntWalk.i64_in _ (by omega)
          by_cases q1 : f.v ≤ xv
          · have HE := Lib.hid (subA_no HR.out HBW.out (s := s.data.toList) (er := 8) (by rw [HSE.out, if_pos q1]) (by decide))
            have j1 : decide (f.v ≤ xv) = true := decide_eq_true q1
            go_wp2
            go_ret
            exact HE.out
          have j1 : decide (f.v ≤ xv) = false := decide_eq_false q1
          by_cases q2 : xv + 1 < f.v
          · have HE := Lib.hid (subA_no HR.out HBW.out (s := s.data.toList) (er := 16) (by rw [HSE.out, if_neg q1, if_pos q2]) (by decide))
            have j2 : decide (xv + 1 < f.v) = true := decide_eq_true q2
            go_wp2
            go_ret
            exact HE.out
          have j2 : decide (xv + 1 < f.v) = false := decide_eq_false q2
          have HS2 : Hid (subE (ps.map (·.1)) s.data.toList = 0) := by rw [Hid, HSE.out, if_neg q1, if_neg q2]
          have HF2 : Hid (subA (ps.map (·.1)) s.data.toList = putR (ps.map (·.1)) f) := by rw [Hid, HF.out, HS2.out, if_pos rfl]
          have HE : Hid (SubRA w base R ps s.data.toList (.returned (.int .i64 0)) ((((w3.setCell ⟨g, k * 3, none⟩ (.int .i64 f.p)).setCell ⟨g, k * 3 + 1, none⟩ (.int .i64 f.v)).setCell ⟨g, k * 3 + 2, none⟩ (.slice Av f.l.length cv)).drew)) := by
            have := sub_set (w3 := w3.drew) HR.out HRR0.out HRO0.out (hO3.out.kept (Below.refl _ _).drew) HFV2.out HLT.out HKP.out HBW.out.drew HS2.out HF2.out
            exact this
          clear q1 q2 HSE HVE
          go_wp2_with fail
          go_region
          all_goals
            go_wp2
            go_ret
            exact HE.out
        · have HPL : Hid (PlaceR (ps.map (·.1)) f.p k) := ⟨by simpa using hk, fun i hi hil => by
            have := HI.out i hi (by simpa using hil)
            simpa using this, fun h => by
            have h1 := HI3.out (by simpa using h)
            rw [List.getElem_map]; omega⟩
          have HNK : Hid (∀ h : k < (ps.map (fun p : Ret × Value => p.1)).length, ¬ ((ps.map (fun p : Ret × Value => p.1))[k]'h).p = f.p) := fun h => by
            have h' : k < ps.length := by simpa using h
            rw [List.getElem?_eq_getElem h'] at hkn
            simp only [beq_eq_false_iff_ne, ne_eq] at hkn
            rw [List.getElem_map]; exact hkn
          have HIN := Lib.hid (put_no HASC.out HPL.out HNK.out)
          have HSE := Lib.hid HS.out
          rw [if_pos trivial, (place_no HASC.out HPL.out HNK.out).2] at HSE
          clear hkn HI HI3 HB hb3
          have j1 : decide (f.v ≤ 0) = false := decide_eq_false (by omega)
          by_cases q2 : 1 < f.v
          · have HE := Lib.hid (subA_no HR.out HBW.out (s := s.data.toList) (er := 16) (by rw [HSE.out, if_neg (by omega), if_pos (by omega)]) (by decide))
            have j2 : decide (1 < f.v) = true := decide_eq_true q2
            go_wp2
            go_ret
            exact HE.out
          have j2 : decide (1 < f.v) = false := decide_eq_false q2
          have HS2 : Hid (subE (ps.map (·.1)) s.data.toList = 0) := by rw [Hid, HSE.out, if_neg (by omega), if_neg (by omega)]
          have HF2 : Hid (subA (ps.map (·.1)) s.data.toList = putR (ps.map (·.1)) f) := by rw [Hid, HF.out, HS2.out, if_pos rfl]
          clear q2 HSE
          have HLK : Hid (((rets ps).take k).length = k) := by rw [Hid, List.length_take, rets_len]; omega
          have HLD : Hid (((rets ps).drop k).length = ps.length - k) := by rw [Hid, List.length_drop, rets_len]
          have HWI := Lib.hid HRF0.out.wide
          have HW1 : Hid (Wide 3 ((rets ps).take k)) := fun z hz => HWI.out z (List.mem_of_mem_take hz)
          have HW2 : Hid (Wide 3 ((rets ps).drop k)) := fun z hz => HWI.out z (List.mem_of_mem_drop hz)
          have HW3 : Hid (Wide 3 [[.int .i64 f.p, .int .i64 f.v, .slice Av f.l.length cv]]) := fun x hx => by
            obtain rfl := List.mem_singleton.1 hx
            exact ⟨rfl, by simp [Value.oneCell']⟩
          have HHD := Lib.hid ((HRF0.out.below hbw).sl.head k (by omega))
          have HTL : Hid (∀ wx, Below w.heap.size w wx → Sl wx 3 (.slice (if cap = k then A else A.map (·.add (k * 3))) (ps.length - k) (cap - k)) ((rets ps).drop k)) := fun wx hb => (HRF0.out.below hb).sl.from k (by omega)
          by_cases hc0 : cap = 0
          · obtain rfl : k = 0 := by omega
            have hpl : ps.length = 0 := by omega
            have HPL := Lib.hid hpl
            subst hc0
            rw [if_pos rfl] at HTL
            rw [hpl] at c0 HTL
            clear hpl
            go_wp2_with (first
              | (at_builtin; (refine wpList_append_sl rfl (.tmp 87) (.tmp 93) rfl rowRet w.heap.size _ _ [] ((rets ps).take 0) rfl (Own.nil _ _ _ _) rfl (by have hq := HHD.out; first | exact hq | simpa using hq) HW1.out (by rw [HLK.out]; unfold maxLen; simp <;> omega) (by rw [HLK.out]; simp <;> omega) (by omega) ?_); intro v4 w4 hown4 hg4 hv4; have hb4 : Below w3.heap.size w3 w4 := grown_none hg4; have hs4 := hb4.size; rw [List.nil_append] at hown4; have e0 := (hb4.cell (p := ⟨b, 0, none⟩) dl).trans d0; have e1 := (hb4.cell (p := ⟨b, 1, none⟩) dl).trans d1; have e2 := (hb4.cell (p := ⟨b, 2, none⟩) dl).trans d2; have dl4 := Nat.lt_of_lt_of_le dl hs4; have hv4' : v4.ownBlock = none ∨ v4.ownBlock = some w3.heap.size := hv4; have HL4 : Hid (∀ g, v4.ownBlock = some g → w3.heap.size ≤ g) := own_low hv4'; have HO4 := Lib.hid (hO3.out.kept hb4); have hB4 := below_after hbw hb4 hbw.size; clear hg4 hv4 hv4' d0 d1 d2 hb4)
              | (at_builtin; (refine wpList_append_sl rfl (.tmp 95) (.tmp 97) rfl rowRet w.heap.size _ _ ((rets ps).take 0) [[.int .i64 f.p, .int .i64 f.v, .slice Av f.l.length cv]] rfl (hown4.alloc _) rfl (Sl.one rfl rfl) HW3.out (by rw [HLK.out]; unfold maxLen; simp <;> omega) (by rw [HLK.out]; simp <;> omega) (by simp; omega) ?_); intro v5 w5 hown5 hg5 hv5; have hB5 : Below w.heap.size w w5 := (hB4.alloc hB4.size _).grown hg5 (by simp; omega) (fun g hg => by have := HL4.out g hg; omega); have HO5 := Lib.hid ((HO4.out.alloc _).keepG hg5 (apart_ge hO3.out HL4.out)); have hv5' : v5.ownBlock = v4.ownBlock ∨ v5.ownBlock = some (w4.alloc (.cells #[.int .i64 f.p, .int .i64 f.v, .slice Av f.l.length cv] 25)).heap.size := hv5; have HL5 : Hid (∀ g, v5.ownBlock = some g → w3.heap.size ≤ g) := own_low2 hv5' HL4.out (by simp only [World.size_alloc]; omega); have e5 := (HRR0.out.below hB5 hRlt).cell 0; have l5 := Nat.lt_of_lt_of_le hRlt hB5.size; simp only [List.getElem?_toArray, List.getElem?_cons_zero] at e5; rw [HPL.out] at e5; clear hg5 hv5 hv5' e0 e1 e2 dl4)
              | (at_builtin; (refine wpList_append_sl rfl (.tmp 100) (.tmp 106) rfl rowRet w.heap.size _ _ ((rets ps).take 0 ++ [[Value.int .i64 f.p, Value.int .i64 f.v, Value.slice Av f.l.length cv]]) ((rets ps).drop 0) rfl hown5 rfl (by have hq := HTL.out _ hB5; first | exact hq | simpa using hq) HW2.out (by rw [HLD.out, List.length_append, HLK.out]; unfold maxLen; simp <;> omega) (by rw [HLD.out, List.length_append, HLK.out]; simp <;> omega) hB5.size ?_); intro v6 w6 hown6 hg6 hv6; obtain ⟨A7, n7, c7, rfl⟩ := hown6.slc; have hB6 : Below w.heap.size w w6 := hB5.grown hg6 hB5.size (fun g hg => by have := HL5.out g hg; omega); have HO6 := Lib.hid (HO5.out.keepG hg6 (apart_ge hO3.out HL5.out)); have HR6 := Lib.hid (HRR0.out.below hB6 hRlt); have HO6S := Lib.hid hown6; have y2 := HR6.out.cell 0; have y3 := HR6.out.frozen 0; have y4 := HR6.out.lt; simp only [List.getElem?_toArray, List.getElem?_cons_zero] at y2; clear hown6 hg6 hv6))
            go_ret
            exact sub_fin HR.out HR6.out HO6S.out HO6.out HFV2.out HIN.out hB6 hRlt HS2.out HF2.out
          by_cases hc : cap = k
          · have hkl : k = ps.length := by omega
            subst hc
            have hz : ps.length - cap = 0 := by omega
            rw [if_pos rfl, Nat.sub_self, hz] at HTL
            clear hkl hz
            go_wp2_with (first
              | (at_builtin; (refine wpList_append_sl rfl (.tmp 87) (.tmp 93) rfl rowRet w.heap.size _ _ [] ((rets ps).take cap) rfl (Own.nil _ _ _ _) rfl (by have hq := HHD.out; first | exact hq | simpa using hq) HW1.out (by rw [HLK.out]; unfold maxLen; simp <;> omega) (by rw [HLK.out]; simp <;> omega) (by omega) ?_); intro v4 w4 hown4 hg4 hv4; have hb4 : Below w3.heap.size w3 w4 := grown_none hg4; have hs4 := hb4.size; rw [List.nil_append] at hown4; have e0 := (hb4.cell (p := ⟨b, 0, none⟩) dl).trans d0; have e1 := (hb4.cell (p := ⟨b, 1, none⟩) dl).trans d1; have e2 := (hb4.cell (p := ⟨b, 2, none⟩) dl).trans d2; have dl4 := Nat.lt_of_lt_of_le dl hs4; have hv4' : v4.ownBlock = none ∨ v4.ownBlock = some w3.heap.size := hv4; have HL4 : Hid (∀ g, v4.ownBlock = some g → w3.heap.size ≤ g) := own_low hv4'; have HO4 := Lib.hid (hO3.out.kept hb4); have hB4 := below_after hbw hb4 hbw.size; clear hg4 hv4 hv4' d0 d1 d2 hb4)
              | (at_builtin; (refine wpList_append_sl rfl (.tmp 95) (.tmp 97) rfl rowRet w.heap.size _ _ ((rets ps).take cap) [[.int .i64 f.p, .int .i64 f.v, .slice Av f.l.length cv]] rfl (hown4.alloc _) rfl (Sl.one rfl rfl) HW3.out (by rw [HLK.out]; unfold maxLen; simp <;> omega) (by rw [HLK.out]; simp <;> omega) (by simp; omega) ?_); intro v5 w5 hown5 hg5 hv5; have hB5 : Below w.heap.size w w5 := (hB4.alloc hB4.size _).grown hg5 (by simp; omega) (fun g hg => by have := HL4.out g hg; omega); have HO5 := Lib.hid ((HO4.out.alloc _).keepG hg5 (apart_ge hO3.out HL4.out)); have hv5' : v5.ownBlock = v4.ownBlock ∨ v5.ownBlock = some (w4.alloc (.cells #[.int .i64 f.p, .int .i64 f.v, .slice Av f.l.length cv] 25)).heap.size := hv5; have HL5 : Hid (∀ g, v5.ownBlock = some g → w3.heap.size ≤ g) := own_low2 hv5' HL4.out (by simp only [World.size_alloc]; omega); have e5 := (HRR0.out.below hB5 hRlt).cell 0; have l5 := Nat.lt_of_lt_of_le hRlt hB5.size; simp only [List.getElem?_toArray, List.getElem?_cons_zero] at e5; clear hg5 hv5 hv5' e0 e1 e2 dl4)
              | (at_builtin; (refine wpList_append_sl rfl (.tmp 100) (.tmp 106) rfl rowRet w.heap.size _ _ ((rets ps).take cap ++ [[Value.int .i64 f.p, Value.int .i64 f.v, Value.slice Av f.l.length cv]]) ((rets ps).drop cap) rfl hown5 rfl (by have hq := HTL.out _ hB5; first | exact hq | simpa using hq) HW2.out (by rw [HLD.out, List.length_append, HLK.out]; unfold maxLen; simp <;> omega) (by rw [HLD.out, List.length_append, HLK.out]; simp <;> omega) hB5.size ?_); intro v6 w6 hown6 hg6 hv6; obtain ⟨A7, n7, c7, rfl⟩ := hown6.slc; have hB6 : Below w.heap.size w w6 := hB5.grown hg6 hB5.size (fun g hg => by have := HL5.out g hg; omega); have HO6 := Lib.hid (HO5.out.keepG hg6 (apart_ge hO3.out HL5.out)); have HR6 := Lib.hid (HRR0.out.below hB6 hRlt); have HO6S := Lib.hid hown6; have y2 := HR6.out.cell 0; have y3 := HR6.out.frozen 0; have y4 := HR6.out.lt; simp only [List.getElem?_toArray, List.getElem?_cons_zero] at y2; clear hown6 hg6 hv6))
            go_ret
            exact sub_fin HR.out HR6.out HO6S.out HO6.out HFV2.out HIN.out hB6 hRlt HS2.out HF2.out
          · rw [if_neg hc] at HTL
            go_wp2_with (first
              | (at_builtin; (refine wpList_append_sl rfl (.tmp 87) (.tmp 93) rfl rowRet w.heap.size _ _ [] ((rets ps).take k) rfl (Own.nil _ _ _ _) rfl (by have hq := HHD.out; first | exact hq | simpa using hq) HW1.out (by rw [HLK.out]; unfold maxLen; simp <;> omega) (by rw [HLK.out]; simp <;> omega) (by omega) ?_); intro v4 w4 hown4 hg4 hv4; have hb4 : Below w3.heap.size w3 w4 := grown_none hg4; have hs4 := hb4.size; rw [List.nil_append] at hown4; have e0 := (hb4.cell (p := ⟨b, 0, none⟩) dl).trans d0; have e1 := (hb4.cell (p := ⟨b, 1, none⟩) dl).trans d1; have e2 := (hb4.cell (p := ⟨b, 2, none⟩) dl).trans d2; have dl4 := Nat.lt_of_lt_of_le dl hs4; have hv4' : v4.ownBlock = none ∨ v4.ownBlock = some w3.heap.size := hv4; have HL4 : Hid (∀ g, v4.ownBlock = some g → w3.heap.size ≤ g) := own_low hv4'; have HO4 := Lib.hid (hO3.out.kept hb4); have hB4 := below_after hbw hb4 hbw.size; clear hg4 hv4 hv4' d0 d1 d2 hb4)
              | (at_builtin; (refine wpList_append_sl rfl (.tmp 95) (.tmp 97) rfl rowRet w.heap.size _ _ ((rets ps).take k) [[.int .i64 f.p, .int .i64 f.v, .slice Av f.l.length cv]] rfl (hown4.alloc _) rfl (Sl.one rfl rfl) HW3.out (by rw [HLK.out]; unfold maxLen; simp <;> omega) (by rw [HLK.out]; simp <;> omega) (by simp; omega) ?_); intro v5 w5 hown5 hg5 hv5; have hB5 : Below w.heap.size w w5 := (hB4.alloc hB4.size _).grown hg5 (by simp; omega) (fun g hg => by have := HL4.out g hg; omega); have HO5 := Lib.hid ((HO4.out.alloc _).keepG hg5 (apart_ge hO3.out HL4.out)); have hv5' : v5.ownBlock = v4.ownBlock ∨ v5.ownBlock = some (w4.alloc (.cells #[.int .i64 f.p, .int .i64 f.v, .slice Av f.l.length cv] 25)).heap.size := hv5; have HL5 : Hid (∀ g, v5.ownBlock = some g → w3.heap.size ≤ g) := own_low2 hv5' HL4.out (by simp only [World.size_alloc]; omega); have e5 := (HRR0.out.below hB5 hRlt).cell 0; have l5 := Nat.lt_of_lt_of_le hRlt hB5.size; simp only [List.getElem?_toArray, List.getElem?_cons_zero] at e5; clear hg5 hv5 hv5' e0 e1 e2 dl4)
              | (at_builtin; (refine wpList_append_sl rfl (.tmp 100) (.tmp 106) rfl rowRet w.heap.size _ _ ((rets ps).take k ++ [[Value.int .i64 f.p, Value.int .i64 f.v, Value.slice Av f.l.length cv]]) ((rets ps).drop k) rfl hown5 rfl (by have hq := HTL.out _ hB5; first | exact hq | simpa using hq) HW2.out (by rw [HLD.out, List.length_append, HLK.out]; unfold maxLen; simp <;> omega) (by rw [HLD.out, List.length_append, HLK.out]; simp <;> omega) hB5.size ?_); intro v6 w6 hown6 hg6 hv6; obtain ⟨A7, n7, c7, rfl⟩ := hown6.slc; have hB6 : Below w.heap.size w w6 := hB5.grown hg6 hB5.size (fun g hg => by have := HL5.out g hg; omega); have HO6 := Lib.hid (HO5.out.keepG hg6 (apart_ge hO3.out HL5.out)); have HR6 := Lib.hid (HRR0.out.below hB6 hRlt); have HO6S := Lib.hid hown6; have y2 := HR6.out.cell 0; have y3 := HR6.out.frozen 0; have y4 := HR6.out.lt; simp only [List.getElem?_toArray, List.getElem?_cons_zero] at y2; clear hown6 hg6 hv6))
            go_ret
            exact sub_fin HR.out HR6.out HO6S.out HO6.out HFV2.out HIN.out hB6 hRlt HS2.out HF2.out
end Go.Proofs.YtnkephafpebfkaaGreatDoor
/- payrolllaw43.awake: the example of the chapter. -/
namespace Go.Proofs.YtnkephafpebfkaaGreatDoor
open Go.RowKit Go.Shelf

def exR1 : Ret := ⟨5, 1, [⟨6, ⟨#[]⟩, -3⟩]⟩
def exR2 : Ret := ⟨5, 2, []⟩
theorem exR1_val : retB exR1 = true := by decide
theorem exR2_val : retB exR2 = true := by decide
theorem itoa5 : Lib.itoa 5 = [53] := by simp [Lib.itoa, Lib.decDigits]
theorem itoa1 : Lib.itoa 1 = [49] := by simp [Lib.itoa, Lib.decDigits]
theorem itoa2 : Lib.itoa 2 = [50] := by simp [Lib.itoa, Lib.decDigits]
theorem itoam3 : Lib.itoa (-3) = [45, 51] := by simp [Lib.itoa, Lib.decDigits]
theorem exR1_txt : encT exR1 = [114, 101, 116, 117, 114, 110, 32, 53, 32, 118, 101, 114, 115, 105, 111, 110, 32, 49, 10, 116, 97, 120, 32, 45, 51, 10, 101, 110, 100, 10] := by
  rw [encT, exR1_val, if_pos rfl]
  have h : wordsL ⟨6, ⟨#[]⟩, -3⟩ = [wTax, Lib.itoa (-3)] := rfl
  simp only [retT, retL, exR1, headR, lnT, h, List.map_cons, List.map_nil, itoa5, itoa1, itoam3]
  rfl
theorem exR2_txt : encT exR2 = [114, 101, 116, 117, 114, 110, 32, 53, 32, 118, 101, 114, 115, 105, 111, 110, 32, 50, 10, 101, 110, 100, 10] := by
  rw [encT, exR2_val, if_pos rfl]
  simp only [retT, retL, exR2, headR, List.map_nil, itoa5, itoa2]
  rfl
theorem exR1_dec : decE (encT exR1) = 0 ∧ decR (encT exR1) = exR1 := by
  rw [encT, exR1_val, if_pos rfl]; exact dec_of exR1_val
theorem exR2_dec : decE (encT exR2) = 0 ∧ decR (encT exR2) = exR2 := by
  rw [encT, exR2_val, if_pos rfl]; exact dec_of exR2_val
theorem exR_sub : (subE [] (encT exR2) = 16 ∧ subA [] (encT exR2) = []) ∧ (subE [] (encT exR1) = 0 ∧ subA [] (encT exR1) = [exR1]) ∧ (subE [exR1] (encT exR2) = 0 ∧ subA [exR1] (encT exR2) = [exR2]) ∧ (subE [exR2] (encT exR2) = 8 ∧ subA [exR2] (encT exR2) = [exR2]) := by
  have h1 : subE [] (encT exR2) = 16 := by rw [subE, if_pos exR2_dec.1, exR2_dec.2]; decide
  have h2 : subE [] (encT exR1) = 0 := by rw [subE, if_pos exR1_dec.1, exR1_dec.2]; decide
  have h3 : subE [exR1] (encT exR2) = 0 := by rw [subE, if_pos exR2_dec.1, exR2_dec.2]; decide
  have h4 : subE [exR2] (encT exR2) = 8 := by rw [subE, if_pos exR2_dec.1, exR2_dec.2]; decide
  refine ⟨⟨h1, ?_⟩, ⟨h2, ?_⟩, ⟨h3, ?_⟩, h4, ?_⟩
  · rw [subA, h1, if_neg (by decide)]
  · rw [subA, h2, if_pos rfl, exR1_dec.2]; rfl
  · rw [subA, h3, if_pos rfl, exR2_dec.2]; rfl
  · rw [subA, h4, if_neg (by decide)]
theorem exR_enc : encE exR1 = 0 ∧ encE exR2 = 0 := ⟨by rw [encE, exR1_val]; rfl, by rw [encE, exR2_val]; rfl⟩
def exB1 : ByteArray := ⟨#[114, 101, 116, 117, 114, 110, 32, 53, 32, 118, 101, 114, 115, 105, 111, 110, 32, 49, 10, 116, 97, 120, 32, 45, 51, 10, 101, 110, 100, 10]⟩
def exB2 : ByteArray := ⟨#[114, 101, 116, 117, 114, 110, 32, 53, 32, 118, 101, 114, 115, 105, 111, 110, 32, 50, 10, 101, 110, 100, 10]⟩
theorem below_map {w0 w w' : World} {M : Nat} (h : Below w0.heap.size w0 w) (hg : w.grownBy w' (some M)) (hM : w0.heap.size ≤ M) : Below w0.heap.size w0 w' :=
  h.grown hg h.size (fun g hg => by injection hg; omega)
theorem Submit_any (B M : Nat) (es : List (Ret × Value)) (s : ByteArray) (w : World) (hb : AuthS w B M es) (hT : Tabs w) (hE : Errs w) :
    Calls Tryz.prog 24 #[.pointer (some ⟨B, 0, none⟩), .string s] w fun e w' => ∃ es', e = .returned (.int .i64 (subE (es.map (·.1)) s.data.toList)) ∧ AuthS w' B M es' ∧ es'.map (·.1) = subA (es.map (·.1)) s.data.toList ∧ w.grownBy w' (some M) :=
  (SubmitA_any B M es s w hb hT hE).mono fun _ _ ⟨es', h1, h2, h3, h4, _⟩ => ⟨es', h1, h2, h3, h4⟩
set_option maxRecDepth 100000 in
set_option maxHeartbeats 2000000 in
theorem awake_any (w : World) (hT : Tabs w) (hE : Errs w) : Calls Tryz.prog 8 #[] w fun e w' => e = .returned (.bool true) ∧ Below w.heap.size w w' := by
  have HT := Lib.hid hT
  have HER := Lib.hid hE
  clear hT hE
  have hB0 := (Below.refl w.heap.size w).alloc (Nat.le_refl _) (.cells #[.int .i64 6, .string ⟨#[]⟩, .int .i64 (-3)] 56)
  have HEN : Hid (Calls Tryz.prog 13 #[.agg #[.int .i64 5, .int .i64 1, .slice (some ⟨w.heap.size, 0, none⟩) 1 1]] (w.alloc (.cells #[.int .i64 6, .string ⟨#[]⟩, .int .i64 (-3)] 56)) fun e w' => e = .returned (.tuple #[.string exB1, .int .i64 0]) ∧ Below (w.alloc (.cells #[.int .i64 6, .string ⟨#[]⟩, .int .i64 (-3)] 56)).heap.size (w.alloc (.cells #[.int .i64 6, .string ⟨#[]⟩, .int .i64 (-3)] 56)) w') := by
    have := EncodeR_any exR1 (.slice (some ⟨w.heap.size, 0, none⟩) 1 1) (w.alloc (.cells #[.int .i64 6, .string ⟨#[]⟩, .int .i64 (-3)] 56)) (Sl.one rfl rfl) (HT.out.below hB0)
    rw [exR_enc.1, exR1_txt] at this
    exact this
  have HEN2 : Hid (∀ W, Below w.heap.size w W → Calls Tryz.prog 13 #[.agg #[.int .i64 5, .int .i64 2, .slice none 0 0]] W fun e w' => e = .returned (.tuple #[.string exB2, .int .i64 0]) ∧ Below W.heap.size W w') := fun W hW => by
    have := EncodeR_any exR2 (.slice none 0 0) W (Sl.nil _ _) (HT.out.below hW)
    rw [exR_enc.2, exR2_txt] at this
    exact this
  have HTX : Hid (exB1.data.toList = encT exR1) := by rw [Hid, exR1_txt]; rfl
  have HTX2 : Hid (exB2.data.toList = encT exR2) := by rw [Hid, exR2_txt]; rfl
  obtain ⟨tx, htx⟩ : ∃ tx, exB1 = tx := ⟨_, rfl⟩
  obtain ⟨ty, hty⟩ : ∃ ty, exB2 = ty := ⟨_, rfl⟩
  have t3 : (tx.toList == [114, 101, 116, 117, 114, 110, 32, 53, 32, 118, 101, 114, 115, 105, 111, 110, 32, 49, 10, 116, 97, 120, 32, 45, 51, 10, 101, 110, 100, 10]) = true := by
    rw [ByteArray.toList_eq, ← htx]; decide
  have t4 : tx.toList = [114, 101, 116, 117, 114, 110, 32, 53, 32, 118, 101, 114, 115, 105, 111, 110, 32, 49, 10, 116, 97, 120, 32, 45, 51, 10, 101, 110, 100, 10] := by simpa using t3
  rw [htx] at HEN HTX
  rw [hty] at HEN2 HTX2
  clear htx hty
  have HT3 := Lib.hid t3
  have HT4 := Lib.hid t4
  clear t3 t4
  go_enter Tryz.func8, Tryz.ntmps8
  go_wp2_with fail
  refine HEN.out.mono ?_
  rintro e w1 ⟨rfl, hb1⟩
  have hB1 := below_after hB0 hb1 hB0.size
  clear hB0 hb1 HEN
  go_wp2_with fail
  refine (HEN2.out w1 hB1).mono ?_
  rintro e w1' ⟨rfl, hb1⟩
  have hB1' := below_after hB1 hb1 hB1.size
  clear hB1 hb1 HEN2
  go_wp2_with fail
  refine (NewA_any w1').mono ?_
  rintro e w2 ⟨B, M, rfl, hb2, hbl2, hM, hMB⟩
  have hB2 := below_after hB1' hbl2 hB1'.size
  have hMw : w.heap.size ≤ M := by have := hB1'.size; omega
  have HQ : Hid (∀ W, (binOp .neq 44 (.pointer (some ⟨B, 0, none⟩)) (.pointer none)).run Tryz.prog W = .ok (.bool true) W) := fun W => by kernel_rfl
  clear hB1' hbl2 hM
  have t3 := HT3.out
  have t4 := HT4.out
  have hq := HQ.out
  go_wp2_with fail
  clear t3 t4 hq
  refine (Submit_any B M [] ty w2 hb2 (HT.out.below hB2) (HER.out.below hB2)).mono ?_
  rw [HTX2.out]
  rintro e w3 ⟨es3, rfl, hb3, he3, hg3⟩
  rw [show (List.map (fun x : Ret × Value => x.1) []) = [] from rfl] at he3 ⊢
  rw [exR_sub.1.2] at he3
  rw [exR_sub.1.1]
  have hB3 := below_map hB2 hg3 hMw
  clear hb2 hB2 hg3
  go_wp2_with fail
  refine (Submit_any B M es3 tx w3 hb3 (HT.out.below hB3) (HER.out.below hB3)).mono ?_
  rw [HTX.out, he3]
  rintro e w4 ⟨es4, rfl, hb4, he4, hg4⟩
  rw [exR_sub.2.1.2] at he4
  rw [exR_sub.2.1.1]
  have hB4 := below_map hB3 hg4 hMw
  clear hb3 hB3 hg4 he3
  go_wp2_with fail
  refine (Submit_any B M es4 ty w4 hb4 (HT.out.below hB4) (HER.out.below hB4)).mono ?_
  rw [HTX2.out, he4]
  rintro e w5 ⟨es5, rfl, hb5, he5, hg5⟩
  rw [exR_sub.2.2.1.2] at he5
  rw [exR_sub.2.2.1.1]
  have hB5 := below_map hB4 hg5 hMw
  clear hb4 hB4 hg5 he4
  go_wp2_with fail
  refine (Submit_any B M es5 ty w5 hb5 (HT.out.below hB5) (HER.out.below hB5)).mono ?_
  rw [HTX2.out, he5]
  rintro e w6 ⟨es6, rfl, hb6, he6, hg6⟩
  rw [exR_sub.2.2.2.1]
  have hB6 := below_map hB5 hg6 hMw
  clear hb5 hB5 hg6 he5 he6 hb6
  go_wp2
  go_ret
  exact ⟨rfl, hB6⟩
end Go.Proofs.YtnkephafpebfkaaGreatDoor
/- What the law AuthorityCopies needs: nil authorities; what stays where something is submitted. -/
namespace Go.Proofs.YtnkephafpebfkaaGreatDoor
open Go.RowKit Go.Shelf

theorem eq_nil_auth0 (w : World) : (binOp .eql 44 (.pointer none) (.pointer none)).run Tryz.prog w = .ok (.bool true) w := by kernel_rfl
theorem LatestA_nil (p : Int) (w : World) : Calls Tryz.prog 30 #[.pointer none, .int .i64 p] w fun e w' => e = .returned (.tuple #[.agg #[.int .i64 0, .int .i64 0, .slice none 0 0], .bool false]) ∧ Below w.heap.size w w' := by
  have E := eq_nil_auth0 (w.alloc (.cells #[.int .i64 0, .int .i64 0, .slice none 0 0] 25))
  go_enter Tryz.func30, Tryz.ntmps30
  go_wp2
  refine bodyPost_ret (v := .tuple #[.agg #[.int .i64 0, .int .i64 0, .slice none 0 0], .bool false]) (by simp [results, Tryz.results30, go_sem]) rfl ?_
  exact ⟨rfl, (Below.refl _ _).alloc (Nat.le_refl _) _⟩
theorem SubmitA_nil (s : ByteArray) (w : World) : Calls Tryz.prog 24 #[.pointer none, .string s] w fun e w' => e = .returned (.int .i64 1) ∧ Below w.heap.size w w' := by
  have E := eq_nil_auth0 w
  go_enter Tryz.func24, Tryz.ntmps24
  go_wp2
  go_ret
  exact ⟨rfl, Below.refl _ _⟩
theorem PeriodsA_nil (w : World) : Calls Tryz.prog 31 #[.pointer none] w fun e w' => e = .returned (.slice none 0 0) ∧ Below w.heap.size w w' := by
  have E := eq_nil_auth0 w
  go_enter Tryz.func31, Tryz.ntmps31
  go_wp2
  go_ret
  exact ⟨rfl, Below.refl _ _⟩
theorem TotalA_nil (k : Int) (c : ByteArray) (w : World) : Calls Tryz.prog 32 #[.pointer none, .int .i64 k, .string c] w fun e w' => e = .returned (.int .i64 0) ∧ Below w.heap.size w w' := by
  have E := eq_nil_auth0 w
  go_enter Tryz.func32, Tryz.ntmps32
  go_wp2
  go_ret
  exact ⟨rfl, Below.refl _ _⟩
theorem CopyA_nil (w : World) : Calls Tryz.prog 28 #[.pointer none] w fun e w' => e = .returned (.pointer none) ∧ Below w.heap.size w w' := by
  have E := eq_nil_auth0 w
  go_enter Tryz.func28, Tryz.ntmps28
  go_wp2
  go_ret
  exact ⟨rfl, Below.refl _ _⟩
theorem encT_len {f : Ret} (h : retB f = true) : (encT f).length ≤ 20000 := by
  rw [encT, h, if_pos rfl]
  exact ((retB_iff f).1 h).len
/-- both have answered to one text -/
theorem AgrA.submit {wr w1 w2 : World} {base B M R X : Nat} {es ps es' ps' : List (Ret × Value)} {s : List UInt8} (h : AgrA wr base B M R es ps) (hM : base ≤ M) (hb : AuthS w1 B M es') (he : es'.map (·.1) = subA (es.map (·.1)) s) (hg1 : wr.grownBy w1 (some M))
    (ho : ∀ p ∈ es', p ∈ es ∨ Own w1 wr.heap.size 56 3 p.2 (lns p.1.l)) (hr : RefA w2 base R ps') (hp : (ps'.map (·.1)).Perm (subA (ps.map (·.1)) s)) (hg2 : w1.grownBy w2 (some X)) (hx : RefX w1 X) : AgrA w2 base B M R es' ps' := by
  have hML := lt_of_some h.auth.map
  have hO1 : AuO w1 base es' := fun p hp => by
    rcases ho p hp with hp | hp
    · exact (h.own p hp).keepG hg1 (own_not_map (h.own p hp) h.auth.map)
    · exact hp.more (by omega)
  obtain ⟨hb2, hO2⟩ := hb.ref hO1 hg2 hx
  refine ⟨hb2, hO2, hr, ?_⟩
  rw [he]
  exact (subA_perm h.perm h.auth.dist s).trans hp.symm
/-- another authority's map grows -/
theorem AgrA.keepM {w w' : World} {base B M R M1 n : Nat} {a : Array MapEntry} {es ps : List (Ret × Value)} (h : AgrA w base B M R es ps) (hg : w.grownBy w' (some M1)) (hm : w.heap[M1]? = some (.map a n)) (hne : M ≠ M1) : AgrA w' base B M R es ps := by
  have hO : AuO w' base es := fun p hp => (h.own p hp).keepG hg (own_not_map (h.own p hp) hm)
  have hB : B ≠ M1 := fun e => by
    have := h.auth.box
    unfold Row at this
    rw [e, hm] at this; cases this
  exact ⟨⟨h.auth.box.keep hg (fun e => hB (Option.some.inj e)), (hg.block M (lt_of_some h.auth.map) (fun e => hne (Option.some.inj e))).trans h.auth.map, fun p hp => (hO p hp).sl (by omega), h.auth.val, h.auth.dist⟩, hO, h.ref.keepM hg hm, h.perm⟩
/-- another reference writes into its own memory, which lies ahead -/
theorem AgrA.keepX {w w' : World} {base B M R X n : Nat} {es ps : List (Ret × Value)} (h : AgrA w base B M R es ps) (hR : n ≤ R) (hv : ∃ v, Row w R 49 #[v] ∧ Own w n 25 3 v (rets ps)) (hg : w.grownBy w' (some X)) (hx : RefX w X) (hX : X < n) : AgrA w' base B M R es ps := by
  obtain ⟨ha, ho⟩ := h.auth.ref h.own hg hx
  obtain ⟨v, h1, h2⟩ := hv
  obtain ⟨v0, k1, k2⟩ := h.ref.ex
  have e : v0 = v := by
    unfold Row at h1 k1
    rw [k1] at h1
    simpa using h1
  subst e
  refine ⟨ha, ho, ⟨⟨v0, h1.keep hg (by intro e; injection e; omega), k2.keepG hg ?_⟩, fun p hp => (h.ref.ln p hp).keepG hg (hx.own (h.ref.ln p hp)), h.ref.val, h.ref.asc, h.ref.low⟩, h.perm⟩
  cases hv : v0.ownBlock with
  | none => exact .inl rfl
  | some g =>
    refine .inr fun e => ?_
    have := (h2.1.lt g hv).1
    injection e; omega
theorem mine_lt {w : World} {R X n : Nat} {v : Value} (hr : Row w R 49 #[v]) (hlt : ∀ g, v.ownBlock = some g → g < n) (hR : R < n) (hm : MineX w R X) : X < n := by
  rcases hm with rfl | ⟨v', h1, h2⟩
  · exact hR
  · have e : v' = v := by
      unfold Row at h1 hr
      rw [hr] at h1
      simpa using h1.symm
    subst e
    exact hlt X h2
theorem good_ver : ∀ (n : Nat) {l : List Ret}, GoodRs l → l.length = n → ∀ p, 0 ≤ verP l p ∧ verP l p ≤ n
  | 0, l, _, hl, p => by rw [List.eq_nil_of_length_eq_zero hl]; simp [verP, ofP]
  | n + 1, l, h, hl, p => by
    have e : l = l.take n ++ [l[n]'(by omega)] := by
      conv => lhs; rw [← List.take_length (l := l), hl]
      rw [List.take_succ_eq_append_getElem (by omega)]
    have ih := good_ver n (h.take n) (by rw [List.length_take]; omega)
    have hn := h n (by omega)
    rw [e, verP_snoc]
    split
    · rw [hn.2.2.1]; have := ih (l[n]'(by omega)).p; omega
    · have := ih p; omega
/-- the return that is submitted more -/
def moreR (v : Int) : Ret := ⟨0, v, [⟨6, ⟨#[]⟩, 9⟩]⟩
theorem moreR_val {v : Int} (h0 : 1 ≤ v) (h1 : v ≤ 65536) : retB (moreR v) = true := by
  rw [retB_iff]
  refine ⟨by simp [moreR], by simp [moreR], h0, h1, by simp [moreR], fun x hx => ?_, by simp only [moreR]; decide⟩
  simp only [moreR, List.mem_singleton] at hx
  subst hx; decide
/-- where the first loop stands -/
structure CoS (w w2 : World) (B M R : Nat) (es ps : List (Ret × Value)) (wr : World) : Prop where
  agr : AgrA wr w2.heap.size B M R es ps
  below : Below w.heap.size w wr
  mem : Below w2.heap.size w2 wr
  ord : w.heap.size ≤ w2.heap.size ∧ w2.heap.size ≤ M
theorem CoS.same {w w2 wr w' : World} {B M R : Nat} {es ps : List (Ret × Value)} (h : CoS w w2 B M R es ps wr) (hb : Below wr.heap.size wr w') : CoS w w2 B M R es ps w' :=
  ⟨h.agr.below hb, below_after h.below hb h.below.size, below_after h.mem hb h.mem.size, h.ord⟩
theorem CoS.submit {w w2 wr w3 w4 : World} {B M R X : Nat} {es ps es' ps' : List (Ret × Value)} {s : List UInt8} (h : CoS w w2 B M R es ps wr) (hb : AuthS w3 B M es') (he : es'.map (·.1) = subA (es.map (·.1)) s) (hg1 : wr.grownBy w3 (some M))
    (ho : ∀ p ∈ es', p ∈ es ∨ Own w3 wr.heap.size 56 3 p.2 (lns p.1.l)) (hr : RefA w4 w2.heap.size R ps') (hp : (ps'.map (·.1)).Perm (subA (ps.map (·.1)) s)) (hg2 : w3.grownBy w4 (some X)) (hx : RefX w3 X) (hX : w2.heap.size ≤ X) : CoS w w2 B M R es' ps' w4 := by
  obtain ⟨h1, h2⟩ := h.ord
  exact ⟨h.agr.submit h2 hb he hg1 ho hr hp hg2 hx, below_map (below_map h.below hg1 (by omega)) hg2 (by omega), below_map (below_map h.mem hg1 h2) hg2 hX, h.ord⟩
/-- the authority, its copy, the reference's and its copy -/
structure Bth (w w2 : World) (n B M R Bc Mc Rq : Nat) (vR : Value) (es ps esc : List (Ret × Value)) (wx : World) : Prop where
  co : CoS w w2 B M R es ps wx
  cq : AgrA wx w2.heap.size Bc Mc Rq esc ps
  qo : ∃ v, Row wx Rq 49 #[v] ∧ Own wx n 25 3 v (rets ps)
  rr : Row wx R 49 #[vR]
  ne : Mc ≠ M
  rn : R < n ∧ ∀ g, vR.ownBlock = some g → g < n
  nq : n ≤ Rq
theorem Bth.below {w w2 wx w' : World} {n B M R Bc Mc Rq : Nat} {vR : Value} {es ps esc : List (Ret × Value)} (h : Bth w w2 n B M R Bc Mc Rq vR es ps esc wx) (hb : Below wx.heap.size wx w') : Bth w w2 n B M R Bc Mc Rq vR es ps esc w' := by
  obtain ⟨v, h1, h2⟩ := h.qo
  exact ⟨h.co.same hb, h.cq.below hb, ⟨v, h1.below hb h1.lt, h2.kept hb⟩, h.rr.below hb h.rr.lt, h.ne, h.rn, h.nq⟩
theorem row_not_map {w : World} {R M n : Nat} {t : TypeId} {cs : Array Value} {a : Array MapEntry} (hr : Row w R t cs) (hm : w.heap[M]? = some (.map a n)) : R ≠ M := fun e => by
  unfold Row at hr
  rw [e, hm] at hr; cases hr
theorem Bth.submit {w w2 wr w3 w4 : World} {n B M R Bc Mc Rq X : Nat} {vR : Value} {es ps esc es' ps' : List (Ret × Value)} {s : List UInt8} (h : Bth w w2 n B M R Bc Mc Rq vR es ps esc wr) (hb : AuthS w3 B M es') (he : es'.map (·.1) = subA (es.map (·.1)) s) (hg1 : wr.grownBy w3 (some M))
    (ho : ∀ p ∈ es', p ∈ es ∨ Own w3 wr.heap.size 56 3 p.2 (lns p.1.l)) (hr : RefA w4 w2.heap.size R ps') (hp : (ps'.map (·.1)).Perm (subA (ps.map (·.1)) s)) (hg2 : w3.grownBy w4 (some X)) (hx : RefX w3 X) (hX : w2.heap.size ≤ X) (hm : MineX w3 R X) : CoS w w2 B M R es' ps' w4 ∧ AgrA w4 w2.heap.size Bc Mc Rq esc ps := by
  have hmp := h.co.agr.auth.map
  obtain ⟨v, q1, q2⟩ := h.qo
  have r1 := h.rr.keep hg1 (fun e => row_not_map h.rr hmp (Option.some.inj e))
  have q3 := q1.keep hg1 (fun e => row_not_map q1 hmp (Option.some.inj e))
  exact ⟨h.co.submit hb he hg1 ho hr hp hg2 hx hX, (h.cq.keepM hg1 hmp h.ne).keepX h.nq ⟨v, q3, q2.keepG hg1 (own_not_map q2 hmp)⟩ hg2 hx (mine_lt r1 h.rn.2 h.rn.1 hm)⟩
/-- the box of the return that is submitted more -/
def MoS (w6 : World) (m g : Nat) (ver : Int) (wx : World) : Prop := Row wx m 25 #[.int .i64 0, .int .i64 ver, .slice (some ⟨g, 0, none⟩) 1 1] ∧ Below w6.heap.size w6 wx
end Go.Proofs.YtnkephafpebfkaaGreatDoor
/- Contract of paygen.Deck.Returns. -/
namespace Go.Proofs.YtnkephafpebfkaaGreatDoor
open Go.RowKit

theorem form_line {k : Int} {c : ByteArray} {a : Int} (hk : 4 ≤ k ∧ k ≤ 6) (h : (k = 6 ∧ c = ⟨#[]⟩) ∨ (k ≠ 6 ∧ nameB c.data.toList = true)) (ha : 1 ≤ a ∧ a ≤ 1000) : formB ⟨k, c, a⟩ = true ∧ filedB k = true := by
  have q3 : totB a = true := by simp [totB]; omega
  have q4 : decide (a ≠ 0) = true := by rw [decide_eq_true_eq]; omega
  have hf : filedB k = true := by simp [filedB]; omega
  have q1 : decide (1 ≤ k) = true := by rw [decide_eq_true_eq]; omega
  have q2 : decide (k ≤ 10) = true := by rw [decide_eq_true_eq]; omega
  refine ⟨?_, hf⟩
  rcases h with ⟨rfl, rfl⟩ | ⟨h6, hn⟩
  · simp only [formB, formedB, q3, q4]; rfl
  · have hb : bareB k = false := by simp [bareB]; omega
    simp only [formB, formedB, q1, q2, q3, q4, hb, hn, Bool.true_and, Bool.and_true]; rfl
theorem own_off {v : Value} {b : Nat} (h : ∀ g, v.ownBlock = some g → g < b) : v.ownBlock = none ∨ v.ownBlock ≠ some b := by
  cases hv : v.ownBlock with
  | none => exact .inl rfl
  | some g => exact .inr fun e => by have := h g hv; injection e with e; omega
/-- returns have been drawn -/
def RetsPost (w : World) (D dr n : Nat) (e : Ending) (w' : World) : Prop :=
  ∃ (x : Value) (ps : List (Ret × Value)) (d : Nat), e = .returned x ∧ GoodRs (ps.map (·.1)) ∧ ps.length ≤ n ∧ RetsOwn w' w.heap.size x ps ∧ Deck w' D d ∧ d ≤ dr + 1 + 10 * n ∧ w.grownBy w' (some D)
/-- where the outer loop stands -/
structure RgL (w : World) (D dr n K : Nat) (x : Value) (k : Nat) (ps : List (Ret × Value)) (d : Nat) (wr : World) : Prop where
  kl : k ≤ K
  good : GoodRs (ps.map (·.1))
  len : ps.length + k ≤ K
  own : RetsOwn wr w.heap.size x ps
  deck : Deck wr D d
  d : d ≤ dr + 1 + 10 * (K - k)
  grown : w.grownBy wr (some D)
set_option maxRecDepth 100000 in
set_option maxHeartbeats 8000000 in
theorem Returns_any (D dr n : Nat) (w : World) (hd : Deck w D dr) (hdr : dr ≤ 1000000) (hn : n ≤ 100) :
    Calls Tryz.prog 27 #[.pointer (some ⟨D, 0, none⟩), .int .i64 n] w (RetsPost w D dr n) := by
  have hD := hd.lt
  go_enter Tryz.func27, Tryz.ntmps27
  go_wp2_with fail
  refine (Next_any D dr _ _ hd (by omega) (by omega) (by omega)).mono ?_
  rintro e w1 ⟨r, ⟨hr1, hr2⟩, rfl, hd1, hg1⟩
  obtain ⟨K, rfl⟩ := Int.eq_ofNat_of_zero_le hr1
  have hKn : K ≤ n := by omega
  have H0 : Hid (RgL w D dr n K (.slice none 0 0) K [] (dr + 1) w1) := ⟨Nat.le_refl _, GoodRs.nil, by simp, ⟨Own.nil _ _ _ _, (fun p hp => by cases hp)⟩, hd1, by omega, hg1⟩
  clear hd hd1 hg1
  go_wp2_with fail
  go_loopw [5, 6] (fun x t wr => ∃ (k : Nat) (ps : List (Ret × Value)) (d : Nat), t = .int .i64 k ∧ Hid (RgL w D dr n K x k ps d wr)) (fun _ t _ => (intOf t).toNat)
  case atStart => exact ⟨K, [], dr + 1, rfl, H0.out⟩
  case round =>
    clear H0
    obtain ⟨k, ps, d, rfl, HL⟩ := hrel
    obtain ⟨wo, rfl⟩ : ∃ wo : World, wo = wr := ⟨_, rfl⟩
    have hk := HL.out.kl
    by_cases hpos : 0 < k
    rotate_left
    · have dp : decide ((0 : Int) < (k : Int)) = false := decide_eq_false (by omega)
      have hk0 : k = 0 := by omega
      go_wp2
      go_ret
      have hl := HL.out.len
      have hdd := HL.out.d
      exact ⟨_, ps, d, rfl, HL.out.good, by omega, HL.out.own, HL.out.deck, by omega, HL.out.grown⟩
    have dp : decide ((0 : Int) < (k : Int)) = true := decide_eq_true (by omega)
    have hdd := HL.out.d
    have hlen := HL.out.len
    have hDo := HL.out.deck.lt
    have h00 : Hid (GoodA [] 4 ∧ Own wo wo.heap.size 56 3 (.slice none 0 0) (lns []) ∧ Deck wo D d ∧ wo.grownBy wo (some D)) := ⟨GoodA.nil, Own.nil _ _ _ _, HL.out.deck, World.grownBy.refl _ _⟩
    go_wp2_with fail
    go_loopw [7, 8] (fun v t wi => ∃ (q : Int) (acc : List Ln) (di : Nat), (4 ≤ q ∧ q ≤ 7) ∧ t = .int .i64 q ∧ (di : Int) ≤ d + 3 * (q - 4) ∧ Hid (GoodA acc q ∧ Own wi wo.heap.size 56 3 v (lns acc) ∧ Deck wi D di ∧ wo.grownBy wi (some D))) (fun _ t _ => (7 - intOf t).toNat)
    case atStart => exact ⟨4, [], d, ⟨by omega, by omega⟩, rfl, by omega, h00.out⟩
    case round =>
      clear h00
      obtain ⟨q, acc, di, ⟨q0, q1⟩, rfl, hdi, HI⟩ := hrel
      obtain ⟨wi, rfl⟩ : ∃ wi : World, wi = wr := ⟨_, rfl⟩
      have hgi := HI.out.2.2.2.size
      by_cases hq : q ≤ 6
      rotate_left
      · have dq : decide (q ≤ 6) = false := decide_eq_false hq
        obtain rfl : q = 7 := by omega
        have hAL := HI.out.1.len
        go_wp2_with fail
        refine (Next_any D di 3 wi HI.out.2.2.1 (by omega) (by omega) (by omega)).mono ?_
        rintro e w2 ⟨pp, ⟨p0, p1⟩, rfl, hd2, hg2⟩
        have hgo2 := gb_trans HI.out.2.2.2 hg2
        have ho2 := (HL.out.own.keepD hgo2 (Nat.lt_of_lt_of_le hD (Nat.le_refl _)))
        have hl2 := HI.out.2.1.keepD2 hg2 hDo
        have hgood := HL.out.good
        have hver := hgood.ver _ rfl pp
        have hln := hgood.lin pp
        have hmm : ∀ z ∈ ps, z.1.l.length ≤ 256 := fun z hz => by
          have := (hgood.mem (List.mem_map.2 ⟨z, hz, rfl⟩)).2.2
          omega
        rw [List.length_map] at hver
        have HO2 := Lib.hid ho2
        have HL2 := Lib.hid hl2
        have HA := Lib.hid HI.out.1
        have hw2 := hgo2.size
        have hD2 := hd2.lt
        have hsl2 := hl2.sl (by omega)
        have hnx := Next38_any ps _ _ pp acc w2 ho2.at hmm hsl2 (by omega) ⟨hver.1, by omega⟩ (by omega)
        have HNX := Lib.hid hnx
        clear hnx ho2 hl2 hmm hsl2 HI hg2
        go_wp2_with fail
        refine HNX.out.mono ?_
        rintro e w3 ⟨hb3, hcase⟩
        have hG3 := gb_trans HL.out.grown (gb_below hgo2 hb3)
        have hd3 := hd2.below hb3
        have HO3 := Lib.hid (HO2.out.kept hb3)
        have hw3 := hb3.size
        clear HNX HO2 HL2 hgo2 hd2 hb3
        rcases hcase with ⟨hne, v3, rfl, hown3⟩ | ⟨heq, rfl⟩
        rotate_left
        · have hal := (Below.refl w3.heap.size w3).alloc (Nat.le_refl _) (.cells #[.int .i64 0, .int .i64 0, .slice none 0 0] 25)
          have HEND : Hid (RgL w D dr n K _ (k - 1) ps (di + 1) (w3.alloc (.cells #[.int .i64 0, .int .i64 0, .slice none 0 0] 25))) := ⟨by omega, hgood, by omega, HO3.out.kept hal, hd3.below hal, by omega, gb_alloc hG3 _⟩
          clear hal heq hG3 hd3 HO3 HL
          go_wp2
          go_roundw
          case rel => exact ⟨k - 1, ps, di + 1, by go_num, HEND.out⟩
          case measure => simp [intOf]; omega
        · have hnr : nextR (ps.map (·.1)) pp acc = ⟨pp, verP (ps.map (·.1)) pp + 1, acc⟩ := rfl
          obtain ⟨A3, c3, rfl⟩ := hown3.form
          rw [lns_len] at hown3 ⊢
          have hrb : retB (nextR (ps.map (·.1)) pp acc) = true := HA.out.ret ⟨p0, by omega⟩ ⟨by omega, by omega⟩
          have hgs := hgood.snoc hrb ⟨p0, by show pp ≤ 2; omega⟩ rfl (by show acc.length ≤ 3; omega)
          have hgs2 : GoodRs ((ps ++ [(nextR (ps.map (·.1)) pp acc, Value.slice A3 acc.length c3)]).map (·.1)) := by simpa using hgs
          obtain ⟨vv, hvv⟩ : ∃ vv, verP (ps.map (·.1)) pp + 1 = vv := ⟨_, rfl⟩
          obtain ⟨nr, hnn⟩ : ∃ nr, nextR (ps.map (·.1)) pp acc = nr := ⟨_, rfl⟩
          rw [hnn] at hnr hgs2
          rw [hnn]
          rw [hvv] at hnr
          have hnl : nr.l = acc := by rw [hnr]
          have hgv : nr.vals (.slice A3 acc.length c3) = #[.int .i64 pp, .int .i64 vv, .slice A3 acc.length c3] := by rw [hnr]; rfl
          rw [hgv]
          have HGV := Lib.hid hgv
          have HGS := Lib.hid hgs2
          have hlo : Own w3 w.heap.size 56 3 (.slice A3 acc.length c3) (lns nr.l) := by rw [hnl]; exact hown3.more (by have := HL.out.grown.size; omega)
          have HLO := Lib.hid hlo
          have hal := (Below.refl w3.heap.size w3).alloc (Nat.le_refl _) (.cells #[.int .i64 pp, .int .i64 vv, .slice A3 acc.length c3] 25)
          have HX1 := Lib.hid (Row.new w3 25 #[.int .i64 pp, .int .i64 vv, .slice A3 acc.length c3])
          have hwl := HL.out.grown.size
          have hpl : ps.length ≤ 100 := by omega
          clear hgs hgs2 hrb hnr hnl hgv hne hown3 hgood hvv hnn hln hver hlo HA
          obtain ⟨w4, hw4⟩ : ∃ w4, w3.alloc (.cells #[.int .i64 pp, .int .i64 vv, .slice A3 acc.length c3] 25) = w4 := ⟨_, rfl⟩
          rw [hw4] at hal HX1
          obtain ⟨⟨y0, y1, y2, yl⟩, -⟩ := row3 HX1.out
          have hw34 := hal.size
          have HO4 := Lib.hid (HO3.out.kept hal)
          have HLO4 := Lib.hid (HLO.out.kept hal)
          have hG4 := gb_below hG3 hal
          have hd4 := hd3.below hal
          have hb5 : Below w4.heap.size w4 (w4.alloc (.cells #[.int .i64 pp, .int .i64 vv, .slice A3 acc.length c3] 25)) := (Below.refl _ _).alloc (Nat.le_refl _) _
          clear HX1 HO3 HLO hG3 hd3 hal
          have hone : Sl (w4.alloc (.cells #[.int .i64 pp, .int .i64 vv, .slice A3 acc.length c3] 25)) 3 (.slice (some ⟨w4.heap.size, 0, none⟩) 1 1) (rets [(nr, .slice A3 acc.length c3)]) := by
            have : rets [(nr, .slice A3 acc.length c3)] = [[.int .i64 pp, .int .i64 vv, .slice A3 acc.length c3]] := by simp [rets, HGV.out]
            rw [this]; exact Sl.one rfl rfl
          have HONE := Lib.hid hone
          clear hone
          go_wp2_with (at_builtin; refine wpList_append_sl rfl (.tmp 50) (.tmp 52) rfl rowRet w.heap.size _ _ (rets ps) (rets [(nr, .slice A3 acc.length c3)]) rfl (HO4.out.own.alloc _) rfl HONE.out (rets_one _ _ ⟨_, _, _, rfl⟩) (by rw [rets_len, rets_len]; unfold maxLen; simp; omega) (by rw [rets_len, rets_len]; simp; omega) (by have := hb5.size; omega) ?_; intro v6 w6 hown6 hg6 _)
          have hR6 := HO4.out.app hb5 HLO4.out hown6 hg6
          have hlt6 := fun g hg => (HO4.out.own.1.lt g hg).1
          have hG6 := gb_new (gb_below hG4 hb5) hg6 hlt6
          have hd6 := (hd4.below hb5).keep hg6 (fun g hg => Nat.lt_of_lt_of_le hD (hlt6 g hg))
          have HEND : Hid (RgL w D dr n K v6 (k - 1) (ps ++ [(nr, .slice A3 acc.length c3)]) (di + 1) w6) := ⟨by omega, HGS.out, by simp; omega, hR6, hd6, by omega, hG6⟩
          clear hw4 y0 y1 y2 yl hR6 hG6 hd6 hown6 hg6 HL hG4 hd4 HO4 HLO4 HONE hlt6
          go_roundw
          case rel => exact ⟨k - 1, _, di + 1, by go_num, HEND.out⟩
          case measure => simp [intOf]; omega
      have dq : decide (q ≤ 6) = true := decide_eq_true hq
      go_wp2_with fail
      refine (Next_any D di 2 wi HI.out.2.2.1 (by omega) (by omega) (by omega)).mono ?_
      rintro e w2 ⟨s, ⟨s0, s1⟩, rfl, hd2, hg2⟩
      cases hs0 : (s == 0)
      rotate_left
      · have HEND : Hid (GoodA acc (q + 1) ∧ Own w2 wo.heap.size 56 3 _ (lns acc) ∧ Deck w2 D (di + 1) ∧ wo.grownBy w2 (some D)) := ⟨HI.out.1.skip, HI.out.2.1.keepD2 hg2 hDo, hd2, gb_trans HI.out.2.2.2 hg2⟩
        clear HI hd2 hg2
        go_wp2
        go_roundw
        case rel => exact ⟨q + 1, acc, di + 1, ⟨by omega, by omega⟩, by go_num, by omega, HEND.out⟩
        case measure => simp [intOf]; omega
      go_wp2_with fail
      refine (Next_any D (di + 1) 1000 w2 hd2 (by omega) (by omega) (by omega)).mono ?_
      rintro e w3 ⟨a, ⟨a0, a1⟩, rfl, hd3, hg3⟩
      have hG3 := gb_trans (gb_trans HI.out.2.2.2 hg2) hg3
      have HO3 := Lib.hid ((HI.out.2.1.keepD2 hg2 hDo).keepD2 hg3 hDo)
      have HA := Lib.hid HI.out.1
      have hAL := HI.out.1.len
      have HLT := Lib.hid (fun g hg => (HO3.out.1.lt g hg).2)
      clear HI hg2 hg3 hd2
      have hal := (Below.refl w3.heap.size w3).alloc (Nat.le_refl _) (.cells #[.int .i64 q, .string ⟨#[]⟩, .int .i64 (1 + a)] 56)
      have hx4 := Row.new w3 56 #[.int .i64 q, .string ⟨#[]⟩, .int .i64 (1 + a)]
      have hG4 := gb_below hG3 hal
      have hd4 := hd3.below hal
      have HO4 := Lib.hid (HO3.out.kept hal)
      have hw3 := hG3.size
      have hD3 := hd3.lt
      obtain ⟨w4, hw4⟩ : ∃ w4, w3.alloc (.cells #[.int .i64 q, .string ⟨#[]⟩, .int .i64 (1 + a)] 56) = w4 := ⟨_, rfl⟩
      rw [hw4] at hx4 hG4 hd4 HO4
      clear hG3 hd3 HO3 hal
      obtain ⟨⟨y0, y1, y2, yl⟩, ⟨f0, f1, f2⟩⟩ := row3 hx4
      obtain ⟨bx, hbx⟩ : ∃ bx, w3.heap.size = bx := ⟨_, rfl⟩
      rw [hbx] at hx4 y0 y1 y2 yl f0 f1 f2 HLT
      have hbw : wo.heap.size ≤ bx := by omega
      have hbD : bx ≠ D := by omega
      by_cases h6 : q = 6
      · have e6 : (q != 6) = false := by simpa using h6
        obtain ⟨hfo, hfi⟩ := form_line (k := q) (c := ⟨#[]⟩) (a := 1 + a) ⟨q0, hq⟩ (.inl ⟨h6, rfl⟩) ⟨by omega, by omega⟩
        have HGA := Lib.hid (HA.out.snoc (x := ⟨q, ⟨#[]⟩, 1 + a⟩) rfl hfi hfo ⟨by show 1 ≤ 1 + a; omega, by show 1 + a ≤ 1000; omega⟩)
        clear h6 hfo hfi HA
        go_wp2_with (at_builtin; refine wpList_append_sl rfl (.tmp 37) (.tmp 39) rfl rowLn wo.heap.size _ _ (lns acc) [Ln.vals ⟨q, ⟨#[]⟩, 1 + a⟩] rfl (HO4.out.alloc _) rfl (Sl.one rfl rfl) (lns_wide [⟨q, ⟨#[]⟩, 1 + a⟩]) (by rw [lns_len]; unfold maxLen; simp; omega) (by rw [lns_len]; simp; omega) (by have := hG4.size; simp only [World.size_alloc]; omega) ?_; intro v6 w6 hown6 hg6 _)
        have hlt6 := fun g hg => (HO4.out.1.lt g hg).1
        have hG6 := gb_new (gb_alloc hG4 _) hg6 hlt6
        have hd6 := (hd4.below ((Below.refl w4.heap.size w4).alloc (Nat.le_refl _) _)).keep hg6 (fun g hg => Nat.lt_of_lt_of_le hDo (hlt6 g hg))
        have HEND : Hid (GoodA (acc ++ [⟨q, ⟨#[]⟩, 1 + a⟩]) (q + 1) ∧ Own w6 wo.heap.size 56 3 v6 (lns (acc ++ [⟨q, ⟨#[]⟩, 1 + a⟩])) ∧ Deck w6 D (di + 1 + 1) ∧ wo.grownBy w6 (some D)) := ⟨HGA.out, by rw [lns_append]; exact hown6, hd6, hG6⟩
        clear hw4 hbx y0 y1 y2 yl f0 f1 f2 hG6 hd6 hown6 hg6 HL hG4 hd4 HO4 hlt6 hx4
        go_roundw
        case rel => exact ⟨q + 1, _, di + 1 + 1, ⟨by omega, by omega⟩, by go_num, by omega, HEND.out⟩
        case measure => simp [intOf]; omega
      · have e6 : (q != 6) = true := by simpa using h6
        have h6' := Lib.hid h6
        clear h6
        go_wp2_with fail
        refine (Code_any D (di + 1 + 1) w4 hd4 (by omega)).mono ?_
        rintro e w5 ⟨c, hc, rfl, d5, hd5, hK5, hg5⟩
        have hx5 := hx4.keep hg5 (fun e => hbD (Option.some.inj e))
        have hG5 := gb_trans hG4 hg5
        have HO5 := Lib.hid (HO4.out.keepD2 hg5 hDo)
        clear hw4 hx4 hG4 hd4 hg5 HO4 y0 y1 y2 yl f0 f1 f2
        obtain ⟨⟨y0, y1, y2, yl⟩, ⟨f0, f1, f2⟩⟩ := row3 hx5
        have hx6 := hx5.set 1 (.string c)
        have hG6 := gb_set (p := ⟨bx, 1, none⟩) hG5 (.inr hbw) (.string c)
        have hK6 := hK5.keep (gb_set (p := ⟨bx, 1, none⟩) (World.grownBy.refl _ (some bx)) (.inl rfl) (.string c)) (fun g hg => by injection hg; omega)
        have HO6 := Lib.hid (HO5.out.keepG (grown_set w5 bx 1 (.string c)) (own_off HLT.out))
        obtain ⟨hfo, hfi⟩ := form_line (k := q) (c := c) (a := 1 + a) ⟨q0, hq⟩ (.inr ⟨h6'.out, hc⟩) ⟨by omega, by omega⟩
        have HGA := Lib.hid (HA.out.snoc (x := ⟨q, c, 1 + a⟩) rfl hfi hfo ⟨by show 1 ≤ 1 + a; omega, by show 1 + a ≤ 1000; omega⟩)
        clear hx5 hG5 HO5 hK5 hfo hfi HA
        obtain ⟨w6, hw6⟩ : ∃ w6, w5.setCell ⟨bx, 1, none⟩ (.string c) = w6 := ⟨_, rfl⟩
        rw [hw6] at hx6 hG6 hK6 HO6
        obtain ⟨⟨u0, u1, u2, ul⟩, -⟩ := row3 hx6
        go_wp2_with (at_builtin; refine wpList_append_sl rfl (.tmp 37) (.tmp 39) rfl rowLn wo.heap.size _ _ (lns acc) [Ln.vals ⟨q, c, 1 + a⟩] rfl (HO6.out.alloc _) rfl (Sl.one rfl rfl) (lns_wide [⟨q, c, 1 + a⟩]) (by rw [lns_len]; unfold maxLen; simp; omega) (by rw [lns_len]; simp; omega) (by have := hG6.size; simp only [World.size_alloc]; omega) ?_; intro v6 w7 hown6 hg6 _)
        have hlt6 := fun g hg => (HO6.out.1.lt g hg).1
        have hG7 := gb_new (gb_alloc hG6 _) hg6 hlt6
        have hd7 := (hK6.below ((Below.refl w6.heap.size w6).alloc (Nat.le_refl _) _)).keep hg6 (fun g hg => Nat.lt_of_lt_of_le hDo (hlt6 g hg))
        have HEND : Hid (GoodA (acc ++ [⟨q, c, 1 + a⟩]) (q + 1) ∧ Own w7 wo.heap.size 56 3 v6 (lns (acc ++ [⟨q, c, 1 + a⟩])) ∧ Deck w7 D d5 ∧ wo.grownBy w7 (some D)) := ⟨HGA.out, by rw [lns_append]; exact hown6, hd7, hG7⟩
        clear hbx hw6 y0 y1 y2 yl f0 f1 f2 u0 u1 u2 ul hG7 hd7 hown6 hg6 HL hG6 hK6 HO6 hlt6 hx6
        go_roundw
        case rel => exact ⟨q + 1, _, d5, ⟨by omega, by omega⟩, by go_num, by omega, HEND.out⟩
        case measure => simp [intOf]; omega
end Go.Proofs.YtnkephafpebfkaaGreatDoor
/- The law AuthorityCopies: it returns true. -/
namespace Go.Proofs.YtnkephafpebfkaaGreatDoor
open Go.RowKit Go.Shelf

/-- where the last loop stands -/
structure YaS (wy : World) (t : Nat) (p v : Int) (Y : Value) (a : Int) (wr : World) : Prop where
  box : Row wr t 25 #[.int .i64 p, .int .i64 v, Y]
  own : Own wr wy.heap.size 56 3 Y (lns [⟨6, ⟨#[]⟩, a⟩])
  below : Below wy.heap.size wy wr
set_option maxRecDepth 100000 in
set_option maxHeartbeats 8000000 in
theorem AuthorityCopies_any (v : Value) (zs : List Int) (w : World) (hT : Tabs w) (hE : Errs w) (hv : Sl w 1 v (ints zs)) :
    Calls Tryz.prog 6 #[v] w fun e w' => e = .returned (.bool true) ∧ Below w.heap.size w w' := by
  have HT := Lib.hid hT
  have HER := Lib.hid hE
  have HN := Lib.hid (new_any v zs w hv)
  obtain ⟨A0, c0, rfl, -⟩ := hv
  clear hT hE
  go_enter Tryz.func6, Tryz.ntmps6
  go_wp2_with fail
  refine HN.out.mono ?_
  rintro e w1 ⟨rfl, hd1, hb1⟩
  clear HN
  go_wp2_with fail
  refine (Returns_any w.heap.size 0 4 w1 hd1 (by omega) (by omega)).mono ?_
  rintro e w2 ⟨xv, xs, d2, rfl, hgood, hxl, hown2, -, -, hg2⟩
  have hB2 := below_map hb1 hg2 (Nat.le_refl _)
  have HX := Lib.hid hown2.at
  have hX2 := hown2.at
  clear hd1 hb1 hg2 hown2
  go_wp2_with fail
  refine (NewA_any w2).mono ?_
  rintro e w3 ⟨B, M, rfl, ha3, hb3, hM, hMB⟩
  have HQ := eq_nil_auth B
  have hB3 := below_after hB2 hb3 hB2.size
  have hs2 := hB2.size
  have hs3 := hb3.size
  have hR3 := Row.new w3 49 #[.slice none 0 0]
  have hal := (Below.refl w3.heap.size w3).alloc (Nat.le_refl _) (.cells #[.slice none 0 0] 49)
  have h0 : Hid (CoS w w2 B M w3.heap.size [] [] (w3.alloc (.cells #[.slice none 0 0] 49))) :=
    ⟨⟨ha3.below hal, (fun p hp => by cases hp), ⟨⟨_, hR3, Own.nil _ _ _ _⟩, (fun p hp => by cases hp), (fun p hp => by cases hp), List.Pairwise.nil, hs3⟩, List.Perm.refl _⟩, below_after hB3 hal hB3.size, below_after hb3 hal hb3.size, hs2, hM⟩
  obtain ⟨Ax, cx, rfl⟩ : ∃ Ax cx, xv = .slice Ax xs.length cx := by
    obtain ⟨Ax, cx, h, _⟩ := hX2.sl
    rw [rets_len] at h
    exact ⟨Ax, cx, h⟩
  have hcx : xs.length ≤ cx := by
    obtain ⟨A', cap', hv, k1, _⟩ := hX2.sl
    injection hv with e1 e2 e3
    subst e3
    rwa [rets_len] at k1
  have HGD := Lib.hid hgood
  obtain ⟨L, hLL⟩ : ∃ L : List Ret, xs.map (·.1) = L := ⟨_, rfl⟩
  have HLE : Hid (L.length = xs.length) := by rw [Hid, ← hLL, List.length_map]
  have HLX : Hid (∀ j (h : j < L.length) (h' : j < xs.length), L[j] = (xs[j]).1) := fun j h h' => by subst hLL; simp
  have HLL := Lib.hid hLL
  rw [hLL] at HGD
  clear hb3 hM hMB hX2 hB2 hB3 ha3 hgood hLL hR3 hal hs2
  go_wp2_with fail
  obtain ⟨R, hRe⟩ : ∃ R, w3.heap.size = R := ⟨_, rfl⟩
  rw [hRe] at h0 ⊢
  clear hRe hs3
  go_loopw [7] (fun t wr => ∃ k : Nat, ∃ es ps, k ≤ xs.length ∧ t = .int .i64 k ∧ es.length ≤ k ∧ Hid (Knows (es.map (·.1)) (L.take k) ∧ CoS w w2 B M R es ps wr)) (fun t _ => xs.length - (intOf t).toNat)
  case atStart => exact ⟨0, [], [], by omega, rfl, by simp, Knows.nil, h0.out⟩
  case round =>
    clear h0
    obtain ⟨k, es, ps, hk, rfl, hel, HS⟩ := hrel
    obtain ⟨wo, rfl⟩ : ∃ wo : World, wo = wr := ⟨_, rfl⟩
    by_cases hlt : k < xs.length
    · have i1 : (k : Int) < (xs.length : Int) := by omega
      have hkL : k < L.length := by rw [HLE.out]; exact hlt
      obtain ⟨s1, s2, s3, -⟩ := HS.out.1.step HGD.out hkL
      have hA := HS.out.2
      have hXo := HX.out.below hA.mem
      obtain ⟨bk, off, rfl, hcs⟩ := hXo.sl.cells (by rw [rets_len]; omega)
      obtain ⟨q0, q1, q2⟩ := hcs.ret hlt
      have hrb := (HGD.out k hkL).1
      have hlnx := hXo.ln _ (List.getElem_mem hlt)
      rw [HLX.out k hkL hlt] at s1 s2 s3 hrb
      obtain ⟨x, hx⟩ : ∃ x, xs[k] = x := ⟨_, rfl⟩
      rw [hx] at q0 q1 q2 s1 s2 s3 hrb hlnx
      obtain ⟨x, xvv⟩ := x
      simp only at q0 q1 q2 s1 s2 s3 hrb hlnx
      obtain ⟨Ay, ny, cy, rfl⟩ := hlnx.is
      have HENC : Hid (Calls Tryz.prog 14 #[.agg #[.int .i64 x.p, .int .i64 x.v, .slice Ay ny cy]] wo fun e w' => e = .returned (.tuple #[.string (bsOf (encT x)), .int .i64 (encE x)]) ∧ Below wo.heap.size wo w') := refEncodeR_any x _ wo hlnx
      have htl := encT_len hrb
      obtain ⟨s, hs⟩ : ∃ s, bsOf (encT x) = s := ⟨_, rfl⟩
      have HSX : Hid (s.data.toList = encT x) := by rw [Hid, ← hs, bsOf_list]
      have hsl : s.size ≤ 20000 := by rw [← hs, bsOf_size]; exact htl
      obtain ⟨er, her⟩ : ∃ er, encE x = er := ⟨_, rfl⟩
      rw [hs, her] at HENC
      have HS3 := Lib.hid s3
      have HS2 := Lib.hid (And.intro s1 s2)
      have HA := Lib.hid hA
      have hbk := hcs.1
      clear s1 s2 s3 hcs HS hx hlnx hA hrb hXo htl hs her
      go_wp2_with fail
      clear q0 q1 q2
      refine HENC.out.mono ?_
      rintro e w4 ⟨rfl, hb4⟩
      have HA4 := Lib.hid (HA.out.same hb4)
      clear HENC HA hb4 hbk
      have HC1 := Lib.hid (SubmitA_any B M es s w4 HA4.out.agr.auth (HT.out.below HA4.out.below) (HER.out.below HA4.out.below))
      have HSP : Hid (subE (ps.map (·.1)) (encT x) = 0) := by rw [Hid, ← subE_perm HA4.out.agr.perm HA4.out.agr.auth.dist]; exact HS2.out.1
      rw [HSX.out] at HC1
      have hpl : ps.length ≤ 1000 := by rw [HA4.out.agr.len]; omega
      go_wp2_with fail
      refine HC1.out.mono ?_
      rintro e w8 ⟨es', rfl, hbk8, hes8, hg8, hoo8⟩
      rw [HS2.out.1]
      have hR8 := HA4.out.agr.ref.keepM hg8 HA4.out.agr.auth.map
      have HC2 := Lib.hid (refSubmitA_any w2.heap.size R ps s w8 hR8 hpl (by omega))
      have hle : es'.length ≤ k + 1 := by
        have e1 := congrArg List.length hes8
        have e2 := subA_len (es.map (·.1)) (encT x)
        simp at e1 e2; omega
      have H8 := Lib.hid (And.intro hbk8 (And.intro hes8 (And.intro hg8 hoo8)))
      clear hR8 HC1 hbk8 hes8 hg8 hoo8
      go_wp2_with fail
      refine HC2.out.mono ?_
      rintro e w9 ⟨ps', X, rfl, hr9, hp9, hg9, hx9, hX9, -⟩
      rw [HSX.out] at hp9 ⊢
      rw [HSP.out]
      have HS9 : Hid (Knows (es'.map (·.1)) (L.take (k + 1)) ∧ CoS w w2 B M R es' ps' w9) := ⟨by rw [H8.out.2.1, HS2.out.2]; exact HS3.out, HA4.out.submit H8.out.1 H8.out.2.1 H8.out.2.2.1 H8.out.2.2.2 hr9 hp9 hg9 hx9 hX9⟩
      clear HC2 hr9 hp9 hg9 hx9 hX9 H8 HA4 HSP hpl HS2 HS3
      go_wp2
      go_roundw
      case rel => exact ⟨k + 1, es', ps', by omega, by go_num, hle, HS9.out⟩
      case measure => simp [intOf]; omega
    · obtain rfl : k = xs.length := by omega
      have HK : Hid (Knows (es.map (·.1)) L) := by
        have := HS.out.1
        rwa [List.take_of_length_le (by rw [HLE.out]; omega)] at this
      have hA := HS.out.2
      have hel4 : es.length ≤ 4 := by omega
      have hpl : ps.length ≤ 4 := by rw [hA.agr.len]; exact hel4
      have HA := Lib.hid hA
      have HCP := Lib.hid (CopyA_any B M es wo hA.agr.auth)
      obtain ⟨vR, hRr, hRo⟩ := hA.agr.ref.ex
      have HRR := Lib.hid hRr
      have HRO := Lib.hid hRo
      obtain ⟨AR, capR, rfl⟩ := hRo.form
      rw [rets_len] at HRR HRO
      have hRl := hRr.lt
      clear HS hA hRr hRo
      go_wp2_with fail
      refine HCP.out.mono ?_
      rintro e wcp ⟨Bc, Mc, esc, rfl, hac, haoc, hpc, hMc, hBc, hbc⟩
      have hsc := hbc.size
      have hRc := HRR.out.below hbc hRl
      have c0 := hRc.cell 0
      have cl := hRc.lt
      simp only [List.getElem?_toArray, List.getElem?_cons_zero] at c0
      have HQ0 := Lib.hid (And.intro hac (And.intro haoc (And.intro hpc (And.intro hMc (And.intro hBc hbc)))))
      have hbe : Below wcp.heap.size wcp (wcp.alloc (.cells #[] 25)) := (Below.refl _ _).alloc (Nat.le_refl _) _
      have HSR : Hid (Sl (wcp.alloc (.cells #[] 25)) 3 (.slice AR ps.length capR) (rets ps)) := ((HRO.out.sl (by omega)).below hbc).below hbe
      have HWI := Lib.hid HRO.out.2
      have i9 : Below wo.heap.size wo (wcp.alloc (.cells #[] 25)) := below_after hbc hbe hbc.size
      clear HCP hac haoc hpc hbc hRc
      go_wp2_with (at_builtin; (refine wpList_append_sl rfl (.tmp 57) (.tmp 61) rfl rowRet wcp.heap.size _ _ [] (rets ps) rfl (own_lit0 wcp _ 3 _ (Nat.le_refl _)) rfl HSR.out HWI.out (by rw [rets_len]; unfold maxLen; simp; omega) (by rw [rets_len]; simp; omega) hbe.size ?_); intro v4 w4 hown4 hg4 _; have hb4 := Own.grown (own_lit0 wcp _ 3 _ (Nat.le_refl _)) hbe hg4 hbe.size; rw [List.nil_append] at hown4; obtain ⟨A4, c4, rfl⟩ := hown4.form; rw [rets_len] at hown4 ⊢; have H4 := Lib.hid (And.intro hown4 hb4); clear hown4 hg4 hb4 c0 cl)
      have b04 := below_after HQ0.out.2.2.2.2.2 H4.out.2 hsc
      have hA4 := HA.out.same b04
      have hs4 := H4.out.2.size
      have hs0 := HA.out.mem.size
      have hrf := Row.new w4 49 #[.slice A4 ps.length c4]
      have ha5 := (Below.refl w4.heap.size w4).alloc (Nat.le_refl _) (.cells #[.slice A4 ps.length c4] 49)
      have HBT : Hid (Bth w w2 wo.heap.size B M R Bc Mc w4.heap.size (.slice AR ps.length capR) es ps esc (w4.alloc (.cells #[.slice A4 ps.length c4] 49))) := by
        obtain ⟨k1, k2, k3, k4, k5, k6⟩ := HQ0.out
        have hml := lt_of_some HA.out.agr.auth.map
        refine ⟨hA4.same ha5, ⟨(k1.below H4.out.2).below ha5, fun p hp => (((k2 p hp).more hs0).kept H4.out.2).kept ha5, ⟨⟨_, hrf, (H4.out.1.more (show w2.heap.size ≤ wcp.heap.size by omega)).kept ha5⟩, fun p hp => ((HA.out.agr.ref.ln p hp).kept b04).kept ha5, HA.out.agr.ref.val, HA.out.agr.ref.asc, by omega⟩, k3.trans HA.out.agr.perm⟩, ⟨_, hrf, (H4.out.1.more hsc).kept ha5⟩, (HRR.out.below b04 hRl).below ha5 (HRR.out.below b04 hRl).lt, by omega, ⟨hRl, fun g hg => (HRO.out.1.lt g hg).2⟩, by omega⟩
      have hLn := Sl.one (w := w4.alloc (.cells #[.slice A4 ps.length c4] 49)) (t := 56) (sz := 3) (c := #[.int .i64 6, .string ⟨#[]⟩, .int .i64 9]) (World.size_alloc _ _) rfl
      have ha6 := (Below.refl (w4.alloc (.cells #[.slice A4 ps.length c4] 49)).heap.size (w4.alloc (.cells #[.slice A4 ps.length c4] 49))).alloc (Nat.le_refl _) (.cells #[.int .i64 6, .string ⟨#[]⟩, .int .i64 9] 56)
      have HBT6 := Lib.hid (HBT.out.below ha6)
      obtain ⟨w6, hw6⟩ : ∃ w6, (w4.alloc (.cells #[.slice A4 ps.length c4] 49)).alloc (.cells #[.int .i64 6, .string ⟨#[]⟩, .int .i64 9] 56) = w6 := ⟨_, rfl⟩
      have hmz : w6.heap.size = w4.heap.size + 1 + 1 := by rw [← hw6]; simp only [World.size_alloc]
      rw [hw6] at HBT6 hLn ⊢
      rw [← hmz]
      obtain ⟨g1, hg1⟩ : ∃ g, w4.heap.size + 1 = g := ⟨_, rfl⟩
      rw [hg1] at hLn ⊢
      obtain ⟨Rq, hRq⟩ : ∃ r, w4.heap.size = r := ⟨_, rfl⟩
      rw [hRq] at HBT6 ⊢
      have HLN : Hid (Sl w6 3 (.slice (some ⟨g1, 0, none⟩) 1 1) (lns [⟨6, ⟨#[]⟩, 9⟩])) := hLn
      have hm7 := Row.new w6 25 #[.int .i64 0, .int .i64 1, .slice (some ⟨g1, 0, none⟩) 1 1]
      have ha7 := (Below.refl w6.heap.size w6).alloc (Nat.le_refl _) (.cells #[.int .i64 0, .int .i64 1, .slice (some ⟨g1, 0, none⟩) 1 1] 25)
      have hX7 := HX.out.below (below_after HBT6.out.co.mem ha7 HBT6.out.co.mem.size)
      have HLT := Lib.hid (Latest_any xs _ 0 _ hX7 (fun q hq => by
        obtain ⟨j, hj, rfl⟩ := List.getElem_of_mem hq
        have hjL : j < L.length := by rw [HLE.out]; exact hj
        have := ((retB_iff _).1 (HGD.out j hjL).1).n
        rwa [HLX.out j hjL hj] at this))
      rw [HLL.out] at HLT
      have hver := good_ver L.length HGD.out rfl 0
      rw [HLE.out] at hver
      obtain ⟨vv, hvv⟩ : ∃ vv, verP L 0 = vv := ⟨_, rfl⟩
      have HVL : Hid ((latP L 0).v = vv) := by rw [Hid, ← verP_lat, hvv]
      have HV0 : Hid (hasP L 0 = false → vv = 0) := fun h => by rw [← hvv, verP_lat, latP_no h]
      rw [hvv] at hver
      obtain ⟨lt, hlt⟩ : ∃ lt, latP L 0 = lt := ⟨_, rfl⟩
      obtain ⟨hs, hhs⟩ : ∃ hs, hasP L 0 = hs := ⟨_, rfl⟩
      rw [hlt] at HVL HLT
      rw [hhs] at HV0 HLT
      have HKW : Hid (verP (es.map (·.1)) 0 = vv) := by rw [Hid, HK.out.ver]; exact hvv
      clear HSR HWI i9 hbe HQ0 H4 HA b04 hA4 hs4 hs0 hrf ha5 HBT hLn ha6 hw6 hmz hg1 hRq hlt hhs hvv hX7
      have hm7' := hm7
      obtain ⟨w7, hw7⟩ : ∃ w7, w6.alloc (.cells #[.int .i64 0, .int .i64 1, .slice (some ⟨g1, 0, none⟩) 1 1] 25) = w7 := ⟨_, rfl⟩
      rw [hw7] at hm7 ha7 HLT ⊢
      obtain ⟨m, hme⟩ : ∃ m, w6.heap.size = m := ⟨_, rfl⟩
      rw [hme] at hm7 ⊢
      have hwm : w6.heap.size ≤ m := by omega
      have HM7 : Hid (MoS w6 m g1 1 w7) := ⟨hm7, ha7⟩
      have hml7 := hm7.lt
      clear hw7 hme hm7 hm7' ha7
      refine HLT.out.mono ?_
      rintro e w8 ⟨vL, rfl, hownL, hb8⟩
      obtain ⟨AL, cL, rfl⟩ := hownL.form
      rw [lns_len]
      have hgv : lt.vals (.slice AL lt.l.length cL) = #[.int .i64 lt.p, .int .i64 lt.v, .slice AL lt.l.length cL] := rfl
      rw [hgv]
      have ha8 := (Below.refl w8.heap.size w8).alloc (Nat.le_refl _) (.cells #[.int .i64 lt.p, .int .i64 lt.v, .slice AL lt.l.length cL] 25)
      have hX9 := Row.new w8 25 #[.int .i64 lt.p, .int .i64 lt.v, .slice AL lt.l.length cL]
      have hM9 : MoS w6 m g1 1 (w8.alloc (.cells #[.int .i64 lt.p, .int .i64 lt.v, .slice AL lt.l.length cL] 25)) := ⟨(HM7.out.1.below hb8 hml7).below ha8 (HM7.out.1.below hb8 hml7).lt, below_after (below_after HM7.out.2 hb8 HM7.out.2.size) ha8 (below_after HM7.out.2 hb8 HM7.out.2.size).size⟩
      have hs8 := hb8.size
      clear hgv hb8 hownL HLT HM7 ha8
      go_upto_if 73 with (fail)
      obtain ⟨w9, hw9⟩ : ∃ w9, w8.alloc (.cells #[.int .i64 lt.p, .int .i64 lt.v, .slice AL lt.l.length cL] 25) = w9 := ⟨_, rfl⟩
      rw [hw9] at hX9 hM9 ⊢
      obtain ⟨x9, hx9⟩ : ∃ x, w8.heap.size = x := ⟨_, rfl⟩
      rw [hx9] at hX9 ⊢
      have HM9 := Lib.hid hM9
      have hx9m : m < x9 := by omega
      clear hw9 hx9 hM9
      go_cut [] (fun wx => MoS w6 m g1 (vv + 1) wx)
      case first =>
        cases hs
        · have HVV := Lib.hid (HV0.out rfl)
          go_wp2_with fail
          go_meet
          have := HM9.out
          rw [HVV.out]; exact this
        · obtain ⟨⟨x0, x1, x2, xl⟩, -⟩ := row3 hX9
          obtain ⟨⟨y0, y1, y2, yl⟩, ⟨f0, f1, f2⟩⟩ := row3 HM9.out.1
          have HME : Hid (MoS w6 m g1 (vv + 1) (w9.setCell ⟨m, 1, none⟩ (.int .i64 (lt.v + 1)))) := by
            have := HM9.out.1.set 1 (.int .i64 (lt.v + 1))
            rw [HVL.out] at this ⊢
            exact ⟨this, HM9.out.2.setCell (p := ⟨m, 1, none⟩) hwm _⟩
          have hlv : lt.v = vv := HVL.out
          have sx : IntKind.i64.wrap (lt.v + 1) = lt.v + 1 := IntWalk.i64_in _ (by omega)
          clear hlv
          go_wp2_with fail
          go_meet
          exact HME.out
      case rest =>
        clear hX9 HM9 HV0 HVL
        have HMC := Lib.hid hcut
        clear hcut
        obtain ⟨w10, hw10⟩ : ∃ w10 : World, w10 = wc := ⟨_, rfl⟩
        subst hw10
        have HBT10 := Lib.hid (HBT6.out.below HMC.out.2)
        have HLN10 := Lib.hid (HLN.out.below HMC.out.2)
        obtain ⟨⟨y0, y1, y2, yl⟩, -⟩ := row3 HMC.out.1
        have hmv := moreR_val (v := vv + 1) (by omega) (by omega)
        have HENC : Hid (Calls Tryz.prog 14 #[.agg #[.int .i64 0, .int .i64 (vv + 1), .slice (some ⟨g1, 0, none⟩) 1 1]] w10 fun e w' => e = .returned (.tuple #[.string (bsOf (encT (moreR (vv + 1)))), .int .i64 (encE (moreR (vv + 1)))]) ∧ Below w10.heap.size w10 w') := refEncodeR_any (moreR (vv + 1)) _ w10 HLN10.out
        obtain ⟨x, hxe⟩ : ∃ x, moreR (vv + 1) = x := ⟨_, rfl⟩
        rw [hxe] at HENC hmv
        have hxp : x.p = 0 := by rw [← hxe]; rfl
        have hxv : x.v = vv + 1 := by rw [← hxe]; rfl
        have HXL : Hid (x.l = [⟨6, ⟨#[]⟩, 9⟩]) := by rw [Hid, ← hxe]; rfl
        have HSN := Lib.hid (sub_next (fs := es.map (·.1)) hmv (by rw [hxv, hxp, HKW.out]))
        have HSX := Lib.hid (And.intro hxp hxv)
        have htl := encT_len hmv
        obtain ⟨s, hs⟩ : ∃ s, bsOf (encT x) = s := ⟨_, rfl⟩
        have HSS : Hid (s.data.toList = encT x) := by rw [Hid, ← hs, bsOf_list]
        have hsl : s.size ≤ 20000 := by rw [← hs, bsOf_size]; exact htl
        obtain ⟨er, her⟩ : ∃ er, encE x = er := ⟨_, rfl⟩
        rw [hs, her] at HENC
        clear hxe hmv hxp hxv htl hs her HKW HBT6 HLN HMC
        go_wp2_with fail
        clear y0 y1 y2 yl
        refine HENC.out.mono ?_
        rintro e w11 ⟨rfl, hb11⟩
        have HBT11 := Lib.hid (HBT10.out.below hb11)
        clear hb11 HENC HBT10 HLN10
        have HC1 := Lib.hid (SubmitA_any B M es s w11 HBT11.out.co.agr.auth (HT.out.below HBT11.out.co.below) (HER.out.below HBT11.out.co.below))
        rw [HSS.out] at HC1
        go_wp2_with fail
        refine HC1.out.mono ?_
        rintro e w12 ⟨es', rfl, hbk8, hes8, hg8, hoo8⟩
        have hR8 := HBT11.out.co.agr.ref.keepM hg8 HBT11.out.co.agr.auth.map
        have HC2 := Lib.hid (refSubmitA_any w2.heap.size R ps s w12 hR8 (by omega) (by omega))
        rw [HSS.out] at HC2
        have hle : es'.length ≤ 5 := by
          have e1 := congrArg List.length hes8
          have e2 := subA_len (es.map (·.1)) (encT x)
          simp at e1 e2; omega
        have H8 := Lib.hid (And.intro hbk8 (And.intro hes8 (And.intro hg8 hoo8)))
        clear hR8 HC1 hbk8 hes8 hg8 hoo8
        go_wp2_with fail
        refine HC2.out.mono ?_
        rintro e w13 ⟨ps', X, rfl, hr9, hp9, hg9, hx9', hX9', hm9⟩
        have HS := Lib.hid (HBT11.out.submit H8.out.1 H8.out.2.1 H8.out.2.2.1 H8.out.2.2.2 hr9 hp9 hg9 hx9' hX9' hm9)
        have HEF : Hid (es'.map (·.1) = putR (es.map (·.1)) x) := by rw [Hid, H8.out.2.1, HSN.out.2]
        have hpt := put_lat HBT11.out.co.agr.auth.dist x 0
        rw [if_pos HSX.out.1, if_pos HSX.out.1, if_pos HSX.out.1, ← HEF.out] at hpt
        have HLA := Lib.hid (LatestA_any B M es' 0 w13 HS.out.1.agr.auth)
        rw [hpt.1, hpt.2.2] at HLA
        have HEL : Hid (esc.length ≤ 4) := by
          have e1 := HS.out.2.len
          rw [Hid]; omega
        clear HC2 hr9 hp9 hg9 hx9' hX9' hm9 H8 HBT11 hpt HEF HSN
        go_wp2_with fail
        refine HLA.out.mono ?_
        rintro e w14 ⟨vy, rfl, hown14, hb14⟩
        obtain ⟨gy, cy, rfl, hcy⟩ := hown14.form1 (by rw [lns_len, HXL.out]; simp)
        rw [lns_len, HXL.out] at hown14
        have HL1 : Hid (x.l.length = 1) := by rw [Hid, HXL.out]; rfl
        rw [lns_len, HL1.out]
        have hgv : x.vals (.slice (some ⟨gy, 0, none⟩) 1 cy) = #[.int .i64 x.p, .int .i64 x.v, .slice (some ⟨gy, 0, none⟩) 1 cy] := rfl
        rw [hgv]
        have hown14' : Own w14 w13.heap.size 56 3 (.slice (some ⟨gy, 0, none⟩) 1 cy) (lns [⟨6, ⟨#[]⟩, 9⟩]) := hown14
        have ha15 := (Below.refl w14.heap.size w14).alloc (Nat.le_refl _) (.cells #[.int .i64 x.p, .int .i64 x.v, .slice (some ⟨gy, 0, none⟩) 1 cy] 25)
        have hY0 : YaS w13 w14.heap.size x.p x.v (.slice (some ⟨gy, 0, none⟩) 1 cy) 9 (w14.alloc (.cells #[.int .i64 x.p, .int .i64 x.v, .slice (some ⟨gy, 0, none⟩) 1 cy] 25)) := ⟨Row.new _ _ _, hown14'.kept ha15, below_after hb14 ha15 hb14.size⟩
        go_wp2_with fail
        obtain ⟨w15, hw15⟩ : ∃ w15, w14.alloc (.cells #[.int .i64 x.p, .int .i64 x.v, .slice (some ⟨gy, 0, none⟩) 1 cy] 25) = w15 := ⟨_, rfl⟩
        rw [hw15] at hY0 ⊢
        obtain ⟨ty, hty⟩ : ∃ t, w14.heap.size = t := ⟨_, rfl⟩
        rw [hty] at hY0 ⊢
        have hyt : gy ≠ ty := by have := (hown14'.1.lt gy rfl).2; omega
        have hyw : w13.heap.size ≤ gy := (hown14'.1.lt gy rfl).1
        have HY0 := Lib.hid hY0
        clear hown14 hown14' hb14 hgv ha15 hw15 hty hY0 HLA hcy
        go_loopw [19] (fun i wr => ∃ k : Nat, k ≤ 1 ∧ i = .int .i64 k ∧ Hid (YaS w13 ty x.p x.v (.slice (some ⟨gy, 0, none⟩) 1 cy) (9 + k) wr)) (fun i _ => 1 - (intOf i).toNat)
        case atStart => exact ⟨0, by omega, rfl, by rw [show (9 : Int) + ((0 : Nat) : Int) = 9 by decide]; exact HY0⟩
        case round =>
          clear HY0
          obtain ⟨k, hk, rfl, HY⟩ := hrel
          obtain ⟨wo', rfl⟩ : ∃ wo' : World, wo' = wr := ⟨_, rfl⟩
          obtain ⟨⟨z0, z1, z2, zl⟩, -⟩ := row3 HY.out.box
          by_cases hk1 : k < 1
          · obtain rfl : k = 0 := by omega
            have c2 := HY.out.own.cellE (by omega) (i := 0) (j := 2) rfl rfl
            have f2 := HY.out.own.frozenE 2
            simp only [Nat.zero_mul, Nat.zero_add] at c2
            have gl := (HY.out.own.1.lt gy rfl).2
            obtain ⟨hw2, hg2'⟩ := HY.out.own.set1 (by omega) 0 rfl 2 (by omega) (.int .i64 10) rfl
            have HY2 : Hid (YaS w13 ty x.p x.v (.slice (some ⟨gy, 0, none⟩) 1 cy) (9 + (1 : Nat)) (wo'.setCell ⟨gy, 2, none⟩ (.int .i64 10))) := ⟨HY.out.box.far (p := ⟨gy, 2, none⟩) (Ne.symm hyt) _, hw2, HY.out.below.setCell (p := ⟨gy, 2, none⟩) hyw _⟩
            have hn0 : (9 : Int) + ((0 : Nat) : Int) = 9 := by decide
            rw [hn0] at c2
            clear hw2 hg2'
            go_wp2
            go_roundw
            case rel => exact ⟨1, by omega, by go_num, HY2⟩
            case measure => simp [intOf]
          · obtain rfl : k = 1 := by omega
            have hb := HY.out.below
            have HA1 := Lib.hid (HS.out.1.same hb)
            have HQ1 := Lib.hid (HS.out.2.below hb)
            have hq0 := eq_nil_auth0
            clear HS HY hb
            go_wp2_with fail
            clear z0 z1 z2 zl
            refine (LatestA_nil 0 _).mono ?_
            rintro e w16 ⟨rfl, hb16⟩
            have ha16 := (Below.refl w16.heap.size w16).alloc (Nat.le_refl _) (.cells #[.int .i64 0, .int .i64 0, .slice none 0 0] 25)
            have HA2 := Lib.hid ((HA1.out.same hb16).same ha16)
            have HQ2 := Lib.hid ((HQ1.out.below hb16).below ha16)
            clear hb16 ha16 HA1 HQ1
            go_wp2_with fail
            obtain ⟨w17, hw17⟩ : ∃ w17, w16.alloc (.cells #[.int .i64 0, .int .i64 0, .slice none 0 0] 25) = w17 := ⟨_, rfl⟩
            rw [hw17] at HA2 HQ2 ⊢
            clear hw17
            refine (agreeA_any w2.heap.size B M R es' ps' w17 HA2.out.agr (by omega)).mono ?_
            rintro e w18 ⟨rfl, hb18⟩
            have HA3 := Lib.hid (HA2.out.same hb18)
            have HQ3 := Lib.hid (HQ2.out.below hb18)
            clear hb18 HA2 HQ2
            go_wp2_with fail
            refine (agreeA_any w2.heap.size Bc Mc Rq esc ps w18 HQ3.out (by have := HEL.out; omega)).mono ?_
            rintro e w19 ⟨rfl, hb19⟩
            have HA4 := Lib.hid (HA3.out.same hb19)
            clear hb19 HA3 HQ3
            go_wp2_with fail
            refine (SubmitA_nil s w19).mono ?_
            rintro e w20 ⟨rfl, hb20⟩
            have HA5 := Lib.hid (HA4.out.same hb20)
            clear hb20 HA4
            go_wp2_with fail
            refine (PeriodsA_nil w20).mono ?_
            rintro e w21 ⟨rfl, hb21⟩
            have HA6 := Lib.hid (HA5.out.same hb21)
            clear hb21 HA5
            go_wp2_with fail
            refine (TotalA_nil 6 ⟨#[]⟩ w21).mono ?_
            rintro e w22 ⟨rfl, hb22⟩
            have HA7 := Lib.hid (HA6.out.same hb22)
            clear hb22 HA6
            go_wp2_with fail
            refine (CopyA_nil w22).mono ?_
            rintro e w23 ⟨rfl, hb23⟩
            have HA8 := Lib.hid (HA7.out.same hb23)
            clear hb23 HA7
            go_wp2_with fail
            refine (awake_any w23 (HT.out.below HA8.out.below) (HER.out.below HA8.out.below)).mono ?_
            rintro e w24 ⟨rfl, hb24⟩
            have HB9 := Lib.hid (below_after HA8.out.below hb24 HA8.out.below.size)
            clear hb24 HA8
            go_wp2
            go_ret
            exact ⟨rfl, HB9.out⟩
end Go.Proofs.YtnkephafpebfkaaGreatDoor
/- What the listed variables hold: the tables of bits and strconv, the errors of strconv, the tables of utf8. -/
namespace Go.Proofs.YtnkephafpebfkaaGreatDoor
open Go.ChangeShapes Go.WideShapes Go.ChangeAt Go.RowKit

/-- the listed variables -/
def laidL : List (String × DataW Unit) := [("math/bits.deBruijn32tab", Rows.laid_math_bits_deBruijn32tab), ("math/bits.deBruijn64tab", Rows.laid_math_bits_deBruijn64tab), ("internal/strconv.uint64pow10", Rows.laid_internal_strconv_uint64pow10), ("unicode/utf8.acceptRanges", Rows.laid_unicode_utf8_acceptRanges), ("strconv.ErrRange", Rows.laid_strconv_ErrRange), ("strconv.ErrSyntax", Rows.laid_strconv_ErrSyntax), ("unicode/utf8.first", Rows.laid_unicode_utf8_first)]
set_option maxRecDepth 100000 in
theorem door_met (os : Os) (args : Array Value) : laidMetH Tryz.prog laidL ((World.laidAll Tryz.prog os laidL).forCall (fun _ _ => 0) ⟨#[], args, []⟩).memory := by
  rw [MakeChecks.laidMetH_plain _ _ _ (by kernel_rfl)]; exact laidMet_laidAll _ (by kernel_rfl) (by kernel_rfl)
set_option maxRecDepth 100000 in
theorem door_shaped (os : Os) : (World.laidAll Tryz.prog os laidL).Shaped Tryz.prog := World.shaped_of_ZipB (by kernel_rfl) (by kernel_rfl)
theorem star : "*" ++ "errors.errorString" = "*errors.errorString" := by decide
theorem rowErr (u : TypeId) (h : Tryz.prog.typeName? 3 u = some "*errors.errorString") : u = 174 :=
  typeName_ptr_named (nm := "errors.errorString") (by rw [star]; kernel_rfl) (by kernel_rfl) (by decide) u (by rw [star]; exact h)
theorem of_laid {W : World} (h : laidMetH Tryz.prog laidL W) : Tabs W ∧ Errs W := by
  rw [MakeChecks.laidMetH_plain _ _ _ (by kernel_rfl)] at h
  have h3 : laidMet Tryz.prog (("internal/strconv.uint64pow10", Lib.tabData .u64 Lib.pow10Tab) :: ("unicode/utf8.acceptRanges", Rows.laid_unicode_utf8_acceptRanges) :: [("strconv.ErrRange", Rows.laid_strconv_ErrRange), ("strconv.ErrSyntax", Rows.laid_strconv_ErrSyntax), ("unicode/utf8.first", Rows.laid_unicode_utf8_first)]) W := h.tail.tail
  refine ⟨Lib.tabIs_of_head (g := 1) (by kernel_rfl) (by kernel_rfl) (Tryz.underlying138) Tryz.underlying119 (by kernel_rfl) (by kernel_rfl) h3, ?_⟩
  obtain ⟨a, s, hr, _⟩ := laid_sentinel (g := 7) (tp := 174) (te := 176) (ts := 9) h3.tail.tail (by kernel_rfl) (by kernel_rfl) Tryz.underlying70 rowErr Tryz.underlying174 Tryz.underlying176 rfl rfl Tryz.underlying9 (by kernel_rfl) (by kernel_rfl)
  obtain ⟨b, t, hs, _⟩ := laid_sentinel (g := 6) (tp := 174) (te := 176) (ts := 9) h3.tail.tail.tail (by kernel_rfl) (by kernel_rfl) Tryz.underlying70 rowErr Tryz.underlying174 Tryz.underlying176 rfl rfl Tryz.underlying9 (by kernel_rfl) (by kernel_rfl)
  exact ⟨⟨_, _, hs⟩, ⟨_, _, hr⟩⟩
end Go.Proofs.YtnkephafpebfkaaGreatDoor
namespace Go.Proofs.YtnkephafpebfkaaGreatDoor.lawCopies
open Go.ChangeShapes Go.WideShapes Go.ChangeAt Go.RowKit Go.Proofs.YtnkephafpebfkaaGreatDoor

theorem own : ownKnob Tryz.prog.godebug = none := by kernel_rfl
theorem laidOut : laidOutB Tryz.prog = true := by kernel_rfl

set_option maxRecDepth 100000 in
theorem lifted (os : Os) (started : os.Started) (H : Type) (enc : TypeId × Value → H) :
    ReturnsInHanded {} Tryz.checked os 6 .any (fun w args => (Rows.authorityCopiesSpec.pre enc Tryz.prog Tryz.f6 [] false w args ∧ laidMetH Tryz.prog laidL w) ∧ sizedMet enc Tryz.prog Tryz.f6 (OpenSpec.ofChange Rows.authorityCopiesSpec) false w args)
      (Rows.authorityCopiesSpec.post enc Tryz.prog Tryz.f6 false true false false) := by
  refine returnsInHanded_of_change_and (C := Tryz.checked) (X := fun w _ => laidMetH Tryz.prog laidL w) (fun _ _ _ hh h => h.of_heap hh) own started (by kernel_rfl) Tryz.func6
    (ChangeSpec.witness_shaped (enc := enc) (C := Tryz.checked) (os := os) (X := fun w _ => laidMetH Tryz.prog laidL w) false (World.laidAll Tryz.prog os laidL) #[.slice none 0 0] 8 (World.laidAll_os _ _ _) (door_shaped os) (by kernel_rfl) (by kernel_rfl) (by kernel_rfl) (door_met os _)) ?_
  intro W base args ds gs before hval0 hW _ hwt hL _
  have hval : ∀ (j : Nat) t v, Tryz.f6.params[j]? = some t → args[j]? = some v → Value.okWide Tryz.prog W .any base t v := hval0
  have hW' := hW
  obtain ⟨p, q, hA0, hV, rfl, hfz, hnd⟩ := hW
  have hA : DataW.TrodAll enc Tryz.prog W 0 (fun _ => true) true Tryz.f6.params.toList args.toList ds p := hA0
  rw [Tryz.params6] at hA hval
  obtain ⟨v0, vs0, d0, ds0, p0, q0, hargs, rfl, rfl, h0, r0⟩ := trodAll_cons hA
  obtain ⟨rfl, rfl, rfl⟩ := trodAll_nil r0
  obtain rfl : args = #[v0] := by cases args; simp_all
  obtain ⟨rfl, rfl⟩ := trodVars_none hV
  obtain ⟨l0, s0⟩ := open_intsL (hval 0 22 v0 rfl rfl) h0
  obtain ⟨hT, hWd⟩ := of_laid hL
  refine (AuthorityCopies_any v0 l0 W hT hWd s0).mono fun e W' ⟨he, hg⟩ => ?_
  subst he
  exact ⟨_, rfl, law_post laidOut rfl rfl Tryz.underlying4 (by decide +kernel) ⟨rfl, rfl, rfl⟩ hW' hg⟩

theorem over : Rows.AuthorityCopiesSaid :=
  OpenClaim.holds_of_wide 6 Tryz.f6 rfl rfl rfl rfl rfl rfl rfl ⟨rfl, rfl, rfl, rfl, rfl⟩ rfl rfl rfl rfl rfl (by kernel_rfl) Tryz.func6 (by kernel_rfl)
    (of_decide_eq_true (by kernel_rfl)) (by unfold Func.isWrapper; first | (rw [if_pos (by decide +kernel)]; kernel_rfl) | (rw [if_neg (by decide +kernel)]; exact ⟨rfl, rfl⟩))
    (fun os started H enc _ => lifted os started H enc)

/-- THE STATEMENT -/
theorem proved : Rows.AuthorityCopiesCardSaid :=
  Claim7.holds_tied_plain_at .later [] [.data, .data, .data, .data, .sentinel, .sentinel, .pinned] true (true, "c694d0e3ba76aa5e8513c0435f946f51914e1633ef7e9c66421ef11c968e0b07") true
    over (fun _ h => by cases h) (by kernel_rfl) (fun _ h => by cases h) authorityCopies_row_tie rfl ⟨rfl, rfl⟩ (by kernel_rfl) rfl
    (fun f fn hf hfn => by
      obtain rfl : f = 6 := Option.some.inj ((show Tryz.prog.funcNamed "payroll/payrolllaw43.AuthorityCopies" = some 6 by kernel_rfl).symm.trans hf) |>.symm
      obtain rfl : fn = Tryz.f6 := (Option.some.inj (Tryz.func6.symm.trans hfn)).symm
      exact ⟨by kernel_rfl, fun j t ht => by
        rw [Tryz.params6] at ht
        have hm : t ∈ [22] := by simpa using Array.mem_of_getElem? ht
        have hall : ([22].all fun u => !Tryz.prog.wantsStandIn u) = true := by kernel_rfl
        exact (show Tryz.prog.wantsStandIn t = false by simpa using List.all_eq_true.1 hall t hm)⟩)
    (by kernel_rfl)
end Go.Proofs.YtnkephafpebfkaaGreatDoor.lawCopies
