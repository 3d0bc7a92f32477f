/- Contracts and plain facts that the laws of this seat share, part 28. -/
import Derived.Test.YtogdefomigiepaaGreatDoorPkA
import Derived.ProofKit
import Derived.OpenShut
import Derived.RegionTactic
import Derived.Deep.QuietTactic
import Derived.BigQuiet
import Derived.Test.YtogdefomigiepaaGreatDoorPkB
import Derived.Test.YtogdefomigiepaaGreatDoorPkV
import Derived.Laws.IdiomStrings
import Derived.Deep.RegionLaw
set_option linter.unusedVariables false
set_option linter.unusedSimpArgs false
/- The last step of each law: it returned true, and nothing that was there has turned. -/
namespace Go.Proofs.YtogdefomigiepaaGreatDoor
open Go.ChangeShapes Go.WideShapes Go.ChangeAt Go.RowKit

section
variable {H : Type} {enc : TypeId × Value → H} {P : Program}
theorem trodAll_below (hl : laidOutB P = true) {W W' : World} (hb : Below W.heap.size W W') : ∀ (ts : List TypeId) (vs : List Value) (ds : List (DataW H)) (ps : List MemPlace),
  (∀ t ∈ ts, P.readableRec t = true ∧ t < P.types.size) → (∀ x ∈ ps, x.block < W.heap.size) → DataW.TrodAll enc P W 0 (fun _ => true) true ts vs ds ps → DataW.TrodAll enc P W' 0 (fun b => decide (b < W.heap.size)) true ts vs ds ps
 | [], [], [], _, _, _, h => h
 | t :: ts, v :: vs, d :: ds, ps, hr, hlt, h => by
  obtain ⟨p, q, h1, h2, rfl⟩ := h
  refine ⟨p, q, Below.trod hl (hr t (by simp)).1 (hr t (by simp)).2 h1 hb fun x hx => hlt x (by simp [hx]), trodAll_below hl hb ts vs ds q (fun t ht => hr t (by simp [ht])) (fun x hx => hlt x (by simp [hx])) h2, rfl⟩
 | [], _ :: _, _, _, _, _, h => h.elim
 | [], [], _ :: _, _, _, _, h => h.elim
 | _ :: _, [], _, _, _, _, h => h.elim
 | _ :: _, _ :: _, [], _, _, _, h => h.elim

theorem law_post {f : Func} {s : ChangeSpec} {T : TypeId} {W W' : World} {args : Array Value} {ds gs : List (DataW H)} {before : List MemPlace}
  (hl : laidOutB P = true) (hvars : s.vars = []) (hres : f.resultTypes = #[T]) (hT : P.underlying T = some .bool) (hrd : ∀ t ∈ f.params.toList, P.readableRec t = true ∧ t < P.types.size)
  (hfn : (s.fn H (ds ++ gs)).results = [.lit (.bool true)] ∧ (s.fn H (ds ++ gs)).args = ds ∧ (s.fn H (ds ++ gs)).vars = [])
  (hW : DataW.Whole enc P f.params.toList s.vars false W args.toList ds gs before) (hb : Below W.heap.size W W') :
  s.post enc P f false true false false W args (.bool true) W' := by
 have hlt : ∀ p ∈ before, p.block < W.heap.size := fun p hp => hW.lt p hp
 have hW' := hW
 obtain ⟨p, q, hA, hV, rfl, _, _⟩ := hW'
 rw [hvars] at hV
 obtain ⟨rfl, rfl⟩ := trodVars_none hV
 rw [List.append_nil] at hlt hW
 refine ⟨ds, [], p, [], p, [], hW, ?_, ?_, ?_, World.keptBut_mono (fun x hx => ⟨hx, .inr (.inl hx)⟩) (hb.frame (· ∈ p)), fun h => by cases h⟩
 ·rw [hfn.1, hres]
  exact trodAll_mk1 (shut_bool hT true)
 ·rw [hfn.2.1]
  exact trodAll_below hl hb _ _ _ _ hrd hlt hA
 ·rw [hfn.2.2, hvars]
  rfl
end

end Go.Proofs.YtogdefomigiepaaGreatDoor
/- Contract of paygen.Deck.Damage: some text that is at most four bytes longer. -/
namespace Go.Proofs.YtogdefomigiepaaGreatDoor
open Go.RowKit

def DmgPost (w : World) (D dr : Nat) (s : ByteArray) (e : Ending) (w' : World) : Prop :=
 ∃ t : ByteArray, e = .returned (.string t) ∧ t.size ≤ s.size + 4 ∧ ∃ dr', dr' ≤ dr + 3 ∧ Deck w' D dr' ∧ w.grownBy w' (some D)
theorem size_cat3 (a b c : ByteArray) : (a ++ b ++ c).size = a.size + b.size + c.size := by rw [ByteArray.size_append, ByteArray.size_append]
theorem run_byte (w : World) (x : Int) (h0 : 0 ≤ x) (h1 : x < 256) : (convert 75 9 (.slice (some ⟨w.heap.size, 0, none⟩) 1 1)).run Tryz.prog (w.alloc (.cells #[.int .u8 x] 5)) = .ok (.string ⟨#[UInt8.ofNat x.toNat]⟩) (w.alloc (.cells #[.int .u8 x] 5)) := by
 refine run_convert_bytes_back (P := Tryz.prog) _ _ _ _ ⟨w.heap.size, 0, none⟩ 1 [UInt8.ofNat x.toNat] Tryz.underlying75 Tryz.underlying5 Tryz.underlying9 ?_
 intro j hj
 obtain rfl : j = 0 := by simpa using hj
 have : ((UInt8.ofNat x.toNat).toNat : Int) = x := by rw [UInt8.toNat_ofNat']; omega
 rw [show (⟨w.heap.size, 0, none⟩ : Addr).add 0 = ⟨w.heap.size, 0, none⟩ from rfl, World.cell?_alloc_new]
 simp only [List.getElem_cons_zero, this]; rfl
def brkAt (i : Nat) : ByteArray := ⟨(([[32], [10], [48], [49], [45], [101, 110, 100, 10]] : List (List UInt8)).getD i []).toArray⟩
theorem brk_size : ∀ i, i < 6 → (brkAt i).size ≤ 4 := by decide +kernel
theorem brk_new (w : World) (j : Nat) (hj : j < 6) : (w.alloc (.cells #[.string ⟨#[32]⟩, .string ⟨#[10]⟩, .string ⟨#[48]⟩, .string ⟨#[49]⟩, .string ⟨#[45]⟩, .string ⟨#[101, 110, 100, 10]⟩] 9)).cell? ⟨w.heap.size, j, none⟩ = some (.string (brkAt j)) := by
 rw [World.cell?_alloc_new]
 match j, hj with
 | 0, _ => rfl
 | 1, _ => rfl
 | 2, _ => rfl
 | 3, _ => rfl
 | 4, _ => rfl
 | 5, _ => rfl
set_option maxRecDepth 100000 in
set_option maxHeartbeats 2000000 in
theorem Damage_any (D dr : Nat) (s : ByteArray) (w : World) (hd : Deck w D dr) (hdr : dr ≤ 1099511627700) (hs : s.size ≤ 1000000) :
  Calls Tryz.prog 16 #[.pointer (some ⟨D, 0, none⟩), .string s] w (DmgPost w D dr s) := by
 have hlt := hd.lt
 have hgw := World.grownBy.refl w (some D)
 by_cases h0 : s.size = 0
 ·have t2 : s.toList = [] := by rw [ByteArray.toList_eq]; exact List.eq_nil_of_length_eq_zero (by simpa using h0)
  have t1 : s.toList.isEmpty = true := by rw [t2]; rfl
  go_enter Tryz.func16, Tryz.ntmps16
  go_wp2
  go_ret
  exact ⟨s, rfl, by omega, dr, by omega, hd, hgw⟩
 ·have t2 : ¬ s.toList = [] := fun h => by rw [ByteArray.toList_eq] at h; exact h0 (by simpa using congrArg List.length h)
  have t1 : s.toList.isEmpty = false := by rw [List.isEmpty_eq_false_iff]; exact t2
  go_enter Tryz.func16, Tryz.ntmps16
  go_wp2_with fail
  refine (Next_any D dr s.size w hd (by omega) (by omega) (by omega)).mono ?_
  rintro e w1 ⟨k, ⟨k1, k2⟩, rfl, hd1, hg1⟩
  obtain ⟨k, rfl⟩ := Int.eq_ofNat_of_zero_le k1
  have k3 : k < s.size := by omega
  clear t1 t2 h0
  go_wp2_with fail
  refine (Next_any D (dr + 1) 5 w1 hd1 (by omega) (by omega) (by omega)).mono ?_
  rintro e w2 ⟨n, ⟨n1, n2⟩, rfl, hd2, hg2⟩
  have hG := gb_trans hg1 hg2
  clear hg1 hg2 hd1 hgw
  have k4 : k ≤ s.size := by omega
  have k5 : (k : Int) ≤ (s.size : Int) := by omega
  have k6 : k + 1 ≤ s.size := by omega
  have k7 : (k : Int) + 1 ≤ (s.size : Int) := by omega
  have z1 : (s.extract 0 k).size = k := by rw [ByteArray.size_extract]; omega
  have z2 : (s.extract (k + 1) s.size).size = s.size - (k + 1) := by rw [ByteArray.size_extract]; omega
  have z3 : (s.extract k s.size).size = s.size - k := by rw [ByteArray.size_extract]; omega
  have HZ := Lib.hid (And.intro z1 (And.intro z2 z3))
  have HD := Lib.hid (hd2.below (below_a0 w2))
  have hG2 : w.grownBy w2.drew (some D) := gb_below hG (below_a0 w2)
  clear z1 z2 z3
  by_cases c0 : n = 0
  ·subst c0
   go_wp2
   go_ret
   exact ⟨_, rfl, by rw [HZ.out.1]; omega, _, Nat.le_succ _, hd2, hG⟩
  have d0 : (n == 0) = false := by simpa using c0
  by_cases c1 : n = 1
  ·subst c1
   go_wp2_with fail
   go_region
   go_wp2
   go_ret
   exact ⟨_, rfl, by rw [ByteArray.size_append, HZ.out.1, HZ.out.2.1]; omega, _, Nat.le_succ _, HD.out, hG2⟩
  have d1 : (n == 1) = false := by simpa using c1
  by_cases c2 : n = 2
  ·subst c2
   clear d0 d1 c0 c1
   go_wp2_with fail
   go_region_law (first | (go_simp; refine (Next_any D (dr + 1 + 1) 6 _ HD.out (by omega) (by omega) (by omega)).mono ?_; rintro e w8 ⟨j, ⟨j1, j2⟩, rfl, hd8, hg8⟩; obtain ⟨j, rfl⟩ := Int.eq_ofNat_of_zero_le j1; have j3 : j < 6 := (by omega); have j4 := brk_size j j3; have b3 : ¬ 9223372036854775807 < k + (brkAt j).size := (by omega); have b4 : ¬ 9223372036854775807 < k + (brkAt j).size + (s.size - k) := (by omega); have cB := brk_new w8 j j3; have HD8 := Lib.hid (And.intro (hd8.below ((Below.refl _ _).alloc (Nat.le_refl _) (.cells #[.string ⟨#[32]⟩, .string ⟨#[10]⟩, .string ⟨#[48]⟩, .string ⟨#[49]⟩, .string ⟨#[45]⟩, .string ⟨#[101, 110, 100, 10]⟩] 9))) (gb_alloc (gb_trans hG2 hg8) (.cells #[.string ⟨#[32]⟩, .string ⟨#[10]⟩, .string ⟨#[48]⟩, .string ⟨#[49]⟩, .string ⟨#[45]⟩, .string ⟨#[101, 110, 100, 10]⟩] 9))); clear hd8 hg8) | (go_simp; refine (Next_any D (dr + 1 + 1) 6 _ (HD.out.below ((Below.refl _ _).alloc (Nat.le_refl _) _)) (by omega) (by omega) (by omega)).mono ?_; rintro e w8 ⟨j, ⟨j1, j2⟩, rfl, hd8, hg8⟩; obtain ⟨j, rfl⟩ := Int.eq_ofNat_of_zero_le j1; have j3 : j < 6 := (by omega); have j4 := brk_size j j3; have b3 : ¬ 9223372036854775807 < k + (brkAt j).size := (by omega); have b4 : ¬ 9223372036854775807 < k + (brkAt j).size + (s.size - k) := (by omega); have cA := (World.cell?_of_block (w := w2.drew.alloc (.cells #[.string ⟨#[32]⟩, .string ⟨#[10]⟩, .string ⟨#[48]⟩, .string ⟨#[49]⟩, .string ⟨#[45]⟩, .string ⟨#[101, 110, 100, 10]⟩] 9)) (a := ⟨w2.heap.size, j, none⟩) (hg8.block w2.heap.size (by simp) (by intro e; injection e; have := HD.out.lt; simp only [World.size_drew] at this; omega))).trans (brk_new w2.drew j j3); have HD8 := Lib.hid (And.intro hd8 (gb_trans (gb_alloc hG2 (.cells #[.string ⟨#[32]⟩, .string ⟨#[10]⟩, .string ⟨#[48]⟩, .string ⟨#[49]⟩, .string ⟨#[45]⟩, .string ⟨#[101, 110, 100, 10]⟩] 9)) hg8)); clear hd8 hg8))
   all_goals
    go_wp2
    go_ret
    exact ⟨_, rfl, by rw [size_cat3, HZ.out.1, HZ.out.2.2]; omega, _, Nat.le_refl _, HD8.out.1, HD8.out.2⟩
  have d2 : (n == 2) = false := by simpa using c2
  by_cases c3 : n = 3
  ·subst c3
   clear d0 d1 d2 c0 c1 c2
   have e1 : IntKind.i64.wrap ((k : Int) + 1) = (k : Int) + 1 := IntWalk.i64_in _ (by omega)
   have e2 : 0 ≤ (k : Int) + 1 := by omega
   have e3 : ((k : Int) + 1).toNat = k + 1 := by omega
   go_wp2_with fail
   go_region_law (go_simp; refine (Next_any D (dr + 1 + 1) 256 _ HD.out (by omega) (by omega) (by omega)).mono ?_; rintro e w8 ⟨j, ⟨j1, j2⟩, rfl, hd8, hg8⟩; have eu : IntKind.u8.wrap j = j := IntWalk.u8_in _ (by omega); have hcv := run_byte w8 j j1 (by omega); have b1 : ¬ 9223372036854775807 < k + 1 := (by omega); have b2 : ¬ 9223372036854775807 < s.size := (by omega))
   have HA := Lib.hid (And.intro (hd8.below ((Below.refl _ _).alloc (Nat.le_refl _) (.cells #[.int .u8 j] 5))) (gb_alloc (gb_trans hG2 hg8) (.cells #[.int .u8 j] 5)))
   clear hd8 hg8 hcv eu e1 e2 e3
   go_wp2
   go_ret
   exact ⟨_, rfl, by rw [size_cat3, HZ.out.1, HZ.out.2.1]; show k + 1 + (s.size - (k + 1)) ≤ s.size + 4; omega, _, Nat.le_refl _, HA.out.1, HA.out.2⟩
  have d3 : (n == 3) = false := by simpa using c3
  clear c0 c1 c2 c3
  go_wp2
  go_ret
  exact ⟨s, rfl, by omega, _, Nat.le_succ _, hd2, hG⟩
end Go.Proofs.YtogdefomigiepaaGreatDoor
/- Contracts of package paygen: ShortLines, Lines. -/
namespace Go.Proofs.YtogdefomigiepaaGreatDoor
open Go.RowKit

def shortLB (l : List Ln) : Bool := decide (l.length ≤ 60) && l.all fun p => decide (p.code.size ≤ 60)
set_option maxHeartbeats 800000 in
theorem ShortLines_any (v : Value) (l : List Ln) (w : World) (hv : Sl w 3 v (lns l)) :
  Calls Tryz.prog 6 #[v] w fun e w' => e = .returned (.bool (shortLB l)) ∧ Below w.heap.size w w' := by
 obtain ⟨A, cap, rfl, h1, h2, x1, h3⟩ := hv
 rw [lns_len] at h1 ⊢
 unfold maxLen at h2
 have H3 := Lib.hid h3
 clear h3 x1
 by_cases hn : l.length ≤ 60
 rotate_left
 ·have H : Hid (shortLB l = false) := by simp only [Hid, shortLB, decide_eq_false hn, Bool.false_and]
  go_enter Tryz.func6, Tryz.ntmps6
  go_wp2
  go_ret
  exact ⟨ret_bool H.out.symm, Below.refl _ _⟩
 have dl : decide ((60 : Int) < (l.length : Int)) = false := decide_eq_false (by omega)
 go_enter Tryz.func6, Tryz.ntmps6
 go_wp2
 go_loopw [3] (fun i wr => ∃ k : Nat, k ≤ l.length ∧ i = .int .i64 k ∧ Below w.heap.size w wr ∧ Hid ((l.take k).all (fun p => decide (p.code.size ≤ 60)) = true)) (fun i _ => l.length - (intOf i).toNat)
 case atStart => exact ⟨0, by omega, rfl, Below.refl _ _, rfl⟩
 case round =>
  obtain ⟨k, hk, rfl, hb, HV⟩ := hrel
  by_cases hlt : k < l.length
  ·rcases H3.out with h | ⟨b, off, rfl, hc0⟩
   ·exact (lns_pos hlt h).elim
   ·obtain ⟨_, c4, _⟩ := (hc0.below hb hc0.1).ln hlt
    clear H3 hc0
    by_cases hs : l[k].code.size ≤ 60
    ·have HSN : Hid ((l.take (k + 1)).all (fun p => decide (p.code.size ≤ 60)) = true) := by
      rw [Hid, List.take_succ_eq_append_getElem hlt, List.all_append, HV.out]; simp [hs]
     go_wp2
     go_roundw
     case rel => exact ⟨k + 1, by omega, by go_num, hb, HSN⟩
     case measure => simp [intOf]; omega
    ·have H : Hid (shortLB l = false) := by
      rw [Hid, Bool.eq_false_iff]
      intro hh
      simp only [shortLB, Bool.and_eq_true, List.all_eq_true, decide_eq_true_eq] at hh
      exact hs (hh.2 _ (List.getElem_mem hlt))
     go_wp2
     go_ret
     exact ⟨ret_bool H.out.symm, hb⟩
  ·go_wp2
   go_ret
   refine ⟨ret_bool ?_, hb⟩
   have := HV.out
   rw [List.take_of_length_le (by omega)] at this
   rw [shortLB, this, decide_eq_true hn]; rfl

end Go.Proofs.YtogdefomigiepaaGreatDoor
