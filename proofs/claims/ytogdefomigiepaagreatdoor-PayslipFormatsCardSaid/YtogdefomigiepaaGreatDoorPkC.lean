/- Contracts and plain facts that the laws of this seat share, part 3. -/
import Derived.Test.YtogdefomigiepaaGreatDoorPkA
import Derived.Deep.CutBlock
import Derived.Deep.DeepCutAuto
import Derived.Deep.RegionWith
import Derived.Deep.RegionLaw
import Derived.IntWalk
import Derived.Test.YtogdefomigiepaaGreatDoorPkB
set_option linter.unusedVariables false
set_option linter.unusedSimpArgs false
/- Contracts of paygen.Deck: Bases, Rows, Brackets. Written by gen_dbr.py. -/
namespace Go.Proofs.YtogdefomigiepaaGreatDoor
open Go.RowKit

theorem rowInt : RowTy Tryz.prog 22 3 1 8 := by
 obtain ⟨i, hi, hz, hs, hb⟩ := info_parts (show (Tryz.prog.info? 3).map (fun i => (i.zero, i.size, i.bytes)) = some (some (.int .i64 0), 1, 8) by kernel_rfl)
 exact ⟨Tryz.underlying22, ⟨i, _, hi, hz, hs, hb, rfl⟩, by omega⟩
theorem ints_wide (l : List Int) : Wide 1 (ints l) := wideMap (vals := fun z => [Value.int .i64 z]) (fun x => ⟨rfl, by simp [Value.oneCell']⟩) l
theorem ints_append (l m : List Int) : ints (l ++ m) = ints l ++ ints m := by simp [ints]
def IntsD (n : Nat) (lo hi : Int) (w : World) (D m : Nat) (e : Ending) (w' : World) : Prop :=
 ∃ (v : Value) (l : List Int), e = .returned v ∧ (l.length = n ∧ ∀ x ∈ l, lo ≤ x ∧ x ≤ hi) ∧ Own w' w.heap.size 3 1 v (ints l) ∧ DS w D m w'
set_option maxRecDepth 100000 in
set_option maxHeartbeats 4000000 in
theorem BasesD {w : World} {D m : Nat} (n : Nat) (hn : n ≤ 100) (hd : Dk w D m) (hm : m ≤ 1000000) :
  Calls Tryz.prog 76 #[.pointer (some ⟨D, 0, none⟩), .int .i64 n] w (IntsD n 0 1000000 w D (m + 5 * n)) := by
 have hD := hd.lt
 go_enter Tryz.func76, Tryz.ntmps76
 go_wp2_with fail
 go_loopw [5, 6] (fun v i wr => ∃ (k : Nat) (l : List Int), k ≤ n ∧ i = .int .i64 k ∧ Hid ((l.length = k ∧ ∀ x ∈ l, 0 ≤ x ∧ x ≤ 1000000) ∧ Own wr w.heap.size 3 1 v (ints l) ∧ DS w D (m + 5 * k) wr)) (fun _ i _ => n - (intOf i).toNat)
 case atStart => exact ⟨0, [], by omega, rfl, ⟨rfl, fun _ h => (by cases h)⟩, Own.nil _ _ _ _, hd.start⟩
 case round =>
  obtain ⟨k, l, hk, rfl, HI⟩ := hrel
  obtain ⟨wo, rfl⟩ : ∃ wo : World, wo = wr := ⟨_, rfl⟩
  by_cases hlt : k < n
  rotate_left
  ·obtain rfl : k = n := by omega
   have dk : decide ((k : Int) < (k : Int)) = false := decide_eq_false (by omega)
   go_wp2
   go_ret
   exact ⟨_, l, rfl, HI.out.1, HI.out.2.1, HI.out.2.2⟩
  have dk : decide ((k : Int) < (n : Int)) = true := decide_eq_true (by omega)
  have hS := HI.out.2.2
  have HC := Lib.hid HI.out.1
  have HO := Lib.hid HI.out.2.1
  clear HI
  go_wp2_with fail
  refine (SmallD hS.dk (by omega)).mono ?_
  rintro e w1 ⟨r1, hr1, rfl, k1⟩
  have A_1 := Lib.hid (k1.own HO.out hD)
  have h1 := hS.step k1
  clear HO k1
  go_wp2_with fail
  refine (SmallD h1.dk (by omega)).mono ?_
  rintro e w2 ⟨r2, hr2, rfl, k2⟩
  have A_2 := Lib.hid (k2.own A_1.out hD)
  have h2 := h1.step k2
  clear A_1 h1 k2
  go_wp2_with fail
  refine (PickD [r1, r2, 0, 500000, 1000000] 0 1000000 h2.dk.start (by omega) rfl rfl (by simp) (by simp) (by simp; try omega)).mono ?_
  rintro e w3 ⟨r3, hr3, rfl, k3⟩
  have A_3 := Lib.hid (k3.own A_2.out hD)
  have h3 := h2.step k3
  clear A_2 h2 k3
  go_wp2_with (at_builtin; refine wpList_append_sl rfl (.tmp 12) (.tmp 20) rfl rowInt w.heap.size _ _ (ints l) (ints [r3]) rfl (A_3.out.alloc _) rfl (Sl.one rfl rfl) (ints_wide _) (by rw [ints_len, ints_len, HC.out.1]; unfold maxLen; simp; omega) (by rw [ints_len, ints_len, HC.out.1]; simp; omega) (by have := h3.size; simp only [World.size_alloc]; omega) ?_; intro va wa howna hga _)
  have lta := fun g hg => (A_3.out.1.lt g hg).1
  have ha := (h3.alloc _).other hga lta hD
  have HEND : Hid (((l ++ [r3]).length = k + 1 ∧ ∀ x ∈ l ++ [r3], 0 ≤ x ∧ x ≤ 1000000) ∧ Own wa w.heap.size 3 1 va (ints (l ++ [r3])) ∧ DS w D (m + 5 * (k + 1)) wa) := ⟨⟨by simp [HC.out.1], fun x hx => by rcases List.mem_append.1 hx with hx | hx; exact HC.out.2 x hx; rw [List.mem_singleton.1 hx]; exact hr3⟩, by rw [ints_append]; exact howna, ha.more (by omega)⟩
  clear howna hga lta ha A_3 h3 HC
  go_roundw
  case rel => exact ⟨k + 1, _, by omega, by go_num, HEND.out⟩
  case measure => simp [intOf]; omega

def prs (l : List (Int × Int)) : List (List Value) := l.map fun p => [Value.int .i64 p.1, .int .i64 p.2]
theorem prs_len (l : List (Int × Int)) : (prs l).length = l.length := by simp [prs]
theorem prs_at {l : List (Int × Int)} {k : Nat} (h : k < l.length) : (prs l)[k]? = some [Value.int .i64 l[k].1, .int .i64 l[k].2] := by simp [prs, h]
theorem prs_append (l m : List (Int × Int)) : prs (l ++ m) = prs l ++ prs m := by simp [prs]
theorem prs_wide (l : List (Int × Int)) : Wide 2 (prs l) := wideMap (vals := fun p : Int × Int => [Value.int .i64 p.1, .int .i64 p.2]) (fun x => ⟨rfl, by simp [Value.oneCell']⟩) l
theorem rowRow : RowTy Tryz.prog 53 211 2 16 := by
 obtain ⟨i, hi, hz, hs, hb⟩ := info_parts (show (Tryz.prog.info? 211).map (fun i => (i.zero, i.size, i.bytes)) = some (some (.agg #[.int .i64 0, .int .i64 0]), 2, 16) by kernel_rfl)
 exact ⟨Tryz.underlying53, ⟨i, _, hi, hz, hs, hb, rfl⟩, by omega⟩
theorem rowBr : RowTy Tryz.prog 52 236 2 16 := by
 obtain ⟨i, hi, hz, hs, hb⟩ := info_parts (show (Tryz.prog.info? 236).map (fun i => (i.zero, i.size, i.bytes)) = some (some (.agg #[.int .i64 0, .int .i64 0]), 2, 16) by kernel_rfl)
 exact ⟨Tryz.underlying52, ⟨i, _, hi, hz, hs, hb, rfl⟩, by omega⟩
structure Tbl (A B : Int) (l : List (Int × Int)) : Prop where
 pos : 0 < l.length
 first : ∀ h : 0 < l.length, (l[0]).1 = 0
 asc : l.Pairwise fun p q => p.1 < q.1
 bound : ∀ p ∈ l, (0 ≤ p.1 ∧ p.1 ≤ A) ∧ 0 ≤ p.2 ∧ p.2 ≤ B
theorem Tbl.one {A B t : Int} (hA : 0 ≤ A) (h0 : 0 ≤ t) (h1 : t ≤ B) : Tbl A B [(0, t)] := ⟨by simp, fun _ => rfl, List.pairwise_singleton _ _, fun p hp => by rw [List.mem_singleton.1 hp]; exact ⟨⟨Int.le_refl _, hA⟩, h0, h1⟩⟩
theorem Tbl.last {A B : Int} {l : List (Int × Int)} (h : Tbl A B l) : ∃ q, l[l.length - 1]? = some q ∧ q ∈ l ∧ ∀ p ∈ l, p.1 ≤ q.1 := by
 have hp := h.pos
 refine ⟨l[l.length - 1], by simp, List.getElem_mem _, fun p hp => ?_⟩
 obtain ⟨i, hi, rfl⟩ := List.getElem_of_mem hp
 by_cases e : i = l.length - 1
 ·subst e; exact Int.le_refl _
 ·have := List.pairwise_iff_getElem.1 h.asc i (l.length - 1) hi (by omega) (by omega)
  omega
theorem Tbl.snoc {A B A' B' a b : Int} {l : List (Int × Int)} (h : Tbl A B l) {q : Int × Int} (hq : q ∈ l) (hl : ∀ p ∈ l, p.1 ≤ q.1) (ha : q.1 < a) (hA : A ≤ A') (hB : B ≤ B') (ha' : a ≤ A') (hb : 0 ≤ b ∧ b ≤ B') : Tbl A' B' (l ++ [(a, b)]) := by
 refine ⟨by simp, fun h1 => ?_, List.pairwise_append.2 ⟨h.asc, List.pairwise_singleton _ _, fun p hp r hr => ?_⟩, fun p hp => ?_⟩
 ·rw [List.getElem_append_left h.pos]; exact h.first h.pos
 ·rw [List.mem_singleton.1 hr]
  have := hl p hp
  show p.1 < a; omega
 ·rcases List.mem_append.1 hp with hp | hp
  ·have := h.bound p hp; omega
  ·rw [List.mem_singleton.1 hp]
   have := h.bound q hq
   exact ⟨⟨by show 0 ≤ a; omega, ha'⟩, hb⟩
def TblD (T : Nat) (A B : Int) (n : Nat) (w : World) (D m : Nat) (e : Ending) (w' : World) : Prop :=
 ∃ (v : Value) (l : List (Int × Int)), e = .returned v ∧ (Tbl A B l ∧ l.length ≤ n) ∧ Own w' w.heap.size T 2 v (prs l) ∧ DS w D m w'
theorem Own.one {w : World} {base e sz : Nat} {c : Array Value} (hb : base ≤ w.heap.size) (hc : c.size = sz) (h1 : ∀ u ∈ c.toList, u.oneCell' = true) : Own (w.alloc (.cells c e)) base e sz (.slice (some ⟨w.heap.size, 0, none⟩) 1 1) [c.toList] := by
 refine ⟨⟨by simp [hc], .inr ⟨w.heap.size, 1, c, rfl, hb, heap_alloc_new w _, by simp, by unfold maxLen; omega, by omega, ?_⟩⟩, fun x hx => ?_⟩
 ·rw [List.flatten_singleton, List.length_singleton, Nat.one_mul, ← hc]; exact List.take_of_length_le (by simp)
 ·rw [List.mem_singleton.1 hx]; exact ⟨by simpa using hc, h1⟩

set_option maxRecDepth 100000 in
set_option maxHeartbeats 8000000 in
theorem RowsD {w : World} {D m : Nat} (hd : Dk w D m) (hm : m ≤ 1000000) :
  Calls Tryz.prog 121 #[.pointer (some ⟨D, 0, none⟩)] w (TblD 211 1000000 1000000 5 w D (m + 20)) := by
 have hD := hd.lt
 go_enter Tryz.func121, Tryz.ntmps121
 go_wp2_with fail
 refine (PickD [0, 0, 100] 0 100 hd.start.dk.start (by omega) rfl rfl (by simp) (by simp) (by simp; try omega)).mono ?_
 rintro e w1 ⟨r1, hr1, rfl, k1⟩
 have h1 := hd.start.step k1
 clear k1
 go_upto_region 2 with (fail)
 have z0 := h1.size
 have HO : Own (w1.alloc (.cells #[.int .i64 0, .int .i64 r1] 211)) w.heap.size 211 2 (.slice (some ⟨w1.heap.size, 0, none⟩) 1 1) (prs [(0, r1)]) := Own.one z0 rfl (by simp [Value.oneCell'])
 have y := h1.alloc (.cells #[.int .i64 0, .int .i64 r1] 211)
 obtain ⟨wb, hw⟩ : ∃ wb, w1.alloc (.cells #[.int .i64 0, .int .i64 r1] 211) = wb := ⟨_, rfl⟩
 rw [hw] at HO y ⊢
 clear hw
 obtain ⟨v0, hv0⟩ : ∃ v0, Value.slice (some ⟨w1.heap.size, 0, none⟩) 1 1 = v0 := ⟨_, rfl⟩
 rw [hv0] at HO ⊢
 have HO := Lib.hid HO
 clear hv0
 go_wp2_with fail
 refine (NextD 5 y.dk (by omega) (by omega) (by omega)).mono ?_
 rintro e w2 ⟨r2, hr2, rfl, k2⟩
 have A_2 := Lib.hid (k2.own HO.out hD)
 have h2 := y.step k2
 clear HO k2
 obtain ⟨K, rfl⟩ := Int.eq_ofNat_of_zero_le hr2.1
 have hK : K ≤ 4 := by omega
 go_wp2_with fail
 go_loopw [3, 4] (fun v i wr => ∃ (k : Nat) (l : List (Int × Int)), k ≤ K ∧ i = .int .i64 k ∧ Hid ((Tbl (100001 * (4 - k : Int)) (100 + 20000 * (4 - k : Int)) l ∧ l.length + k = K + 1) ∧ Own wr w.heap.size 211 2 v (prs l) ∧ DS w D (m + 12 - 2 * k) wr)) (fun _ i _ => (intOf i).toNat)
 case atStart => exact ⟨K, [(0, r1)], by omega, rfl, ⟨Tbl.one (by omega) (by omega) (by omega), by simp; omega⟩, A_2.out, h2.more (by omega)⟩
 case round =>
  obtain ⟨k, l, hk, rfl, HI⟩ := hrel
  obtain ⟨wo, rfl⟩ : ∃ wo : World, wo = wr := ⟨_, rfl⟩
  by_cases hlt : 0 < k
  rotate_left
  ·obtain rfl : k = 0 := by omega
   go_wp2
   go_ret
   have h1 := HI.out.1.1
   refine ⟨_, l, rfl, ⟨⟨h1.pos, h1.first, h1.asc, fun p hp => ?_⟩, by have := HI.out.1.2; omega⟩, HI.out.2.1, HI.out.2.2.more (by omega)⟩
   have := h1.bound p hp
   omega
  have dk : decide ((0 : Int) < (k : Int)) = true := decide_eq_true (by omega)
  have hS := HI.out.2.2
  have HT := Lib.hid HI.out.1
  have HO := Lib.hid HI.out.2.1
  clear HI
  obtain ⟨q, hq, hqm, hql⟩ := HT.out.1.last
  have HQL := Lib.hid hql
  have HQM := Lib.hid hqm
  have hqb := HT.out.1.bound q hqm
  obtain ⟨g, cap, rfl, hcap, hgb, hgl⟩ := HO.out.formP (by rw [prs_len]; exact HT.out.1.pos)
  rw [prs_len] at HO hcap ⊢
  obtain ⟨n, hn⟩ : ∃ n, l.length = n + 1 := ⟨l.length - 1, by have := HT.out.1.pos; omega⟩
  rw [hn] at HO hcap ⊢
  have HN := Lib.hid hn
  have hn4 : n + 1 + k = K + 1 := by have := HT.out.2; omega
  have hqn : l[n]? = some q := by rw [hn] at hq; exact hq
  have c0 : wo.cell? ⟨g, n * 2, none⟩ = some (.int .i64 q.1) := HO.out.cellE (by omega) (i := n) (by rw [prs, List.getElem?_map, hqn]; rfl) (j := 0) rfl
  have c1 : wo.cell? ⟨g, n * 2 + 1, none⟩ = some (.int .i64 q.2) := HO.out.cellE (by omega) (i := n) (by rw [prs, List.getElem?_map, hqn]; rfl) (j := 1) rfl
  clear hq hqn hql hqm hn
  go_upto_region 6 with (fail)
  have y1 := hS.alloc (.cells #[.int .i64 q.1, .int .i64 q.2] 211)
  have X_1 := Row.new wo 211 #[.int .i64 q.1, .int .i64 q.2]
  have b1 := (hS.dk.start.alloc (.cells #[.int .i64 q.1, .int .i64 q.2] 211))
  have A_1 := Lib.hid (b1.own HO.out hD)
  have nX : wo.heap.size ≠ D := by have := hS.dk.lt; omega
  have oXA := Own.offNew HO.out
  obtain ⟨w1, hw⟩ : ∃ w1, wo.alloc (.cells #[.int .i64 q.1, .int .i64 q.2] 211) = w1 := ⟨_, rfl⟩
  rw [hw] at y1 X_1 ⊢
  rw [hw] at A_1
  obtain ⟨gX, hg⟩ : ∃ gX, wo.heap.size = gX := ⟨_, rfl⟩
  have zX : w.heap.size ≤ gX := by have := hS.size; omega
  rw [hg] at X_1 nX ⊢
  rw [hg] at oXA
  have h1 := y1
  have GX := Lib.hid hg
  clear HO hw hg b1 y1
  clear c0 c1
  have e1 : IntKind.i64.wrap (q.1 + 1) = q.1 + 1 := IntWalk.i64_in _ (by omega)
  have cX0 : w1.cell? ⟨gX, 0, none⟩ = some (.int .i64 q.1) := Row.cell X_1 0
  have cX1 : w1.cell? ⟨gX, 1, none⟩ = some (.int .i64 q.2) := Row.cell X_1 1
  have lX := Row.lt X_1
  go_region_law (first | (go_simp; refine (NextD _ k1.dk (by omega) (by omega) (by omega)).mono ?_; rintro e wb ⟨rb, hrb, rfl, k2⟩; have j2 := j1.step k2; have e3 : IntKind.i64.wrap (q.2 + rb) = q.2 + rb := IntWalk.i64_in _ (by omega); have Xb := j2.row X_1 nX; have Ab := Lib.hid (j2.own A_1.out hD); have pb0 : wb.cell? ⟨gX, 0, none⟩ = some (.int .i64 q.1) := Row.cell Xb 0; have pb1 : wb.cell? ⟨gX, 1, none⟩ = some (.int .i64 q.2) := Row.cell Xb 1; have pbl := Row.lt Xb) | (go_simp; refine (NextD _ ((h1.dk.start.draws _).dk) (by omega) (by omega) (by omega)).mono ?_; rintro e wa ⟨ra, hra, rfl, k1⟩; have j1 := (h1.dk.start.draws _).step k1; have e2 : IntKind.i64.wrap (q.1 + 1 + ra) = q.1 + 1 + ra := IntWalk.i64_in _ (by omega); have Xa := j1.row X_1 nX; have pa0 : wa.cell? ⟨gX, 0, none⟩ = some (.int .i64 q.1) := Row.cell Xa 0; have pa1 : wa.cell? ⟨gX, 1, none⟩ = some (.int .i64 q.2) := Row.cell Xa 1; have pal := Row.lt Xa) | (refine step_append_sl rfl (.tmp 23) (.tmp 36) rfl rowRow w.heap.size _ _ (prs l) (prs [(q.1 + 1 + ra, q.2 + rb)]) rfl (Ab.out.alloc _) rfl (Sl.one rfl rfl) (prs_wide _) (by rw [prs_len, prs_len, HN.out]; unfold maxLen; simp; omega) (by rw [prs_len, prs_len, HN.out]; simp; omega) (by have := h1.size; have := j2.size; simp only [World.size_alloc]; omega) ?_; intro vz wz hownz hgz _))
  all_goals
   have ltz := fun g hg => (Ab.out.1.lt g hg).1
   have hz := ((h1.step j2).alloc _).other hgz ltz hD
   have hsn := HT.out.1.snoc (A' := 100001 * (4 - ((k - 1 : Nat) : Int))) (B' := 100 + 20000 * (4 - ((k - 1 : Nat) : Int))) HQM.out HQL.out (a := q.1 + 1 + ra) (b := q.2 + rb) (by omega) (by omega) (by omega) (by omega) (by omega)
   have HEND : Hid ((Tbl (100001 * (4 - ((k - 1 : Nat) : Int))) (100 + 20000 * (4 - ((k - 1 : Nat) : Int))) (l ++ [(q.1 + 1 + ra, q.2 + rb)]) ∧ (l ++ [(q.1 + 1 + ra, q.2 + rb)]).length + (k - 1) = K + 1) ∧ Own wz w.heap.size 211 2 vz (prs (l ++ [(q.1 + 1 + ra, q.2 + rb)])) ∧ DS w D (m + 12 - 2 * (k - 1)) wz) := ⟨⟨hsn, by have := HT.out.2; simp; omega⟩, by rw [prs_append]; exact hownz, hz.more (by omega)⟩
   clear hownz hgz ltz hz hsn Ab Xa Xb k1 k2 j1 j2 X_1 A_1 h1 HT
   go_wp2_with fail
   go_roundw
   case rel => exact ⟨k - 1, _, by omega, by go_num, HEND.out⟩
   case measure => simp [intOf]; omega
end Go.Proofs.YtogdefomigiepaaGreatDoor
