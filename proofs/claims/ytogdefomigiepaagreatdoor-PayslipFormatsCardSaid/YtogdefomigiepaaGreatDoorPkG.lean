/- Contracts and plain facts that the laws of this seat share, part 7. -/
import Derived.Test.YtogdefomigiepaaGreatDoorPkC
import Derived.Deep.RegionHeld3
import Derived.Test.YtogdefomigiepaaGreatDoorPkA
import Derived.Deep.CutBlock
import Derived.Deep.DeepCutAuto
import Derived.Deep.RegionWith
import Derived.Deep.RegionLaw
set_option linter.unusedVariables false
set_option linter.unusedSimpArgs false
/- Contract of paygen.Deck.Brackets. Written by gen_dbk.py. -/
namespace Go.Proofs.YtogdefomigiepaaGreatDoor
open Go.RowKit

def BrRel (w wx : World) (D M gX gY g n cap : Nat) (q : Int × Int) (a b : Int) (l : List (Int × Int)) : Prop :=
 Row wx gX 236 #[.int .i64 q.1, .int .i64 q.2] ∧ Row wx gY 236 #[.int .i64 a, .int .i64 b] ∧ Own wx w.heap.size 236 2 (.slice (some ⟨g, 0, none⟩) n cap) (prs l) ∧ DS w D M wx
theorem BrRel.ofSet {w wx : World} {D M gX gY g n cap : Nat} {q : Int × Int} {a b a' b' : Int} {l : List (Int × Int)} (hX : Row wx gX 236 #[.int .i64 q.1, .int .i64 q.2]) (hY : Row wx gY 236 #[.int .i64 a', .int .i64 b']) (hA : Own wx w.heap.size 236 2 (.slice (some ⟨g, 0, none⟩) n cap) (prs l)) (hS : DS w D M wx) (h1 : gY ≠ gX) (h2 : gY ≠ g) (h3 : w.heap.size ≤ gY) (hD : D < w.heap.size) :
  BrRel w ((wx.setCell ⟨gY, 0, none⟩ (.int .i64 a)).setCell ⟨gY, 1, none⟩ (.int .i64 b)) D M gX gY g n cap q a b l := by
 have off : ∀ k, Value.ownBlock (.slice (some ⟨g, 0, none⟩) n cap) = some k → k ≠ gY := fun k hk => by
  have : g = k := by simpa [Value.ownBlock] using hk
  omega
 exact ⟨Row.far (Row.far hX (p := ⟨gY, 0, none⟩) (fun e => h1 e.symm) _) (p := ⟨gY, 1, none⟩) (fun e => h1 e.symm) _, Row.set (Row.set hY 0 (.int .i64 a)) 1 (.int .i64 b), (hA.setOff off 0 _).setOff off 1 _, (hS.set (p := ⟨gY, 0, none⟩) h3 hD _).set (p := ⟨gY, 1, none⟩) h3 hD _⟩
theorem BrRel.ofSet1 {w wx : World} {D M gX gY g n cap : Nat} {q : Int × Int} {a b b' : Int} {l : List (Int × Int)} (h : BrRel w wx D M gX gY g n cap q a b' l) (h1 : gY ≠ gX) (h2 : gY ≠ g) (h3 : w.heap.size ≤ gY) (hD : D < w.heap.size) :
  BrRel w (wx.setCell ⟨gY, 1, none⟩ (.int .i64 b)) D M gX gY g n cap q a b l := by
 have off : ∀ k, Value.ownBlock (.slice (some ⟨g, 0, none⟩) n cap) = some k → k ≠ gY := fun k hk => by
  have : g = k := by simpa [Value.ownBlock] using hk
  omega
 exact ⟨Row.far h.1 (p := ⟨gY, 1, none⟩) (fun e => h1 e.symm) _, Row.set h.2.1 1 (.int .i64 b), h.2.2.1.setOff off 1 _, h.2.2.2.set (p := ⟨gY, 1, none⟩) h3 hD _⟩
theorem BrRel.ofAlloc {w wx : World} {D M gX g n cap : Nat} {q : Int × Int} {a b : Int} {l : List (Int × Int)} (hX : Row wx gX 236 #[.int .i64 q.1, .int .i64 q.2]) (hA : Own wx w.heap.size 236 2 (.slice (some ⟨g, 0, none⟩) n cap) (prs l)) (hS : DS w D M wx) :
  BrRel w (wx.alloc (.cells #[.int .i64 a, .int .i64 b] 236)) D M gX wx.heap.size g n cap q a b l := ⟨hX.alloc _, Row.new _ _ _, hA.alloc _, hS.alloc _⟩
theorem BrRel.more {w wx : World} {D M N gX gY g n cap : Nat} {q : Int × Int} {a b : Int} {l : List (Int × Int)} (h : BrRel w wx D M gX gY g n cap q a b l) (hN : M ≤ N) : BrRel w wx D N gX gY g n cap q a b l := ⟨h.1, h.2.1, h.2.2.1, h.2.2.2.more hN⟩
theorem BrRel.step {w wx w' : World} {D M N gX gY g n cap : Nat} {q : Int × Int} {a b : Int} {l : List (Int × Int)} (h : BrRel w wx D M gX gY g n cap q a b l) (k : DS wx D N w') (hX : gX ≠ D) (hY : gY ≠ D) (hD : D < w.heap.size) : BrRel w w' D N gX gY g n cap q a b l := ⟨k.row h.1 hX, k.row h.2.1 hY, k.own h.2.2.1 hD, h.2.2.2.step k⟩
set_option maxRecDepth 100000 in
set_option maxHeartbeats 8000000 in
theorem BracketsD {w : World} {D m : Nat} (p : Bool) (hd : Dk w D m) (hm : m ≤ 1000000) :
  Calls Tryz.prog 119 #[.pointer (some ⟨D, 0, none⟩), .bool p] w (TblD 236 10000000 1000000 4 w D (m + 20)) := by
 have hD := hd.lt
 go_enter Tryz.func119, Tryz.ntmps119
 go_wp2_with fail
 refine (PickD [0, 100000, 150000] 0 150000 hd.start.dk.start (by omega) rfl rfl (by simp) (by simp) (by simp; try omega)).mono ?_
 rintro e w1 ⟨r1, hr1, rfl, k1⟩
 have h1 := hd.start.step k1
 clear k1
 go_upto_region 2 with (fail)
 have z0 := h1.size
 have HO : Own (w1.alloc (.cells #[.int .i64 0, .int .i64 r1] 236)) w.heap.size 236 2 (.slice (some ⟨w1.heap.size, 0, none⟩) 1 1) (prs [(0, r1)]) := Own.one z0 rfl (by simp [Value.oneCell'])
 have y := h1.alloc (.cells #[.int .i64 0, .int .i64 r1] 236)
 obtain ⟨wb, hw⟩ : ∃ wb, w1.alloc (.cells #[.int .i64 0, .int .i64 r1] 236) = wb := ⟨_, rfl⟩
 rw [hw] at HO y ⊢
 clear hw
 obtain ⟨v0, hv0⟩ : ∃ v0, Value.slice (some ⟨w1.heap.size, 0, none⟩) 1 1 = v0 := ⟨_, rfl⟩
 rw [hv0] at HO ⊢
 have HO := Lib.hid HO
 clear hv0
 go_wp2_with fail
 refine (NextD 4 y.dk (by omega) (by omega) (by omega)).mono ?_
 rintro e w2 ⟨r2, hr2, rfl, k2⟩
 have A_2 := Lib.hid (k2.own HO.out hD)
 have h2 := y.step k2
 clear HO k2
 obtain ⟨K, rfl⟩ := Int.eq_ofNat_of_zero_le hr2.1
 have hK : K ≤ 3 := by omega
 go_wp2_with fail
 go_loopw [5, 6] (fun v i wr => ∃ (k : Nat) (l : List (Int × Int)), k ≤ K ∧ i = .int .i64 k ∧ Hid ((Tbl (3000001 * (3 - k : Int)) 1000000 l ∧ l.length + k = K + 1) ∧ Own wr w.heap.size 236 2 v (prs l) ∧ DS w D (m + 17 - 5 * k) wr)) (fun _ i _ => (intOf i).toNat)
 case atStart => exact ⟨K, [(0, r1)], by omega, rfl, ⟨Tbl.one (by omega) (by omega) (by omega), by simp; omega⟩, A_2.out, h2.more (by omega)⟩
 case round =>
  obtain ⟨k, l, hk, rfl, HI⟩ := hrel
  obtain ⟨wo, rfl⟩ : ∃ wo : World, wo = wr := ⟨_, rfl⟩
  by_cases hlt : 0 < k
  rotate_left
  ·obtain rfl : k = 0 := by omega
   go_wp2
   go_ret
   have h1 := HI.out.1.1
   refine ⟨_, l, rfl, ⟨⟨h1.pos, h1.first, h1.asc, fun p hp => ?_⟩, by have := HI.out.1.2; omega⟩, HI.out.2.1, HI.out.2.2.more (by omega)⟩
   have := h1.bound p hp
   omega
  have dk : decide ((0 : Int) < (k : Int)) = true := decide_eq_true (by omega)
  have hS := HI.out.2.2
  have HT := Lib.hid HI.out.1
  have HO := Lib.hid HI.out.2.1
  clear HI
  obtain ⟨q, hq, hqm, hql⟩ := HT.out.1.last
  have HQL := Lib.hid hql
  have HQM := Lib.hid hqm
  have hqb := HT.out.1.bound q hqm
  obtain ⟨g, cap, rfl, hcap, hgb, hgl⟩ := HO.out.formP (by rw [prs_len]; exact HT.out.1.pos)
  rw [prs_len] at HO hcap ⊢
  obtain ⟨n, hn⟩ : ∃ n, l.length = n + 1 := ⟨l.length - 1, by have := HT.out.1.pos; omega⟩
  rw [hn] at HO hcap ⊢
  have HN := Lib.hid hn
  have hn4 : n + 1 + k = K + 1 := by have := HT.out.2; omega
  have hqn : l[n]? = some q := by rw [hn] at hq; exact hq
  have c0 : wo.cell? ⟨g, n * 2, none⟩ = some (.int .i64 q.1) := HO.out.cellE (by omega) (i := n) (by rw [prs, List.getElem?_map, hqn]; rfl) (j := 0) rfl
  have c1 : wo.cell? ⟨g, n * 2 + 1, none⟩ = some (.int .i64 q.2) := HO.out.cellE (by omega) (i := n) (by rw [prs, List.getElem?_map, hqn]; rfl) (j := 1) rfl
  clear hq hqn hql hqm hn
  go_upto_region 6 with (fail)
  have y1 := hS.alloc (.cells #[.int .i64 q.1, .int .i64 q.2] 236)
  have X_1 := Row.new wo 236 #[.int .i64 q.1, .int .i64 q.2]
  have b1 := (hS.dk.start.alloc (.cells #[.int .i64 q.1, .int .i64 q.2] 236))
  have A_1 := Lib.hid (b1.own HO.out hD)
  have nX : wo.heap.size ≠ D := by have := hS.dk.lt; omega
  have oXA := Own.offNew HO.out
  obtain ⟨w1, hw⟩ : ∃ w1, wo.alloc (.cells #[.int .i64 q.1, .int .i64 q.2] 236) = w1 := ⟨_, rfl⟩
  rw [hw] at y1 X_1 ⊢
  rw [hw] at A_1
  obtain ⟨gX, hg⟩ : ∃ gX, wo.heap.size = gX := ⟨_, rfl⟩
  have zX : w.heap.size ≤ gX := by have := hS.size; omega
  rw [hg] at X_1 nX ⊢
  rw [hg] at oXA
  have h1 := y1
  have GX := Lib.hid hg
  clear HO hw hg b1 y1
  have hgX : g < gX := by have := GX.out; omega
  clear c0 c1
  have e1 : IntKind.i64.wrap (q.1 + 1) = q.1 + 1 := IntWalk.i64_in _ (by omega)
  go_cut [8] (fun y wx => ∃ (a b : Int) (gY : Nat), y = .pointer (some ⟨gY, 0, none⟩) ∧ (q.1 < a ∧ a ≤ q.1 + 3000001) ∧ (0 ≤ b ∧ b ≤ 1000000) ∧ (gY ≠ gX ∧ gY ≠ D ∧ w.heap.size ≤ gY ∧ gY ≠ g) ∧ Hid (BrRel w wx D (m + 17 - 5 * k + 4) gX gY g (n + 1) cap q a b l))
  case first =>
   have cX0 : w1.cell? ⟨gX, 0, none⟩ = some (.int .i64 q.1) := Row.cell X_1 0
   have cX1 : w1.cell? ⟨gX, 1, none⟩ = some (.int .i64 q.2) := Row.cell X_1 1
   have lX := Row.lt X_1
   have q0 := h1.dk
   have s0 := q0.lt
   go_region_held3 (fun w' => w'.cell? ⟨gX, 0, none⟩ = some (.int .i64 q.1)) (first | assumption | (rw [World.cell?_setCell_far _ _ _ _ (by intro e; dsimp only at e; omega), World.cell?_setCell_far _ _ _ _ (by intro e; dsimp only at e; omega)]; assumption) | go_keep)
    (first
     | (go_at_call 122; (with_reducible refine (RateD q2.start.dk (by omega)).mono ?_); rintro e wd3 ⟨rd3, hrd3, rfl, k3⟩; have i3 : DS w1 D _ wd3 := DS.step i2 k3; have q3 := i3.dk; have z3 := i3.size; have s3 := q3.lt; have X3 : Row wd3 gX 236 #[.int .i64 q.1, .int .i64 q.2] := k3.row X2 nX; have x30 : wd3.cell? ⟨gX, 0, none⟩ = some (.int .i64 q.1) := Row.cell X3 0; have lx3 := Row.lt X3; (first | (have Y3 := k3.row Y2 (by first | omega | (simp only [World.size_alloc]; omega))) | skip); (try (have y30 : wd3.cell? ⟨_, 0, none⟩ = some (.int .i64 0) := Row.cell Y3 0; have y31 : wd3.cell? ⟨_, 1, none⟩ = some (.int .i64 0) := Row.cell Y3 1; have yf30 := Row.frozen Y3 0; have yf31 := Row.frozen Y3 1; have yl3 := Row.lt Y3)); (try simp only [World.size_alloc] at Y3 y30 y31 yf30 yf31 yl3); skip)
     | (go_at_call 122; (with_reducible refine (RateD (q2.alloc _) (by omega)).mono ?_); rintro e wd3 ⟨rd3, hrd3, rfl, k3⟩; have i3 : DS w1 D _ wd3 := DS.step (i2.alloc _) k3; have q3 := i3.dk; have z3 := i3.size; have s3 := q3.lt; have X3 : Row wd3 gX 236 #[.int .i64 q.1, .int .i64 q.2] := k3.row (X2.alloc _) nX; have x30 : wd3.cell? ⟨gX, 0, none⟩ = some (.int .i64 q.1) := Row.cell X3 0; have lx3 := Row.lt X3; have Y3 := k3.row (Row.new wd2 236 #[.int .i64 0, .int .i64 0]) (by first | omega | (simp only [World.size_alloc]; omega)); (try (have y30 : wd3.cell? ⟨_, 0, none⟩ = some (.int .i64 0) := Row.cell Y3 0; have y31 : wd3.cell? ⟨_, 1, none⟩ = some (.int .i64 0) := Row.cell Y3 1; have yf30 := Row.frozen Y3 0; have yf31 := Row.frozen Y3 1; have yl3 := Row.lt Y3)); (try simp only [World.size_alloc] at Y3 y30 y31 yf30 yf31 yl3); skip)
     | (go_at_call 10; (with_reducible refine (PickD [0, 99, rd1] 0 2999999 q1.start (by omega) (by simp) (by simp) (by simp) (by simp) (by simp; omega)).mono ?_); rintro e wd2 ⟨rd2, hrd2, rfl, k2⟩; have i2 : DS w1 D _ wd2 := DS.step i1 k2; have q2 := i2.dk; have z2 := i2.size; have s2 := q2.lt; have X2 : Row wd2 gX 236 #[.int .i64 q.1, .int .i64 q.2] := k2.row X1 nX; have x20 : wd2.cell? ⟨gX, 0, none⟩ = some (.int .i64 q.1) := Row.cell X2 0; have lx2 := Row.lt X2; (first | (have Y2 := k2.row Y1 (by first | omega | (simp only [World.size_alloc]; omega))) | skip); (try (have y20 : wd2.cell? ⟨_, 0, none⟩ = some (.int .i64 0) := Row.cell Y2 0; have y21 : wd2.cell? ⟨_, 1, none⟩ = some (.int .i64 0) := Row.cell Y2 1; have yf20 := Row.frozen Y2 0; have yf21 := Row.frozen Y2 1; have yl2 := Row.lt Y2)); (try simp only [World.size_alloc] at Y2 y20 y21 yf20 yf21 yl2); have e2 : IntKind.i64.wrap (q.1 + 1 + rd2) = q.1 + 1 + rd2 := IntWalk.i64_in _ (by omega))
     | (go_at_call 10; (with_reducible refine (PickD2 [0, 99, rd1] 0 2999999 q1 (by omega) (by simp) (by simp) (by simp) (by simp) (by simp; omega)).mono ?_); rintro e wd2 ⟨rd2, hrd2, rfl, k2⟩; have i2 : DS w1 D _ wd2 := DS.step (i1.alloc _) k2; have q2 := i2.dk; have z2 := i2.size; have s2 := q2.lt; have X2 : Row wd2 gX 236 #[.int .i64 q.1, .int .i64 q.2] := k2.row (X1.alloc _) nX; have x20 : wd2.cell? ⟨gX, 0, none⟩ = some (.int .i64 q.1) := Row.cell X2 0; have lx2 := Row.lt X2; have Y2 := k2.row (Row.new wd1 236 #[.int .i64 0, .int .i64 0]) (by first | omega | (simp only [World.size_alloc]; omega)); (try (have y20 : wd2.cell? ⟨_, 0, none⟩ = some (.int .i64 0) := Row.cell Y2 0; have y21 : wd2.cell? ⟨_, 1, none⟩ = some (.int .i64 0) := Row.cell Y2 1; have yf20 := Row.frozen Y2 0; have yf21 := Row.frozen Y2 1; have yl2 := Row.lt Y2)); (try simp only [World.size_alloc] at Y2 y20 y21 yf20 yf21 yl2); have e2 : IntKind.i64.wrap (q.1 + 1 + rd2) = q.1 + 1 + rd2 := IntWalk.i64_in _ (by omega))
     | (go_at_call 10; (with_reducible refine (PickD3 [0, 99, rd1] 0 2999999 q1 (by omega) (by simp) (by simp) (by simp) (by simp) (by simp; omega)).mono ?_); rintro e wd2 ⟨rd2, hrd2, rfl, k2⟩; have i2 : DS w1 D _ wd2 := DS.step ((i1.alloc _).alloc _) k2; have q2 := i2.dk; have z2 := i2.size; have s2 := q2.lt; have X2 : Row wd2 gX 236 #[.int .i64 q.1, .int .i64 q.2] := k2.row ((X1.alloc _).alloc _) nX; have x20 : wd2.cell? ⟨gX, 0, none⟩ = some (.int .i64 q.1) := Row.cell X2 0; have lx2 := Row.lt X2; have Y2 := k2.row (Row.new _ 236 #[.int .i64 0, .int .i64 0]) (by first | omega | (simp only [World.size_alloc]; omega)); (try (have y20 : wd2.cell? ⟨_, 0, none⟩ = some (.int .i64 0) := Row.cell Y2 0; have y21 : wd2.cell? ⟨_, 1, none⟩ = some (.int .i64 0) := Row.cell Y2 1; have yf20 := Row.frozen Y2 0; have yf21 := Row.frozen Y2 1; have yl2 := Row.lt Y2)); (try simp only [World.size_alloc] at Y2 y20 y21 yf20 yf21 yl2); have e2 : IntKind.i64.wrap (q.1 + 1 + rd2) = q.1 + 1 + rd2 := IntWalk.i64_in _ (by omega))
     | (go_at_call 13; (with_reducible refine (NextD _ q0.drew (by omega) (by omega) (by omega)).mono ?_); rintro e wd1 ⟨rd1, hrd1, rfl, k1⟩; have i1 : DS w1 D _ wd1 := DS.step q0.start.drew k1; have q1 := i1.dk; have z1 := i1.size; have s1 := q1.lt; have X1 : Row wd1 gX 236 #[.int .i64 q.1, .int .i64 q.2] := k1.row X_1.drew nX; have x10 : wd1.cell? ⟨gX, 0, none⟩ = some (.int .i64 q.1) := Row.cell X1 0; have lx1 := Row.lt X1; (try (have y10 : wd1.cell? ⟨_, 0, none⟩ = some (.int .i64 0) := Row.cell Y1 0; have y11 : wd1.cell? ⟨_, 1, none⟩ = some (.int .i64 0) := Row.cell Y1 1; have yf10 := Row.frozen Y1 0; have yf11 := Row.frozen Y1 1; have yl1 := Row.lt Y1)); (try simp only [World.size_alloc] at Y1 y10 y11 yf10 yf11 yl1); skip)
     | (go_at_call 13; (with_reducible refine (NextD _ (q0.alloc _).drew (by omega) (by omega) (by omega)).mono ?_); rintro e wd1 ⟨rd1, hrd1, rfl, k1⟩; have i1 : DS w1 D _ wd1 := DS.step (q0.start.alloc _).drew k1; have q1 := i1.dk; have z1 := i1.size; have s1 := q1.lt; have X1 : Row wd1 gX 236 #[.int .i64 q.1, .int .i64 q.2] := k1.row (X_1.alloc _).drew nX; have x10 : wd1.cell? ⟨gX, 0, none⟩ = some (.int .i64 q.1) := Row.cell X1 0; have lx1 := Row.lt X1; have Y1 := k1.row (Row.new w1 236 #[.int .i64 0, .int .i64 0]).drew (by first | omega | (simp only [World.size_alloc]; omega)); (try (have y10 : wd1.cell? ⟨_, 0, none⟩ = some (.int .i64 0) := Row.cell Y1 0; have y11 : wd1.cell? ⟨_, 1, none⟩ = some (.int .i64 0) := Row.cell Y1 1; have yf10 := Row.frozen Y1 0; have yf11 := Row.frozen Y1 1; have yl1 := Row.lt Y1)); (try simp only [World.size_alloc] at Y1 y10 y11 yf10 yf11 yl1); skip)
     | fail)
   all_goals
    have A3 := i3.own A_1.out hD
    have h3 := h1.step i3
    have sz := h1.size
    have gl3 := i3.size
    first
     | (have HEND := Lib.hid ((BrRel.ofAlloc (a := q.1 + 1 + rd2) (b := rd3) X3 A3 h3).more (show _ ≤ m + 17 - 5 * k + 4 by omega)); clear A3 h3 X1 X2 X3 X_1 A_1 h1; go_wp2_with fail; go_meet; exact ⟨q.1 + 1 + rd2, rd3, _, rfl, ⟨by omega, by omega⟩, hrd3, ⟨by omega, by omega, by omega, by omega⟩, HEND.out⟩)
     | (have HEND := Lib.hid ((BrRel.ofSet (a := q.1 + 1 + rd2) (b := rd3) X3 Y3 A3 h3 (by omega) (by omega) (by omega) hD).more (show _ ≤ m + 17 - 5 * k + 4 by omega)); clear A3 h3 X1 X2 X3 Y3 X_1 A_1 h1; go_wp2_with fail; go_meet; exact ⟨q.1 + 1 + rd2, rd3, _, rfl, ⟨by omega, by omega⟩, hrd3, ⟨by omega, by omega, by omega, by omega⟩, HEND.out⟩)
  case rest =>
   clear X_1 A_1 h1
   obtain ⟨a, b, gY, rfl, ha, hb, hy, HC⟩ := hcut
   obtain ⟨w2, hw2⟩ : ∃ w2 : World, w2 = wc := ⟨_, rfl⟩
   subst hw2
   have B2 := HC.out
   have X2 := B2.1
   have Y2 := B2.2.1
   have A2 := Lib.hid B2.2.2.1
   have h2 := B2.2.2.2
   clear HC
   cases p
   ·clear X2 B2
    have cY0 : w2.cell? ⟨gY, 0, none⟩ = some (.int .i64 a) := Row.cell Y2 0
    have cY1 : w2.cell? ⟨gY, 1, none⟩ = some (.int .i64 b) := Row.cell Y2 1
    have lY := Row.lt Y2
    go_wp2_with (at_builtin; refine wpList_append_sl rfl (.tmp 47) (.tmp 49) rfl rowBr w.heap.size _ _ (prs l) (prs [(a, b)]) rfl (A2.out.alloc _) rfl (Sl.one rfl rfl) (prs_wide _) (by rw [prs_len, prs_len, HN.out]; unfold maxLen; simp; omega) (by rw [prs_len, prs_len, HN.out]; simp; omega) (by have := h2.size; simp only [World.size_alloc]; omega) ?_; intro vz wz hownz hgz _)
    have ltz := fun g hg => (A2.out.1.lt g hg).1
    have hz := (h2.alloc _).other hgz ltz hD
    have hsn := HT.out.1.snoc (A' := 3000001 * (3 - ((k - 1 : Nat) : Int))) (B' := 1000000) HQM.out HQL.out (a := a) (b := b) (by omega) (by omega) (by omega) (by omega) (by omega)
    have HEND : Hid ((Tbl (3000001 * (3 - ((k - 1 : Nat) : Int))) 1000000 (l ++ [(a, b)]) ∧ (l ++ [(a, b)]).length + (k - 1) = K + 1) ∧ Own wz w.heap.size 236 2 vz (prs (l ++ [(a, b)])) ∧ DS w D (m + 17 - 5 * (k - 1)) wz) := ⟨⟨hsn, by have := HT.out.2; simp; omega⟩, by rw [prs_append]; exact hownz, hz.more (by omega)⟩
    clear hownz hgz ltz hz hsn Y2 A2 h2 HT
    go_roundw
    case rel => exact ⟨k - 1, _, by omega, by go_num, HEND.out⟩
    case measure => simp [intOf]; omega
   ·go_upto_region 8 with (fail)
    have cX0 : w2.cell? ⟨gX, 0, none⟩ = some (.int .i64 q.1) := Row.cell X2 0
    have cX1 : w2.cell? ⟨gX, 1, none⟩ = some (.int .i64 q.2) := Row.cell X2 1
    have lX := Row.lt X2
    have cY0 : w2.cell? ⟨gY, 0, none⟩ = some (.int .i64 a) := Row.cell Y2 0
    have cY1 : w2.cell? ⟨gY, 1, none⟩ = some (.int .i64 b) := Row.cell Y2 1
    have fY1 : w2.frozen? ⟨gY, 1, none⟩ = false := Row.frozen Y2 1
    have lY := Row.lt Y2
    go_region_law (go_simp; refine (PickD [0, 50000, 120000] 0 120000 (h2.dk.start.draws _) (by omega) rfl rfl (by simp) (by simp) (by simp)).mono ?_; rintro e wd ⟨rd, hrd, rfl, k4⟩; have Xd := k4.row X2 nX; have Yd := k4.row Y2 hy.2.1; have e4 : IntKind.i64.wrap (q.2 + rd) = q.2 + rd := IntWalk.i64_in _ (by omega); have pd0 : wd.cell? ⟨gX, 1, none⟩ = some (.int .i64 q.2) := Row.cell Xd 1; have pd1 : wd.cell? ⟨gY, 1, none⟩ = some (.int .i64 b) := Row.cell Yd 1; have pd2 : wd.frozen? ⟨gY, 1, none⟩ = false := Row.frozen Yd 1; have pd3 := Row.lt Yd; have pd4 := Row.lt Xd)
    all_goals
     obtain ⟨bb, hbb⟩ : ∃ bb : Int, (if 450000 < q.2 + rd then 450000 else q.2 + rd) = bb := ⟨_, rfl⟩
     have bbb : 0 ≤ bb ∧ bb ≤ 1000000 := by rw [← hbb]; split <;> omega
     have hbm : min (q.2 + rd) 450000 = bb := by rw [← hbb]; split <;> omega
     simp only [hbb, hbm]
     have B4 := (B2.step k4 nX hy.2.1 hD).ofSet1 (b := bb) hy.1 hy.2.2.2 hy.2.2.1 hD
     obtain ⟨w5, hw5⟩ : ∃ w5, wd.setCell ⟨gY, 1, none⟩ (.int .i64 bb) = w5 := ⟨_, rfl⟩
     rw [hw5] at B4 ⊢
     have Y5 := B4.2.1
     have A5 := Lib.hid B4.2.2.1
     have h5 := B4.2.2.2
     clear hw5 hbb B4 B2 X2 Y2 A2 h2 k4 Xd Yd pd0 pd1 pd2 pd3 pd4 cX0 cX1 lX cY0 cY1 fY1 lY
     have cY0 : w5.cell? ⟨gY, 0, none⟩ = some (.int .i64 a) := Row.cell Y5 0
     have cY1 : w5.cell? ⟨gY, 1, none⟩ = some (.int .i64 bb) := Row.cell Y5 1
     have lY := Row.lt Y5
     go_wp2_with (at_builtin; refine wpList_append_sl rfl (.tmp 47) (.tmp 49) rfl rowBr w.heap.size _ _ (prs l) (prs [(a, bb)]) rfl (A5.out.alloc _) rfl (Sl.one rfl rfl) (prs_wide _) (by rw [prs_len, prs_len, HN.out]; unfold maxLen; simp; omega) (by rw [prs_len, prs_len, HN.out]; simp; omega) (by have := h5.size; simp only [World.size_alloc]; omega) ?_; intro vz wz hownz hgz _)
     have ltz := fun g hg => (A5.out.1.lt g hg).1
     have hz := (h5.alloc _).other hgz ltz hD
     have hsn := HT.out.1.snoc (A' := 3000001 * (3 - ((k - 1 : Nat) : Int))) (B' := 1000000) HQM.out HQL.out (a := a) (b := bb) (by omega) (by omega) (by omega) (by omega) (by omega)
     have HEND : Hid ((Tbl (3000001 * (3 - ((k - 1 : Nat) : Int))) 1000000 (l ++ [(a, bb)]) ∧ (l ++ [(a, bb)]).length + (k - 1) = K + 1) ∧ Own wz w.heap.size 236 2 vz (prs (l ++ [(a, bb)])) ∧ DS w D (m + 17 - 5 * (k - 1)) wz) := ⟨⟨hsn, by have := HT.out.2; simp; omega⟩, by rw [prs_append]; exact hownz, hz.more (by omega)⟩
     clear hownz hgz ltz hz hsn Y5 A5 h5 HT
     go_roundw
     case rel => exact ⟨k - 1, _, by omega, by go_num, HEND.out⟩
     case measure => simp [intOf]; omega
end Go.Proofs.YtogdefomigiepaaGreatDoor
/- Contracts of paygen.Deck: Scheme, Shield. Written by gen_dsc.py. -/
namespace Go.Proofs.YtogdefomigiepaaGreatDoor
open Go.RowKit

def ScD (w : World) (D m : Nat) (c : ByteArray) (e : Ending) (w' : World) : Prop := ∃ s : Sc, (s.code = c ∧ ScOk s) ∧ e = .returned (.agg #[.string s.code, .int .i64 s.ee, .int .i64 s.er, .int .i64 s.floor, .int .i64 s.ceil, .int .i64 s.unit, .int .i64 s.mode, .bool s.ded]) ∧ DS w D m w'
set_option maxRecDepth 100000 in
set_option maxHeartbeats 4000000 in
theorem SchemeD {w : World} {D m : Nat} (c : ByteArray) (hc : nameB c.data.toList = true) (hd : Dk w D m) (hm : m ≤ 10000000) :
  Calls Tryz.prog 118 #[.pointer (some ⟨D, 0, none⟩), .string c] w (ScD w D (m + 8) c) := by
 have hD := hd.lt
 go_enter Tryz.func118, Tryz.ntmps118
 go_upto_region 1 with (fail)
 have y1 := hd.start.alloc (.cells #[.string ⟨#[]⟩, .int .i64 0, .int .i64 0, .int .i64 0, .int .i64 0, .int .i64 0, .int .i64 0, .bool false] 131)
 have R_1 := Row.new w 131 #[.string ⟨#[]⟩, .int .i64 0, .int .i64 0, .int .i64 0, .int .i64 0, .int .i64 0, .int .i64 0, .bool false]
 have b1 := (hd.start.dk.start.alloc (.cells #[.string ⟨#[]⟩, .int .i64 0, .int .i64 0, .int .i64 0, .int .i64 0, .int .i64 0, .int .i64 0, .bool false] 131))
 have nR : w.heap.size ≠ D := by have := hd.start.dk.lt; omega
 obtain ⟨w1, hw⟩ : ∃ w1, w.alloc (.cells #[.string ⟨#[]⟩, .int .i64 0, .int .i64 0, .int .i64 0, .int .i64 0, .int .i64 0, .int .i64 0, .bool false] 131) = w1 := ⟨_, rfl⟩
 rw [hw] at y1 R_1 ⊢
 obtain ⟨gR, hg⟩ : ∃ gR, w.heap.size = gR := ⟨_, rfl⟩
 have zR : w.heap.size ≤ gR := by have := hd.start.size; omega
 rw [hg] at R_1 nR ⊢
 have h1 := y1
 have GR := Lib.hid hg
 clear hw hg b1 y1
 go_wp2_with fail
 refine (PickD [75000, 93000, 0, 12345, 200000] 0 200000 h1.dk.start (by omega) rfl rfl (by simp) (by simp) (by simp; try omega)).mono ?_
 rintro e w2 ⟨r2, hr2, rfl, k2⟩
 have R_2 := k2.row R_1 nR
 have h2 := h1.step k2
 clear R_1 h1 k2
 go_wp2_with fail
 refine (PickD [80000, 93000, 0, 200000] 0 200000 h2.dk.start (by omega) rfl rfl (by simp) (by simp) (by simp; try omega)).mono ?_
 rintro e w3 ⟨r3, hr3, rfl, k3⟩
 have R_3 := k3.row R_2 nR
 have h3 := h2.step k3
 clear R_2 h2 k3
 go_wp2_with fail
 refine (PickD [500000, 300000, 100, 1, 1000000000] 1 1000000000 h3.dk.start (by omega) rfl rfl (by simp) (by simp) (by simp; try omega)).mono ?_
 rintro e w4 ⟨r4, hr4, rfl, k4⟩
 have R_4 := k4.row R_3 nR
 have h4 := h3.step k4
 clear R_3 h3 k4
 go_wp2_with fail
 refine (PickD [1, 1, 1, 5, 100] 1 100 h4.dk.start (by omega) rfl rfl (by simp) (by simp) (by simp; try omega)).mono ?_
 rintro e w5 ⟨r5, hr5, rfl, k5⟩
 have R_5 := k5.row R_4 nR
 have h5 := h4.step k5
 clear R_4 h4 k5
 go_wp2_with fail
 refine (ModeD h5.dk (by omega)).mono ?_
 rintro e w6 ⟨r6, hr6, rfl, k6⟩
 have R_6 := k6.row R_5 nR
 have h6 := h5.step k6
 clear R_5 h5 k6
 go_wp2_with fail
 refine (NextD 2 h6.dk (by omega) (by omega) (by omega)).mono ?_
 rintro e w7 ⟨r7, hr7, rfl, k7⟩
 have R_7 := k7.row R_6 nR
 have h7 := h6.step k7
 clear R_6 h6 k7
 go_upto_region 2 with (fail)
 have y8 := h7.alloc (.cells #[.string c, .int .i64 r2, .int .i64 r3, .int .i64 0, .int .i64 r4, .int .i64 r5, .int .i64 r6, .bool (r7 == 0)] 131)
 have X_8 := Row.new w7 131 #[.string c, .int .i64 r2, .int .i64 r3, .int .i64 0, .int .i64 r4, .int .i64 r5, .int .i64 r6, .bool (r7 == 0)]
 have b8 := (h7.dk.start.alloc (.cells #[.string c, .int .i64 r2, .int .i64 r3, .int .i64 0, .int .i64 r4, .int .i64 r5, .int .i64 r6, .bool (r7 == 0)] 131))
 have R_8 := b8.row R_7 nR
 have nX : w7.heap.size ≠ D := by have := h7.dk.lt; omega
 have dXR : w7.heap.size ≠ gR := by have := Row.lt R_7; omega
 obtain ⟨w8, hw⟩ : ∃ w8, w7.alloc (.cells #[.string c, .int .i64 r2, .int .i64 r3, .int .i64 0, .int .i64 r4, .int .i64 r5, .int .i64 r6, .bool (r7 == 0)] 131) = w8 := ⟨_, rfl⟩
 rw [hw] at y8 X_8 ⊢
 rw [hw] at R_8
 obtain ⟨gX, hg⟩ : ∃ gX, w7.heap.size = gX := ⟨_, rfl⟩
 have zX : w.heap.size ≤ gX := by have := h7.size; omega
 rw [hg] at X_8 nX ⊢
 rw [hg] at dXR
 have h8 := y8
 have GX := Lib.hid hg
 clear R_7 hw hg b8 y8 h7
 go_wp2_with fail
 refine (NextD 4 h8.dk (by omega) (by omega) (by omega)).mono ?_
 rintro e w9 ⟨r9, hr9, rfl, k9⟩
 have R_9 := k9.row R_8 nR
 have X_9 := k9.row X_8 nX
 have h9 := h8.step k9
 clear R_8 X_8 h8 k9
 have hz : 0 < w9.heap.size := by have := h9.dk.lt; omega
 have cX0 : w9.cell? ⟨gX, 0, none⟩ = some (.string c) := Row.cell X_9 0
 have cX1 : w9.cell? ⟨gX, 1, none⟩ = some (.int .i64 r2) := Row.cell X_9 1
 have cX2 : w9.cell? ⟨gX, 2, none⟩ = some (.int .i64 r3) := Row.cell X_9 2
 have cX3 : w9.cell? ⟨gX, 3, none⟩ = some (.int .i64 0) := Row.cell X_9 3
 have cX4 : w9.cell? ⟨gX, 4, none⟩ = some (.int .i64 r4) := Row.cell X_9 4
 have cX5 : w9.cell? ⟨gX, 5, none⟩ = some (.int .i64 r5) := Row.cell X_9 5
 have cX6 : w9.cell? ⟨gX, 6, none⟩ = some (.int .i64 r6) := Row.cell X_9 6
 have cX7 : w9.cell? ⟨gX, 7, none⟩ = some (.bool (r7 == 0)) := Row.cell X_9 7
 have fX3 : w9.frozen? ⟨gX, 3, none⟩ = false := Row.frozen X_9 3
 have lX := Row.lt X_9
 have cR0 : w9.cell? ⟨gR, 0, none⟩ = some (.string ⟨#[]⟩) := Row.cell R_9 0
 have cR1 : w9.cell? ⟨gR, 1, none⟩ = some (.int .i64 0) := Row.cell R_9 1
 have cR2 : w9.cell? ⟨gR, 2, none⟩ = some (.int .i64 0) := Row.cell R_9 2
 have cR3 : w9.cell? ⟨gR, 3, none⟩ = some (.int .i64 0) := Row.cell R_9 3
 have cR4 : w9.cell? ⟨gR, 4, none⟩ = some (.int .i64 0) := Row.cell R_9 4
 have cR5 : w9.cell? ⟨gR, 5, none⟩ = some (.int .i64 0) := Row.cell R_9 5
 have cR6 : w9.cell? ⟨gR, 6, none⟩ = some (.int .i64 0) := Row.cell R_9 6
 have cR7 : w9.cell? ⟨gR, 7, none⟩ = some (.bool false) := Row.cell R_9 7
 have fR0 : w9.frozen? ⟨gR, 0, none⟩ = false := Row.frozen R_9 0
 have fR1 : w9.frozen? ⟨gR, 1, none⟩ = false := Row.frozen R_9 1
 have fR2 : w9.frozen? ⟨gR, 2, none⟩ = false := Row.frozen R_9 2
 have fR3 : w9.frozen? ⟨gR, 3, none⟩ = false := Row.frozen R_9 3
 have fR4 : w9.frozen? ⟨gR, 4, none⟩ = false := Row.frozen R_9 4
 have fR5 : w9.frozen? ⟨gR, 5, none⟩ = false := Row.frozen R_9 5
 have fR6 : w9.frozen? ⟨gR, 6, none⟩ = false := Row.frozen R_9 6
 have fR7 : w9.frozen? ⟨gR, 7, none⟩ = false := Row.frozen R_9 7
 have lR := Row.lt R_9
 cases hb : (r9 == 0)
 ·go_wp2_with fail
  refine bodyPost_ret (v := .agg #[.string c, .int .i64 r2, .int .i64 r3, .int .i64 0, .int .i64 r4, .int .i64 r5, .int .i64 r6, .bool (r7 == 0)]) (by simp [results, Tryz.results118, go_sem, *]) rfl ⟨⟨c, r2, r3, 0, r4, r5, r6, r7 == 0⟩, ⟨rfl, hc, ⟨hr2.1, by show r2 ≤ _; omega⟩, ⟨hr3.1, by show r3 ≤ _; omega⟩, ⟨by show 0 ≤ 0; omega, by show 0 ≤ r4; omega⟩, hr4, hr5, by simp [modeB]; omega⟩, rfl, ((((((((h9.set (p := ⟨gR, 0, none⟩) zR hD _).set (p := ⟨gR, 1, none⟩) zR hD _).set (p := ⟨gR, 2, none⟩) zR hD _).set (p := ⟨gR, 3, none⟩) zR hD _).set (p := ⟨gR, 4, none⟩) zR hD _).set (p := ⟨gR, 5, none⟩) zR hD _).set (p := ⟨gR, 6, none⟩) zR hD _).set (p := ⟨gR, 7, none⟩) zR hD _).more (by omega)⟩
 ·go_wp2_with fail
  go_region_with (go_at_call 10; refine (PickD [1, 45000, 100, r4] 1 1000000000 (h9.dk.start.draws _) (by omega) rfl rfl (by simp) (by simp) (by simp; omega)).mono ?_; rintro e wx ⟨rx, hrx, rfl, kx⟩; have Xx := kx.row X_9 nX; have p4 : wx.cell? ⟨gX, 4, none⟩ = some (.int .i64 r4) := Row.cell Xx 4; have p3 : wx.cell? ⟨gX, 3, none⟩ = some (.int .i64 0) := Row.cell Xx 3; have pf : wx.frozen? ⟨gX, 3, none⟩ = false := Row.frozen Xx 3; have pl := Row.lt Xx)
  all_goals
   obtain ⟨fl, hfl⟩ : ∃ fl, (if rx < r4 then rx else r4) = fl := ⟨_, rfl⟩
   have bfl : 0 ≤ fl ∧ fl ≤ r4 := by rw [← hfl]; split <;> omega
   have hfm : min r4 rx = fl := by rw [← hfl]; split <;> omega
   simp only [hfl, hfm]
   have Xy := Row.set Xx 3 (.int .i64 fl)
   have Ry := Row.far (kx.row R_9 nR) (p := ⟨gX, 3, none⟩) (fun e => dXR e.symm) (.int .i64 fl)
   have hy := (h9.step kx).set (p := ⟨gX, 3, none⟩) zX hD (.int .i64 fl)
   obtain ⟨wy, hwy⟩ : ∃ wy, wx.setCell ⟨gX, 3, none⟩ (.int .i64 fl) = wy := ⟨_, rfl⟩
   rw [hwy] at Xy Ry hy ⊢
   clear hwy hfl Xx p4 p3 pf pl cX0 cX1 cX2 cX3 cX4 cX5 cX6 cX7 fX3 lX cR0 cR1 cR2 cR3 cR4 cR5 cR6 cR7 fR0 fR1 fR2 fR3 fR4 fR5 fR6 fR7 lR
   have cX0 : wy.cell? ⟨gX, 0, none⟩ = some (.string c) := Row.cell Xy 0
   have cX1 : wy.cell? ⟨gX, 1, none⟩ = some (.int .i64 r2) := Row.cell Xy 1
   have cX2 : wy.cell? ⟨gX, 2, none⟩ = some (.int .i64 r3) := Row.cell Xy 2
   have cX3 : wy.cell? ⟨gX, 3, none⟩ = some (.int .i64 fl) := Row.cell Xy 3
   have cX4 : wy.cell? ⟨gX, 4, none⟩ = some (.int .i64 r4) := Row.cell Xy 4
   have cX5 : wy.cell? ⟨gX, 5, none⟩ = some (.int .i64 r5) := Row.cell Xy 5
   have cX6 : wy.cell? ⟨gX, 6, none⟩ = some (.int .i64 r6) := Row.cell Xy 6
   have cX7 : wy.cell? ⟨gX, 7, none⟩ = some (.bool (r7 == 0)) := Row.cell Xy 7
   have lX := Row.lt Xy
   have cR0 : wy.cell? ⟨gR, 0, none⟩ = some (.string ⟨#[]⟩) := Row.cell Ry 0
   have cR1 : wy.cell? ⟨gR, 1, none⟩ = some (.int .i64 0) := Row.cell Ry 1
   have cR2 : wy.cell? ⟨gR, 2, none⟩ = some (.int .i64 0) := Row.cell Ry 2
   have cR3 : wy.cell? ⟨gR, 3, none⟩ = some (.int .i64 0) := Row.cell Ry 3
   have cR4 : wy.cell? ⟨gR, 4, none⟩ = some (.int .i64 0) := Row.cell Ry 4
   have cR5 : wy.cell? ⟨gR, 5, none⟩ = some (.int .i64 0) := Row.cell Ry 5
   have cR6 : wy.cell? ⟨gR, 6, none⟩ = some (.int .i64 0) := Row.cell Ry 6
   have cR7 : wy.cell? ⟨gR, 7, none⟩ = some (.bool false) := Row.cell Ry 7
   have fR0 : wy.frozen? ⟨gR, 0, none⟩ = false := Row.frozen Ry 0
   have fR1 : wy.frozen? ⟨gR, 1, none⟩ = false := Row.frozen Ry 1
   have fR2 : wy.frozen? ⟨gR, 2, none⟩ = false := Row.frozen Ry 2
   have fR3 : wy.frozen? ⟨gR, 3, none⟩ = false := Row.frozen Ry 3
   have fR4 : wy.frozen? ⟨gR, 4, none⟩ = false := Row.frozen Ry 4
   have fR5 : wy.frozen? ⟨gR, 5, none⟩ = false := Row.frozen Ry 5
   have fR6 : wy.frozen? ⟨gR, 6, none⟩ = false := Row.frozen Ry 6
   have fR7 : wy.frozen? ⟨gR, 7, none⟩ = false := Row.frozen Ry 7
   have lR := Row.lt Ry
   go_wp2_with fail
   refine bodyPost_ret (v := .agg #[.string c, .int .i64 r2, .int .i64 r3, .int .i64 fl, .int .i64 r4, .int .i64 r5, .int .i64 r6, .bool (r7 == 0)]) (by simp [results, Tryz.results118, go_sem, *]) rfl ⟨⟨c, r2, r3, fl, r4, r5, r6, r7 == 0⟩, ⟨rfl, hc, ⟨hr2.1, by show r2 ≤ _; omega⟩, ⟨hr3.1, by show r3 ≤ _; omega⟩, ⟨by show 0 ≤ fl; omega, by show fl ≤ r4; omega⟩, hr4, hr5, by simp [modeB]; omega⟩, rfl, ((((((((hy.set (p := ⟨gR, 0, none⟩) zR hD _).set (p := ⟨gR, 1, none⟩) zR hD _).set (p := ⟨gR, 2, none⟩) zR hD _).set (p := ⟨gR, 3, none⟩) zR hD _).set (p := ⟨gR, 4, none⟩) zR hD _).set (p := ⟨gR, 5, none⟩) zR hD _).set (p := ⟨gR, 6, none⟩) zR hD _).set (p := ⟨gR, 7, none⟩) zR hD _).more (by omega)⟩
structure Sh where
 fixed : Int
 dep : Int
 lower : Int
 share : Int
 top : Int
structure ShOk (s : Sh) : Prop where
 fixed : 0 ≤ s.fixed ∧ s.fixed ≤ 1000000
 dep : 0 ≤ s.dep ∧ s.dep ≤ 30000
 lower : 0 ≤ s.lower ∧ s.lower ≤ s.fixed
 share : 0 ≤ s.share ∧ s.share ≤ 1000000
 top : 0 ≤ s.top ∧ s.top ≤ 1000000
def ShD (w : World) (D m : Nat) (e : Ending) (w' : World) : Prop := ∃ s : Sh, ShOk s ∧ e = .returned (.agg #[.int .i64 s.fixed, .int .i64 s.dep, .int .i64 s.lower, .int .i64 s.share, .int .i64 s.top]) ∧ DS w D m w'
set_option maxRecDepth 100000 in
set_option maxHeartbeats 4000000 in
theorem ShieldD {w : World} {D m : Nat} (hd : Dk w D m) (hm : m ≤ 10000000) :
  Calls Tryz.prog 72 #[.pointer (some ⟨D, 0, none⟩)] w (ShD w D (m + 8)) := by
 have hD := hd.lt
 go_enter Tryz.func72, Tryz.ntmps72
 go_upto_region 1 with (fail)
 have y1 := hd.start.alloc (.cells #[.int .i64 0, .int .i64 0, .int .i64 0, .int .i64 0, .int .i64 0] 57)
 have R_1 := Row.new w 57 #[.int .i64 0, .int .i64 0, .int .i64 0, .int .i64 0, .int .i64 0]
 have b1 := (hd.start.dk.start.alloc (.cells #[.int .i64 0, .int .i64 0, .int .i64 0, .int .i64 0, .int .i64 0] 57))
 have nR : w.heap.size ≠ D := by have := hd.start.dk.lt; omega
 obtain ⟨w1, hw⟩ : ∃ w1, w.alloc (.cells #[.int .i64 0, .int .i64 0, .int .i64 0, .int .i64 0, .int .i64 0] 57) = w1 := ⟨_, rfl⟩
 rw [hw] at y1 R_1 ⊢
 obtain ⟨gR, hg⟩ : ∃ gR, w.heap.size = gR := ⟨_, rfl⟩
 have zR : w.heap.size ≤ gR := by have := hd.start.size; omega
 rw [hg] at R_1 nR ⊢
 have h1 := y1
 have GR := Lib.hid hg
 clear hw hg b1 y1
 go_wp2_with fail
 refine (SmallD h1.dk (by omega)).mono ?_
 rintro e w2 ⟨r2, hr2, rfl, k2⟩
 have R_2 := k2.row R_1 nR
 have h2 := h1.step k2
 clear R_1 h1 k2
 go_wp2_with fail
 refine (PickD [120000, 100000, 0, r2] 0 1000000 h2.dk.start (by omega) rfl rfl (by simp) (by simp) (by simp; try omega)).mono ?_
 rintro e w3 ⟨r3, hr3, rfl, k3⟩
 have R_3 := k3.row R_2 nR
 have h3 := h2.step k3
 clear R_2 h2 k3
 go_wp2_with fail
 refine (PickD [30000, 0, 1] 0 30000 h3.dk.start (by omega) rfl rfl (by simp) (by simp) (by simp; try omega)).mono ?_
 rintro e w4 ⟨r4, hr4, rfl, k4⟩
 have R_4 := k4.row R_3 nR
 have h4 := h3.step k4
 clear R_3 h3 k4
 go_wp2_with fail
 refine (RateD h4.dk (by omega)).mono ?_
 rintro e w5 ⟨r5, hr5, rfl, k5⟩
 have R_5 := k5.row R_4 nR
 have h5 := h4.step k5
 clear R_4 h4 k5
 go_wp2_with fail
 refine (PickD [400000, 0, 150000, 1000000] 0 1000000 h5.dk.start (by omega) rfl rfl (by simp) (by simp) (by simp; try omega)).mono ?_
 rintro e w6 ⟨r6, hr6, rfl, k6⟩
 have R_6 := k6.row R_5 nR
 have h6 := h5.step k6
 clear R_5 h5 k6
 go_upto_region 2 with (fail)
 have y7 := h6.alloc (.cells #[.int .i64 r3, .int .i64 r4, .int .i64 0, .int .i64 r5, .int .i64 r6] 57)
 have X_7 := Row.new w6 57 #[.int .i64 r3, .int .i64 r4, .int .i64 0, .int .i64 r5, .int .i64 r6]
 have b7 := (h6.dk.start.alloc (.cells #[.int .i64 r3, .int .i64 r4, .int .i64 0, .int .i64 r5, .int .i64 r6] 57))
 have R_7 := b7.row R_6 nR
 have nX : w6.heap.size ≠ D := by have := h6.dk.lt; omega
 have dXR : w6.heap.size ≠ gR := by have := Row.lt R_6; omega
 obtain ⟨w7, hw⟩ : ∃ w7, w6.alloc (.cells #[.int .i64 r3, .int .i64 r4, .int .i64 0, .int .i64 r5, .int .i64 r6] 57) = w7 := ⟨_, rfl⟩
 rw [hw] at y7 X_7 ⊢
 rw [hw] at R_7
 obtain ⟨gX, hg⟩ : ∃ gX, w6.heap.size = gX := ⟨_, rfl⟩
 have zX : w.heap.size ≤ gX := by have := h6.size; omega
 rw [hg] at X_7 nX ⊢
 rw [hg] at dXR
 have h7 := y7
 have GX := Lib.hid hg
 clear R_6 hw hg b7 y7 h6
 have cX0 : w7.cell? ⟨gX, 0, none⟩ = some (.int .i64 r3) := Row.cell X_7 0
 have cX1 : w7.cell? ⟨gX, 1, none⟩ = some (.int .i64 r4) := Row.cell X_7 1
 have cX2 : w7.cell? ⟨gX, 2, none⟩ = some (.int .i64 0) := Row.cell X_7 2
 have cX3 : w7.cell? ⟨gX, 3, none⟩ = some (.int .i64 r5) := Row.cell X_7 3
 have cX4 : w7.cell? ⟨gX, 4, none⟩ = some (.int .i64 r6) := Row.cell X_7 4
 have fX2 : w7.frozen? ⟨gX, 2, none⟩ = false := Row.frozen X_7 2
 have lX := Row.lt X_7
 go_region_with (go_at_call 10; refine (PickD [80000, 0, r3] 0 1000000 (h7.dk.start.draws _) (by omega) rfl rfl (by simp) (by simp) (by simp; omega)).mono ?_; rintro e wx ⟨rx, hrx, rfl, kx⟩; have Xx := kx.row X_7 nX; have p4 : wx.cell? ⟨gX, 0, none⟩ = some (.int .i64 r3) := Row.cell Xx 0; have p3 : wx.cell? ⟨gX, 2, none⟩ = some (.int .i64 0) := Row.cell Xx 2; have pf : wx.frozen? ⟨gX, 2, none⟩ = false := Row.frozen Xx 2; have pl := Row.lt Xx)
 all_goals
  obtain ⟨fl, hfl⟩ : ∃ fl, (if rx < r3 then rx else r3) = fl := ⟨_, rfl⟩
  have bfl : 0 ≤ fl ∧ fl ≤ r3 := by rw [← hfl]; split <;> omega
  have hfm : min r3 rx = fl := by rw [← hfl]; split <;> omega
  simp only [hfl, hfm]
  have Xy := Row.set Xx 2 (.int .i64 fl)
  have Ry := Row.far (kx.row R_7 nR) (p := ⟨gX, 2, none⟩) (fun e => dXR e.symm) (.int .i64 fl)
  have hy := (h7.step kx).set (p := ⟨gX, 2, none⟩) zX hD (.int .i64 fl)
  obtain ⟨wy, hwy⟩ : ∃ wy, wx.setCell ⟨gX, 2, none⟩ (.int .i64 fl) = wy := ⟨_, rfl⟩
  rw [hwy] at Xy Ry hy ⊢
  clear hwy hfl Xx p4 p3 pf pl cX0 cX1 cX2 cX3 cX4 fX2 lX
  have cX0 : wy.cell? ⟨gX, 0, none⟩ = some (.int .i64 r3) := Row.cell Xy 0
  have cX1 : wy.cell? ⟨gX, 1, none⟩ = some (.int .i64 r4) := Row.cell Xy 1
  have cX2 : wy.cell? ⟨gX, 2, none⟩ = some (.int .i64 fl) := Row.cell Xy 2
  have cX3 : wy.cell? ⟨gX, 3, none⟩ = some (.int .i64 r5) := Row.cell Xy 3
  have cX4 : wy.cell? ⟨gX, 4, none⟩ = some (.int .i64 r6) := Row.cell Xy 4
  have lX := Row.lt Xy
  have cR0 : wy.cell? ⟨gR, 0, none⟩ = some (.int .i64 0) := Row.cell Ry 0
  have cR1 : wy.cell? ⟨gR, 1, none⟩ = some (.int .i64 0) := Row.cell Ry 1
  have cR2 : wy.cell? ⟨gR, 2, none⟩ = some (.int .i64 0) := Row.cell Ry 2
  have cR3 : wy.cell? ⟨gR, 3, none⟩ = some (.int .i64 0) := Row.cell Ry 3
  have cR4 : wy.cell? ⟨gR, 4, none⟩ = some (.int .i64 0) := Row.cell Ry 4
  have fR0 : wy.frozen? ⟨gR, 0, none⟩ = false := Row.frozen Ry 0
  have fR1 : wy.frozen? ⟨gR, 1, none⟩ = false := Row.frozen Ry 1
  have fR2 : wy.frozen? ⟨gR, 2, none⟩ = false := Row.frozen Ry 2
  have fR3 : wy.frozen? ⟨gR, 3, none⟩ = false := Row.frozen Ry 3
  have fR4 : wy.frozen? ⟨gR, 4, none⟩ = false := Row.frozen Ry 4
  have lR := Row.lt Ry
  go_wp2_with fail
  refine bodyPost_ret (v := .agg #[.int .i64 r3, .int .i64 r4, .int .i64 fl, .int .i64 r5, .int .i64 r6]) (by simp [results, Tryz.results72, go_sem, *]) rfl ⟨⟨r3, r4, fl, r5, r6⟩, ⟨hr3, hr4, bfl, hr5, hr6⟩, rfl, (((((hy.set (p := ⟨gR, 0, none⟩) zR hD _).set (p := ⟨gR, 1, none⟩) zR hD _).set (p := ⟨gR, 2, none⟩) zR hD _).set (p := ⟨gR, 3, none⟩) zR hD _).set (p := ⟨gR, 4, none⟩) zR hD _).more (by omega)⟩
end Go.Proofs.YtogdefomigiepaaGreatDoor
/- Contract of paygen.Deck.Tariff. Written by gen_dtr.py. -/
namespace Go.Proofs.YtogdefomigiepaaGreatDoor
open Go.RowKit

structure Tf where
 method : Int
 bv : Value
 brs : List (Int × Int)
 allow : Int
 credit : Int
 unit : Int
 mode : Int
 rv : Value
 rows : List (Int × Int)
def Tf.vals (t : Tf) : List Value := [.int .i64 t.method, t.bv, .int .i64 t.allow, .int .i64 t.credit, .int .i64 t.unit, .int .i64 t.mode, t.rv]
structure TfOk (t : Tf) : Prop where
 method : 1 ≤ t.method ∧ t.method ≤ 3
 brs : Tbl 10000000 1000000 t.brs ∧ t.brs.length ≤ 4
 allow : 0 ≤ t.allow ∧ t.allow ≤ 1200000
 credit : 0 ≤ t.credit ∧ t.credit ≤ 12000
 unit : 1 ≤ t.unit ∧ t.unit ≤ 100
 mode : modeB t.mode = true
 rows : (t.method = 1 → Tbl 1000000 1000000 t.rows ∧ t.rows.length ≤ 5) ∧ (t.method ≠ 1 → t.rows = [])
theorem own_ne {v : Value} {k : Nat} (h : ∀ g, v.ownBlock = some g → g ≠ k) : v.ownBlock = none ∨ v.ownBlock ≠ some k := by
 cases hv : v.ownBlock with
 | none => exact .inl rfl
 | some g => exact .inr fun e => h g hv (by injection e)
structure TfOwn (w : World) (B : Nat) (t : Tf) : Prop where
 brs : Own w B 236 2 t.bv (prs t.brs)
 rows : Own w B 211 2 t.rv (prs t.rows)
theorem TfOwn.step {w w' : World} {B D m : Nat} {t : Tf} (h : TfOwn w B t) (k : DS w D m w') (hD : D < B) : TfOwn w' B t := ⟨k.own h.brs hD, k.own h.rows hD⟩
theorem TfOwn.more {w : World} {B B' : Nat} {t : Tf} (h : TfOwn w B t) (hB : B' ≤ B) : TfOwn w B' t := ⟨h.brs.more hB, h.rows.more hB⟩
def TfD (w : World) (D m : Nat) (e : Ending) (w' : World) : Prop :=
 ∃ t : Tf, TfOk t ∧ e = .returned (.agg #[.int .i64 t.method, t.bv, .int .i64 t.allow, .int .i64 t.credit, .int .i64 t.unit, .int .i64 t.mode, t.rv]) ∧ TfOwn w' w.heap.size t ∧ DS w D m w'
set_option maxRecDepth 100000 in
set_option maxHeartbeats 8000000 in
theorem TariffD {w : World} {D m : Nat} (hd : Dk w D m) (hm : m ≤ 100000) :
  Calls Tryz.prog 71 #[.pointer (some ⟨D, 0, none⟩), .int .i64 0] w (TfD w D (m + 60)) := by
 have hD := hd.lt
 go_enter Tryz.func71, Tryz.ntmps71
 go_upto_region 1 with (fail)
 have y1 := hd.start.alloc (.cells #[.int .i64 0, .slice none 0 0, .int .i64 0, .int .i64 0, .int .i64 0, .int .i64 0, .slice none 0 0] 55)
 have R_1 := Row.new w 55 #[.int .i64 0, .slice none 0 0, .int .i64 0, .int .i64 0, .int .i64 0, .int .i64 0, .slice none 0 0]
 have b1 := (hd.start.dk.start.alloc (.cells #[.int .i64 0, .slice none 0 0, .int .i64 0, .int .i64 0, .int .i64 0, .int .i64 0, .slice none 0 0] 55))
 have nR : w.heap.size ≠ D := by have := hd.start.dk.lt; omega
 obtain ⟨w1, hw⟩ : ∃ w1, w.alloc (.cells #[.int .i64 0, .slice none 0 0, .int .i64 0, .int .i64 0, .int .i64 0, .int .i64 0, .slice none 0 0] 55) = w1 := ⟨_, rfl⟩
 rw [hw] at y1 R_1 ⊢
 obtain ⟨gR, hg⟩ : ∃ gR, w.heap.size = gR := ⟨_, rfl⟩
 have zR : w.heap.size ≤ gR := by have := hd.start.size; omega
 rw [hg] at R_1 nR ⊢
 have h1 := y1
 have GR := Lib.hid hg
 clear hw hg b1 y1
 go_wp2_with fail
 refine (NextD 3 h1.dk (by omega) (by omega) (by omega)).mono ?_
 rintro e w2 ⟨r2, hr2, rfl, k2⟩
 have R_2 := k2.row R_1 nR
 have h2 := h1.step k2
 clear R_1 h1 k2
 have sP := h2.size
 have lR0 := Row.lt R_2
 go_wp2_with fail
 refine (BracketsD _ h2.dk (by omega)).mono ?_
 rintro e w3 ⟨bv, brs, rfl, hbrs, hob, k3⟩
 have R_3 := k3.row R_2 nR
 have h3 := h2.step k3
 clear R_2 h2 k3
 have oBR : ∀ g, bv.ownBlock = some g → g ≠ gR := fun g hg => by have := (hob.1.lt g hg).1; omega
 have HB := Lib.hid (hob.more sP)
 have HBR := Lib.hid hbrs
 obtain ⟨Ab, cb, rfl⟩ := hob.form
 rw [prs_len] at HB oBR ⊢
 clear hob hbrs
 go_wp2_with fail
 refine (PickD [0, 600000, 1200000, 7] 0 1200000 h3.dk.start (by omega) rfl rfl (by simp) (by simp) (by simp; try omega)).mono ?_
 rintro e w4 ⟨r4, hr4, rfl, k4⟩
 have R_4 := k4.row R_3 nR
 have B_4 := Lib.hid (k4.own HB.out hD)
 have h4 := h3.step k4
 clear R_3 HB h3 k4
 go_wp2_with fail
 refine (PickD [0, 0, 12000, 1] 0 12000 h4.dk.start (by omega) rfl rfl (by simp) (by simp) (by simp; try omega)).mono ?_
 rintro e w5 ⟨r5, hr5, rfl, k5⟩
 have R_5 := k5.row R_4 nR
 have B_5 := Lib.hid (k5.own B_4.out hD)
 have h5 := h4.step k5
 clear R_4 B_4 h4 k5
 go_wp2_with fail
 refine (PickD [1, 1, 100, 10] 1 100 h5.dk.start (by omega) rfl rfl (by simp) (by simp) (by simp; try omega)).mono ?_
 rintro e w6 ⟨r6, hr6, rfl, k6⟩
 have R_6 := k6.row R_5 nR
 have B_6 := Lib.hid (k6.own B_5.out hD)
 have h6 := h5.step k6
 clear R_5 B_5 h5 k6
 go_wp2_with fail
 refine (ModeD h6.dk (by omega)).mono ?_
 rintro e w7 ⟨r7, hr7, rfl, k7⟩
 have R_7 := k7.row R_6 nR
 have B_7 := Lib.hid (k7.own B_6.out hD)
 have h7 := h6.step k7
 clear R_6 B_6 h6 k7
 go_upto_region 2 with (fail)
 have y8 := h7.alloc (.cells #[.int .i64 0, .slice Ab brs.length cb, .int .i64 r4, .int .i64 r5, .int .i64 r6, .int .i64 r7, .slice none 0 0] 55)
 have X_8 := Row.new w7 55 #[.int .i64 0, .slice Ab brs.length cb, .int .i64 r4, .int .i64 r5, .int .i64 r6, .int .i64 r7, .slice none 0 0]
 have b8 := (h7.dk.start.alloc (.cells #[.int .i64 0, .slice Ab brs.length cb, .int .i64 r4, .int .i64 r5, .int .i64 r6, .int .i64 r7, .slice none 0 0] 55))
 have R_8 := b8.row R_7 nR
 have B_8 := Lib.hid (b8.own B_7.out hD)
 have nX : w7.heap.size ≠ D := by have := h7.dk.lt; omega
 have dXR : w7.heap.size ≠ gR := by have := Row.lt R_7; omega
 have oXB := Own.offNew B_7.out
 obtain ⟨w8, hw⟩ : ∃ w8, w7.alloc (.cells #[.int .i64 0, .slice Ab brs.length cb, .int .i64 r4, .int .i64 r5, .int .i64 r6, .int .i64 r7, .slice none 0 0] 55) = w8 := ⟨_, rfl⟩
 rw [hw] at y8 X_8 ⊢
 rw [hw] at R_8
 rw [hw] at B_8
 obtain ⟨gX, hg⟩ : ∃ gX, w7.heap.size = gX := ⟨_, rfl⟩
 have zX : w.heap.size ≤ gX := by have := h7.size; omega
 rw [hg] at X_8 nX ⊢
 rw [hg] at dXR
 rw [hg] at oXB
 have h8 := y8
 have GX := Lib.hid hg
 clear R_7 B_7 hw hg b8 y8 h7
 go_wp2_with fail
 refine (NextD 3 h8.dk (by omega) (by omega) (by omega)).mono ?_
 rintro e w9 ⟨r9, hr9, rfl, k9⟩
 have R_9 := k9.row R_8 nR
 have X_9 := k9.row X_8 nX
 have B_9 := Lib.hid (k9.own B_8.out hD)
 have h9 := h8.step k9
 clear R_8 X_8 B_8 h8 k9
 have cX0 : w9.cell? ⟨gX, 0, none⟩ = some (.int .i64 0) := Row.cell X_9 0
 have fX0 : w9.frozen? ⟨gX, 0, none⟩ = false := Row.frozen X_9 0
 have lX := Row.lt X_9
 go_upto_region 4 with (fail)
 clear cX0 fX0 lX
 have X_10 := Row.set X_9 0 (.int .i64 (1 + r9))
 have R_10 := Row.far R_9 (p := ⟨gX, 0, none⟩) (fun e => dXR e.symm) (.int .i64 (1 + r9))
 have B_10 := Lib.hid (Own.setOff B_9.out oXB 0 (.int .i64 (1 + r9)))
 have h10 := h9.set (p := ⟨gX, 0, none⟩) zX hD (.int .i64 (1 + r9))
 clear X_9 R_9 B_9 h9
 obtain ⟨w10, hw⟩ : ∃ w10, World.setCell w9 ⟨gX, 0, none⟩ (.int .i64 (1 + r9)) = w10 := ⟨_, rfl⟩
 rw [hw] at R_10
 rw [hw] at X_10
 rw [hw] at B_10
 rw [hw] at h10 ⊢
 clear hw
 cases hb : (1 + r9 == 1)
 ·have hm1 : ¬ 1 + r9 = 1 := by simpa using hb
  have HM1 := Lib.hid hm1
  clear hm1
  have cX0 : w10.cell? ⟨gX, 0, none⟩ = some (.int .i64 (1 + r9)) := Row.cell X_10 0
  have cX1 : w10.cell? ⟨gX, 1, none⟩ = some (.slice Ab brs.length cb) := Row.cell X_10 1
  have cX2 : w10.cell? ⟨gX, 2, none⟩ = some (.int .i64 r4) := Row.cell X_10 2
  have cX3 : w10.cell? ⟨gX, 3, none⟩ = some (.int .i64 r5) := Row.cell X_10 3
  have cX4 : w10.cell? ⟨gX, 4, none⟩ = some (.int .i64 r6) := Row.cell X_10 4
  have cX5 : w10.cell? ⟨gX, 5, none⟩ = some (.int .i64 r7) := Row.cell X_10 5
  have cX6 : w10.cell? ⟨gX, 6, none⟩ = some (.slice none 0 0) := Row.cell X_10 6
  have lX := Row.lt X_10
  have cR0 : w10.cell? ⟨gR, 0, none⟩ = some (.int .i64 0) := Row.cell R_10 0
  have cR1 : w10.cell? ⟨gR, 1, none⟩ = some (.slice none 0 0) := Row.cell R_10 1
  have cR2 : w10.cell? ⟨gR, 2, none⟩ = some (.int .i64 0) := Row.cell R_10 2
  have cR3 : w10.cell? ⟨gR, 3, none⟩ = some (.int .i64 0) := Row.cell R_10 3
  have cR4 : w10.cell? ⟨gR, 4, none⟩ = some (.int .i64 0) := Row.cell R_10 4
  have cR5 : w10.cell? ⟨gR, 5, none⟩ = some (.int .i64 0) := Row.cell R_10 5
  have cR6 : w10.cell? ⟨gR, 6, none⟩ = some (.slice none 0 0) := Row.cell R_10 6
  have fR0 : w10.frozen? ⟨gR, 0, none⟩ = false := Row.frozen R_10 0
  have fR1 : w10.frozen? ⟨gR, 1, none⟩ = false := Row.frozen R_10 1
  have fR2 : w10.frozen? ⟨gR, 2, none⟩ = false := Row.frozen R_10 2
  have fR3 : w10.frozen? ⟨gR, 3, none⟩ = false := Row.frozen R_10 3
  have fR4 : w10.frozen? ⟨gR, 4, none⟩ = false := Row.frozen R_10 4
  have fR5 : w10.frozen? ⟨gR, 5, none⟩ = false := Row.frozen R_10 5
  have fR6 : w10.frozen? ⟨gR, 6, none⟩ = false := Row.frozen R_10 6
  have lR := Row.lt R_10
  go_wp2_with fail
  refine bodyPost_ret (v := .agg #[.int .i64 (1 + r9), .slice Ab brs.length cb, .int .i64 r4, .int .i64 r5, .int .i64 r6, .int .i64 r7, .slice none 0 0]) (by simp [results, Tryz.results71, go_sem, *]) rfl ⟨⟨(1 + r9), .slice Ab brs.length cb, brs, r4, r5, r6, r7, .slice none 0 0, []⟩, ⟨⟨by show 1 ≤ (1 + r9); omega, by show (1 + r9) ≤ 3; omega⟩, HBR.out, hr4, hr5, hr6, by simp [modeB]; omega, ⟨(fun h => absurd h HM1.out), (fun _ => rfl)⟩⟩, rfl, ⟨B_10.out.keepG (gb_set (gb_set (gb_set (gb_set (gb_set (gb_set (gb_set (World.grownBy.refl _ (some gR)) (.inl rfl) _) (.inl rfl) _) (.inl rfl) _) (.inl rfl) _) (.inl rfl) _) (.inl rfl) _) (.inl rfl) _) (own_ne oBR), (Own.nil _ _ _ _)⟩, (h10.other (gb_set (gb_set (gb_set (gb_set (gb_set (gb_set (gb_set (World.grownBy.refl _ (some gR)) (.inl rfl) _) (.inl rfl) _) (.inl rfl) _) (.inl rfl) _) (.inl rfl) _) (.inl rfl) _) (.inl rfl) _) (fun g hg => by injection hg; omega) hD).more (by omega)⟩
 ·have hm1 : 1 + r9 = 1 := by simpa using hb
  have HM1 := Lib.hid hm1
  clear hm1
  have cX0 : w10.cell? ⟨gX, 0, none⟩ = some (.int .i64 (1 + r9)) := Row.cell X_10 0
  have lX := Row.lt X_10
  go_upto_region 5 with (fail)
  clear cX0 lX
  have sQ := h10.size
  have lRX : gR < w10.heap.size := Row.lt R_10
  have lXX : gX < w10.heap.size := Row.lt X_10
  go_wp2_with fail
  refine (RowsD h10.dk (by omega)).mono ?_
  rintro e w11 ⟨rv, rows, rfl, hrow, hor, k11⟩
  have R_11 := k11.row R_10 nR
  have X_11 := k11.row X_10 nX
  have B_11 := Lib.hid (k11.own B_10.out hD)
  have h11 := h10.step k11
  clear R_10 X_10 B_10 h10 k11
  have oCR : ∀ g, rv.ownBlock = some g → g ≠ gR := fun g hg => by have := (hor.1.lt g hg).1; omega
  have oXC : ∀ g, rv.ownBlock = some g → g ≠ gX := fun g hg => by have := (hor.1.lt g hg).1; omega
  have HC := Lib.hid (hor.more sQ)
  have HRW := Lib.hid hrow
  obtain ⟨Ar, cr, rfl⟩ := hor.form
  rw [prs_len] at HC oCR oXC ⊢
  clear hor hrow
  have cX6 : w11.cell? ⟨gX, 6, none⟩ = some (.slice none 0 0) := Row.cell X_11 6
  have fX6 : w11.frozen? ⟨gX, 6, none⟩ = false := Row.frozen X_11 6
  have lX := Row.lt X_11
  go_upto_region 6 with (fail)
  clear cX6 fX6 lX
  have X_12 := Row.set X_11 6 (.slice Ar rows.length cr)
  have R_12 := Row.far R_11 (p := ⟨gX, 6, none⟩) (fun e => dXR e.symm) (.slice Ar rows.length cr)
  have B_12 := Lib.hid (Own.setOff B_11.out oXB 6 (.slice Ar rows.length cr))
  have C_12 := Lib.hid (Own.setOff HC.out oXC 6 (.slice Ar rows.length cr))
  have h12 := h11.set (p := ⟨gX, 6, none⟩) zX hD (.slice Ar rows.length cr)
  clear X_11 R_11 B_11 HC h11
  obtain ⟨w12, hw⟩ : ∃ w12, World.setCell w11 ⟨gX, 6, none⟩ (.slice Ar rows.length cr) = w12 := ⟨_, rfl⟩
  rw [hw] at R_12
  rw [hw] at X_12
  rw [hw] at B_12
  rw [hw] at C_12
  rw [hw] at h12 ⊢
  clear hw
  have cX0 : w12.cell? ⟨gX, 0, none⟩ = some (.int .i64 (1 + r9)) := Row.cell X_12 0
  have cX1 : w12.cell? ⟨gX, 1, none⟩ = some (.slice Ab brs.length cb) := Row.cell X_12 1
  have cX2 : w12.cell? ⟨gX, 2, none⟩ = some (.int .i64 r4) := Row.cell X_12 2
  have cX3 : w12.cell? ⟨gX, 3, none⟩ = some (.int .i64 r5) := Row.cell X_12 3
  have cX4 : w12.cell? ⟨gX, 4, none⟩ = some (.int .i64 r6) := Row.cell X_12 4
  have cX5 : w12.cell? ⟨gX, 5, none⟩ = some (.int .i64 r7) := Row.cell X_12 5
  have cX6 : w12.cell? ⟨gX, 6, none⟩ = some (.slice Ar rows.length cr) := Row.cell X_12 6
  have lX := Row.lt X_12
  have cR0 : w12.cell? ⟨gR, 0, none⟩ = some (.int .i64 0) := Row.cell R_12 0
  have cR1 : w12.cell? ⟨gR, 1, none⟩ = some (.slice none 0 0) := Row.cell R_12 1
  have cR2 : w12.cell? ⟨gR, 2, none⟩ = some (.int .i64 0) := Row.cell R_12 2
  have cR3 : w12.cell? ⟨gR, 3, none⟩ = some (.int .i64 0) := Row.cell R_12 3
  have cR4 : w12.cell? ⟨gR, 4, none⟩ = some (.int .i64 0) := Row.cell R_12 4
  have cR5 : w12.cell? ⟨gR, 5, none⟩ = some (.int .i64 0) := Row.cell R_12 5
  have cR6 : w12.cell? ⟨gR, 6, none⟩ = some (.slice none 0 0) := Row.cell R_12 6
  have fR0 : w12.frozen? ⟨gR, 0, none⟩ = false := Row.frozen R_12 0
  have fR1 : w12.frozen? ⟨gR, 1, none⟩ = false := Row.frozen R_12 1
  have fR2 : w12.frozen? ⟨gR, 2, none⟩ = false := Row.frozen R_12 2
  have fR3 : w12.frozen? ⟨gR, 3, none⟩ = false := Row.frozen R_12 3
  have fR4 : w12.frozen? ⟨gR, 4, none⟩ = false := Row.frozen R_12 4
  have fR5 : w12.frozen? ⟨gR, 5, none⟩ = false := Row.frozen R_12 5
  have fR6 : w12.frozen? ⟨gR, 6, none⟩ = false := Row.frozen R_12 6
  have lR := Row.lt R_12
  go_wp2_with fail
  refine bodyPost_ret (v := .agg #[.int .i64 (1 + r9), .slice Ab brs.length cb, .int .i64 r4, .int .i64 r5, .int .i64 r6, .int .i64 r7, .slice Ar rows.length cr]) (by simp [results, Tryz.results71, go_sem, *]) rfl ⟨⟨(1 + r9), .slice Ab brs.length cb, brs, r4, r5, r6, r7, .slice Ar rows.length cr, rows⟩, ⟨⟨by show 1 ≤ (1 + r9); omega, by show (1 + r9) ≤ 3; omega⟩, HBR.out, hr4, hr5, hr6, by simp [modeB]; omega, ⟨(fun _ => HRW.out), (fun h => absurd HM1.out h)⟩⟩, rfl, ⟨B_12.out.keepG (gb_set (gb_set (gb_set (gb_set (gb_set (gb_set (gb_set (World.grownBy.refl _ (some gR)) (.inl rfl) _) (.inl rfl) _) (.inl rfl) _) (.inl rfl) _) (.inl rfl) _) (.inl rfl) _) (.inl rfl) _) (own_ne oBR), C_12.out.keepG (gb_set (gb_set (gb_set (gb_set (gb_set (gb_set (gb_set (World.grownBy.refl _ (some gR)) (.inl rfl) _) (.inl rfl) _) (.inl rfl) _) (.inl rfl) _) (.inl rfl) _) (.inl rfl) _) (.inl rfl) _) (own_ne oCR)⟩, (h12.other (gb_set (gb_set (gb_set (gb_set (gb_set (gb_set (gb_set (World.grownBy.refl _ (some gR)) (.inl rfl) _) (.inl rfl) _) (.inl rfl) _) (.inl rfl) _) (.inl rfl) _) (.inl rfl) _) (.inl rfl) _) (fun g hg => by injection hg; omega) hD).more (by omega)⟩
end Go.Proofs.YtogdefomigiepaaGreatDoor
/- Contracts of paygen.Deck: Schemes, Record, Deductions, Orders. Written by gen_dls.py. -/
namespace Go.Proofs.YtogdefomigiepaaGreatDoor
open Go.RowKit

set_option maxRecDepth 100000 in
set_option maxHeartbeats 4000000 in
theorem RecordD {w : World} {D m : Nat} (hd : Dk w D m) (hm : m ≤ 1000000) :
  Calls Tryz.prog 77 #[.pointer (some ⟨D, 0, none⟩)] w (LstD El.code ElOk0 litC El.vals 112 2 w D (m + 16)) := by
 have hD := hd.lt
 go_enter Tryz.func77, Tryz.ntmps77
 have h0 := hd.start.alloc (.cells #[.string ⟨#[99, 108, 117, 98]⟩, .string ⟨#[108, 111, 97, 110]⟩, .string ⟨#[112, 108, 97, 110]⟩, .string ⟨#[117, 110, 105, 111, 110]⟩] 9)
 have R0 : Row (w.alloc (.cells #[.string ⟨#[99, 108, 117, 98]⟩, .string ⟨#[108, 111, 97, 110]⟩, .string ⟨#[112, 108, 97, 110]⟩, .string ⟨#[117, 110, 105, 111, 110]⟩] 9)) w.heap.size 9 (litC.map Value.string).toArray := Row.new w _ _
 go_wp2_with fail
 go_loopw [3, 8] (fun v i wr => ∃ (k : Nat) (acc : List El), k ≤ 4 ∧ i = .int .i64 k ∧ Hid (Coded El.code ElOk0 litC k acc ∧ Own wr (w.heap.size + 1) 112 2 v (acc.map El.vals) ∧ DS w D (m + 4 * k) wr ∧ Row wr w.heap.size 9 (litC.map Value.string).toArray)) (fun _ i _ => 4 - (intOf i).toNat)
 case atStart => exact ⟨0, [], by omega, rfl, Coded.nil _ _ _, Own.nil _ _ _ _, h0, R0⟩
 case round =>
  clear h0 R0
  obtain ⟨k, acc, hk, rfl, HI⟩ := hrel
  obtain ⟨wo, rfl⟩ : ∃ wo : World, wo = wr := ⟨_, rfl⟩
  by_cases hlt : k < 4
  rotate_left
  ·obtain rfl : k = 4 := by omega
   go_wp2
   go_ret
   exact ⟨_, acc, rfl, HI.out.1, HI.out.2.1.more (by omega), HI.out.2.2.1⟩
  have nL : w.heap.size ≠ D := by omega
  have hS := HI.out.2.2.1
  have cL : wo.cell? ⟨w.heap.size, k, none⟩ = some (.string (litC[k]'hlt)) := HI.out.2.2.2.lit hlt
  have HC := Lib.hid HI.out.1
  have HO := Lib.hid HI.out.2.1
  have HL := HI.out.2.2.2
  have lL := HL.lt
  obtain ⟨c, hc⟩ : ∃ c, litC[k]'hlt = c := ⟨_, rfl⟩
  have HCC := Lib.hid hc
  rw [hc] at cL
  clear HI hc
  go_wp2_with fail
  refine (NextD 3 hS.dk (by omega) (by omega) (by omega)).mono ?_
  rintro e w1 ⟨r1, hr1, rfl, k1⟩
  have L_1 := k1.row HL nL
  have A_1 := Lib.hid (k1.own HO.out (by omega))
  have h1 := hS.step k1
  clear HL HO k1
  cases hb : (r1 == 0)
  ·have HEND := Lib.hid (And.intro HC.out.skip (And.intro A_1.out (And.intro (h1.more (show _ ≤ m + 4 * (k + 1) by omega)) L_1)))
   clear A_1 L_1 h1 HC HCC cL
   go_wp2_with fail
   go_roundw
   case rel => exact ⟨k + 1, acc, by omega, by go_num, HEND.out⟩
   case measure => simp [intOf]; omega
  ·go_wp2_with fail
   refine (SmallD h1.dk (by omega)).mono ?_
   rintro e w2 ⟨r2, hr2, rfl, k2⟩
   have L_2 := k2.row L_1 nL
   have A_2 := Lib.hid (k2.own A_1.out (by omega))
   have h2 := h1.step k2
   clear L_1 A_1 h1 k2
   go_wp2_with fail
   refine (PickD [0, 50, 100, 19999, 20000, r2] 0 600000 h2.dk.start (by omega) rfl rfl (by simp) (by simp) (by simp; try omega)).mono ?_
   rintro e w3 ⟨r3, hr3, rfl, k3⟩
   have L_3 := k3.row L_2 nL
   have A_3 := Lib.hid (k3.own A_2.out (by omega))
   have h3 := h2.step k3
   clear L_2 A_2 h2 k3
   go_wp2_with (at_builtin; refine wpList_append_sl rfl (.tmp 15) (.tmp 23) rfl rowEl (w.heap.size + 1) _ _ (acc.map El.vals) ([(⟨c, r3⟩ : El)].map El.vals) rfl (A_3.out.alloc _) rfl (Sl.one rfl rfl) (wideEl _) (by have := HC.out.len; simp only [List.length_map]; unfold maxLen; simp; omega) (by have := HC.out.len; simp only [List.length_map]; simp; omega) (by have := L_3.lt; simp only [World.size_alloc]; omega) ?_; intro va wa howna hga _)
   have lta := fun g hg => (A_3.out.1.lt g hg).1
   have ha := (h3.alloc _).other hga (fun g hg => by have := lta g hg; omega) hD
   have Ra := (L_3.alloc _).keep hga (fun e => by have := lta _ e.symm; omega)
   have HEND : Hid (Coded El.code ElOk0 litC (k + 1) (acc ++ [(⟨c, r3⟩ : El)]) ∧ Own wa (w.heap.size + 1) 112 2 va ((acc ++ [(⟨c, r3⟩ : El)]).map El.vals) ∧ DS w D (m + 4 * (k + 1)) wa ∧ Row wa w.heap.size 9 (litC.map Value.string).toArray) := ⟨HC.out.snoc hlt HCC.out.symm hr3, by rw [List.map_append]; exact howna, ha.more (by omega), Ra⟩
   clear howna hga lta ha Ra A_3 L_3 h3 HC HCC cL
   go_roundw
   case rel => exact ⟨k + 1, _, by omega, by go_num, HEND.out⟩
   case measure => simp [intOf]; omega
set_option maxRecDepth 100000 in
set_option maxHeartbeats 4000000 in
theorem DeductionsD {w : World} {D m : Nat} (hd : Dk w D m) (hm : m ≤ 1000000) :
  Calls Tryz.prog 73 #[.pointer (some ⟨D, 0, none⟩)] w (LstD Dd.code DdOk litC Dd.vals 170 6 w D (m + 40)) := by
 have hD := hd.lt
 go_enter Tryz.func73, Tryz.ntmps73
 have h0 := hd.start.alloc (.cells #[.string ⟨#[99, 108, 117, 98]⟩, .string ⟨#[108, 111, 97, 110]⟩, .string ⟨#[112, 108, 97, 110]⟩, .string ⟨#[117, 110, 105, 111, 110]⟩] 9)
 have R0 : Row (w.alloc (.cells #[.string ⟨#[99, 108, 117, 98]⟩, .string ⟨#[108, 111, 97, 110]⟩, .string ⟨#[112, 108, 97, 110]⟩, .string ⟨#[117, 110, 105, 111, 110]⟩] 9)) w.heap.size 9 (litC.map Value.string).toArray := Row.new w _ _
 go_wp2_with fail
 go_loopw [3, 8] (fun v i wr => ∃ (k : Nat) (acc : List Dd), k ≤ 4 ∧ i = .int .i64 k ∧ Hid (Coded Dd.code DdOk litC k acc ∧ Own wr (w.heap.size + 1) 170 6 v (acc.map Dd.vals) ∧ DS w D (m + 10 * k) wr ∧ Row wr w.heap.size 9 (litC.map Value.string).toArray)) (fun _ i _ => 4 - (intOf i).toNat)
 case atStart => exact ⟨0, [], by omega, rfl, Coded.nil _ _ _, Own.nil _ _ _ _, h0, R0⟩
 case round =>
  clear h0 R0
  obtain ⟨k, acc, hk, rfl, HI⟩ := hrel
  obtain ⟨wo, rfl⟩ : ∃ wo : World, wo = wr := ⟨_, rfl⟩
  by_cases hlt : k < 4
  rotate_left
  ·obtain rfl : k = 4 := by omega
   go_wp2
   go_ret
   exact ⟨_, acc, rfl, HI.out.1, HI.out.2.1.more (by omega), HI.out.2.2.1⟩
  have nL : w.heap.size ≠ D := by omega
  have hS := HI.out.2.2.1
  have cL : wo.cell? ⟨w.heap.size, k, none⟩ = some (.string (litC[k]'hlt)) := HI.out.2.2.2.lit hlt
  have HC := Lib.hid HI.out.1
  have HO := Lib.hid HI.out.2.1
  have HL := HI.out.2.2.2
  have lL := HL.lt
  obtain ⟨c, hc⟩ : ∃ c, litC[k]'hlt = c := ⟨_, rfl⟩
  have HCC := Lib.hid hc
  rw [hc] at cL
  clear HI hc
  go_wp2_with fail
  refine (NextD 2 hS.dk (by omega) (by omega) (by omega)).mono ?_
  rintro e w1 ⟨r1, hr1, rfl, k1⟩
  have L_1 := k1.row HL nL
  have A_1 := Lib.hid (k1.own HO.out (by omega))
  have h1 := hS.step k1
  clear HL HO k1
  cases hb : (r1 == 0)
  ·have HEND := Lib.hid (And.intro HC.out.skip (And.intro A_1.out (And.intro (h1.more (show _ ≤ m + 10 * (k + 1) by omega)) L_1)))
   clear A_1 L_1 h1 HC HCC cL
   go_wp2_with fail
   go_roundw
   case rel => exact ⟨k + 1, acc, by omega, by go_num, HEND.out⟩
   case measure => simp [intOf]; omega
  ·go_wp2_with fail
   refine (NextD 3 h1.dk (by omega) (by omega) (by omega)).mono ?_
   rintro e w2 ⟨r2, hr2, rfl, k2⟩
   have L_2 := k2.row L_1 nL
   have A_2 := Lib.hid (k2.own A_1.out (by omega))
   have h2 := h1.step k2
   clear L_1 A_1 h1 k2
   go_wp2_with fail
   refine (NextD 3 h2.dk (by omega) (by omega) (by omega)).mono ?_
   rintro e w3 ⟨r3, hr3, rfl, k3⟩
   have L_3 := k3.row L_2 nL
   have A_3 := Lib.hid (k3.own A_2.out (by omega))
   have h3 := h2.step k3
   clear L_2 A_2 h2 k3
   go_wp2_with fail
   refine (SmallD h3.dk (by omega)).mono ?_
   rintro e w4 ⟨r4, hr4, rfl, k4⟩
   have L_4 := k4.row L_3 nL
   have A_4 := Lib.hid (k4.own A_3.out (by omega))
   have h4 := h3.step k4
   clear L_3 A_3 h3 k4
   go_wp2_with fail
   refine (PickD [0, 100, 5000, r4] 0 600000 h4.dk.start (by omega) rfl rfl (by simp) (by simp) (by simp; try omega)).mono ?_
   rintro e w5 ⟨r5, hr5, rfl, k5⟩
   have L_5 := k5.row L_4 nL
   have A_5 := Lib.hid (k5.own A_4.out (by omega))
   have h5 := h4.step k5
   clear L_4 A_4 h4 k5
   go_wp2_with fail
   refine (PickD [0, 0, 10000, 50000] 0 1000000 h5.dk.start (by omega) rfl rfl (by simp) (by simp) (by simp; try omega)).mono ?_
   rintro e w6 ⟨r6, hr6, rfl, k6⟩
   have L_6 := k6.row L_5 nL
   have A_6 := Lib.hid (k6.own A_5.out (by omega))
   have h6 := h5.step k6
   clear L_5 A_5 h5 k6
   go_wp2_with fail
   refine (PickD [0, 0, 20000, 100] 0 1000000000 h6.dk.start (by omega) rfl rfl (by simp) (by simp) (by simp; try omega)).mono ?_
   rintro e w7 ⟨r7, hr7, rfl, k7⟩
   have L_7 := k7.row L_6 nL
   have A_7 := Lib.hid (k7.own A_6.out (by omega))
   have h7 := h6.step k7
   clear L_6 A_6 h6 k7
   go_wp2_with (at_builtin; refine wpList_append_sl rfl (.tmp 15) (.tmp 34) rfl rowDd (w.heap.size + 1) _ _ (acc.map Dd.vals) ([(⟨c, r2, (r3 == 0), r5, r6, r7⟩ : Dd)].map Dd.vals) rfl (A_7.out.alloc _) rfl (Sl.one rfl rfl) (wideDd _) (by have := HC.out.len; simp only [List.length_map]; unfold maxLen; simp; omega) (by have := HC.out.len; simp only [List.length_map]; simp; omega) (by have := L_7.lt; simp only [World.size_alloc]; omega) ?_; intro va wa howna hga _)
   have lta := fun g hg => (A_7.out.1.lt g hg).1
   have ha := (h7.alloc _).other hga (fun g hg => by have := lta g hg; omega) hD
   have Ra := (L_7.alloc _).keep hga (fun e => by have := lta _ e.symm; omega)
   have HEND : Hid (Coded Dd.code DdOk litC (k + 1) (acc ++ [(⟨c, r2, (r3 == 0), r5, r6, r7⟩ : Dd)]) ∧ Own wa (w.heap.size + 1) 170 6 va ((acc ++ [(⟨c, r2, (r3 == 0), r5, r6, r7⟩ : Dd)]).map Dd.vals) ∧ DS w D (m + 10 * (k + 1)) wa ∧ Row wa w.heap.size 9 (litC.map Value.string).toArray) := ⟨HC.out.snoc hlt HCC.out.symm ⟨⟨hr2.1, by show r2 ≤ _; omega⟩, hr5, hr6, hr7⟩, by rw [List.map_append]; exact howna, ha.more (by omega), Ra⟩
   clear howna hga lta ha Ra A_7 L_7 h7 HC HCC cL
   go_roundw
   case rel => exact ⟨k + 1, _, by omega, by go_num, HEND.out⟩
   case measure => simp [intOf]; omega
set_option maxRecDepth 100000 in
set_option maxHeartbeats 4000000 in
theorem OrdersD {w : World} {D m : Nat} (hd : Dk w D m) (hm : m ≤ 1000000) :
  Calls Tryz.prog 74 #[.pointer (some ⟨D, 0, none⟩)] w (LstD Od.code OdOk litO Od.vals 202 5 w D (m + 50)) := by
 have hD := hd.lt
 go_enter Tryz.func74, Tryz.ntmps74
 have h0 := hd.start.alloc (.cells #[.string ⟨#[99, 104, 105, 108, 100]⟩, .string ⟨#[99, 105, 116, 121]⟩, .string ⟨#[99, 111, 117, 114, 116]⟩, .string ⟨#[116, 97, 120, 49]⟩, .string ⟨#[116, 97, 120, 50]⟩] 9)
 have R0 : Row (w.alloc (.cells #[.string ⟨#[99, 104, 105, 108, 100]⟩, .string ⟨#[99, 105, 116, 121]⟩, .string ⟨#[99, 111, 117, 114, 116]⟩, .string ⟨#[116, 97, 120, 49]⟩, .string ⟨#[116, 97, 120, 50]⟩] 9)) w.heap.size 9 (litO.map Value.string).toArray := Row.new w _ _
 go_wp2_with fail
 go_loopw [3, 8] (fun v i wr => ∃ (k : Nat) (acc : List Od), k ≤ 5 ∧ i = .int .i64 k ∧ Hid (Coded Od.code OdOk litO k acc ∧ Own wr (w.heap.size + 1) 202 5 v (acc.map Od.vals) ∧ DS w D (m + 10 * k) wr ∧ Row wr w.heap.size 9 (litO.map Value.string).toArray)) (fun _ i _ => 5 - (intOf i).toNat)
 case atStart => exact ⟨0, [], by omega, rfl, Coded.nil _ _ _, Own.nil _ _ _ _, h0, R0⟩
 case round =>
  clear h0 R0
  obtain ⟨k, acc, hk, rfl, HI⟩ := hrel
  obtain ⟨wo, rfl⟩ : ∃ wo : World, wo = wr := ⟨_, rfl⟩
  by_cases hlt : k < 5
  rotate_left
  ·obtain rfl : k = 5 := by omega
   go_wp2
   go_ret
   exact ⟨_, acc, rfl, HI.out.1, HI.out.2.1.more (by omega), HI.out.2.2.1⟩
  have nL : w.heap.size ≠ D := by omega
  have hS := HI.out.2.2.1
  have cL : wo.cell? ⟨w.heap.size, k, none⟩ = some (.string (litO[k]'hlt)) := HI.out.2.2.2.lit hlt
  have HC := Lib.hid HI.out.1
  have HO := Lib.hid HI.out.2.1
  have HL := HI.out.2.2.2
  have lL := HL.lt
  obtain ⟨c, hc⟩ : ∃ c, litO[k]'hlt = c := ⟨_, rfl⟩
  have HCC := Lib.hid hc
  rw [hc] at cL
  clear HI hc
  go_wp2_with fail
  refine (NextD 2 hS.dk (by omega) (by omega) (by omega)).mono ?_
  rintro e w1 ⟨r1, hr1, rfl, k1⟩
  have L_1 := k1.row HL nL
  have A_1 := Lib.hid (k1.own HO.out (by omega))
  have h1 := hS.step k1
  clear HL HO k1
  cases hb : (r1 == 0)
  ·have HEND := Lib.hid (And.intro HC.out.skip (And.intro A_1.out (And.intro (h1.more (show _ ≤ m + 10 * (k + 1) by omega)) L_1)))
   clear A_1 L_1 h1 HC HCC cL
   go_wp2_with fail
   go_roundw
   case rel => exact ⟨k + 1, acc, by omega, by go_num, HEND.out⟩
   case measure => simp [intOf]; omega
  ·go_wp2_with fail
   refine (NextD 3 h1.dk (by omega) (by omega) (by omega)).mono ?_
   rintro e w2 ⟨r2, hr2, rfl, k2⟩
   have L_2 := k2.row L_1 nL
   have A_2 := Lib.hid (k2.own A_1.out (by omega))
   have h2 := h1.step k2
   clear L_1 A_1 h1 k2
   go_wp2_with fail
   refine (PickD [10, 10, 20] 0 84005 h2.dk.start (by omega) rfl rfl (by simp) (by simp) (by simp; try omega)).mono ?_
   rintro e w3 ⟨r3, hr3, rfl, k3⟩
   have L_3 := k3.row L_2 nL
   have A_3 := Lib.hid (k3.own A_2.out (by omega))
   have h3 := h2.step k3
   clear L_2 A_2 h2 k3
   go_wp2_with fail
   refine (SmallD h3.dk (by omega)).mono ?_
   rintro e w4 ⟨r4, hr4, rfl, k4⟩
   have L_4 := k4.row L_3 nL
   have A_4 := Lib.hid (k4.own A_3.out (by omega))
   have h4 := h3.step k4
   clear L_3 A_3 h3 k4
   go_wp2_with fail
   refine (PickD [0, 5000, 30000, r4] 0 600000 h4.dk.start (by omega) rfl rfl (by simp) (by simp) (by simp; try omega)).mono ?_
   rintro e w5 ⟨r5, hr5, rfl, k5⟩
   have L_5 := k5.row L_4 nL
   have A_5 := Lib.hid (k5.own A_4.out (by omega))
   have h5 := h4.step k5
   clear L_4 A_4 h4 k5
   go_wp2_with fail
   refine (SmallD h5.dk (by omega)).mono ?_
   rintro e w6 ⟨r6, hr6, rfl, k6⟩
   have L_6 := k6.row L_5 nL
   have A_6 := Lib.hid (k6.own A_5.out (by omega))
   have h6 := h5.step k6
   clear L_5 A_5 h5 k6
   go_wp2_with fail
   refine (PickD [100000, 1, 0, r6] 0 600000 h6.dk.start (by omega) rfl rfl (by simp) (by simp) (by simp; try omega)).mono ?_
   rintro e w7 ⟨r7, hr7, rfl, k7⟩
   have L_7 := k7.row L_6 nL
   have A_7 := Lib.hid (k7.own A_6.out (by omega))
   have h7 := h6.step k7
   clear L_6 A_6 h6 k7
   go_wp2_with (at_builtin; refine wpList_append_sl rfl (.tmp 15) (.tmp 33) rfl rowOd (w.heap.size + 1) _ _ (acc.map Od.vals) ([(⟨c, r2, r3, r5, r7⟩ : Od)].map Od.vals) rfl (A_7.out.alloc _) rfl (Sl.one rfl rfl) (wideOd _) (by have := HC.out.len; simp only [List.length_map]; unfold maxLen; simp; omega) (by have := HC.out.len; simp only [List.length_map]; simp; omega) (by have := L_7.lt; simp only [World.size_alloc]; omega) ?_; intro va wa howna hga _)
   have lta := fun g hg => (A_7.out.1.lt g hg).1
   have ha := (h7.alloc _).other hga (fun g hg => by have := lta g hg; omega) hD
   have Ra := (L_7.alloc _).keep hga (fun e => by have := lta _ e.symm; omega)
   have HEND : Hid (Coded Od.code OdOk litO (k + 1) (acc ++ [(⟨c, r2, r3, r5, r7⟩ : Od)]) ∧ Own wa (w.heap.size + 1) 202 5 va ((acc ++ [(⟨c, r2, r3, r5, r7⟩ : Od)]).map Od.vals) ∧ DS w D (m + 10 * (k + 1)) wa ∧ Row wa w.heap.size 9 (litO.map Value.string).toArray) := ⟨HC.out.snoc hlt HCC.out.symm ⟨⟨hr2.1, by show r2 ≤ _; omega⟩, hr3, hr5, hr7⟩, by rw [List.map_append]; exact howna, ha.more (by omega), Ra⟩
   clear howna hga lta ha Ra A_7 L_7 h7 HC HCC cL
   go_roundw
   case rel => exact ⟨k + 1, _, by omega, by go_num, HEND.out⟩
   case measure => simp [intOf]; omega
set_option maxRecDepth 100000 in
set_option maxHeartbeats 4000000 in
theorem SchemesD {w : World} {D m : Nat} (hd : Dk w D m) (hm : m ≤ 1000000) :
  Calls Tryz.prog 70 #[.pointer (some ⟨D, 0, none⟩)] w (LstD Sc.code ScOk litS Sc.vals 131 8 w D (m + 27)) := by
 have hD := hd.lt
 go_enter Tryz.func70, Tryz.ntmps70
 have h0 := hd.start.alloc (.cells #[.string ⟨#[99, 97, 114, 101]⟩, .string ⟨#[104, 101, 97, 108, 116, 104]⟩, .string ⟨#[112, 101, 110, 115, 105, 111, 110]⟩] 9)
 have R0 : Row (w.alloc (.cells #[.string ⟨#[99, 97, 114, 101]⟩, .string ⟨#[104, 101, 97, 108, 116, 104]⟩, .string ⟨#[112, 101, 110, 115, 105, 111, 110]⟩] 9)) w.heap.size 9 (litS.map Value.string).toArray := Row.new w _ _
 go_wp2_with fail
 go_loopw [3, 8] (fun v i wr => ∃ (k : Nat) (acc : List Sc), k ≤ 3 ∧ i = .int .i64 k ∧ Hid (Coded Sc.code ScOk litS k acc ∧ Own wr (w.heap.size + 1) 131 8 v (acc.map Sc.vals) ∧ DS w D (m + 9 * k) wr ∧ Row wr w.heap.size 9 (litS.map Value.string).toArray)) (fun _ i _ => 3 - (intOf i).toNat)
 case atStart => exact ⟨0, [], by omega, rfl, Coded.nil _ _ _, Own.nil _ _ _ _, h0, R0⟩
 case round =>
  clear h0 R0
  obtain ⟨k, acc, hk, rfl, HI⟩ := hrel
  obtain ⟨wo, rfl⟩ : ∃ wo : World, wo = wr := ⟨_, rfl⟩
  by_cases hlt : k < 3
  rotate_left
  ·obtain rfl : k = 3 := by omega
   go_wp2
   go_ret
   exact ⟨_, acc, rfl, HI.out.1, HI.out.2.1.more (by omega), HI.out.2.2.1⟩
  have nL : w.heap.size ≠ D := by omega
  have hS := HI.out.2.2.1
  have cL : wo.cell? ⟨w.heap.size, k, none⟩ = some (.string (litS[k]'hlt)) := HI.out.2.2.2.lit hlt
  have HC := Lib.hid HI.out.1
  have HO := Lib.hid HI.out.2.1
  have HL := HI.out.2.2.2
  have lL := HL.lt
  obtain ⟨c, hc⟩ : ∃ c, litS[k]'hlt = c := ⟨_, rfl⟩
  have HCC := Lib.hid hc
  rw [hc] at cL
  clear HI hc
  go_wp2_with fail
  refine (NextD 3 hS.dk (by omega) (by omega) (by omega)).mono ?_
  rintro e w1 ⟨r1, hr1, rfl, k1⟩
  have L_1 := k1.row HL nL
  have A_1 := Lib.hid (k1.own HO.out (by omega))
  have h1 := hS.step k1
  clear HL HO k1
  cases hb : (decide (0 < r1))
  ·have HEND := Lib.hid (And.intro HC.out.skip (And.intro A_1.out (And.intro (h1.more (show _ ≤ m + 9 * (k + 1) by omega)) L_1)))
   clear A_1 L_1 h1 HC HCC cL
   go_wp2_with fail
   go_roundw
   case rel => exact ⟨k + 1, acc, by omega, by go_num, HEND.out⟩
   case measure => simp [intOf]; omega
  ·go_wp2_with fail
   refine (SchemeD c (by have := litS_name _ (List.getElem_mem hlt); rwa [HCC.out] at this) h1.dk (by omega)).mono ?_
   rintro e w2 ⟨⟨sc, a1, a2, a3, a4, a5, a6, a7⟩, ⟨hsc, hso⟩, rfl, k2⟩
   have L_2 := k2.row L_1 nL
   have A_2 := Lib.hid (k2.own A_1.out (by omega))
   have h2 := h1.step k2
   clear L_1 A_1 h1 k2
   dsimp only at hsc
   subst hsc
   go_wp2_with (at_builtin; refine wpList_append_sl rfl (.tmp 15) (.tmp 19) rfl rowSc (w.heap.size + 1) _ _ (acc.map Sc.vals) ([(⟨sc, a1, a2, a3, a4, a5, a6, a7⟩ : Sc)].map Sc.vals) rfl (A_2.out.alloc _) rfl (Sl.one rfl rfl) (wideSc _) (by have := HC.out.len; simp only [List.length_map]; unfold maxLen; simp; omega) (by have := HC.out.len; simp only [List.length_map]; simp; omega) (by have := L_2.lt; simp only [World.size_alloc]; omega) ?_; intro va wa howna hga _)
   have lta := fun g hg => (A_2.out.1.lt g hg).1
   have ha := (h2.alloc _).other hga (fun g hg => by have := lta g hg; omega) hD
   have Ra := (L_2.alloc _).keep hga (fun e => by have := lta _ e.symm; omega)
   have HEND : Hid (Coded Sc.code ScOk litS (k + 1) (acc ++ [(⟨sc, a1, a2, a3, a4, a5, a6, a7⟩ : Sc)]) ∧ Own wa (w.heap.size + 1) 131 8 va ((acc ++ [(⟨sc, a1, a2, a3, a4, a5, a6, a7⟩ : Sc)]).map Sc.vals) ∧ DS w D (m + 9 * (k + 1)) wa ∧ Row wa w.heap.size 9 (litS.map Value.string).toArray) := ⟨HC.out.snoc hlt HCC.out.symm hso, by rw [List.map_append]; exact howna, ha.more (by omega), Ra⟩
   clear howna hga lta ha Ra A_2 L_2 h2 HC HCC cL
   go_roundw
   case rel => exact ⟨k + 1, _, by omega, by go_num, HEND.out⟩
   case measure => simp [intOf]; omega
set_option maxRecDepth 100000 in
set_option maxHeartbeats 4000000 in
theorem WagesD {w : World} {D m : Nat} (hd : Dk w D m) (hm : m ≤ 1000000) :
  Calls Tryz.prog 69 #[.pointer (some ⟨D, 0, none⟩)] w (LstD Wg.code WgOk litW Wg.vals 120 6 w D (m + 20)) := by
 have hD := hd.lt
 go_enter Tryz.func69, Tryz.ntmps69
 have h0 := hd.start.alloc (.cells #[.string ⟨#[98, 111, 110, 117, 115]⟩, .string ⟨#[99, 97, 114]⟩, .string ⟨#[110, 105, 103, 104, 116]⟩, .string ⟨#[115, 97, 108, 97, 114, 121]⟩] 9)
 have R0 : Row (w.alloc (.cells #[.string ⟨#[98, 111, 110, 117, 115]⟩, .string ⟨#[99, 97, 114]⟩, .string ⟨#[110, 105, 103, 104, 116]⟩, .string ⟨#[115, 97, 108, 97, 114, 121]⟩] 9)) w.heap.size 9 (litW.map Value.string).toArray := Row.new w _ _
 go_wp2_with fail
 go_loopw [3, 9] (fun v i wr => ∃ (k : Nat) (acc : List Wg), k ≤ 4 ∧ i = .int .i64 k ∧ Hid (Coded Wg.code WgOk litW k acc ∧ Own wr (w.heap.size + 1) 120 6 v (acc.map Wg.vals) ∧ DS w D (m + 5 * k) wr ∧ Row wr w.heap.size 9 (litW.map Value.string).toArray)) (fun _ i _ => 4 - (intOf i).toNat)
 case atStart => exact ⟨0, [], by omega, rfl, Coded.nil _ _ _, Own.nil _ _ _ _, h0, R0⟩
 case round =>
  clear h0 R0
  obtain ⟨k, acc, hk, rfl, HI⟩ := hrel
  obtain ⟨wo, rfl⟩ : ∃ wo : World, wo = wr := ⟨_, rfl⟩
  by_cases hlt : k < 4
  rotate_left
  ·obtain rfl : k = 4 := by omega
   go_wp2
   go_ret
   exact ⟨_, acc, rfl, HI.out.1, HI.out.2.1.more (by omega), HI.out.2.2.1⟩
  have nL : w.heap.size ≠ D := by omega
  have hS := HI.out.2.2.1
  have cL : wo.cell? ⟨w.heap.size, k, none⟩ = some (.string (litW[k]'hlt)) := HI.out.2.2.2.lit hlt
  have HC := Lib.hid HI.out.1
  have HO := Lib.hid HI.out.2.1
  have HL := HI.out.2.2.2
  have lL := HL.lt
  obtain ⟨c, hc⟩ : ∃ c, litW[k]'hlt = c := ⟨_, rfl⟩
  have HCC := Lib.hid hc
  rw [hc] at cL
  clear HI hc
  go_wp2_with fail
  refine (NextD 4 hS.dk (by omega) (by omega) (by omega)).mono ?_
  rintro e w1 ⟨r1, hr1, rfl, k1⟩
  have L_1 := k1.row HL nL
  have A_1 := Lib.hid (k1.own HO.out (by omega))
  have h1 := hS.step k1
  clear HL HO k1
  go_wp2_with fail
  refine (NextD 4 h1.dk (by omega) (by omega) (by omega)).mono ?_
  rintro e w2 ⟨r2, hr2, rfl, k2⟩
  have L_2 := k2.row L_1 nL
  have A_2 := Lib.hid (k2.own A_1.out (by omega))
  have h2 := h1.step k2
  clear L_1 A_1 h1 k2
  go_wp2_with fail
  refine (NextD 4 h2.dk (by omega) (by omega) (by omega)).mono ?_
  rintro e w3 ⟨r3, hr3, rfl, k3⟩
  have L_3 := k3.row L_2 nL
  have A_3 := Lib.hid (k3.own A_2.out (by omega))
  have h3 := h2.step k3
  clear L_2 A_2 h2 k3
  go_wp2_with fail
  refine (NextD 4 h3.dk (by omega) (by omega) (by omega)).mono ?_
  rintro e w4 ⟨r4, hr4, rfl, k4⟩
  have L_4 := k4.row L_3 nL
  have A_4 := Lib.hid (k4.own A_3.out (by omega))
  have h4 := h3.step k4
  clear L_3 A_3 h3 k4
  go_upto_region 6 with (fail)
  have y5 := h4.alloc (.cells #[.string c, .int .i64 1, .bool (decide (0 < r1)), .bool (decide (0 < r2)), .bool (decide (0 < r3)), .int .i64 (4000 + r4)] 120)
  have X_5 := Row.new w4 120 #[.string c, .int .i64 1, .bool (decide (0 < r1)), .bool (decide (0 < r2)), .bool (decide (0 < r3)), .int .i64 (4000 + r4)]
  have b5 := (h4.dk.start.alloc (.cells #[.string c, .int .i64 1, .bool (decide (0 < r1)), .bool (decide (0 < r2)), .bool (decide (0 < r3)), .int .i64 (4000 + r4)] 120))
  have L_5 := b5.row L_4 nL
  have A_5 := Lib.hid (b5.own A_4.out (by omega))
  have nX : w4.heap.size ≠ D := by have := h4.dk.lt; omega
  have dXL : w4.heap.size ≠ w.heap.size := by have := Row.lt L_4; omega
  have oXA := Own.offNew A_4.out
  obtain ⟨w5, hw⟩ : ∃ w5, w4.alloc (.cells #[.string c, .int .i64 1, .bool (decide (0 < r1)), .bool (decide (0 < r2)), .bool (decide (0 < r3)), .int .i64 (4000 + r4)] 120) = w5 := ⟨_, rfl⟩
  rw [hw] at y5 X_5 ⊢
  rw [hw] at L_5
  rw [hw] at A_5
  obtain ⟨gX, hg⟩ : ∃ gX, w4.heap.size = gX := ⟨_, rfl⟩
  have zX : w.heap.size ≤ gX := by have := h4.size; omega
  rw [hg] at X_5 nX ⊢
  rw [hg] at dXL
  rw [hg] at oXA
  have h5 := y5
  have GX := Lib.hid hg
  clear L_4 A_4 hw hg b5 y5 h4
  cases hcar : (c.toList == ([99, 97, 114] : List UInt8))
  ·go_upto_region 8 with (fail)
   go_wp2_with fail
   refine (NextD 12 h5.dk (by omega) (by omega) (by omega)).mono ?_
   rintro e w6 ⟨r6, hr6, rfl, k6⟩
   have L_6 := k6.row L_5 nL
   have X_6 := k6.row X_5 nX
   have A_6 := Lib.hid (k6.own A_5.out (by omega))
   have h6 := h5.step k6
   clear L_5 X_5 A_5 h5 k6
   cases hb : decide (0 < r6)
   ·have HEND := Lib.hid (And.intro HC.out.skip (And.intro A_6.out (And.intro (h6.more (show _ ≤ m + 5 * (k + 1) by omega)) L_6)))
    clear A_6 L_6 h6 HC HCC cL
    go_wp2_with fail
    go_roundw
    case rel => exact ⟨k + 1, acc, by omega, by go_num, HEND.out⟩
    case measure => simp [intOf]; omega
   ·have cX0 : w6.cell? ⟨gX, 0, none⟩ = some (.string c) := Row.cell X_6 0
    have cX1 : w6.cell? ⟨gX, 1, none⟩ = some (.int .i64 1) := Row.cell X_6 1
    have cX2 : w6.cell? ⟨gX, 2, none⟩ = some (.bool (decide (0 < r1))) := Row.cell X_6 2
    have cX3 : w6.cell? ⟨gX, 3, none⟩ = some (.bool (decide (0 < r2))) := Row.cell X_6 3
    have cX4 : w6.cell? ⟨gX, 4, none⟩ = some (.bool (decide (0 < r3))) := Row.cell X_6 4
    have cX5 : w6.cell? ⟨gX, 5, none⟩ = some (.int .i64 (4000 + r4)) := Row.cell X_6 5
    have lX := Row.lt X_6
    go_wp2_with (at_builtin; refine wpList_append_sl rfl (.tmp 34) (.tmp 36) rfl rowWg (w.heap.size + 1) _ _ (acc.map Wg.vals) ([(⟨c, 1, decide (0 < r1), decide (0 < r2), (decide (0 < r3)), 4000 + r4⟩ : Wg)].map Wg.vals) rfl (A_6.out.alloc _) rfl (Sl.one rfl rfl) (wideWg _) (by have := HC.out.len; simp only [List.length_map]; unfold maxLen; simp; omega) (by have := HC.out.len; simp only [List.length_map]; simp; omega) (by have := L_6.lt; simp only [World.size_alloc]; omega) ?_; intro va wa howna hga _)
    have lta := fun g hg => (A_6.out.1.lt g hg).1
    have ha := (h6.alloc _).other hga (fun g hg => by have := lta g hg; omega) hD
    have Ra := (L_6.alloc _).keep hga (fun e => by have := lta _ e.symm; omega)
    have HEND : Hid (Coded Wg.code WgOk litW (k + 1) (acc ++ [(⟨c, 1, decide (0 < r1), decide (0 < r2), (decide (0 < r3)), 4000 + r4⟩ : Wg)]) ∧ Own wa (w.heap.size + 1) 120 6 va ((acc ++ [(⟨c, 1, decide (0 < r1), decide (0 < r2), (decide (0 < r3)), 4000 + r4⟩ : Wg)]).map Wg.vals) ∧ DS w D (m + 5 * (k + 1)) wa ∧ Row wa w.heap.size 9 (litW.map Value.string).toArray) := ⟨HC.out.snoc hlt HCC.out.symm ⟨.inl rfl, (fun h => absurd (show (1 : Int) = 2 from h) (by decide)), by show 1000 ≤ 4000 + r4; omega, by show 4000 + r4 ≤ _; omega⟩, by rw [List.map_append]; exact howna, ha.more (by omega), Ra⟩
    clear howna hga lta ha Ra A_6 L_6 h6 HC HCC cL
    go_roundw
    case rel => exact ⟨k + 1, _, by omega, by go_num, HEND.out⟩
    case measure => simp [intOf]; omega
  ·have cX1 : w5.cell? ⟨gX, 1, none⟩ = some (.int .i64 1) := Row.cell X_5 1
   have cX4 : w5.cell? ⟨gX, 4, none⟩ = some (.bool (decide (0 < r3))) := Row.cell X_5 4
   have fX1 : w5.frozen? ⟨gX, 1, none⟩ = false := Row.frozen X_5 1
   have fX4 : w5.frozen? ⟨gX, 4, none⟩ = false := Row.frozen X_5 4
   have lX := Row.lt X_5
   go_upto_region 8 with (fail)
   clear cX1 cX4 fX1 fX4 lX
   have X_6 := Row.set X_5 1 (.int .i64 2)
   have L_6 := Row.far L_5 (p := ⟨gX, 1, none⟩) (fun e => dXL e.symm) (.int .i64 2)
   have A_6 := Lib.hid (Own.setOff A_5.out oXA 1 (.int .i64 2))
   have h6 := h5.set (p := ⟨gX, 1, none⟩) zX hD (.int .i64 2)
   clear X_5 L_5 A_5 h5
   obtain ⟨w6, hw⟩ : ∃ w6, World.setCell w5 ⟨gX, 1, none⟩ (.int .i64 2) = w6 := ⟨_, rfl⟩
   rw [hw] at L_6
   rw [hw] at X_6
   rw [hw] at A_6
   rw [hw] at h6 ⊢
   clear hw
   have X_7 := Row.set X_6 4 (.bool false)
   have L_7 := Row.far L_6 (p := ⟨gX, 4, none⟩) (fun e => dXL e.symm) (.bool false)
   have A_7 := Lib.hid (Own.setOff A_6.out oXA 4 (.bool false))
   have h7 := h6.set (p := ⟨gX, 4, none⟩) zX hD (.bool false)
   clear X_6 L_6 A_6 h6
   obtain ⟨w7, hw⟩ : ∃ w7, World.setCell w6 ⟨gX, 4, none⟩ (.bool false) = w7 := ⟨_, rfl⟩
   rw [hw] at L_7
   rw [hw] at X_7
   rw [hw] at A_7
   rw [hw] at h7 ⊢
   clear hw
   go_wp2_with fail
   refine (NextD 12 h7.dk (by omega) (by omega) (by omega)).mono ?_
   rintro e w8 ⟨r8, hr8, rfl, k8⟩
   have L_8 := k8.row L_7 nL
   have X_8 := k8.row X_7 nX
   have A_8 := Lib.hid (k8.own A_7.out (by omega))
   have h8 := h7.step k8
   clear L_7 X_7 A_7 h7 k8
   cases hb : decide (0 < r8)
   ·have HEND := Lib.hid (And.intro HC.out.skip (And.intro A_8.out (And.intro (h8.more (show _ ≤ m + 5 * (k + 1) by omega)) L_8)))
    clear A_8 L_8 h8 HC HCC cL
    go_wp2_with fail
    go_roundw
    case rel => exact ⟨k + 1, acc, by omega, by go_num, HEND.out⟩
    case measure => simp [intOf]; omega
   ·have cX0 : w8.cell? ⟨gX, 0, none⟩ = some (.string c) := Row.cell X_8 0
    have cX1 : w8.cell? ⟨gX, 1, none⟩ = some (.int .i64 2) := Row.cell X_8 1
    have cX2 : w8.cell? ⟨gX, 2, none⟩ = some (.bool (decide (0 < r1))) := Row.cell X_8 2
    have cX3 : w8.cell? ⟨gX, 3, none⟩ = some (.bool (decide (0 < r2))) := Row.cell X_8 3
    have cX4 : w8.cell? ⟨gX, 4, none⟩ = some (.bool false) := Row.cell X_8 4
    have cX5 : w8.cell? ⟨gX, 5, none⟩ = some (.int .i64 (4000 + r4)) := Row.cell X_8 5
    have lX := Row.lt X_8
    go_wp2_with (at_builtin; refine wpList_append_sl rfl (.tmp 34) (.tmp 36) rfl rowWg (w.heap.size + 1) _ _ (acc.map Wg.vals) ([(⟨c, 2, decide (0 < r1), decide (0 < r2), false, 4000 + r4⟩ : Wg)].map Wg.vals) rfl (A_8.out.alloc _) rfl (Sl.one rfl rfl) (wideWg _) (by have := HC.out.len; simp only [List.length_map]; unfold maxLen; simp; omega) (by have := HC.out.len; simp only [List.length_map]; simp; omega) (by have := L_8.lt; simp only [World.size_alloc]; omega) ?_; intro va wa howna hga _)
    have lta := fun g hg => (A_8.out.1.lt g hg).1
    have ha := (h8.alloc _).other hga (fun g hg => by have := lta g hg; omega) hD
    have Ra := (L_8.alloc _).keep hga (fun e => by have := lta _ e.symm; omega)
    have HEND : Hid (Coded Wg.code WgOk litW (k + 1) (acc ++ [(⟨c, 2, decide (0 < r1), decide (0 < r2), false, 4000 + r4⟩ : Wg)]) ∧ Own wa (w.heap.size + 1) 120 6 va ((acc ++ [(⟨c, 2, decide (0 < r1), decide (0 < r2), false, 4000 + r4⟩ : Wg)]).map Wg.vals) ∧ DS w D (m + 5 * (k + 1)) wa ∧ Row wa w.heap.size 9 (litW.map Value.string).toArray) := ⟨HC.out.snoc hlt HCC.out.symm ⟨.inr rfl, (fun _ => rfl), by show 1000 ≤ 4000 + r4; omega, by show 4000 + r4 ≤ _; omega⟩, by rw [List.map_append]; exact howna, ha.more (by omega), Ra⟩
    clear howna hga lta ha Ra A_8 L_8 h8 HC HCC cL
    go_roundw
    case rel => exact ⟨k + 1, _, by omega, by go_num, HEND.out⟩
    case measure => simp [intOf]; omega
end Go.Proofs.YtogdefomigiepaaGreatDoor
