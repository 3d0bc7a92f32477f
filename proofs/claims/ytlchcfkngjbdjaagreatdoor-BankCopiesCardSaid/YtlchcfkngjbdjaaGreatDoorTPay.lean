/- Payments and files in memory; transfer.Valid, control.Of, control.Check. Written by gen_tpay.py. -/
import Derived.Test.YtlchcfkngjbdjaaGreatDoorProg
import Derived.Test.YtlchcfkngjbdjaaGreatDoorRow
import Derived.Test.YtlchcfkngjbdjaaGreatDoorSet1
import Derived.LoopTactic
namespace Go.Proofs.YtlchcfkngjbdjaaGreatDoor
open Go.RowKit

/-- a payment -/
structure Pay where
  e : Int
  a : Int
deriving DecidableEq
def Pay.vals (p : Pay) : List Value := [.int .i64 p.e, .int .i64 p.a]
def pays (l : List Pay) : List (List Value) := l.map Pay.vals
theorem pays_len (l : List Pay) : (pays l).length = l.length := by simp [pays]
theorem pays_at {l : List Pay} {k : Nat} (h : k < l.length) : (pays l)[k]? = some (l[k]).vals := by simp [pays, h]
theorem pays_append (l m : List Pay) : pays (l ++ m) = pays l ++ pays m := by simp [pays]
theorem pay_wide (p : Pay) : Wide 2 [p.vals] := fun x hx => by
  obtain rfl := List.mem_singleton.1 hx
  exact ⟨rfl, by simp [Pay.vals, Value.oneCell']⟩
theorem pays_wide (l : List Pay) : Wide 2 (pays l) := fun x hx => by
  obtain ⟨p, _, rfl⟩ := List.mem_map.1 hx
  exact ⟨rfl, by simp [Pay.vals, Value.oneCell']⟩
theorem CellsAt.pay {w : World} {b off : Nat} {l : List Pay} (h : CellsAt w 2 b off (pays l)) {k : Nat} (hk : k < l.length) :
    w.cell? ⟨b, off + k * 2, none⟩ = some (.int .i64 (l[k]).e) ∧ w.cell? ⟨b, off + k * 2 + 1, none⟩ = some (.int .i64 (l[k]).a) :=
  ⟨h.2 k _ (pays_at hk) 0 _ rfl, h.2 k _ (pays_at hk) 1 _ rfl⟩
/-- a file -/
structure Fil where
  n : Int
  d : Int
  l : List Pay
deriving DecidableEq
def Fil.vals (f : Fil) (v : Value) : Array Value := #[.int .i64 f.n, .int .i64 f.d, v]
/-- one payment is valid -/
def payV (p : Pay) : Prop := 1 ≤ p.e ∧ p.e ≤ 2147483647 ∧ 1 ≤ p.a ∧ p.a ≤ 1000000000000
instance (p : Pay) : Decidable (payV p) := by unfold payV; infer_instance
/-- valid payments, each for a greater employee than the one before -/
def payOk : Int → List Pay → Bool
  | _, [] => true
  | b, p :: r => decide (b < p.e ∧ p.e ≤ 2147483647 ∧ 1 ≤ p.a ∧ p.a ≤ 1000000000000) && payOk p.e r
def filB (f : Fil) : Bool := decide (1 ≤ f.n ∧ f.n ≤ 256 ∧ 0 ≤ f.d ∧ f.d ≤ 84005 ∧ f.l.length ≤ 4096) && payOk 0 f.l
theorem payOk_step {l : List Pay} {k : Nat} (h : k < l.length) {b : Int} (hb : b < (l[k]).e ∧ (l[k]).e ≤ 2147483647 ∧ 1 ≤ (l[k]).a ∧ (l[k]).a ≤ 1000000000000) :
    payOk b (l.drop k) = payOk (l[k]).e (l.drop (k + 1)) := by
  rw [List.drop_eq_getElem_cons h, payOk, decide_eq_true hb, Bool.true_and]
theorem payOk_stop {l : List Pay} {k : Nat} (h : k < l.length) {b : Int} (hb : ¬ (b < (l[k]).e ∧ (l[k]).e ≤ 2147483647 ∧ 1 ≤ (l[k]).a ∧ (l[k]).a ≤ 1000000000000)) :
    payOk b (l.drop k) = false := by
  rw [List.drop_eq_getElem_cons h, payOk, decide_eq_false hb, Bool.false_and]
theorem payOk_end {l : List Pay} {k : Nat} (h : l.length ≤ k) {b : Int} : payOk b (l.drop k) = true := by
  rw [List.drop_of_length_le h]; rfl
/-- the error of control.Of -/
def ofE (l : List Pay) : Int := if 4096 < l.length then 3 else if l.all (fun p => decide (payV p)) then 0 else 2
def sumA (l : List Pay) : Int := (l.map (·.a)).sum
def sumE (l : List Pay) : Int := (l.map (·.e)).sum
/-- control totals -/
structure Ctl where
  c : Int
  s : Int
  h : Int
deriving DecidableEq
def Ctl.vals (c : Ctl) : Array Value := #[.int .i64 c.c, .int .i64 c.s, .int .i64 c.h]
def ofC (l : List Pay) : Ctl := if ofE l = 0 then ⟨l.length, sumA l, sumE l⟩ else ⟨0, 0, 0⟩
theorem sum_snoc {l : List Pay} {k : Nat} (h : k < l.length) : sumA (l.take (k + 1)) = sumA (l.take k) + (l[k]).a ∧ sumE (l.take (k + 1)) = sumE (l.take k) + (l[k]).e := by
  unfold sumA sumE
  rw [List.take_succ_eq_append_getElem h]
  simp only [List.map_append, List.sum_append, List.map_cons, List.map_nil, List.sum_cons, List.sum_nil]
  omega
theorem sum_bounds : ∀ {l : List Pay}, (∀ p ∈ l, payV p) → (l.length : Int) ≤ sumA l ∧ sumA l ≤ l.length * 1000000000000 ∧ (l.length : Int) ≤ sumE l ∧ sumE l ≤ l.length * 2147483647
  | [], _ => by simp [sumA, sumE]
  | p :: r, h => by
    have ih := sum_bounds (l := r) fun q hq => h q (by simp [hq])
    have hp := h p (by simp)
    unfold payV at hp
    simp only [sumA, sumE, List.map_cons, List.sum_cons, List.length_cons] at ih ⊢
    omega
theorem payOk_all : ∀ {b : Int} {l : List Pay}, 0 ≤ b → payOk b l = true → ∀ p ∈ l, payV p
  | _, [], _, _, p, hp => by cases hp
  | b, q :: r, hb, h, p, hp => by
    rw [payOk, Bool.and_eq_true, decide_eq_true_eq] at h
    rcases List.mem_cons.1 hp with rfl | hp
    · unfold payV; omega
    · exact payOk_all (by omega) h.2 p hp
theorem filB_of {f : Fil} (h : filB f = true) : 1 ≤ f.n ∧ f.n ≤ 256 ∧ 0 ≤ f.d ∧ f.d ≤ 84005 ∧ f.l.length ≤ 4096 ∧ (∀ p ∈ f.l, payV p) ∧ ofE f.l = 0 ∧ ofC f.l = ⟨f.l.length, sumA f.l, sumE f.l⟩ := by
  rw [filB, Bool.and_eq_true, decide_eq_true_eq] at h
  have h2 := payOk_all (Int.le_refl 0) h.2
  have h3 : ofE f.l = 0 := by
    rw [ofE, if_neg (by omega), if_pos (List.all_eq_true.2 fun p hp => decide_eq_true (h2 p hp))]
  exact ⟨h.1.1, h.1.2.1, h.1.2.2.1, h.1.2.2.2.1, h.1.2.2.2.2, h2, h3, by rw [ofC, if_pos h3]⟩


set_option maxRecDepth 100000 in
set_option maxHeartbeats 1000000 in
theorem Valid_any (f : Fil) (v : Value) (w : World) (hv : Sl w 2 v (pays f.l)) :
    Calls Tryz.prog 40 #[.agg (f.vals v)] w fun e w' => e = .returned (.bool (filB f)) ∧ Below w.heap.size w w' := by
  have HV := Lib.hid hv
  obtain ⟨A, cap, rfl, h1, h2, _, _⟩ := hv
  rw [pays_len] at h1 HV ⊢
  unfold maxLen at h2
  obtain ⟨n, d, l⟩ := f
  have hvals : Fil.vals ⟨n, d, l⟩ (.slice A l.length cap) = #[.int .i64 n, .int .i64 d, .slice A l.length cap] := rfl
  simp only [hvals] at h1 HV ⊢
  clear hvals
  by_cases q1 : n < 1
  · have HF : Hid (filB ⟨n, d, l⟩ = false) := by rw [Hid, filB, decide_eq_false (fun h => by simp only at h; omega), Bool.false_and]
    go_enter Tryz.func40, Tryz.ntmps40
    go_wp2
    go_ret
    exact ⟨ret_bool HF.out.symm, (Below.refl _ _).alloc (Nat.le_refl _) _⟩
  by_cases q2 : 256 < n
  · have HF : Hid (filB ⟨n, d, l⟩ = false) := by rw [Hid, filB, decide_eq_false (fun h => by simp only at h; omega), Bool.false_and]
    go_enter Tryz.func40, Tryz.ntmps40
    go_wp2
    go_ret
    exact ⟨ret_bool HF.out.symm, (Below.refl _ _).alloc (Nat.le_refl _) _⟩
  by_cases q3 : d < 0
  · have HF : Hid (filB ⟨n, d, l⟩ = false) := by rw [Hid, filB, decide_eq_false (fun h => by simp only at h; omega), Bool.false_and]
    go_enter Tryz.func40, Tryz.ntmps40
    go_wp2
    go_ret
    exact ⟨ret_bool HF.out.symm, (Below.refl _ _).alloc (Nat.le_refl _) _⟩
  by_cases q4 : 84005 < d
  · have HF : Hid (filB ⟨n, d, l⟩ = false) := by rw [Hid, filB, decide_eq_false (fun h => by simp only at h; omega), Bool.false_and]
    go_enter Tryz.func40, Tryz.ntmps40
    go_wp2
    go_ret
    exact ⟨ret_bool HF.out.symm, (Below.refl _ _).alloc (Nat.le_refl _) _⟩
  by_cases q5 : 4096 < l.length
  · have HF : Hid (filB ⟨n, d, l⟩ = false) := by rw [Hid, filB, decide_eq_false (fun h => by simp only at h; omega), Bool.false_and]
    go_enter Tryz.func40, Tryz.ntmps40
    go_wp2
    go_ret
    exact ⟨ret_bool HF.out.symm, (Below.refl _ _).alloc (Nat.le_refl _) _⟩
  have HF : Hid (filB ⟨n, d, l⟩ = payOk 0 l) := by rw [Hid, filB, decide_eq_true (by simp only; omega), Bool.true_and]
  go_enter Tryz.func40, Tryz.ntmps40
  go_wp2
  have hR := Row.new w 37 #[.int .i64 n, .int .i64 d, .slice A l.length cap]
  have hB := (Below.refl w.heap.size w).alloc (Nat.le_refl _) (.cells #[.int .i64 n, .int .i64 d, .slice A l.length cap] 37)
  obtain ⟨w0, hw0⟩ : ∃ w0, w.alloc (.cells #[.int .i64 n, .int .i64 d, .slice A l.length cap] 37) = w0 := ⟨_, rfl⟩
  rw [hw0] at hR hB ⊢
  clear hw0
  go_loopw [3, 33] (fun p i wr => ∃ k : Nat, ∃ b : Int, k ≤ l.length ∧ i = .int .i64 k ∧ p = .int .i64 b ∧ Below w.heap.size w wr ∧ Hid (payOk 0 l = payOk b (l.drop k))) (fun _ i _ => l.length - (intOf i).toNat)
  case atStart => exact ⟨0, 0, by omega, rfl, rfl, hB, by rw [Hid, List.drop_zero]⟩
  case round =>
    obtain ⟨k, b, hk, rfl, rfl, hb, HK⟩ := hrel
    by_cases hlt : k < l.length
    · obtain ⟨bk, off, rfl, hc0⟩ := (HV.out.below hb).cells (by rw [pays_len]; omega)
      obtain ⟨c0, c1⟩ := hc0.pay hlt
      have hbs := hb.size
      clear hc0 hR hB
      have HS := Lib.hid (fun h => payOk_step hlt (b := b) h)
      have HN := Lib.hid (fun h => payOk_stop hlt (b := b) h)
      obtain ⟨x, hx⟩ : ∃ x, l[k] = x := ⟨_, rfl⟩
      rw [hx] at c0 c1 HS HN
      clear hx
      obtain ⟨pe, pa⟩ := x
      simp only at c0 c1 HS HN
      have go1 : Hid (∀ w', ¬ (b < pe ∧ pe ≤ 2147483647 ∧ 1 ≤ pa ∧ pa ≤ 1000000000000) → Below w.heap.size w w' → Ending.returned (.bool false) = .returned (.bool (filB ⟨n, d, l⟩)) ∧ Below w.heap.size w w') := fun w' h hw => ⟨ret_bool (by rw [HF.out, HK.out, HN.out h]), hw⟩
      by_cases r1 : pe ≤ b
      · go_wp2; go_ret; exact go1.out _ (by omega) (hb.alloc hbs _)
      by_cases r2 : 2147483647 < pe
      · go_wp2; go_ret; exact go1.out _ (by omega) (hb.alloc hbs _)
      by_cases r3 : pa < 1
      · go_wp2; go_ret; exact go1.out _ (by omega) (hb.alloc hbs _)
      by_cases r4 : 1000000000000 < pa
      · go_wp2; go_ret; exact go1.out _ (by omega) (hb.alloc hbs _)
      have HE := Lib.hid (HS.out ⟨by omega, by omega, by omega, by omega⟩)
      clear HS HN go1
      go_wp2
      go_roundw
      case rel => exact ⟨k + 1, pe, by omega, by go_num, rfl, hb.alloc hbs _, HK.out.trans HE.out⟩
      case measure => simp [intOf]; omega
    · go_wp2
      go_ret
      exact ⟨ret_bool (by rw [HF.out, HK.out, payOk_end (by omega)]), hb⟩

/-- the call returns control totals and a number -/
def RetCtl (c : Ctl) (er : Int) (w : World) (e : Ending) (w' : World) : Prop := e = .returned (.tuple #[.agg c.vals, .int .i64 er]) ∧ Below w.heap.size w w'
structure OfS (w : World) (l : List Pay) (r g k : Nat) (s h : Int) (wr : World) : Prop where
  tot : Row wr g 61 #[.int .i64 l.length, .int .i64 s, .int .i64 h]
  res : Row wr r 61 #[.int .i64 0, .int .i64 0, .int .i64 0]
  below : Below w.heap.size w wr
  bnd : (k : Int) ≤ s ∧ s ≤ k * 1000000000000 ∧ (k : Int) ≤ h ∧ h ≤ k * 2147483647
  val : s = sumA (l.take k) ∧ h = sumE (l.take k) ∧ ∀ p ∈ l.take k, payV p
theorem row3 {w : World} {g : Nat} {t : TypeId} {a b c : Value} (h : Row w g t #[a, b, c]) : (w.cell? ⟨g, 0, none⟩ = some a ∧ w.cell? ⟨g, 1, none⟩ = some b ∧ w.cell? ⟨g, 2, none⟩ = some c ∧ g < w.heap.size) ∧ w.frozen? ⟨g, 0, none⟩ = false ∧ w.frozen? ⟨g, 1, none⟩ = false ∧ w.frozen? ⟨g, 2, none⟩ = false := ⟨⟨h.cell 0, h.cell 1, h.cell 2, h.lt⟩, h.frozen 0, h.frozen 1, h.frozen 2⟩
theorem Row.set3 {w : World} {g : Nat} {t : TypeId} {a b c : Value} (h : Row w g t #[a, b, c]) (x y z : Value) : Row (((w.setCell ⟨g, 0, none⟩ x).setCell ⟨g, 1, none⟩ y).setCell ⟨g, 2, none⟩ z) g t #[x, y, z] := ((h.set 0 x).set 1 y).set 2 z
theorem Below.set3 {B : Nat} {w w' : World} {g : Nat} (h : Below B w w') (hg : B ≤ g) (x y z : Value) : Below B w (((w'.setCell ⟨g, 0, none⟩ x).setCell ⟨g, 1, none⟩ y).setCell ⟨g, 2, none⟩ z) := ((h.setCell (p := ⟨g, 0, none⟩) hg _).setCell (p := ⟨g, 1, none⟩) hg _).setCell (p := ⟨g, 2, none⟩) hg _
theorem row_new2 (w : World) (t t' : TypeId) (a b : Array Value) : Row ((w.alloc (.cells a t)).alloc (.cells b t')) w.heap.size t a ∧ Row ((w.alloc (.cells a t)).alloc (.cells b t')) (w.heap.size + 1) t' b ∧ Below w.heap.size w ((w.alloc (.cells a t)).alloc (.cells b t')) := by
  refine ⟨(Row.new w t a).alloc _, ?_, ((Below.refl _ _).alloc (Nat.le_refl _) _).alloc (by simp) _⟩
  have := Row.new (w.alloc (.cells a t)) t' b
  rwa [World.size_alloc] at this
set_option maxRecDepth 100000 in
set_option maxHeartbeats 1000000 in
theorem Of_any (v : Value) (l : List Pay) (w : World) (hv : Sl w 2 v (pays l)) :
    Calls Tryz.prog 45 #[v] w (RetCtl (ofC l) (ofE l) w) := by
  have HV := Lib.hid hv
  obtain ⟨A, cap, rfl, h1, h2, _, _⟩ := hv
  rw [pays_len] at h1 HV ⊢
  unfold maxLen at h2
  by_cases hl : 4096 < l.length
  · have HF : Hid (ofE l = 3 ∧ ofC l = ⟨0, 0, 0⟩) := by
      have : ofE l = 3 := by rw [ofE, if_pos hl]
      exact ⟨this, by rw [ofC, this, if_neg (by decide)]⟩
    go_enter Tryz.func45, Tryz.ntmps45
    go_wp2
    refine bodyPost_ret (v := .tuple #[.agg #[.int .i64 0, .int .i64 0, .int .i64 0], .int .i64 3]) (by simp [results, Tryz.results45, go_sem]) rfl ?_
    rw [RetCtl, HF.out.1, HF.out.2]
    exact ⟨rfl, (Below.refl _ _).alloc (Nat.le_refl _) _⟩
  go_enter Tryz.func45, Tryz.ntmps45
  go_wp2
  obtain ⟨hR, hG, hB⟩ := row_new2 w 61 61 #[.int .i64 0, .int .i64 0, .int .i64 0] #[.int .i64 l.length, .int .i64 0, .int .i64 0]
  obtain ⟨w0, hw0⟩ : ∃ w0, (w.alloc (.cells #[.int .i64 0, .int .i64 0, .int .i64 0] 61)).alloc (.cells #[.int .i64 l.length, .int .i64 0, .int .i64 0] 61) = w0 := ⟨_, rfl⟩
  rw [hw0] at hR hG hB ⊢
  clear hw0
  obtain ⟨g, hg⟩ : ∃ g, w.heap.size + 1 = g := ⟨_, rfl⟩
  rw [hg] at hG ⊢
  obtain ⟨r, hr⟩ : ∃ r, w.heap.size = r := ⟨_, rfl⟩
  rw [hr] at hR ⊢
  have hgr : g ≠ r := by omega
  have hgw : w.heap.size ≤ g ∧ w.heap.size ≤ r := by omega
  have hO : OfS w l r g 0 0 0 w0 := ⟨hG, hR, hB, by omega, by simp [sumA, sumE]⟩
  clear hG hR hB hg
  go_loopw [16] (fun i wr => ∃ k : Nat, ∃ s h : Int, k ≤ l.length ∧ i = .int .i64 k ∧ OfS w l r g k s h wr) (fun i _ => l.length - (intOf i).toNat)
  case atStart => exact ⟨0, 0, 0, by omega, rfl, hO⟩
  case round =>
    clear hO
    obtain ⟨k, s, h, hk, rfl, ho⟩ := hrel
    obtain ⟨wo, rfl⟩ : ∃ wo : World, wo = wr := ⟨_, rfl⟩
    by_cases hlt : k < l.length
    · obtain ⟨bk, off, rfl, hc0⟩ := (HV.out.below ho.below).cells (by rw [pays_len]; omega)
      obtain ⟨c0, c1⟩ := hc0.pay hlt
      have hcl := hc0.1
      have hbs := ho.below.size
      clear hc0
      obtain ⟨b1, b2, b3, b4⟩ := ho.bnd
      have HO := Lib.hid ho
      have HSN := Lib.hid (sum_snoc hlt)
      have HTK := Lib.hid (fun p => (show p ∈ l.take (k + 1) ↔ p ∈ l.take k ∨ p = l[k] by rw [List.take_succ_eq_append_getElem hlt, List.mem_append, List.mem_singleton]))
      have HBAD : Hid (¬ payV l[k] → ofE l = 2 ∧ ofC l = ⟨0, 0, 0⟩) := fun hn => by
        have : ofE l = 2 := by rw [ofE, if_neg (by omega), if_neg (fun ha : l.all (fun p => decide (payV p)) = true => hn (of_decide_eq_true (List.all_eq_true.1 ha l[k] (List.getElem_mem hlt))))]
        exact ⟨this, by rw [ofC, this, if_neg (by decide)]⟩
      obtain ⟨x, hx⟩ : ∃ x, l[k] = x := ⟨_, rfl⟩
      rw [hx] at c0 c1 HSN HTK HBAD
      clear hx ho
      obtain ⟨pe, pa⟩ := x
      simp only at c0 c1 HSN
      obtain ⟨⟨t0, t1, t2, tl⟩, f0, f1, f2⟩ := row3 HO.out.tot
      obtain ⟨⟨s0, s1, s2, sl⟩, e0, e1, e2⟩ := row3 HO.out.res
      by_cases r1 : pe < 1
      · have HF := Lib.hid (HBAD.out (by unfold payV; simp only; omega))
        have hq := Below.set3 HO.out.below hgw.2 (.int .i64 0) (.int .i64 0) (.int .i64 0)
        have hQ := hq.alloc hq.size (.cells #[.int .i64 pe, .int .i64 pa] 46)
        obtain ⟨⟨z0, z1, z2, _⟩, _⟩ := row3 ((Row.set3 HO.out.res (.int .i64 0) (.int .i64 0) (.int .i64 0)).alloc (.cells #[.int .i64 pe, .int .i64 pa] 46))
        have HQ := Lib.hid hQ
        clear hq hQ
        have HZ := Lib.hid (And.intro z0 (And.intro z1 z2))
        clear z0 z1 z2
        go_wp2
        obtain ⟨z0, z1, z2⟩ := HZ.out
        refine bodyPost_ret (v := .tuple #[.agg #[.int .i64 0, .int .i64 0, .int .i64 0], .int .i64 2]) (by simp only [results, Tryz.results45, go_sem]; simp [z0, z1, z2, go_sem]) rfl ?_
        rw [RetCtl, HF.out.1, HF.out.2]
        exact ⟨rfl, HQ.out⟩
      by_cases r2 : 2147483647 < pe
      · have HF := Lib.hid (HBAD.out (by unfold payV; simp only; omega))
        have hq := Below.set3 HO.out.below hgw.2 (.int .i64 0) (.int .i64 0) (.int .i64 0)
        have hQ := hq.alloc hq.size (.cells #[.int .i64 pe, .int .i64 pa] 46)
        obtain ⟨⟨z0, z1, z2, _⟩, _⟩ := row3 ((Row.set3 HO.out.res (.int .i64 0) (.int .i64 0) (.int .i64 0)).alloc (.cells #[.int .i64 pe, .int .i64 pa] 46))
        have HQ := Lib.hid hQ
        clear hq hQ
        have HZ := Lib.hid (And.intro z0 (And.intro z1 z2))
        clear z0 z1 z2
        go_wp2
        obtain ⟨z0, z1, z2⟩ := HZ.out
        refine bodyPost_ret (v := .tuple #[.agg #[.int .i64 0, .int .i64 0, .int .i64 0], .int .i64 2]) (by simp only [results, Tryz.results45, go_sem]; simp [z0, z1, z2, go_sem]) rfl ?_
        rw [RetCtl, HF.out.1, HF.out.2]
        exact ⟨rfl, HQ.out⟩
      by_cases r3 : pa < 1
      · have HF := Lib.hid (HBAD.out (by unfold payV; simp only; omega))
        have hq := Below.set3 HO.out.below hgw.2 (.int .i64 0) (.int .i64 0) (.int .i64 0)
        have hQ := hq.alloc hq.size (.cells #[.int .i64 pe, .int .i64 pa] 46)
        obtain ⟨⟨z0, z1, z2, _⟩, _⟩ := row3 ((Row.set3 HO.out.res (.int .i64 0) (.int .i64 0) (.int .i64 0)).alloc (.cells #[.int .i64 pe, .int .i64 pa] 46))
        have HQ := Lib.hid hQ
        clear hq hQ
        have HZ := Lib.hid (And.intro z0 (And.intro z1 z2))
        clear z0 z1 z2
        go_wp2
        obtain ⟨z0, z1, z2⟩ := HZ.out
        refine bodyPost_ret (v := .tuple #[.agg #[.int .i64 0, .int .i64 0, .int .i64 0], .int .i64 2]) (by simp only [results, Tryz.results45, go_sem]; simp [z0, z1, z2, go_sem]) rfl ?_
        rw [RetCtl, HF.out.1, HF.out.2]
        exact ⟨rfl, HQ.out⟩
      by_cases r4 : 1000000000000 < pa
      · have HF := Lib.hid (HBAD.out (by unfold payV; simp only; omega))
        have hq := Below.set3 HO.out.below hgw.2 (.int .i64 0) (.int .i64 0) (.int .i64 0)
        have hQ := hq.alloc hq.size (.cells #[.int .i64 pe, .int .i64 pa] 46)
        obtain ⟨⟨z0, z1, z2, _⟩, _⟩ := row3 ((Row.set3 HO.out.res (.int .i64 0) (.int .i64 0) (.int .i64 0)).alloc (.cells #[.int .i64 pe, .int .i64 pa] 46))
        have HQ := Lib.hid hQ
        clear hq hQ
        have HZ := Lib.hid (And.intro z0 (And.intro z1 z2))
        clear z0 z1 z2
        go_wp2
        obtain ⟨z0, z1, z2⟩ := HZ.out
        refine bodyPost_ret (v := .tuple #[.agg #[.int .i64 0, .int .i64 0, .int .i64 0], .int .i64 2]) (by simp only [results, Tryz.results45, go_sem]; simp [z0, z1, z2, go_sem]) rfl ?_
        rw [RetCtl, HF.out.1, HF.out.2]
        exact ⟨rfl, HQ.out⟩
      have HP : Hid (payV ⟨pe, pa⟩) := by unfold Hid payV; simp only; omega
      clear s0 s1 s2 e0 e1 e2
      go_wp2
      go_roundw
      case rel =>
        have hT := HO.out.tot
        have hR := HO.out.res
        have hB := HO.out.below
        refine ⟨k + 1, s + pa, h + pe, by omega, by go_num, ?_, ?_, ?_, by omega, ?_⟩
        · exact ((hT.set 1 _).set 2 _).alloc _
        · exact ((hR.far (p := ⟨g, 1, none⟩) hgr.symm _).far (p := ⟨g, 2, none⟩) hgr.symm _).alloc _
        · have q := (hB.setCell (p := ⟨g, 1, none⟩) hgw.1 (.int .i64 (s + pa))).setCell (p := ⟨g, 2, none⟩) hgw.1 (.int .i64 (h + pe))
          exact q.alloc q.size _
        · refine ⟨by rw [HSN.out.1, HO.out.val.1], by rw [HSN.out.2, HO.out.val.2.1], fun p hp => ?_⟩
          rcases (HTK.out p).1 hp with hp | rfl
          · exact HO.out.val.2.2 p hp
          · exact HP.out
      case measure => simp [intOf]; omega
    · obtain rfl : k = l.length := by omega
      obtain ⟨v1, v2, v3⟩ := ho.val
      rw [List.take_length] at v1 v2 v3
      have HF : Hid (ofE l = 0 ∧ ofC l = ⟨l.length, s, h⟩) := by
        have : ofE l = 0 := by rw [ofE, if_neg (by omega), if_pos (List.all_eq_true.2 fun p hp => decide_eq_true (v3 p hp))]
        exact ⟨this, by rw [ofC, if_pos this, v1, v2]⟩
      clear v1 v2 v3
      obtain ⟨⟨t0, t1, t2, tl⟩, f0, f1, f2⟩ := row3 ho.tot
      obtain ⟨⟨s0, s1, s2, sl⟩, e0, e1, e2⟩ := row3 ho.res
      have HO := Lib.hid ho
      clear ho
      go_wp2
      refine bodyPost_ret (v := .tuple #[.agg #[.int .i64 l.length, .int .i64 s, .int .i64 h], .int .i64 0]) (by simp [results, Tryz.results45, go_sem, s0, s1, s2]) rfl ?_
      rw [RetCtl, HF.out.1, HF.out.2]
      exact ⟨rfl, Below.set3 HO.out.below hgw.2 _ _ _⟩

theorem neCtl (a b : Ctl) (w : World) : (binOp .neq 61 (.agg a.vals) (.agg b.vals)).run Tryz.prog w = .ok (.bool (!decide (a = b))) w := by
  obtain ⟨a0, a1, a2⟩ := a
  obtain ⟨b0, b1, b2⟩ := b
  simp only [Ctl.vals, Ctl.mk.injEq, Bool.decide_and]
  by_cases h0 : a0 = b0 <;> by_cases h1 : a1 = b1 <;> by_cases h2 : a2 = b2 <;> simp [h0, h1, h2, go_sem]
def checkE (l : List Pay) (c : Ctl) : Int := if ofE l = 0 then (if ofC l = c then 0 else 17) else ofE l
set_option maxRecDepth 100000 in
set_option maxHeartbeats 1000000 in
theorem Check_any (v : Value) (l : List Pay) (c : Ctl) (w : World) (hv : Sl w 2 v (pays l)) :
    Calls Tryz.prog 41 #[v, .agg c.vals] w fun e w' => e = .returned (.int .i64 (checkE l c)) ∧ Below w.heap.size w w' := by
  have HV := Lib.hid hv
  clear hv
  have HC : Hid (c.vals = #[.int .i64 c.c, .int .i64 c.s, .int .i64 c.h]) := rfl
  rw [HC.out]
  have HE : Hid (checkE l c = if ofE l = 0 then (if ofC l = c then 0 else 17) else ofE l) := rfl
  obtain ⟨o, ho⟩ : ∃ o, ofC l = o := ⟨_, rfl⟩
  obtain ⟨er, her⟩ : ∃ er, ofE l = er := ⟨_, rfl⟩
  rw [ho, her] at HE
  have HN := Lib.hid (neCtl o c)
  have HO : Hid (o.vals = #[.int .i64 o.c, .int .i64 o.s, .int .i64 o.h]) := rfl
  rw [HO.out, HC.out] at HN
  go_enter Tryz.func41, Tryz.ntmps41
  go_wp2_with fail
  have hB0 := (Below.refl w.heap.size w).alloc (Nat.le_refl _) (.cells #[.int .i64 c.c, .int .i64 c.s, .int .i64 c.h] 61)
  have hR0 := Row.new w 61 #[.int .i64 c.c, .int .i64 c.s, .int .i64 c.h]
  obtain ⟨w0, hw0⟩ : ∃ w0, w.alloc (.cells #[.int .i64 c.c, .int .i64 c.s, .int .i64 c.h] 61) = w0 := ⟨_, rfl⟩
  rw [hw0] at hB0 hR0 ⊢
  clear hw0
  refine (Of_any _ l _ (HV.out.below hB0)).mono ?_
  rw [ho, her]
  rintro e w1 ⟨rfl, hb1⟩
  rw [HO.out]
  have hB1 := below_after hB0 hb1 hB0.size
  have hR1 := hR0.below hb1 hR0.lt
  clear ho her hB0 hR0 hb1
  have hbs := hB1.size
  by_cases h0 : er = 0
  · subst h0
    obtain ⟨⟨t0, t1, t2, tl⟩, _⟩ := row3 hR1
    by_cases hoc : o = c
    · have n1 := HN.out
      rw [decide_eq_true hoc] at n1
      have HF : Hid (checkE l c = 0) := by rw [Hid, HE.out, if_pos rfl, if_pos hoc]
      clear hoc HN HE
      go_wp2
      go_ret
      exact ⟨ret_int HF.out.symm, hB1.alloc hbs _⟩
    · have n1 := HN.out
      rw [decide_eq_false hoc] at n1
      have HF : Hid (checkE l c = 17) := by rw [Hid, HE.out, if_pos rfl, if_neg hoc]
      clear hoc HN HE
      go_wp2
      go_ret
      exact ⟨ret_int HF.out.symm, hB1.alloc hbs _⟩
  · have hne : (er != 0) = true := by simpa using h0
    have HF : Hid (checkE l c = er) := by rw [Hid, HE.out, if_neg h0]
    clear h0 HN HE
    go_wp2
    go_ret
    exact ⟨ret_int HF.out.symm, hB1.alloc hbs _⟩
end Go.Proofs.YtlchcfkngjbdjaaGreatDoor
