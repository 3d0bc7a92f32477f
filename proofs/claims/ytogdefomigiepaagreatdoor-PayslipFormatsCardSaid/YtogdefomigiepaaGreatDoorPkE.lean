/- Contracts and plain facts that the laws of this seat share, part 5. -/
import Derived.Test.YtogdefomigiepaaGreatDoorPkD
import Derived.Test.YtogdefomigiepaaGreatDoorPkB
import Derived.Test.YtogdefomigiepaaGreatDoorPkC
import Derived.Deep.QuietTactic
import Derived.BigQuiet
import Derived.BigRegion
import Derived.Deep.CutBlock
import Derived.Deep.DeepCutAuto
import Derived.RegionTactic
set_option linter.unusedVariables false
set_option linter.unusedSimpArgs false
/- Contracts of payrollref28.in, all, Valid, levy, cumulated, next. Written by gen_r28.py. -/
namespace Go.Proofs.YtogdefomigiepaaGreatDoor
open Go.RowKit

theorem in28_ok {n : Int} (w : World) (h : 0 ≤ n ∧ n ≤ 1000000000) :
  Calls Tryz.prog 90 #[.int .i64 n] w fun e w' => e = .returned (.bool true) ∧ w = w' := by
 obtain ⟨h1, h2⟩ := h
 go_enter Tryz.func90, Tryz.ntmps90
 go_wp2
 go_ret
 exact ⟨rfl, rfl⟩
theorem Sl.intAt {w : World} {A : Option Addr} {n cap : Nat} {l : List Int} (h : Sl w 1 (.slice A n cap) (ints l)) {k : Nat} (hk : k < l.length) : ∃ b off, A = some ⟨b, off, none⟩ ∧ CellsAt w 1 b off (ints l) ∧ w.cell? ⟨b, off + k, none⟩ = some (.int .i64 l[k]) := by
 obtain ⟨b, off, hA, hc⟩ := h.cells (by rw [ints_len]; omega)
 refine ⟨b, off, hA, hc, ?_⟩
 have := hc.at (k := k) (x := [.int .i64 l[k]]) (by simp [ints, hk]) 0 rfl
 rwa [Nat.mul_one, Nat.add_zero] at this
set_option maxRecDepth 100000 in
set_option maxHeartbeats 4000000 in
theorem all_ok (l : List Int) (v : Value) (w : World) (hv : Sl w 1 v (ints l)) (ha : ∀ x ∈ l, 0 ≤ x ∧ x ≤ 1000000000) :
  Calls Tryz.prog 91 #[v] w fun e w' => e = .returned (.bool true) ∧ w = w' := by
 have HV := Lib.hid hv
 have HO := Lib.hid ha
 obtain ⟨A, cap, rfl, h1, h2, _, _⟩ := hv
 rw [ints_len] at h1 HV ⊢
 unfold maxLen at h2
 clear ha
 go_enter Tryz.func91, Tryz.ntmps91
 go_wp2_with fail
 go_loop [3] (fun i => ∃ k : Nat, k ≤ l.length ∧ i = .int .i64 k) (fun i => l.length - (intOf i).toNat)
 case atStart => exact ⟨0, by omega, rfl⟩
 case round =>
  obtain ⟨k, hk, rfl⟩ := hrel
  by_cases hlt : k < l.length
  ·obtain ⟨bk, off, rfl, hc, c0⟩ := HV.out.intAt hlt
   have hbl := hc.1
   have i1 : (k : Int) < (l.length : Int) := by omega
   have HW := HO.out _ (List.getElem_mem hlt)
   obtain ⟨x, hx⟩ : ∃ x, l[k] = x := ⟨_, rfl⟩
   rw [hx] at HW c0
   have HI := Lib.hid (in28_ok w HW)
   clear hx hc HW
   go_wp2_with fail
   refine HI.out.mono ?_
   rintro e w1 ⟨rfl, rfl⟩
   go_wp2_with fail
   go_round
   case rel => exact ⟨k + 1, by omega, by go_num⟩
   case measure => simp [intOf]; omega
  ·obtain rfl : k = l.length := by omega
   go_wp2
   go_ret
   exact ⟨rfl, rfl⟩
set_option maxRecDepth 100000 in
set_option maxHeartbeats 4000000 in
theorem Scheme_ok (s : Sc) (hs : ScOk s) (w : World) :
  Calls Tryz.prog 89 #[.agg s.vals.toArray] w fun e w' => e = .returned (.bool true) ∧ Below w.heap.size w w' := by
 obtain ⟨code, ee, er, fl, ce, un, mo, de⟩ := s
 obtain ⟨hn, ⟨a1, a2⟩, ⟨b1, b2⟩, ⟨f1, f2⟩, ⟨c1, c2⟩, ⟨u1, u2⟩, hm⟩ := hs
 dsimp only at hn a1 a2 b1 b2 f1 f2 c1 c2 u1 u2 hm
 have HF := Lib.hid fun w => refIsName_any code w
 have HM := Lib.hid fun w => rMode_any mo w
 rw [hn] at HF
 rw [hm] at HM
 clear hn hm
 show Calls Tryz.prog 89 #[.agg #[.string code, .int .i64 ee, .int .i64 er, .int .i64 fl, .int .i64 ce, .int .i64 un, .int .i64 mo, .bool de]] w _
 go_enter Tryz.func89, Tryz.ntmps89
 go_upto_region 1 with (fail)
 have kk : Below w.heap.size w (w.alloc (.cells #[.string code, .int .i64 ee, .int .i64 er, .int .i64 fl, .int .i64 ce, .int .i64 un, .int .i64 mo, .bool de] 131)) := (Below.refl _ _).alloc (Nat.le_refl _) _
 have S_1 := Row.new w 131 #[.string code, .int .i64 ee, .int .i64 er, .int .i64 fl, .int .i64 ce, .int .i64 un, .int .i64 mo, .bool de]
 have hsS : (w.alloc (.cells #[.string code, .int .i64 ee, .int .i64 er, .int .i64 fl, .int .i64 ce, .int .i64 un, .int .i64 mo, .bool de] 131)).heap.size = w.heap.size + 1 := by simp
 obtain ⟨w1, hw⟩ : ∃ w1, w.alloc (.cells #[.string code, .int .i64 ee, .int .i64 er, .int .i64 fl, .int .i64 ce, .int .i64 un, .int .i64 mo, .bool de] 131) = w1 := ⟨_, rfl⟩
 rw [hw] at kk S_1 hsS ⊢
 clear hw
 obtain ⟨gS, hg⟩ : ∃ gS, w.heap.size = gS := ⟨_, rfl⟩
 rw [hg] at S_1 hsS ⊢
 have zS : w.heap.size ≤ gS := by omega
 clear hg
 have b1 := Lib.hid kk
 clear kk
 have cS0 : w1.cell? ⟨gS, 0, none⟩ = some (.string code) := Row.cell S_1 0
 have cS1 : w1.cell? ⟨gS, 1, none⟩ = some (.int .i64 ee) := Row.cell S_1 1
 have cS2 : w1.cell? ⟨gS, 2, none⟩ = some (.int .i64 er) := Row.cell S_1 2
 have cS3 : w1.cell? ⟨gS, 3, none⟩ = some (.int .i64 fl) := Row.cell S_1 3
 have cS4 : w1.cell? ⟨gS, 4, none⟩ = some (.int .i64 ce) := Row.cell S_1 4
 have cS5 : w1.cell? ⟨gS, 5, none⟩ = some (.int .i64 un) := Row.cell S_1 5
 have cS6 : w1.cell? ⟨gS, 6, none⟩ = some (.int .i64 mo) := Row.cell S_1 6
 have cS7 : w1.cell? ⟨gS, 7, none⟩ = some (.bool de) := Row.cell S_1 7
 have lS := Row.lt S_1
 go_wp2_with fail
 refine (HF.out _).mono ?_
 rintro e w2 ⟨rfl, k2⟩
 have S_2 := Row.below S_1 k2 S_1.lt
 have b2 := Lib.hid (below_after b1.out k2 b1.out.size)
 clear S_1 b1 k2
 have cS0 : w2.cell? ⟨gS, 0, none⟩ = some (.string code) := Row.cell S_2 0
 have cS1 : w2.cell? ⟨gS, 1, none⟩ = some (.int .i64 ee) := Row.cell S_2 1
 have cS2 : w2.cell? ⟨gS, 2, none⟩ = some (.int .i64 er) := Row.cell S_2 2
 have cS3 : w2.cell? ⟨gS, 3, none⟩ = some (.int .i64 fl) := Row.cell S_2 3
 have cS4 : w2.cell? ⟨gS, 4, none⟩ = some (.int .i64 ce) := Row.cell S_2 4
 have cS5 : w2.cell? ⟨gS, 5, none⟩ = some (.int .i64 un) := Row.cell S_2 5
 have cS6 : w2.cell? ⟨gS, 6, none⟩ = some (.int .i64 mo) := Row.cell S_2 6
 have cS7 : w2.cell? ⟨gS, 7, none⟩ = some (.bool de) := Row.cell S_2 7
 have lS := Row.lt S_2
 go_wp2_with fail
 refine (HM.out _).mono ?_
 rintro e _ ⟨rfl, rfl⟩
 go_wp2_with fail
 go_ret
 exact ⟨rfl, b2.out⟩
set_option maxRecDepth 100000 in
set_option maxHeartbeats 4000000 in
theorem levy_ok (s : Sc) (hs : ScOk s) (b : Int) (hb : 0 ≤ b ∧ b ≤ 1000000000) (w : World) :
  Calls Tryz.prog 126 #[.agg s.vals.toArray, .int .i64 b] w fun e w' => e = .returned (.agg (levyI s b).vals.toArray) ∧ Below w.heap.size w w' := by
 obtain ⟨code, ee, er, fl, ce, un, mo, de⟩ := s
 obtain ⟨hn, a1, b1, f1, c1, u1, hm⟩ := hs
 dsimp only at hn a1 b1 f1 c1 u1 hm
 have H1 := Lib.hid fun w => Part_any b ee un mo w hb a1 u1 hm
 have H2 := Lib.hid fun w => Part_any b er un mo w hb b1 u1 hm
 clear hn hm
 show Calls Tryz.prog 126 #[.agg #[.string code, .int .i64 ee, .int .i64 er, .int .i64 fl, .int .i64 ce, .int .i64 un, .int .i64 mo, .bool de], .int .i64 b] w fun e w' => e = .returned (.agg #[.int .i64 b, .int .i64 (partI b ee un mo), .int .i64 (partI b er un mo)]) ∧ Below w.heap.size w w'
 obtain ⟨pa, hpa⟩ : ∃ pa, partI b ee un mo = pa := ⟨_, rfl⟩
 obtain ⟨pb, hpb⟩ : ∃ pb, partI b er un mo = pb := ⟨_, rfl⟩
 rw [hpa] at H1 ⊢
 rw [hpb] at H2 ⊢
 clear hpa hpb
 go_enter Tryz.func126, Tryz.ntmps126
 go_upto_region 1 with (fail)
 have kk : Below w.heap.size w (w.alloc (.cells #[.string code, .int .i64 ee, .int .i64 er, .int .i64 fl, .int .i64 ce, .int .i64 un, .int .i64 mo, .bool de] 131)) := (Below.refl _ _).alloc (Nat.le_refl _) _
 have S_1 := Row.new w 131 #[.string code, .int .i64 ee, .int .i64 er, .int .i64 fl, .int .i64 ce, .int .i64 un, .int .i64 mo, .bool de]
 have hsS : (w.alloc (.cells #[.string code, .int .i64 ee, .int .i64 er, .int .i64 fl, .int .i64 ce, .int .i64 un, .int .i64 mo, .bool de] 131)).heap.size = w.heap.size + 1 := by simp
 obtain ⟨w1, hw⟩ : ∃ w1, w.alloc (.cells #[.string code, .int .i64 ee, .int .i64 er, .int .i64 fl, .int .i64 ce, .int .i64 un, .int .i64 mo, .bool de] 131) = w1 := ⟨_, rfl⟩
 rw [hw] at kk S_1 hsS ⊢
 clear hw
 obtain ⟨gS, hg⟩ : ∃ gS, w.heap.size = gS := ⟨_, rfl⟩
 rw [hg] at S_1 hsS ⊢
 have zS : w.heap.size ≤ gS := by omega
 clear hg
 have b1 := Lib.hid kk
 clear kk
 have kk : Below w1.heap.size w1 (w1.alloc (.cells #[.int .i64 0, .int .i64 0, .int .i64 0] 133)) := (Below.refl _ _).alloc (Nat.le_refl _) _
 have R_2 := Row.new w1 133 #[.int .i64 0, .int .i64 0, .int .i64 0]
 have hsR : (w1.alloc (.cells #[.int .i64 0, .int .i64 0, .int .i64 0] 133)).heap.size = w1.heap.size + 1 := by simp
 obtain ⟨w2, hw⟩ : ∃ w2, w1.alloc (.cells #[.int .i64 0, .int .i64 0, .int .i64 0] 133) = w2 := ⟨_, rfl⟩
 rw [hw] at kk R_2 hsR ⊢
 clear hw
 obtain ⟨gR, hg⟩ : ∃ gR, gS + 1 = gR := ⟨_, rfl⟩
 rw [hsS, hg] at R_2 hsR
 rw [hg]
 have hg : w1.heap.size = gR := by rw [hsS, hg]
 have zR : w.heap.size ≤ gR := by have := b1.out.size; omega
 clear hg hsS
 have S_2 := Row.below S_1 kk S_1.lt
 have b2 := Lib.hid (below_after b1.out kk b1.out.size)
 clear S_1 b1 kk
 have cS0 : w2.cell? ⟨gS, 0, none⟩ = some (.string code) := Row.cell S_2 0
 have cS1 : w2.cell? ⟨gS, 1, none⟩ = some (.int .i64 ee) := Row.cell S_2 1
 have cS2 : w2.cell? ⟨gS, 2, none⟩ = some (.int .i64 er) := Row.cell S_2 2
 have cS3 : w2.cell? ⟨gS, 3, none⟩ = some (.int .i64 fl) := Row.cell S_2 3
 have cS4 : w2.cell? ⟨gS, 4, none⟩ = some (.int .i64 ce) := Row.cell S_2 4
 have cS5 : w2.cell? ⟨gS, 5, none⟩ = some (.int .i64 un) := Row.cell S_2 5
 have cS6 : w2.cell? ⟨gS, 6, none⟩ = some (.int .i64 mo) := Row.cell S_2 6
 have cS7 : w2.cell? ⟨gS, 7, none⟩ = some (.bool de) := Row.cell S_2 7
 have lS := Row.lt S_2
 go_wp2_with fail
 refine (H1.out _).mono ?_
 rintro e _ ⟨rfl, rfl⟩
 go_wp2_with fail
 refine (H2.out _).mono ?_
 rintro e _ ⟨rfl, rfl⟩
 go_wp2_with (refine wpList_storeRow rfl 133 (.tmp 4) (.tmp 34) rfl #[.int .i64 b, .int .i64 pa, .int .i64 pb] rfl rfl R_2 (by simp) (by kernel_rfl) (by simp [Value.oneCell']) (by rfl) ?_; intro wZ RZ gZ _)
 have bZ : Below w.heap.size w wZ := b2.out.grown gZ b2.out.size (fun g hg => by injection hg; omega)
 refine bodyPost_ret (v := .agg #[.int .i64 b, .int .i64 pa, .int .i64 pb]) (results_row rfl _ rfl RZ Tryz.underlying133 rfl (by kernel_rfl)) rfl ⟨rfl, bZ⟩
set_option maxRecDepth 100000 in
set_option maxHeartbeats 4000000 in
theorem cumulated_ok (s : Sc) (hce : 0 ≤ s.ceil ∧ s.ceil ≤ 1000000000) (l : List Int) (v : Value) (w : World) (hv : Sl w 1 v (ints l)) (hl : l.length ≤ 100) (ha : ∀ x ∈ l, 0 ≤ x ∧ x ≤ 1000000000) :
  Calls Tryz.prog 127 #[.agg s.vals.toArray, v] w fun e w' => e = .returned (.int .i64 (cumI s.floor s.ceil l)) ∧ Below w.heap.size w w' := by
 have HV := Lib.hid hv
 have HO := Lib.hid ha
 have hq := qual_le (f := s.floor) ha
 have hq2 : qual s.floor l ≤ 100000000000 := by
  have : (1000000000 : Int) * l.length ≤ 1000000000 * 100 := Int.mul_le_mul_of_nonneg_left (by omega) (by omega)
  omega
 have hcm : 0 ≤ (l.length : Int) * s.ceil ∧ (l.length : Int) * s.ceil ≤ 100 * 1000000000 := ⟨Int.mul_nonneg (by omega) hce.1, Int.le_trans (Int.mul_le_mul_of_nonneg_right (show (l.length : Int) ≤ 100 by omega) hce.1) (Int.mul_le_mul_of_nonneg_left hce.2 (by omega))⟩
 obtain ⟨A, cap, rfl, h1, h2, _, _⟩ := hv
 rw [ints_len] at h1 HV ⊢
 unfold maxLen at h2
 obtain ⟨code, ee, er, fl, ce, un, mo, de⟩ := s
 dsimp only at hq hq2 hcm hce ⊢
 have HC : Hid (cumI fl ce l = min (qual fl l) ((l.length : Int) * ce)) := rfl
 have hw1 : IntKind.i64.wrap ((l.length : Int) * ce) = (l.length : Int) * ce := IntWalk.i64_in _ (by omega)
 obtain ⟨P, hP⟩ : ∃ P, (l.length : Int) * ce = P := ⟨_, rfl⟩
 rw [hP] at hcm hw1 HC
 clear ha hq
 show Calls Tryz.prog 127 #[.agg #[.string code, .int .i64 ee, .int .i64 er, .int .i64 fl, .int .i64 ce, .int .i64 un, .int .i64 mo, .bool de], .slice A l.length cap] w _
 go_enter Tryz.func127, Tryz.ntmps127
 go_upto_region 1 with (fail)
 have kk : Below w.heap.size w (w.alloc (.cells #[.string code, .int .i64 ee, .int .i64 er, .int .i64 fl, .int .i64 ce, .int .i64 un, .int .i64 mo, .bool de] 131)) := (Below.refl _ _).alloc (Nat.le_refl _) _
 have S_1 := Row.new w 131 #[.string code, .int .i64 ee, .int .i64 er, .int .i64 fl, .int .i64 ce, .int .i64 un, .int .i64 mo, .bool de]
 have hsS : (w.alloc (.cells #[.string code, .int .i64 ee, .int .i64 er, .int .i64 fl, .int .i64 ce, .int .i64 un, .int .i64 mo, .bool de] 131)).heap.size = w.heap.size + 1 := by simp
 obtain ⟨w1, hw⟩ : ∃ w1, w.alloc (.cells #[.string code, .int .i64 ee, .int .i64 er, .int .i64 fl, .int .i64 ce, .int .i64 un, .int .i64 mo, .bool de] 131) = w1 := ⟨_, rfl⟩
 rw [hw] at kk S_1 hsS ⊢
 clear hw
 obtain ⟨gS, hg⟩ : ∃ gS, w.heap.size = gS := ⟨_, rfl⟩
 rw [hg] at S_1 hsS ⊢
 have zS : w.heap.size ≤ gS := by omega
 clear hg
 have b1 := Lib.hid kk
 clear kk
 have HB := b1
 go_wp2_with fail
 go_loopw [5, 6] (fun s i wr => ∃ k : Nat, k ≤ l.length ∧ i = .int .i64 k ∧ s = .int .i64 (qual fl (l.take k)) ∧ Hid (Below w1.heap.size w1 wr)) (fun _ i _ => l.length - (intOf i).toNat)
 case atStart => exact ⟨0, by omega, rfl, by simp [qual], Below.refl _ _⟩
 case round =>
  obtain ⟨k, hk, rfl, rfl, HK⟩ := hrel
  obtain ⟨wo, rfl⟩ : ∃ wo : World, wo = wr := ⟨_, rfl⟩
  have RS := Row.below S_1 HK.out (Row.lt S_1)
  have hbb := below_after HB.out HK.out HB.out.size
  have c3 : wo.cell? ⟨gS, 3, none⟩ = some (.int .i64 fl) := Row.cell RS 3
  have c4 : wo.cell? ⟨gS, 4, none⟩ = some (.int .i64 ce) := Row.cell RS 4
  have lS := Row.lt RS
  have HBQ := fun q => Below.draws HK.out q
  by_cases hlt : k < l.length
  ·obtain ⟨bk, off, rfl, hc, c0⟩ := (HV.out.below hbb).intAt hlt
   have hbl := hc.1
   have i1 : (k : Int) < (l.length : Int) := by omega
   have HW := HO.out _ (List.getElem_mem hlt)
   have HQ := Lib.hid (qual_take_succ (f := fl) hlt)
   have q0 := qual_nonneg (f := fl) (l := l.take k) (fun x hx => (HO.out x (List.mem_of_mem_take hx)).1)
   have q1 := qual_take_le (f := fl) (l := l) (fun x hx => (HO.out x hx).1) (k + 1)
   have q2 := qual_take_le (f := fl) (l := l) (fun x hx => (HO.out x hx).1) k
   obtain ⟨x, hx⟩ : ∃ x, l[k] = x := ⟨_, rfl⟩
   rw [hx] at HW c0 HQ
   clear hx hc
   by_cases hfx : fl ≤ x
   ·rw [if_pos hfx] at HQ
    have hsum := HQ.out
    obtain ⟨Q, hQ⟩ : ∃ Q, qual fl (l.take k) = Q := ⟨_, rfl⟩
    rw [hQ] at HQ hsum q0 q2 ⊢
    have hw2 : IntKind.i64.wrap (Q + x) = Q + x := IntWalk.i64_in _ (by omega)
    clear hsum hQ
    go_wp2_with fail
    go_quiet (fail)
    go_wp2_with fail
    go_roundw
    case rel => exact ⟨k + 1, by omega, by go_num, by rw [HQ.out], HBQ _⟩
    case measure => simp [intOf]; omega
   ·rw [if_neg hfx, Int.add_zero] at HQ
    obtain ⟨Q, hQ⟩ : ∃ Q, qual fl (l.take k) = Q := ⟨_, rfl⟩
    rw [hQ] at HQ ⊢
    clear hQ
    go_wp2_with fail
    go_quiet (fail)
    go_wp2_with fail
    go_roundw
    case rel => exact ⟨k + 1, by omega, by go_num, by rw [HQ.out], HBQ _⟩
    case measure => simp [intOf]; omega
  ·obtain rfl : k = l.length := by omega
   rw [List.take_length]
   obtain ⟨Q, hQ⟩ : ∃ Q, qual fl l = Q := ⟨_, rfl⟩
   rw [hQ] at HC hq2 ⊢
   clear hQ
   go_wp2
   go_ret
   exact ⟨ret_int HC.out.symm, hbb⟩
end Go.Proofs.YtogdefomigiepaaGreatDoor
/- payrollref2.Allocate for a total that is not negative. -/
namespace Go.Proofs.YtogdefomigiepaaGreatDoor
open Go.RowKit

theorem ints_cell {w : World} {b off : Nat} {l : List Int} (h : CellsAt w 1 b off (ints l)) {k : Nat} (hk : k < l.length) : w.cell? ⟨b, off + k, none⟩ = some (.int .i64 l[k]) := by
 have := h.2 k [.int .i64 l[k]] (by simp [ints, hk]) 0 _ rfl
 rwa [Nat.mul_one, Nat.add_zero] at this
theorem mk_ints (w : World) (n : Nat) (hn : n ≤ 1000000) : (Instr.makeSlice 22 (.int .i64 n) (.int .i64 n)).run Tryz.prog w = .ok (.slice (some ⟨w.heap.size, 0, none⟩) n n) (w.alloc (.cells (madeCells #[.int .i64 0] n) 3)) := by
 obtain ⟨i, z, hi, hz, hs, hb, hzs⟩ := rowInt.hi
 have hzz : z = .int .i64 0 := by
  have h : (Tryz.prog.info? 3).map (fun i => i.zero) = some (some (.int .i64 0)) := by kernel_rfl
  rw [hi] at h; simp only [Option.map_some, Option.some.injEq] at h
  rw [hz] at h; exact Option.some.inj h
 have := run_makeSlice (P := Tryz.prog) w 22 3 i z rowInt.ht hi hz .i64 .i64 (n : Int) (n : Int) (by omega) (Int.le_refl _) (by rw [hs]; simp; omega) (by rw [hb]; omega) (by omega)
 rw [Int.toNat_natCast, hs, Nat.mul_one, hzz] at this
 exact this
theorem own_ints (w : World) (base n : Nat) (hb : base ≤ w.heap.size) (hn : n ≤ 1000000) : Own (w.alloc (.cells (madeCells #[.int .i64 0] n) 3)) base 3 1 (.slice (some ⟨w.heap.size, 0, none⟩) n n) (ints (List.replicate n 0)) := by
 have e : ints (List.replicate n 0) = List.replicate n [Value.int .i64 0] := by simp [ints]
 have hf := made_flat #[Value.int .i64 0] (by simp) (by simp [Value.oneCell']) n
 simp only [List.size_toArray, List.length_singleton, Nat.mul_one] at hf
 refine ⟨?_, by rw [e]; intro x hx; rw [(List.mem_replicate.1 hx).2]; exact ⟨rfl, by simp [Value.oneCell']⟩⟩
 have := World.ownsRow_lit w (e := 3) (size := 1) (madeCells #[.int .i64 0] n) n hb (by unfold maxLen; omega) (by simp [size_madeCells])
 rw [e, List.length_replicate]
 have h2 : (madeCells #[Value.int .i64 0] n).toList = (List.replicate n [Value.int .i64 0]).flatten := hf
 rw [← h2]; exact this
theorem floors_take {t : Int} {ws : List Int} (ht : 0 ≤ t) (hs : 0 < ws.sum) (h : ∀ x ∈ ws, 0 ≤ x) (k : Nat) : 0 ≤ (floorsI t ws.sum (ws.take k)).sum ∧ (floorsI t ws.sum (ws.take k)).sum ≤ t := by
 have hn : ∀ (l : List Int), (∀ x ∈ l, 0 ≤ x) → ∀ y ∈ floorsI t ws.sum l, 0 ≤ y := fun l hl y hy => by
  obtain ⟨x, hx, rfl⟩ := List.mem_map.1 hy
  exact Int.ediv_nonneg (Int.mul_nonneg ht (hl x hx)) (by omega)
 refine ⟨sum_nonneg (hn _ fun x hx => h x (List.mem_of_mem_take hx)), ?_⟩
 have h1 := sum_take_le (hn ws h) k
 have h2 := floors_sum ht hs h
 have e : floorsI t ws.sum (ws.take k) = (floorsI t ws.sum ws).take k := by simp [floorsI, List.map_take]
 rw [e]; omega
theorem ints_set (l : List Int) (k : Nat) (v : Int) : (ints l).set k [.int .i64 v] = ints (l.set k v) := by simp [ints, List.map_set]
theorem Own.setInt {w : World} {base g n cap k : Nat} {l : List Int} (h : Own w base 3 1 (.slice (some ⟨g, 0, none⟩) n cap) (ints l)) (hk : k < l.length) (v : Int) :
  Own (w.setCell ⟨g, k, none⟩ (.int .i64 v)) base 3 1 (.slice (some ⟨g, 0, none⟩) n cap) (ints (l.set k v)) ∧ w.grownBy (w.setCell ⟨g, k, none⟩ (.int .i64 v)) (some g) := by
 have := h.set1 (by omega) k (x := [.int .i64 l[k]]) (by simp [ints, hk]) 0 (by omega) (.int .i64 v) rfl
 rw [Nat.mul_one, Nat.add_zero] at this
 simp only [List.set_cons_zero] at this
 rw [ints_set] at this
 exact this
theorem sl_own_ne {g p n c : Nat} (h : g ≠ p) : Value.ownBlock (.slice (some ⟨g, 0, none⟩) n c) = none ∨ Value.ownBlock (.slice (some ⟨g, 0, none⟩) n c) ≠ some p := .inr fun e => by simp [Value.ownBlock] at e; omega
set_option maxRecDepth 100000 in
set_option maxHeartbeats 8000000 in
theorem Allocate_any (t : Int) (ws : List Int) (v : Value) (w : World) (hv : Sl w 1 v (ints ws)) (ht : 0 ≤ t ∧ t ≤ 1000000000) (hl : ws.length ≤ 16) (hw : ∀ x ∈ ws, 0 ≤ x ∧ x ≤ 1000000000) (hs : 0 < ws.sum) :
  Calls Tryz.prog 128 #[.int .i64 t, v] w fun e w' => ∃ (u : Value) (ps : List Int), e = .returned (.tuple #[u, .int .i64 0]) ∧ Alloc t ws ps ∧ Own w' w.heap.size 3 1 u (ints ps) ∧ Below w.heap.size w w' := by
 have hpos : 0 < ws.length := by
  cases ws with
  | nil => simp at hs
  | cons a r => simp
 have hsb := sum_bound (l := ws) (M := 1000000000) fun x hx => (hw x hx).2
 have hsb2 : ws.sum ≤ 16000000000 := by
  have : (1000000000 : Int) * ws.length ≤ 1000000000 * 16 := Int.mul_le_mul_of_nonneg_left (by omega) (by omega)
  omega
 obtain ⟨A, cap, rfl, h1, h2, x1, h3⟩ := hv
 rw [ints_len] at h1 ⊢
 unfold maxLen at h2
 have H3 := Lib.hid h3
 have HW := Lib.hid hw
 clear h3 x1 hw hsb
 have d1 : decide ((1024 : Int) < (ws.length : Int)) = false := decide_eq_false (by omega)
 have d2 : decide (t < -1000000000) = false := decide_eq_false (by omega)
 have d3 : decide (1000000000 < t) = false := decide_eq_false (by omega)
 have d4 : decide (t < 0) = false := decide_eq_false (by omega)
 go_enter Tryz.func128, Tryz.ntmps128
 go_wp2_with fail
 go_loop [6, 7] (fun s i => ∃ k : Nat, k ≤ ws.length ∧ i = .int .i64 k ∧ s = .int .i64 (ws.take k).sum) (fun _ i => ws.length - (intOf i).toNat)
 case atStart => exact ⟨0, by omega, rfl, by simp⟩
 case round =>
  obtain ⟨k, hk, rfl, rfl⟩ := hrel
  by_cases hlt : k < ws.length
  ·rcases H3.out with h | ⟨b, off, rfl, hc0⟩
   ·have := congrArg List.length h
    rw [ints_len] at this; simp only [List.length_nil] at this; omega
   ·have c0 := ints_cell hc0 hlt
    have hb0 := HW.out _ (List.getElem_mem hlt)
    have hbl := hc0.1
    have dk : decide ((k : Int) < (ws.length : Int)) = true := decide_eq_true (by omega)
    have hn := Lib.hid (sum_take_succ hlt)
    have hle := sum_take_le (l := ws) (fun x hx => (HW.out x hx).1) k
    have hge := sum_nonneg (l := ws.take k) fun x hx => (HW.out x (List.mem_of_mem_take hx)).1
    obtain ⟨x, hx⟩ : ∃ x, ws[k]'hlt = x := ⟨_, rfl⟩
    rw [hx] at c0 hb0 hn
    obtain ⟨s, hs'⟩ : ∃ s, (ws.take k).sum = s := ⟨_, rfl⟩
    rw [hs'] at hn hle hge ⊢
    clear H3 hc0 hx hs'
    have d5 : decide (x < 0) = false := decide_eq_false (by omega)
    have d6 : decide (1000000000 < x) = false := decide_eq_false (by omega)
    go_wp2_with fail
    go_round
    case rel => exact ⟨k + 1, by omega, by go_num, by rw [hn.out]⟩
    case measure => simp [intOf]; omega
  ·obtain rfl : k = ws.length := by omega
   have dk : decide ((ws.length : Int) < (ws.length : Int)) = false := decide_eq_false (by omega)
   rw [List.take_length]
   obtain ⟨s, hs'⟩ : ∃ s, ws.sum = s := ⟨_, rfl⟩
   have HS := Lib.hid hs'
   rw [hs'] at hs hsb2 ⊢
   clear hs'
   have d5 : (s == 0) = false := by simp; omega
   go_upto_region 17 with (fail)
   go_cut [9, 10] (fun a b wx => ∃ p r : Nat, a = .slice (some ⟨p, 0, none⟩) ws.length ws.length ∧ b = .slice (some ⟨r, 0, none⟩) ws.length ws.length ∧ p ≠ r ∧ Hid (Own wx w.heap.size 3 1 (.slice (some ⟨p, 0, none⟩) ws.length ws.length) (ints (List.replicate ws.length 0)) ∧ Own wx w.heap.size 3 1 (.slice (some ⟨r, 0, none⟩) ws.length ws.length) (ints (List.replicate ws.length 0)) ∧ Below w.heap.size w wx))
   case first =>
    have hmk := fun w => mk_ints w ws.length (by omega)
    have HE : Hid (Own ((w.alloc (.cells (madeCells #[.int .i64 0] ws.length) 3)).alloc (.cells (madeCells #[.int .i64 0] ws.length) 3)).drew w.heap.size 3 1 (.slice (some ⟨w.heap.size, 0, none⟩) ws.length ws.length) (ints (List.replicate ws.length 0)) ∧ Own ((w.alloc (.cells (madeCells #[.int .i64 0] ws.length) 3)).alloc (.cells (madeCells #[.int .i64 0] ws.length) 3)).drew w.heap.size 3 1 (.slice (some ⟨w.heap.size + 1, 0, none⟩) ws.length ws.length) (ints (List.replicate ws.length 0)) ∧ Below w.heap.size w ((w.alloc (.cells (madeCells #[.int .i64 0] ws.length) 3)).alloc (.cells (madeCells #[.int .i64 0] ws.length) 3)).drew) := by
     have h2 := own_ints (w.alloc (.cells (madeCells #[.int .i64 0] ws.length) 3)) w.heap.size ws.length (by simp) (by omega)
     rw [World.size_alloc] at h2
     exact ⟨((own_ints w w.heap.size ws.length (Nat.le_refl _) (by omega)).alloc _).drew, h2.drew, below_a2 _ _ _⟩
    go_region
    ·go_wp2_with fail
     go_meet
     exact ⟨w.heap.size, w.heap.size + 1, rfl, rfl, by omega, HE.out⟩
    ·go_wp2_with fail
     go_meet
     exact ⟨w.heap.size + 1, w.heap.size, rfl, rfl, by omega, HE.out.2.1, HE.out.1, HE.out.2.2⟩
   case rest =>
    obtain ⟨p, r, rfl, rfl, hpr, HC⟩ := hcut
    obtain ⟨w2, hw2⟩ : ∃ w2 : World, w2 = wc := ⟨_, rfl⟩
    subst hw2
    go_wp2_with fail
    go_loopw [11, 12] (fun mi i wr => ∃ (k : Nat) (rs : List Int), k ≤ ws.length ∧ i = .int .i64 k ∧ mi = .int .i64 (t - (floorsI t s (ws.take k)).sum) ∧ rs.length = ws.length ∧ Hid (Own wr w.heap.size 3 1 (.slice (some ⟨p, 0, none⟩) ws.length ws.length) (ints (floorsTo t s ws k)) ∧ Own wr w.heap.size 3 1 (.slice (some ⟨r, 0, none⟩) ws.length ws.length) (ints rs) ∧ Below w.heap.size w wr)) (fun _ i _ => ws.length - (intOf i).toNat)
    case atStart => exact ⟨0, List.replicate ws.length 0, by omega, rfl, by simp [floorsI], by simp, by rw [floorsTo_zero]; exact HC.out⟩
    case round =>
     clear HC
     obtain ⟨k, rs, hk, rfl, rfl, hrs, HX⟩ := hrel
     obtain ⟨wo, rfl⟩ : ∃ wo : World, wo = wr := ⟨_, rfl⟩
     by_cases hlt : k < ws.length
     ·rcases H3.out with h | ⟨b, off, rfl, hc0⟩
      ·have := congrArg List.length h
       rw [ints_len] at this; simp only [List.length_nil] at this; omega
      ·have c0 := ints_cell (hc0.below HX.out.2.2 hc0.1) hlt
       have hb0 := HW.out _ (List.getElem_mem hlt)
       have hbl : b < wo.heap.size := (hc0.below HX.out.2.2 hc0.1).1
       have dk : decide ((k : Int) < (ws.length : Int)) = true := decide_eq_true (by omega)
       have hxs : ws[k]'hlt ≤ s := by rw [← HS.out]; exact sum_mem (fun x hx => (HW.out x hx).1) (List.getElem_mem hlt)
       have HFS := Lib.hid (floorsTo_set t s ws hlt)
       have HFT : Hid ((floorsI t s (ws.take (k + 1))).sum = (floorsI t s (ws.take k)).sum + t * ws[k] / s) := by
        rw [Hid, List.take_succ_eq_append_getElem hlt, floorsI, floorsI, List.map_append, List.sum_append]; simp
       have HFL := floorsTo_len t s ws (Nat.le_of_lt hlt)
       obtain ⟨x, hx⟩ : ∃ x, ws[k]'hlt = x := ⟨_, rfl⟩
       rw [hx] at c0 hb0 hxs HFS HFT
       have hfl := floor_le ht.1 hs hb0.1 hxs
       have hp0 : 0 ≤ t * x := Int.mul_nonneg ht.1 hb0.1
       have hp1 : t * x ≤ 1000000000 * 1000000000 := Int.le_trans (Int.mul_le_mul_of_nonneg_left hb0.2 ht.1) (Int.mul_le_mul_of_nonneg_right ht.2 (by omega))
       have e1 : IntKind.i64.wrap (t * x) = t * x := IntWalk.i64_in _ (by omega)
       have e2 : (t * x).tdiv s = t * x / s := Int.tdiv_eq_ediv_of_nonneg hp0
       have e3 : (t * x).tmod s = t * x % s := Int.tmod_eq_emod_of_nonneg hp0
       have e4 : IntKind.i64.wrap (t * x / s) = t * x / s := IntWalk.i64_in _ (by omega)
       have hm0 := Int.emod_nonneg (t * x) (show s ≠ 0 by omega)
       have hm1 := Int.emod_lt_of_pos (t * x) hs
       have e5 : IntKind.i64.wrap (t * x % s) = t * x % s := IntWalk.i64_in _ (by omega)
       have hs0 : ¬ s = 0 := by omega
       obtain ⟨fq, hfq⟩ : ∃ fq, (floorsTo t s ws k)[k]? = some fq := ⟨_, List.getElem?_eq_getElem (by rw [HFL]; exact hlt)⟩
       obtain ⟨rq, hrq⟩ : ∃ rq, rs[k]? = some rq := ⟨_, List.getElem?_eq_getElem (by rw [hrs]; exact hlt)⟩
       have q0 : wo.cell? ⟨p, k, none⟩ = some (.int .i64 fq) := by
        have := HX.out.1.cellE (by omega) (i := k) (x := [.int .i64 fq]) (by simp [ints, hfq]) (j := 0) rfl
        rwa [Nat.mul_one, Nat.add_zero] at this
       have q1 : wo.cell? ⟨r, k, none⟩ = some (.int .i64 rq) := by
        have := HX.out.2.1.cellE (by omega) (i := k) (x := [.int .i64 rq]) (by simp [ints, hrq]) (j := 0) rfl
        rwa [Nat.mul_one, Nat.add_zero] at this
       have q2 := HX.out.1.frozenE k
       have q3 := HX.out.2.1.frozenE k
       clear H3 hc0 hx
       go_upto_region 22 with (fail)
       go_region
       obtain ⟨oP, gP⟩ := HX.out.1.setInt (by rw [HFL]; exact hlt) (t * x / s)
       have oR := HX.out.2.1.keepG gP (sl_own_ne (fun e => hpr e.symm))
       have bP := HX.out.1.grown HX.out.2.2 gP HX.out.2.2.size
       obtain ⟨oR2, gR⟩ := oR.setInt (by rw [hrs]; exact hlt) (t * x % s)
       have oP2 := oP.keepG gR (sl_own_ne hpr)
       have bR := oR.grown bP gR bP.size
       rw [HFS.out] at oP2
       have HX2 := Lib.hid (And.intro oP2.drew (And.intro oR2.drew bR.drew))
       obtain ⟨w3, hw3⟩ : ∃ w3, ((wo.setCell ⟨p, k, none⟩ (.int .i64 (t * x / s))).setCell ⟨r, k, none⟩ (.int .i64 (t * x % s))).drew = w3 := ⟨_, rfl⟩
       rw [hw3] at HX2 ⊢
       clear hw3 oP gP oR bP oR2 gR oP2 bR HX q0 q1 q2 q3 c0 hbl
       have hfk : (floorsTo t s ws (k + 1))[k]? = some (t * x / s) := by
        rw [← HFS.out, List.getElem?_set_self (by rw [HFL]; exact hlt)]
       have q0 : w3.cell? ⟨p, k, none⟩ = some (.int .i64 (t * x / s)) := by
        have := HX2.out.1.cellE (by omega) (i := k) (x := [.int .i64 (t * x / s)]) (by simp [ints, hfk]) (j := 0) rfl
        rwa [Nat.mul_one, Nat.add_zero] at this
       have hsumk : 0 ≤ (floorsI t s (ws.take k)).sum ∧ (floorsI t s (ws.take k)).sum + t * x / s ≤ t := by
        have a1 := floors_take ht.1 (by rw [HS.out]; exact hs) (fun x hx => (HW.out x hx).1) k
        have a2 := floors_take ht.1 (by rw [HS.out]; exact hs) (fun x hx => (HW.out x hx).1) (k + 1)
        rw [HS.out] at a1 a2
        rw [HFT.out] at a2
        exact ⟨a1.1, a2.2⟩
       obtain ⟨S, hS⟩ : ∃ S, (floorsI t s (ws.take k)).sum = S := ⟨_, rfl⟩
       rw [hS] at HFT hsumk ⊢
       go_wp2_with fail
       go_roundw
       case rel => exact ⟨k + 1, rs.set k (t * x % s), by omega, by go_num, by rw [HFT.out]; congr 1; omega, by simp [hrs], HX2.out⟩
       case measure => simp [intOf]; omega
     ·obtain rfl : k = ws.length := by omega
      have dk : decide ((ws.length : Int) < (ws.length : Int)) = false := decide_eq_false (by omega)
      have a1 := floors_take ht.1 (by rw [HS.out]; exact hs) (fun x hx => (HW.out x hx).1) ws.length
      rw [List.take_length, HS.out] at a1
      rw [List.take_length]
      rw [floorsTo_all] at HX
      have hAt : AllocAt t ws.length (t - (floorsI t s ws).sum) (floorsI t s ws) := ⟨by simp [floorsI], fun y hy => by
       obtain ⟨x, hx, rfl⟩ := List.mem_map.1 hy
       exact Int.ediv_nonneg (Int.mul_nonneg ht.1 (HW.out x hx).1) (by omega), by omega⟩
      have HA := Lib.hid hAt
      obtain ⟨m0, hm0⟩ : ∃ m0, t - (floorsI t s ws).sum = m0 := ⟨_, rfl⟩
      rw [hm0] at HA ⊢
      have hm : 0 ≤ m0 ∧ m0 ≤ t := by omega
      obtain ⟨ps0, hps0⟩ : ∃ ps0, floorsI t s ws = ps0 := ⟨_, rfl⟩
      rw [hps0] at HA HX
      clear hAt a1 hm0 hps0 H3 HW HS d1 dk h1 hlt
      generalize hN : ws.length = N at hl hpos hrs HX HA ⊢
      have HNN := Lib.hid hN
      clear hN
      go_wp2_with fail
      go_loopw [11] (fun mi wr => ∃ (m : Int) (ps rs : List Int), mi = .int .i64 m ∧ (0 ≤ m ∧ m ≤ t) ∧ rs.length = N ∧ Hid (AllocAt t N m ps ∧ Own wr w.heap.size 3 1 (.slice (some ⟨p, 0, none⟩) N N) (ints ps) ∧ Own wr w.heap.size 3 1 (.slice (some ⟨r, 0, none⟩) N N) (ints rs) ∧ Below w.heap.size w wr)) (fun mi _ => (intOf mi).toNat)
      case atStart => exact ⟨m0, ps0, rs, rfl, hm, hrs, HA.out, HX.out⟩
      case round =>
       clear HA HX
       obtain ⟨m, ps, rs, rfl, hmm, hrs, HY⟩ := hrel
       obtain ⟨wo, rfl⟩ : ∃ wo : World, wo = wr := ⟨_, rfl⟩
       by_cases hpos' : 0 < m
       ·have dm : decide (0 < m) = true := decide_eq_true hpos'
        go_wp2_with fail
        go_loopw [13, 14] (fun bi j wi => ∃ (q i : Nat), bi = .int .i64 q ∧ j = .int .i64 i ∧ q < N ∧ 1 ≤ i ∧ i ≤ N ∧ Hid (Below wo.heap.size wo wi)) (fun _ j _ => N - (intOf j).toNat)
        case atStart => exact ⟨0, 1, rfl, rfl, by omega, by omega, by omega, Below.refl _ _⟩
        case round =>
         obtain ⟨q, i, rfl, rfl, hq, hi1, hi2, HBI⟩ := hrel
         obtain ⟨wi, rfl⟩ : ∃ wi : World, wi = wr := ⟨_, rfl⟩
         have oR := HY.out.2.2.1.kept HBI.out
         by_cases hlt : i < N
         ·have di : (i : Int) < (N : Int) := by omega
          obtain ⟨ri, hri⟩ : ∃ ri, rs[i]? = some ri := ⟨_, List.getElem?_eq_getElem (by rw [hrs]; exact hlt)⟩
          obtain ⟨rq, hrq⟩ : ∃ rq, rs[q]? = some rq := ⟨_, List.getElem?_eq_getElem (by rw [hrs]; exact hq)⟩
          have q0 : wi.cell? ⟨r, i, none⟩ = some (.int .i64 ri) := by
           have := oR.cellE (by omega) (i := i) (x := [.int .i64 ri]) (by simp [ints, hri]) (j := 0) rfl
           rwa [Nat.mul_one, Nat.add_zero] at this
          have q1 : wi.cell? ⟨r, q, none⟩ = some (.int .i64 rq) := by
           have := oR.cellE (by omega) (i := q) (x := [.int .i64 rq]) (by simp [ints, hrq]) (j := 0) rfl
           rwa [Nat.mul_one, Nat.add_zero] at this
          have HBQ := fun z => Below.draws HBI.out z
          have dq : (q : Int) < (N : Int) := by omega
          clear oR HY hrq hri
          cases hc : decide (rq < ri)
          ·go_wp2_with fail
           go_quiet (fail)
           go_wp2_with fail
           go_roundw
           case rel => exact ⟨q, i + 1, rfl, by go_num, hq, by omega, by omega, HBQ _⟩
           case measure => simp [intOf]; omega
          ·go_wp2_with fail
           go_quiet (fail)
           go_wp2_with fail
           go_roundw
           case rel => exact ⟨i, i + 1, rfl, by go_num, hlt, by omega, by omega, HBQ _⟩
           case measure => simp [intOf]; omega
         ·obtain rfl : i = N := by omega
          have di : ¬ (i : Int) < (i : Int) := by omega
          have hpl := HY.out.1.len
          have oP := HY.out.2.1.kept HBI.out
          have hple := HY.out.1.le (by omega) (k := q) (by rw [hpl]; exact hq)
          have HST := Lib.hid (HY.out.1.step (k := q) (by rw [hpl]; exact hq))
          have hb0 := below_after HY.out.2.2.2 HBI.out HY.out.2.2.2.size
          obtain ⟨pq, hpq⟩ : ∃ pq, ps[q]'(by rw [hpl]; exact hq) = pq := ⟨_, rfl⟩
          rw [hpq] at hple HST
          have q0 : wi.cell? ⟨p, q, none⟩ = some (.int .i64 pq) := by
           have := oP.cellE (by omega) (i := q) (x := [.int .i64 pq]) (by simp [ints, List.getElem?_eq_getElem (show q < ps.length by rw [hpl]; exact hq), hpq]) (j := 0) rfl
           rwa [Nat.mul_one, Nat.add_zero] at this
          have q1 : wi.cell? ⟨r, q, none⟩ = some (.int .i64 (rs[q]'(by rw [hrs]; exact hq))) := by
           have := oR.cellE (by omega) (i := q) (x := [.int .i64 (rs[q]'(by rw [hrs]; exact hq))]) (by simp [ints, List.getElem?_eq_getElem (show q < rs.length by rw [hrs]; exact hq)]) (j := 0) rfl
           rwa [Nat.mul_one, Nat.add_zero] at this
          have q2 := oP.frozenE q
          have q3 := oR.frozenE q
          have dq : (q : Int) < (i : Int) := by omega
          obtain ⟨oP1, gP⟩ := oP.setInt (by rw [hpl]; exact hq) (pq + 1)
          have oR1 := oR.keepG gP (sl_own_ne (fun e => hpr e.symm))
          have bP := oP.grown hb0 gP hb0.size
          obtain ⟨oR2, gR⟩ := oR1.setInt (k := q) (by rw [hrs]; exact hq) (-1)
          have oP2 := oP1.keepG gR (sl_own_ne hpr)
          have bR := oR1.grown bP gR bP.size
          have HZ := Lib.hid (And.intro HST.out (And.intro oP2 (And.intro oR2 bR)))
          have hrl : (rs.set q (-1)).length = i := by rw [List.length_set]; exact hrs
          clear HST oP oR oP1 gP oR1 bP oR2 gR oP2 bR HY HBI hb0 hpq hpl
          generalize ps.set q (pq + 1) = ps2 at HZ
          generalize rs.set q (-1) = rs2 at HZ hrl
          go_wp2_with fail
          go_roundw
          case rel => exact ⟨m - 1, ps2, rs2, by go_num, by omega, hrl, HZ.out⟩
          case measure => simp [intOf]; omega
       ·have dm : decide (0 < m) = false := decide_eq_false hpos'
        obtain rfl : m = 0 := by omega
        have HAL : Hid (Alloc t ws ps) := by
         have h := HY.out.1
         rw [← HNN.out] at h
         exact Alloc.of h
        have HO := Lib.hid HY.out.2.1
        have HB := Lib.hid HY.out.2.2.2
        clear HY
        go_wp2_with fail
        go_loop [15] (fun i => i = .int .i64 0) (fun _ => 0)
        case atStart => rfl
        case round =>
         obtain rfl := hrel
         go_wp2_with fail
         go_ret2
         first | exact ⟨_, rfl, ps, HAL.out, HO.out, HB.out⟩ | exact ⟨_, ps, rfl, HAL.out, HO.out, HB.out⟩
end Go.Proofs.YtogdefomigiepaaGreatDoor
