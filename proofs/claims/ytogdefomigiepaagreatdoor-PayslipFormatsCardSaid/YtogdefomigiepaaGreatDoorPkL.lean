/- Contracts and plain facts that the laws of this seat share, part 12. -/
import Derived.Test.YtogdefomigiepaaGreatDoorPkK
set_option linter.unusedVariables false
set_option linter.unusedSimpArgs false
/- Contract of payrollref31.serve. Written by gen_r31s.py. -/
namespace Go.Proofs.YtogdefomigiepaaGreatDoor
open Go.RowKit

set_option maxRecDepth 100000 in
set_option maxHeartbeats 8000000 in
theorem serve_ok (ds : List Od) (hc : Coded Od.code OdOk litO litO.length ds) (b : Bool) (left : Int) (l0 : List Ln) (v0 vd : Value) (w : World) (hv0 : Sl w 2 v0 (els l0)) (hvd : Sl w 5 vd (ds.map Od.vals)) (hl0 : TkO l0) (h0 : 0 ≤ left ∧ left ≤ 1000000000) (hs0 : sumA l0 ≤ 1000000000) :
  Calls Tryz.prog 103 #[v0, vd, .bool b, .int .i64 left] w fun e w' => ∃ (v : Value) (l : List Ln) (tk : Int), e = .returned (.tuple #[v, .int .i64 tk]) ∧ TkO l ∧ (0 ≤ tk ∧ tk ≤ left) ∧ sumA l = sumA l0 + tk ∧ Sl w' 2 v (els l) ∧ Below w.heap.size w w' := by
 have HVD := Lib.hid hvd
 have HOK := Lib.hid hc.ok
 have HCD := Lib.hid fun x hx => hc.mem (x := x) hx
 have HDL : ds.length ≤ 5 := hc.len
 have HST : Hid (SvSt w l0 left v0 left 0 w) := ⟨l0, by omega, hl0, by omega, hv0, Below.refl _ _⟩
 obtain ⟨A, cap, rfl, h1, h2, _, _⟩ := hvd
 rw [List.length_map] at h1 HVD ⊢
 unfold maxLen at h2
 have HCL := Lib.hid fun (k : Nat) (hlt : k < ds.length) => (show ∃ bk off, A = some ⟨bk, off, none⟩ ∧ bk < w.heap.size ∧ ∀ j u, (ds[k]).vals[j]? = some u → ∀ y : World, Below w.heap.size w y → y.cell? ⟨bk, off + k * 5 + j, none⟩ = some u by
  obtain ⟨bk, off, hA, hcc⟩ := HVD.out.cells (by rw [List.length_map]; omega)
  exact ⟨bk, off, hA, hcc.1, fun j u hj y hy => (hcc.below hy hcc.1).at (k := k) (x := (ds[k]).vals) (by simp [hlt]) j hj⟩)
 clear hc hv0 hl0 HVD
 go_enter Tryz.func103, Tryz.ntmps103
 go_wp2_with fail
 go_loopw [0, 3, 10, 11, 12] (fun o lf tk r d wr => ∃ a t rk dy : Int, lf = .int .i64 a ∧ tk = .int .i64 t ∧ r = .int .i64 rk ∧ d = .int .i64 dy ∧ (-1 ≤ rk ∧ rk ≤ 9) ∧ (-1 ≤ dy ∧ dy ≤ 84005) ∧ Hid (SvSt w l0 left o a t wr)) (fun _ _ _ r d _ => ((10 - intOf r) * 100000 + (90000 - intOf d)).toNat)
 case atStart => exact ⟨left, 0, -1, -1, rfl, rfl, rfl, rfl, by omega, by omega, HST.out⟩
 case round =>
  clear HST
  obtain ⟨a, t, rk, dy, rfl, rfl, rfl, rfl, hrk, hdy, HS⟩ := hrel
  obtain ⟨wo, rfl⟩ : ∃ wo : World, wo = wr := ⟨_, rfl⟩
  obtain ⟨ov, hov⟩ : ∃ ov, u0 = ov := ⟨_, rfl⟩
  rw [hov] at HS ⊢
  clear hov
  go_wp2_with fail
  go_loopw [13, 14, 15] (fun r d i wr => ∃ (k : Nat) (rr dd : Int), k ≤ ds.length ∧ i = .int .i64 k ∧ r = .int .i64 rr ∧ d = .int .i64 dd ∧ Hid (Nxt rk dy rr dd ∧ Below wo.heap.size wo wr)) (fun _ _ i _ => ds.length - (intOf i).toNat)
  case atStart => exact ⟨0, 10, 0, by omega, rfl, rfl, rfl, .inl ⟨rfl, rfl⟩, Below.refl _ _⟩
  case round =>
   obtain ⟨k, rr, dd, hk, rfl, rfl, rfl, HX⟩ := hrel
   obtain ⟨wi, rfl⟩ : ∃ wi : World, wi = wr := ⟨_, rfl⟩
   have HSI := Lib.hid (HS.out.below HX.out.2)
   have hbi : Below w.heap.size w wi := by obtain ⟨_, _, _, _, _, h⟩ := HSI.out; exact h
   by_cases hlt : k < ds.length
   ·obtain ⟨bk, off, rfl, hbl0, hce⟩ := HCL.out k hlt
    have hbl := Nat.lt_of_lt_of_le hbl0 hbi.size
    have i1 : (k : Int) < (ds.length : Int) := by omega
    have hxo := HOK.out _ (List.getElem_mem hlt)
    obtain ⟨⟨code, rank, day, amt, total⟩, hx⟩ : ∃ x, ds[k] = x := ⟨_, rfl⟩
    rw [hx] at hce hxo
    have c1 := hce 1 _ rfl wi hbi
    have c2 := hce 2 _ rfl wi hbi
    obtain ⟨⟨r1, r2⟩, ⟨r3, r4⟩, _, _⟩ := hxo
    dsimp only at c1 c2 r1 r2 r3 r4
    have HTAKE : Hid ((rk < rank ∨ (rank = rk ∧ dy < day)) → Nxt rk dy rank day) := fun h => .inr ⟨by omega, by omega, by omega, by omega, by omega⟩
    have HBQ := fun z => Below.draws HX.out.2 z
    clear hce hx hbi HSI HCL
    go_upto_region 7 with (fail)
    go_cut [89] (fun x wx => ∃ z : Bool, x = .bool z ∧ wx = wi ∧ Hid (z = true → Nxt rk dy rank day))
    case first =>
     cases e1 : ((rank == 0) == b)
     ·skip
      clear HTAKE 
      go_wp2_with fail
      go_meet
      exact ⟨false, rfl, rfl, (fun h => (by cases h) : false = true → Nxt rk dy rank day)⟩
     ·by_cases e2 : rk < rank
      ·have q2 : decide (rk < rank) = true := decide_eq_true e2
       by_cases g1 : rank < rr
       ·have f1 : decide (rank < rr) = true := decide_eq_true g1
        have HN := Lib.hid (HTAKE.out (by omega))
        clear HTAKE e2 g1
        go_wp2_with fail
        go_meet
        exact ⟨true, rfl, rfl, (fun _ => HN.out : true = true → Nxt rk dy rank day)⟩
       ·have f1 : decide (rank < rr) = false := decide_eq_false g1
        by_cases g2 : rank = rr
        ·have f2 : (rank == rr) = true := by simp [g2]
         by_cases g3 : day < dd
         ·have f3 : decide (day < dd) = true := decide_eq_true g3
          have HN := Lib.hid (HTAKE.out (by omega))
          clear HTAKE e2 g1 g2 g3
          go_wp2_with fail
          go_meet
          exact ⟨true, rfl, rfl, (fun _ => HN.out : true = true → Nxt rk dy rank day)⟩
         ·have f3 : decide (day < dd) = false := decide_eq_false g3
          skip
          clear HTAKE e2 g1 g2 g3
          go_wp2_with fail
          go_meet
          exact ⟨false, rfl, rfl, (fun h => (by cases h) : false = true → Nxt rk dy rank day)⟩
        ·have f2 : (rank == rr) = false := by simpa using g2
         skip
         clear HTAKE e2 g1 g2
         go_wp2_with fail
         go_meet
         exact ⟨false, rfl, rfl, (fun h => (by cases h) : false = true → Nxt rk dy rank day)⟩
      ·have q2 : decide (rk < rank) = false := decide_eq_false e2
       by_cases e3 : rank = rk
       ·have q3 : (rank == rk) = true := by simp [e3]
        by_cases e4 : dy < day
        ·have q4 : decide (dy < day) = true := decide_eq_true e4
         by_cases g1 : rank < rr
         ·have f1 : decide (rank < rr) = true := decide_eq_true g1
          have HN := Lib.hid (HTAKE.out (by omega))
          clear HTAKE e2 e3 e4 g1
          go_wp2_with fail
          go_meet
          exact ⟨true, rfl, rfl, (fun _ => HN.out : true = true → Nxt rk dy rank day)⟩
         ·have f1 : decide (rank < rr) = false := decide_eq_false g1
          by_cases g2 : rank = rr
          ·have f2 : (rank == rr) = true := by simp [g2]
           by_cases g3 : day < dd
           ·have f3 : decide (day < dd) = true := decide_eq_true g3
            have HN := Lib.hid (HTAKE.out (by omega))
            clear HTAKE e2 e3 e4 g1 g2 g3
            go_wp2_with fail
            go_meet
            exact ⟨true, rfl, rfl, (fun _ => HN.out : true = true → Nxt rk dy rank day)⟩
           ·have f3 : decide (day < dd) = false := decide_eq_false g3
            skip
            clear HTAKE e2 e3 e4 g1 g2 g3
            go_wp2_with fail
            go_meet
            exact ⟨false, rfl, rfl, (fun h => (by cases h) : false = true → Nxt rk dy rank day)⟩
          ·have f2 : (rank == rr) = false := by simpa using g2
           skip
           clear HTAKE e2 e3 e4 g1 g2
           go_wp2_with fail
           go_meet
           exact ⟨false, rfl, rfl, (fun h => (by cases h) : false = true → Nxt rk dy rank day)⟩
        ·have q4 : decide (dy < day) = false := decide_eq_false e4
         skip
         clear HTAKE e2 e3 e4
         go_wp2_with fail
         go_meet
         exact ⟨false, rfl, rfl, (fun h => (by cases h) : false = true → Nxt rk dy rank day)⟩
       ·have q3 : (rank == rk) = false := by simpa using e3
        skip
        clear HTAKE e2 e3
        go_wp2_with fail
        go_meet
        exact ⟨false, rfl, rfl, (fun h => (by cases h) : false = true → Nxt rk dy rank day)⟩
    case rest =>
     obtain ⟨z, rfl, rfl, HZ⟩ := hcut
     clear HTAKE
     cases z
     ·clear HZ
      go_wp2_with fail
      go_roundw
      case rel => exact ⟨k + 1, rr, dd, by omega, by go_num, rfl, rfl, HX.out⟩
      case measure => simp [intOf]; omega
     ·have HN := Lib.hid (HZ.out rfl)
      clear HZ
      go_wp2_with fail
      go_quiet (fail)
      go_wp2_with fail
      go_roundw
      case rel => exact ⟨k + 1, rank, day, by omega, by go_num, rfl, rfl, HN.out, HBQ _⟩
      case measure => simp [intOf]; omega
   ·obtain rfl : k = ds.length := by omega
    by_cases h10 : rr = 10
    ·subst h10
     obtain ⟨l, ⟨s1, s2, s3⟩, s4, s5, s6, s7⟩ := HSI.out
     have HE := Lib.hid (And.intro s4 (And.intro (show 0 ≤ t ∧ t ≤ left by omega) (And.intro s5 (And.intro s6 s7))))
     clear HSI HS HX s4 s5 s6 s7 hbi
     go_wp2_with fail
     go_ret2
     first | exact ⟨_, l, t, rfl, HE.out⟩ | exact ⟨_, t, rfl, l, HE.out⟩ | exact ⟨_, rfl, l, HE.out⟩
    ·have q10 : (rr == 10) = false := by simpa using h10
     have HNX : Hid ((rk < rr ∨ (rk = rr ∧ dy < dd)) ∧ 0 ≤ rr ∧ rr ≤ 9 ∧ 0 ≤ dd ∧ dd ≤ 84005) := HX.out.1.resolve_left (fun h => h10 h.1)
     have HBI := Lib.hid hbi
     have hsi := hbi.size
     clear HX HS h10 hbi
     go_wp2_with fail
     go_loopw [16, 17, 18] (fun c s i wr => ∃ k : Nat, k ≤ ds.length ∧ i = .int .i64 k ∧ s = .int .i64 (clms rr dd ds k).sum ∧ Hid (Own wr wi.heap.size 3 1 c (ints (clms rr dd ds k)) ∧ Below wi.heap.size wi wr)) (fun _ _ i _ => ds.length - (intOf i).toNat)
     case atStart => exact ⟨0, by omega, rfl, rfl, Own.nil _ _ _ _, Below.refl _ _⟩
     case round =>
      obtain ⟨k, hk, rfl, rfl, HX⟩ := hrel
      obtain ⟨wj, rfl⟩ : ∃ wj : World, wj = wr := ⟨_, rfl⟩
      have hbj := below_after HBI.out HX.out.2 HBI.out.size
      have hcl := cnt_le rr dd ds k
      have hcb := clms_bound (r := rr) (d := dd) HOK.out k
      have hsum := sum_bound (l := clms rr dd ds k) (M := 600000) fun x hx => (hcb x hx).2
      have hsum0 := sum_nonneg (l := clms rr dd ds k) fun x hx => (hcb x hx).1
      rw [clms_len] at hsum
      have hsum2 : (clms rr dd ds k).sum ≤ 3000000 := by omega
      by_cases hlt : k < ds.length
      ·obtain ⟨bk, off, rfl, hbl0, hce⟩ := HCL.out k hlt
       have hbl := Nat.lt_of_lt_of_le hbl0 hbj.size
       have i1 : (k : Int) < (ds.length : Int) := by omega
       have hxb := clm_bound (HOK.out _ (List.getElem_mem hlt))
       have HY := Lib.hid fun h => clms_yes (r := rr) (d := dd) hlt h
       have HNO := Lib.hid fun h => clms_no (r := rr) (d := dd) hlt h
       obtain ⟨x, hx⟩ : ∃ x, ds[k] = x := ⟨_, rfl⟩
       rw [hx] at hce hxb HY HNO
       have HC := Lib.hid fun y => Claim_ok x y
       obtain ⟨CX, hCX⟩ : ∃ CX, clm x = CX := ⟨_, rfl⟩
       rw [hCX] at hxb HY HC
       obtain ⟨code, rank, day, amt, total⟩ := x
       have d0 := hce 0 _ rfl
       have d1 := hce 1 _ rfl
       have d2 := hce 2 _ rfl
       have d3 := hce 3 _ rfl
       have d4 := hce 4 _ rfl
       have D0 := Lib.hid d0
       have D1 := Lib.hid d1
       have D2 := Lib.hid d2
       have D3 := Lib.hid d3
       have D4 := Lib.hid d4
       have c0 := d0 wj hbj
       have c1 := d1 wj hbj
       have c2 := d2 wj hbj
       have c3 := d3 wj hbj
       have c4 := d4 wj hbj
       simp only [Nat.add_zero] at c0
       dsimp only at c0 c1 c2 c3 c4
       clear d0 d1 d2 d3 d4
       simp only [Od.vals] at HC
       clear hce hx hCX
       have hg : grp rr dd ⟨code, rank, day, amt, total⟩ = ((rank == rr) && (day == dd)) := rfl
       rw [hg] at HY HNO
       clear hg
       cases e1 : (rank == rr)
       ·have HN := Lib.hid (HNO.out (by simp [e1]))
        clear HY HNO D0 D1 D2 D3 D4
        go_wp2_with fail
        go_roundw
        case rel => exact ⟨k + 1, by omega, by go_num, by rw [HN.out], by rw [HN.out]; exact HX.out⟩
        case measure => simp [intOf]; omega
       ·cases e2 : (day == dd)
        ·have HN := Lib.hid (HNO.out (by simp [e2]))
         clear HY HNO D0 D1 D2 D3 D4
         go_wp2_with fail
         go_roundw
         case rel => exact ⟨k + 1, by omega, by go_num, by rw [HN.out], by rw [HN.out]; exact HX.out⟩
         case measure => simp [intOf]; omega
        ·have HYS := Lib.hid (HY.out (by simp [e1, e2]))
         have hown := HX.out.1
         have hbX := HX.out.2
         have HLC := Lib.hid (clms_len rr dd ds k)
         have hwr : IntKind.i64.wrap ((clms rr dd ds k).sum + CX) = (clms rr dd ds k).sum + CX := IntWalk.i64_in _ (by omega)
         have HSU : Hid ((clms rr dd ds (k + 1)).sum = (clms rr dd ds k).sum + CX) := by rw [Hid, HYS.out, List.sum_append]; simp
         obtain ⟨SU, hSU⟩ : ∃ SU, (clms rr dd ds k).sum = SU := ⟨_, rfl⟩
         rw [hSU] at hwr HSU ⊢
         clear HY HNO hsum hsum0 hcb hsum2 hSU HX HCL HOK HCD
         go_wp2_with fail
         refine (HC.out _).mono ?_
         rintro e w3 ⟨rfl, k3⟩
         have hown3 := hown.kept k3
         have hb3 := below_after hbX k3 hbX.size
         have hw3 := below_after HBI.out hb3 HBI.out.size
         have y0 := D0.out w3 hw3
         have y1 := D1.out w3 hw3
         have y2 := D2.out w3 hw3
         have y3 := D3.out w3 hw3
         have y4 := D4.out w3 hw3
         simp only [Nat.add_zero] at y0
         have hl3 := Nat.lt_of_lt_of_le hbl k3.size
         have hs3 := hb3.size
         clear hown hbX c0 c1 c2 c3 c4 k3 hbj hbl
         go_wp2_with (at_builtin; refine wpList_append_sl rfl (.tmp 128) (.tmp 134) rfl rowInt wi.heap.size _ _ _ (ints [CX]) rfl (hown3.alloc _) rfl (Sl.one rfl rfl) (ints_wide _) (by rw [ints_len, ints_len, HLC.out]; unfold maxLen; simp; omega) (by rw [ints_len, ints_len, HLC.out]; simp; omega) (by simp; omega) ?_; intro v5 w5 hown5 hg5 _; have hb5 := Own.grown (hown3.alloc _) (hb3.alloc hs3 _) hg5 (by simp; omega); rw [← ints_append, ← HYS.out] at hown5; have hw5 := below_after HBI.out hb5 HBI.out.size; have z0 := D0.out w5 hw5; have z1 := D1.out w5 hw5; have z2 := D2.out w5 hw5; have z3 := D3.out w5 hw5; have z4 := D4.out w5 hw5; simp only [Nat.add_zero] at z0; have hl5 := Nat.lt_of_lt_of_le hbl0 hw5.size; clear y0 y1 y2 y3 y4 hl3 hg5)
         refine (HC.out _).mono ?_
         rintro e w6 ⟨rfl, k6⟩
         have HF : Hid (Own w6 wi.heap.size 3 1 v5 (ints (clms rr dd ds (k + 1))) ∧ Below wi.heap.size wi w6) := ⟨hown5.kept k6, below_after hb5 k6 hb5.size⟩
         clear hown5 hb5 k6 z0 z1 z2 z3 z4 hl5 hw5 hown3 hb3 hw3 hs3 D0 D1 D2 D3 D4 HC
         go_wp2_with fail
         go_roundw
         case rel => exact ⟨k + 1, by omega, by go_num, by rw [HSU.out], HF.out⟩
         case measure => simp [intOf]; omega
      ·obtain rfl : k = ds.length := by omega
       have HCB := Lib.hid hcb
       have HLC := Lib.hid (clms_len rr dd ds ds.length)
       have HSJ := Lib.hid (HSI.out.below HX.out.2)
       have HBJ := Lib.hid hbj
       obtain ⟨CS, hCS⟩ : ∃ CS, clms rr dd ds ds.length = CS := ⟨_, rfl⟩
       rw [hCS] at HX HCB HLC hsum2 hsum0 ⊢
       obtain ⟨Ac, cc, hf⟩ := HX.out.1.form
       rw [ints_len] at hf
       subst hf
       have HSC := Lib.hid (HX.out.1.sl (by omega))
       have hbsj := HX.out.2.size
       have ha0 : 0 ≤ a ∧ a ≤ 1000000000 := by obtain ⟨_, ⟨s1, s2, s3⟩, _⟩ := HSJ.out; omega
       have HALC := Lib.hid fun (h : a < CS.sum) => Allocate_any a CS (.slice Ac CS.length cc) wj HSC.out ha0 (by rw [HLC.out]; omega) (fun x hx => by have := HCB.out x hx; omega) (by omega)
       clear hCS HX hcb hsum
       go_upto_if 146 with (fail)
       go_cut [19] (fun p wx => ∃ ps : List Int, Hid (Sl wx 1 p (ints ps) ∧ ps.length = CS.length ∧ (∀ x ∈ ps, 0 ≤ x) ∧ ps.sum ≤ a ∧ Below wj.heap.size wj wx))
       case first =>
        by_cases hlt2 : a < CS.sum
        ·have q1 : decide (a < CS.sum) = true := decide_eq_true hlt2
         have HA := Lib.hid (HALC.out hlt2)
         clear HALC
         go_wp2_with fail
         refine HA.out.mono ?_
         rintro e w7 ⟨u7, ps, rfl, hal, hown7, hb7⟩
         have HF : Hid (Sl w7 1 u7 (ints ps) ∧ ps.length = CS.length ∧ (∀ x ∈ ps, 0 ≤ x) ∧ ps.sum ≤ a ∧ Below wj.heap.size wj w7) := ⟨hown7.sl (by omega), hal.len, hal.pos, by rw [hal.sum]; omega, hb7⟩
         clear hal hown7 hb7 HA
         go_wp2_with fail
         go_meet
         exact ⟨ps, HF.out⟩
        ·have q1 : decide (a < CS.sum) = false := decide_eq_false hlt2
         have HF : Hid (Sl wj 1 (.slice Ac CS.length cc) (ints CS) ∧ CS.length = CS.length ∧ (∀ x ∈ CS, 0 ≤ x) ∧ CS.sum ≤ a ∧ Below wj.heap.size wj wj) := ⟨HSC.out, rfl, fun x hx => (HCB.out x hx).1, by omega, Below.refl _ _⟩
         clear HALC
         go_wp2_with fail
         go_meet
         exact ⟨CS, HF.out.1, rfl, HF.out.2.2⟩
       case rest =>
        obtain ⟨ps, HP⟩ := hcut
        obtain ⟨w2, hw2⟩ : ∃ w2 : World, w2 = wc := ⟨_, rfl⟩
        subst hw2
        have HS2 := Lib.hid (HSJ.out.below HP.out.2.2.2.2)
        obtain ⟨Ap, cp, hf, hcp1, hcp2, _, _⟩ := HP.out.1
        rw [ints_len] at hf hcp1
        unfold maxLen at hcp2
        subst hf
        have HSP := Lib.hid HP.out.1
        have HPP := Lib.hid HP.out.2.2.1
        have hpl := HP.out.2.1
        have hps := HP.out.2.2.2.1
        have HPL : Hid (ps.length = cnt rr dd ds ds.length) := by rw [Hid, hpl]; exact HLC.out
        have hpl5 : ps.length ≤ 5 := by rw [HPL.out]; have := cnt_le rr dd ds ds.length; omega
        clear HP HSJ HALC HSC HCB HLC hsum2 hsum0 hpl
        go_wp2_with fail
        refine serve_l4 HDL h1 h2 h0 hs0 HCD HCL HS2 HSP HPP hps HPL hpl5 hcp1 hcp2 ?_
        intro x0 x3 x10 x20 x21 x153 x154 x155 x156 x157 x158 x159 x160 x161 x162 x163 x164 x165 x166 x167 x168 x169 x170 x171 x172 x173 x174 x175 x176 x177 x178 x179 x180 x181 x182 x183 x184 x185 x186 x187 x188 x189 x190 x191 x192 x193 x194 x195 x196 x197 x198 x199 x200 x201 x202 x203 x204 x205 wr hX
        obtain ⟨a4, t4, rfl, rfl, hS⟩ := hX
        have HF := Lib.hid hS
        have hnx := HNX.out
        clear hS HSP HPP HPL HS2
        go_wp2_with fail
        go_roundw
        case rel => exact ⟨a4, t4, rr, dd, rfl, rfl, rfl, rfl, by omega, by omega, HF.out⟩
        case measure => simp only [intOf]; omega
end Go.Proofs.YtogdefomigiepaaGreatDoor
