/- The law RetroDays: it returns true. -/
import Derived.Test.YtaafihdegnaokaaGreatDoorBaA
import Derived.Test.YtaafihdegnaokaaGreatDoorBaB
namespace Go.Proofs.YtaafihdegnaokaaGreatDoor
open Go.RowKit

/-- a day lies in one of the first ranges -/
def inB (J : List (Int × Int)) (d : Int) (i : Nat) : Bool := (J.take i).any fun p => decide (p.1 ≤ d) && decide (d ≤ p.2)
theorem inB_step {J : List (Int × Int)} {d : Int} {i : Nat} (hi : i < J.length) : inB J d (i + 1) = (inB J d i || (decide ((J[i]).1 ≤ d) && decide (d ≤ (J[i]).2))) := by
  unfold inB
  rw [List.take_succ_eq_append_getElem hi, List.any_append]
  simp
theorem inB_iff (J : List (Int × Int)) (d : Int) : inB J d J.length = true ↔ Cov J d := by
  unfold inB Cov
  rw [List.take_length]
  simp only [List.any_eq_true, Bool.and_eq_true, decide_eq_true_eq]
/-- the first timelines' values differ -/
def difB (xs : List (Value × List Chg)) (n m d : Int) (i : Nat) : Bool := (xs.take i).any fun x => decide (¬ valD (inC x.2 n) d = valD (inC x.2 m) d)
theorem difB_step {xs : List (Value × List Chg)} {n m d : Int} {i : Nat} (hi : i < xs.length) : difB xs n m d (i + 1) = (difB xs n m d i || decide (¬ valD (inC (xs[i]).2 n) d = valD (inC (xs[i]).2 m) d)) := by
  unfold difB
  rw [List.take_succ_eq_append_getElem hi, List.any_append]
  simp
theorem difB_iff (xs : List (Value × List Chg)) (n m d : Int) : difB xs n m d xs.length = true ↔ DifAt (xs.map (·.2)) n m d := by
  unfold difB DifAt
  rw [List.take_length]
  simp only [List.any_eq_true, decide_eq_true_eq]
  constructor
  · rintro ⟨x, hx, h⟩
    exact ⟨x.2, List.mem_map.2 ⟨x, hx, rfl⟩, h⟩
  · rintro ⟨l, hl, h⟩
    obtain ⟨x, hx, rfl⟩ := List.mem_map.1 hl
    exact ⟨x, hx, h⟩
theorem good_chE {xs : List (Value × List Chg)} (hg : ∀ y ∈ xs, GoodT y.2) (hl : xs.length ≤ 3) : chE (xs.map (·.2)) 0 420 = 0 := by
  unfold chE
  rw [if_neg (by rw [List.length_map]; omega), if_neg (by decide), if_neg (by decide), firstE_zero]
  intro l hl
  obtain ⟨y, hy, rfl⟩ := List.mem_map.1 hl
  exact (hg y hy).valid
theorem at_good {l : List Chg} (h : GoodT l) {d : Int} (h0 : 0 ≤ d) (h1 : d ≤ 420) (n : Int) : atO l d n = valD (inC l n) d ∧ atE l d = 0 := by
  have e : atE l d = 0 := by unfold atE; rw [if_pos h.valid, if_pos ⟨h0, by omega⟩]
  exact ⟨by unfold atO; rw [if_pos e], e⟩
set_option maxRecDepth 100000 in
set_option maxHeartbeats 8000000 in
theorem RetroDays_any (v : Value) (zs : List Int) (day : Int) (w : World) (hT : LenT w) (hv : Sl w 1 v (ints zs)) :
    Calls Tryz.prog 6 #[v, .int .i64 day] w fun e w' => e = .returned (.bool true) ∧ Below w.heap.size w w' := by
  have HT := Lib.hid hT
  have HN := Lib.hid (new_any v zs w hv)
  obtain ⟨A0, c0, rfl, -⟩ := hv
  clear hT
  go_enter Tryz.func6, Tryz.ntmps6
  go_wp2_with fail
  refine HN.out.mono ?_
  rintro e w2 ⟨rfl, hd2, hb2⟩
  obtain ⟨D, hD⟩ : ∃ D, w.heap.size = D := ⟨_, rfl⟩
  have hDw : w.heap.size ≤ D := by omega
  have HB2 := Lib.hid hb2
  rw [hD] at hd2
  have hlt2 := hd2.lt
  rw [hD]
  clear hb2 hD HN
  go_wp2_with fail
  refine (timelines_any D 0 w2 hd2 (by omega)).mono ?_
  rintro e w4 ⟨vt, xs, d4, rfl, hgd, hxl, hown4, hd4, hdd4, hg4⟩
  have HB4 := Lib.hid (below_deck HB2.out hg4 hDw)
  have HV4 := Lib.hid hown4
  have HGD := Lib.hid hgd
  obtain ⟨At, ct, rfl⟩ := hown4.own.form
  rw [tlv_len] at HV4
  simp only [tlv_len]
  clear hd2 hg4 HB2 hown4 hgd
  go_wp2_with fail
  refine (Next_any D d4 6 w4 hd4 (by omega) (by omega) (by omega)).mono ?_
  rintro e w5 ⟨n, -, rfl, hd5, hg5⟩
  have HB5 := Lib.hid (below_deck HB4.out hg5 hDw)
  have HV5 := Lib.hid (HV4.out.keepD hg5 hlt2)
  clear hd4 hg5 HB4 HV4
  go_wp2_with fail
  refine (Next_any D (d4 + 1) 6 w5 hd5 (by omega) (by omega) (by omega)).mono ?_
  rintro e w6 ⟨m, -, rfl, hd6, hg6⟩
  have HB6 := Lib.hid (below_deck HB5.out hg6 hDw)
  have HV6 := Lib.hid (HV5.out.keepD hg6 hlt2).at
  clear hd5 hg6 HB5 HV5 hd6
  have hch := good_chE HGD.out hxl
  obtain ⟨hcan, hcov⟩ := chgJ_ok (xs.map (·.2)) n m (show (0 : Int) ≤ 420 by decide)
  have hin := fun p (hp : p ∈ chgJ (xs.map (·.2)) n m 0 420) => chgJ_in (show (0 : Int) ≤ 420 by decide) hp
  have hchO : chO (xs.map (·.2)) n m 0 420 = chgJ (xs.map (·.2)) n m 0 420 := by unfold chO; rw [if_pos hch]
  have HCH := Lib.hid (fun W h => Changed_any (.slice At xs.length ct) xs n m 0 420 W h)
  unfold RetOwn2 at HCH
  rw [hch, hchO] at HCH
  obtain ⟨J, hJ⟩ : ∃ J, chgJ (xs.map (·.2)) n m 0 420 = J := ⟨_, rfl⟩
  rw [hJ] at HCH hcan hcov hin
  have hJl := canon_len hcan (lo := 0) (fun p hp => by have := hin p hp; omega)
  have hJl2 : J.length ≤ 84006 := by omega
  have HCAN := Lib.hid hcan
  have HIN := Lib.hid hin
  have HCOV : Hid (∀ d, 0 ≤ d → d ≤ 420 → inB J d J.length = difB xs n m d xs.length) := fun d h0 h1 => by
    rw [Bool.eq_iff_iff, inB_iff, difB_iff, hcov]
    exact ⟨fun h => h.2.2, fun h => ⟨h0, h1, h⟩⟩
  clear hch hchO hJ hcan hcov hin hJl
  go_wp2_with fail
  refine (HCH.out _ HV6.out).mono ?_
  rintro e w7 ⟨x7, rfl, hown7, hb7⟩
  have HB7 := Lib.hid (below_after HB6.out hb7 HB6.out.size)
  have HV7 := Lib.hid (HV6.out.below hb7)
  have HS7 := Lib.hid (hown7.sl (by omega))
  obtain ⟨Aj, cj, rfl⟩ := hown7.form
  rw [prs_len] at HS7
  simp only [prs_len]
  clear hb7 hown7 HB6 HV6 HCH
  have hm1 : 0 ≤ day % 421 := by omega
  have hm2 : day % 421 ≤ 420 := by omega
  go_wp2_with fail
  refine (Mod_any day 421 _ (by omega) (by omega)).mono ?_
  rintro e wx ⟨rfl, rfl⟩
  obtain ⟨d, hd⟩ : ∃ d, day % 421 = d := ⟨_, rfl⟩
  rw [hd] at hm1 hm2
  rw [hd]
  clear hd
  have HEQ := Lib.hid (HCOV.out d hm1 hm2)
  clear HCOV
  go_wp2_with fail
  go_loopw [12, 13] (fun b i wr => ∃ q : Nat, q ≤ J.length ∧ i = .int .i64 q ∧ b = .bool (inB J d q) ∧ Hid (Below w7.heap.size w7 wr)) (fun _ i _ => J.length - (intOf i).toNat)
  case atStart => exact ⟨0, by omega, rfl, rfl, Below.refl _ _⟩
  case round =>
    obtain ⟨q, hq, rfl, rfl, HBL⟩ := hrel
    obtain ⟨wo, rfl⟩ : ∃ wo : World, wo = wr := ⟨_, rfl⟩
    by_cases hlt : q < J.length
    · obtain ⟨bk, off, rfl, hcl⟩ := (HS7.out.below HBL.out).cells (by rw [prs_len]; omega)
      obtain ⟨y0, y1⟩ := hcl.pr hlt
      have hbl := hcl.1
      have hok := HCAN.out.ok _ (List.getElem_mem hlt)
      have hi0 := HIN.out _ (List.getElem_mem hlt)
      have HST := Lib.hid (inB_step (d := d) hlt)
      have HPR : Hid (∀ h : 0 < q, wo.cell? ⟨bk, off + (q - 1) * 2 + 1, none⟩ = some (.int .i64 (J[q - 1]'(by omega)).2) ∧ ¬ (J[q]'hlt).1 ≤ (J[q - 1]'(by omega)).2 + 1 ∧ 0 ≤ (J[q - 1]'(by omega)).2 ∧ (J[q - 1]'(by omega)).2 ≤ 420) := fun h => by
        have g1 := (hcl.pr (i := q - 1) (by omega)).2
        have g2 := List.pairwise_iff_getElem.1 HCAN.out.gap (q - 1) q (by omega) hlt (by omega)
        have g3 := HIN.out _ (List.getElem_mem (show q - 1 < J.length by omega))
        exact ⟨g1, by omega, by omega, by omega⟩
      obtain ⟨x, hx⟩ : ∃ x, (J[q]'hlt).1 = x := ⟨_, rfl⟩
      obtain ⟨y, hy⟩ : ∃ x, (J[q]'hlt).2 = x := ⟨_, rfl⟩
      rw [hx] at y0 HST hok hi0
      rw [hy] at y1 HST hok hi0
      have HX := Lib.hid hx
      have i1 : (q : Int) < (J.length : Int) := by omega
      have g2 : decide (y < x) = false := decide_eq_false (by omega)
      obtain ⟨bb, hbb⟩ : ∃ b, inB J d q = b := ⟨_, rfl⟩
      rw [hbb] at HST
      rw [hbb]
      clear hcl hx hy hbb hok hi0
      by_cases hpos : 0 < q
      · obtain ⟨z1, z2, z3, z4⟩ := HPR.out hpos
        rw [HX.out] at z2
        obtain ⟨z, hz⟩ : ∃ z, (J[q - 1]'(by omega)).2 = z := ⟨_, rfl⟩
        rw [hz] at z1 z2 z3 z4
        have g3 : decide ((0 : Int) < (q : Int)) = true := decide_eq_true (by omega)
        have g3n : decide (0 < q) = true := decide_eq_true hpos
        have s1 : IntKind.i64.wrap ((q : Int) - 1) = ((q - 1 : Nat) : Int) := by rw [show (q : Int) - 1 = ((q - 1 : Nat) : Int) by omega]; exact IntWalk.i64_in _ (by omega)
        have s2 : IntKind.i64.wrap (z + 1) = z + 1 := IntWalk.i64_in _ (by omega)
        have i2 : ((q - 1 : Nat) : Int) < (J.length : Int) := by omega
        have g4 : decide (x ≤ z + 1) = false := decide_eq_false z2
        clear hz z2 HPR HX
        cases bb with
        | true =>
          have HN : Hid (inB J d (q + 1) = true) := by rw [Hid, HST.out]; rfl
          clear HST
          go_wp2_with fail
          go_quiet (fail)
          go_wp2
          go_roundw
          case rel => exact ⟨q + 1, by omega, by go_num, by rw [HN.out], Below.draws HBL.out _⟩
          case measure => simp [intOf]; omega
        | false =>
          by_cases h1 : x ≤ d
          · have q1 : decide (x ≤ d) = true := decide_eq_true h1
            by_cases h2 : d ≤ y
            · have q2 : decide (d ≤ y) = true := decide_eq_true h2
              have HN : Hid (inB J d (q + 1) = true) := by rw [Hid, HST.out, q1, q2]; rfl
              clear HST h1 h2
              go_wp2_with fail
              go_quiet (fail)
              go_wp2
              go_roundw
              case rel => exact ⟨q + 1, by omega, by go_num, by rw [HN.out], Below.draws HBL.out _⟩
              case measure => simp [intOf]; omega
            · have q2 : decide (d ≤ y) = false := decide_eq_false h2
              have HN : Hid (inB J d (q + 1) = false) := by rw [Hid, HST.out, q1, q2]; rfl
              clear HST h1 h2
              go_wp2_with fail
              go_quiet (fail)
              go_wp2
              go_roundw
              case rel => exact ⟨q + 1, by omega, by go_num, by rw [HN.out], Below.draws HBL.out _⟩
              case measure => simp [intOf]; omega
          · have q1 : decide (x ≤ d) = false := decide_eq_false h1
            have HN : Hid (inB J d (q + 1) = false) := by rw [Hid, HST.out, q1]; rfl
            clear HST h1
            go_wp2_with fail
            go_quiet (fail)
            go_wp2
            go_roundw
            case rel => exact ⟨q + 1, by omega, by go_num, by rw [HN.out], Below.draws HBL.out _⟩
            case measure => simp [intOf]; omega
      · have hq0 : q = 0 := by omega
        have g3 : decide ((0 : Int) < (q : Int)) = false := decide_eq_false (by omega)
        have g3n : decide (0 < q) = false := decide_eq_false hpos
        clear HPR HX hq0
        cases bb with
        | true =>
          have HN : Hid (inB J d (q + 1) = true) := by rw [Hid, HST.out]; rfl
          clear HST
          go_wp2_with fail
          go_quiet (fail)
          go_wp2
          go_roundw
          case rel => exact ⟨q + 1, by omega, by go_num, by rw [HN.out], Below.draws HBL.out _⟩
          case measure => simp [intOf]; omega
        | false =>
          by_cases h1 : x ≤ d
          · have q1 : decide (x ≤ d) = true := decide_eq_true h1
            by_cases h2 : d ≤ y
            · have q2 : decide (d ≤ y) = true := decide_eq_true h2
              have HN : Hid (inB J d (q + 1) = true) := by rw [Hid, HST.out, q1, q2]; rfl
              clear HST h1 h2
              go_wp2_with fail
              go_quiet (fail)
              go_wp2
              go_roundw
              case rel => exact ⟨q + 1, by omega, by go_num, by rw [HN.out], Below.draws HBL.out _⟩
              case measure => simp [intOf]; omega
            · have q2 : decide (d ≤ y) = false := decide_eq_false h2
              have HN : Hid (inB J d (q + 1) = false) := by rw [Hid, HST.out, q1, q2]; rfl
              clear HST h1 h2
              go_wp2_with fail
              go_quiet (fail)
              go_wp2
              go_roundw
              case rel => exact ⟨q + 1, by omega, by go_num, by rw [HN.out], Below.draws HBL.out _⟩
              case measure => simp [intOf]; omega
          · have q1 : decide (x ≤ d) = false := decide_eq_false h1
            have HN : Hid (inB J d (q + 1) = false) := by rw [Hid, HST.out, q1]; rfl
            clear HST h1
            go_wp2_with fail
            go_quiet (fail)
            go_wp2
            go_roundw
            case rel => exact ⟨q + 1, by omega, by go_num, by rw [HN.out], Below.draws HBL.out _⟩
            case measure => simp [intOf]; omega
    · obtain rfl : q = J.length := by omega
      rw [HEQ.out]
      have HB8 := Lib.hid (below_after HB7.out HBL.out HB7.out.size)
      have HV8 := Lib.hid (HV7.out.below HBL.out)
      clear HBL HB7 HV7 HS7
      go_wp2_with fail
      go_loopw [14, 15] (fun b i wr => ∃ q : Nat, q ≤ xs.length ∧ i = .int .i64 q ∧ b = .bool (difB xs n m d q) ∧ Hid (Below wo.heap.size wo wr)) (fun _ i _ => xs.length - (intOf i).toNat)
      case atStart => exact ⟨0, by omega, rfl, rfl, Below.refl _ _⟩
      case round =>
        obtain ⟨q, hq, rfl, rfl, HBL⟩ := hrel
        obtain ⟨wp, rfl⟩ : ∃ wo : World, wo = wr := ⟨_, rfl⟩
        by_cases hlt : q < xs.length
        · obtain ⟨bk, off, hA, hbw, y0, hsl⟩ := (HV8.out.below HBL.out).at rfl hlt
          subst hA
          have hg := HGD.out _ (List.getElem_mem hlt)
          have HST := Lib.hid (difB_step (n := n) (m := m) (d := d) hlt)
          have h1 := at_good hg hm1 hm2 n
          have h2 := at_good hg hm1 hm2 m
          have HA1 := Lib.hid (fun W h => refAt_any (xs[q]'hlt).1 (xs[q]'hlt).2 d n W h)
          have HA2 := Lib.hid (fun W h => refAt_any (xs[q]'hlt).1 (xs[q]'hlt).2 d m W h)
          unfold AtP at HA1 HA2
          rw [h1.1, h1.2] at HA1
          rw [h2.1, h2.2] at HA2
          obtain ⟨o, ho⟩ : ∃ o, valD (inC (xs[q]'hlt).2 n) d = o := ⟨_, rfl⟩
          obtain ⟨p, hp⟩ : ∃ o, valD (inC (xs[q]'hlt).2 m) d = o := ⟨_, rfl⟩
          rw [ho] at HA1 HST
          rw [hp] at HA2 HST
          obtain ⟨a1, ha1⟩ : ∃ a, o.getD 0 = a := ⟨_, rfl⟩
          obtain ⟨a2, ha2⟩ : ∃ a, p.getD 0 = a := ⟨_, rfl⟩
          obtain ⟨b1, hb1⟩ : ∃ a, o.isSome = a := ⟨_, rfl⟩
          obtain ⟨b2, hb2⟩ : ∃ a, p.isSome = a := ⟨_, rfl⟩
          have hw := opt_ways2 o p
          rw [ha1, ha2, hb1, hb2] at hw
          rw [ha1, hb1] at HA1
          rw [ha2, hb2] at HA2
          have HW := Lib.hid hw
          obtain ⟨y, hy⟩ : ∃ y, (xs[q]'hlt).1 = y := ⟨_, rfl⟩
          rw [hy] at y0 hsl HA1 HA2
          have HSL := Lib.hid hsl
          obtain ⟨Ay, cy, rfl, -⟩ := hsl
          have i1 : (q : Int) < (xs.length : Int) := by omega
          obtain ⟨bb, hbb⟩ : ∃ b, difB xs n m d q = b := ⟨_, rfl⟩
          rw [hbb] at HST
          rw [hbb]
          have hbo := HBL.out.size
          clear hg h1 h2 ho hp ha1 ha2 hb1 hb2 hw hy hbb
          go_wp2_with fail
          refine (HA1.out _ HSL.out).mono ?_
          rintro e w9 ⟨rfl, hb9⟩
          have HBL9 := Lib.hid (below_after HBL.out hb9 hbo)
          have HSL9 := Lib.hid (HSL.out.below hb9)
          have y9 : w9.cell? ⟨bk, off + q, none⟩ = some (.slice Ay (chgs (xs[q]'hlt).2).length cy) := (hb9.cell (p := ⟨bk, off + q, none⟩) hbw).trans y0
          have hbw9 : bk < w9.heap.size := Nat.lt_of_lt_of_le hbw hb9.size
          clear hb9 HBL HSL y0 hbw HA1
          go_wp2_with fail
          refine (HA2.out _ HSL9.out).mono ?_
          rintro e w10 ⟨rfl, hb10⟩
          have HBL10 := Lib.hid (below_after HBL9.out hb10 HBL9.out.size)
          clear hb10 HBL9 HSL9 y9 hbw9 HA2
          cases bb with
          | true =>
            have HN : Hid (difB xs n m d (q + 1) = true) := by rw [Hid, HST.out]; rfl
            clear HST HW
            go_wp2
            go_roundw
            case rel => exact ⟨q + 1, by omega, by go_num, by rw [HN.out], HBL10.out⟩
            case measure => simp [intOf]; omega
          | false =>
            rcases HW.out with ⟨e1, e2, e3⟩ | ⟨e1, e2⟩ | ⟨e1, e2, e3⟩
            · have HN : Hid (difB xs n m d (q + 1) = false) := by rw [Hid, HST.out, decide_eq_false (fun h => h e1)]; rfl
              clear HST HW e1
              cases b1 <;> cases b2
              all_goals (try exact absurd e3.symm Bool.false_ne_true)
              all_goals
                clear e3
                go_wp2
                go_roundw
                case rel => exact ⟨q + 1, by omega, by go_num, by rw [HN.out], HBL10.out⟩
                case measure => simp [intOf]; omega
            · have HN : Hid (difB xs n m d (q + 1) = true) := by rw [Hid, HST.out, decide_eq_true e1]; rfl
              clear HST HW e1
              cases b1 <;> cases b2
              all_goals
                go_wp2
                go_roundw
                case rel => exact ⟨q + 1, by omega, by go_num, by rw [HN.out], HBL10.out⟩
                case measure => simp [intOf]; omega
            · have HN : Hid (difB xs n m d (q + 1) = true) := by rw [Hid, HST.out, decide_eq_true e1]; rfl
              clear HST HW e1
              cases b1 <;> cases b2
              all_goals (try exact absurd e3 Bool.false_ne_true)
              all_goals
                clear e3
                go_wp2
                go_roundw
                case rel => exact ⟨q + 1, by omega, by go_num, by rw [HN.out], HBL10.out⟩
                case measure => simp [intOf]; omega
        · obtain rfl : q = xs.length := by omega
          have HB9 := Lib.hid (below_after HB8.out HBL.out HB8.out.size)
          obtain ⟨bb, hbb⟩ : ∃ b, difB xs n m d xs.length = b := ⟨_, rfl⟩
          rw [hbb]
          clear hbb HBL
          go_wp2_with fail
          refine (awake_any _ (HT.out.below HB9.out)).mono ?_
          rintro e w15 ⟨rfl, hb15⟩
          have HB15 := Lib.hid (below_after HB9.out hb15 HB9.out.size)
          clear hb15
          go_wp2
          go_ret
          exact ⟨rfl, HB15.out⟩
end Go.Proofs.YtaafihdegnaokaaGreatDoor
