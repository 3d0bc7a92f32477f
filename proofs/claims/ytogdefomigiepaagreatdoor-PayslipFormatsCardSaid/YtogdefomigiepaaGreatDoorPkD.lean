/- Contracts and plain facts that the laws of this seat share, part 4. -/
import Derived.Test.YtogdefomigiepaaGreatDoorPkB
import Derived.Test.YtogdefomigiepaaGreatDoorPkC
import Derived.Test.YtogdefomigiepaaGreatDoorPkA
import Derived.Deep.MidRow
import Derived.Laws.ResultCell
set_option linter.unusedVariables false
set_option linter.unusedSimpArgs false
/- The reference's validity loops of pay, at valid lists. Written by gen_rvl.py. -/
namespace Go.Proofs.YtogdefomigiepaaGreatDoor
open Go.RowKit

theorem Tbl.head {A B : Int} {l : List (Int × Int)} (h : Tbl A B l) : ∃ r, l[0]? = some (0, r) := by
 have hp := h.pos
 have h1 := h.first hp
 exact ⟨(l[0]).2, by rw [List.getElem?_eq_getElem hp, ← h1]⟩

theorem in27_ok {n m : Int} (w : World) (h : 0 ≤ n ∧ n ≤ m) :
  Calls Tryz.prog 85 #[.int .i64 n, .int .i64 m] w fun e w' => e = .returned (.bool true) ∧ w = w' := by
 obtain ⟨h1, h2⟩ := h
 go_enter Tryz.func85, Tryz.ntmps85
 go_wp2
 go_ret
 exact ⟨rfl, rfl⟩
theorem in30_ok {n m : Int} (w : World) (h : 0 ≤ n ∧ n ≤ m) :
  Calls Tryz.prog 95 #[.int .i64 n, .int .i64 m] w fun e w' => e = .returned (.bool true) ∧ w = w' := by
 obtain ⟨h1, h2⟩ := h
 go_enter Tryz.func95, Tryz.ntmps95
 go_wp2
 go_ret
 exact ⟨rfl, rfl⟩
theorem in31_ok {n m : Int} (w : World) (h : 0 ≤ n ∧ n ≤ m) :
  Calls Tryz.prog 133 #[.int .i64 n, .int .i64 m] w fun e w' => e = .returned (.bool true) ∧ w = w' := by
 obtain ⟨h1, h2⟩ := h
 go_enter Tryz.func133, Tryz.ntmps133
 go_wp2
 go_ret
 exact ⟨rfl, rfl⟩
theorem in32_ok {n m : Int} (w : World) (h : 0 ≤ n ∧ n ≤ m) :
  Calls Tryz.prog 123 #[.int .i64 n, .int .i64 m] w fun e w' => e = .returned (.bool true) ∧ w = w' := by
 obtain ⟨h1, h2⟩ := h
 go_enter Tryz.func123, Tryz.ntmps123
 go_wp2
 go_ret
 exact ⟨rfl, rfl⟩

set_option maxRecDepth 100000 in
set_option maxHeartbeats 4000000 in
theorem Deds_ok (ds : List Dd) (v : Value) (w : World) (hv : Sl w 6 v (ds.map Dd.vals)) (hc : Coded Dd.code DdOk litC litC.length ds) :
  Calls Tryz.prog 84 #[v] w fun e w' => e = .returned (.bool true) ∧ Below w.heap.size w w' := by
 have HV := Lib.hid hv
 have HL : ds.length ≤ 4 := hc.len
 have HA := Lib.hid (hc.asc litC_asc)
 have HO := Lib.hid hc.ok
 have HM : Hid (∀ x ∈ ds, nameB x.code.data.toList = true) := fun x hx => litC_name _ (hc.mem hx)
 clear hc
 obtain ⟨A, cap, rfl, h1, h2, _, _⟩ := hv
 rw [List.length_map] at h1 HV ⊢
 unfold maxLen at h2
 have d0 : decide ((16 : Int) < (ds.length : Int)) = false := decide_eq_false (by omega)
 go_enter Tryz.func84, Tryz.ntmps84
 go_wp2_with fail
 go_loopw [3] (fun i wr => ∃ k : Nat, k ≤ ds.length ∧ i = .int .i64 k ∧ Hid (Below w.heap.size w wr)) (fun i _ => ds.length - (intOf i).toNat)
 case atStart => exact ⟨0, by omega, rfl, Below.refl _ _⟩
 case round =>
  obtain ⟨k, hk, rfl, HB⟩ := hrel
  obtain ⟨wo, rfl⟩ : ∃ wo : World, wo = wr := ⟨_, rfl⟩
  by_cases hlt : k < ds.length
  ·obtain ⟨bk, off, rfl, hc⟩ := (HV.out.below HB.out).cells (by rw [List.length_map]; omega)
   have hbl := hc.1
   have i1 : (k : Int) < (ds.length : Int) := by omega
   have HW := HO.out _ (List.getElem_mem hlt)
   have hwk : (ds.map Dd.vals)[k]? = some ((ds[k]).vals) := by simp [hlt]
   have HP : Hid (∀ (j : Nat) (_ : j + 1 = k), ∃ q : ByteArray, q.toList < (ds[k]).code.toList ∧ ∀ y : Ext wo, y.val.cell? ⟨bk, off + j * 6, none⟩ = some (.string q)) := by
    rintro j rfl
    refine ⟨(ds[j]'(by omega)).code, List.pairwise_iff_getElem.1 HA.out j (j + 1) (by omega) hlt (by omega), fun y => ?_⟩
    exact ext_cell hbl (hc.at (k := j) (x := ((ds[j]'(by omega))).vals) (by simp; exact ⟨_, List.getElem?_eq_getElem (by omega), rfl⟩) 0 rfl) y
   obtain ⟨⟨code, rank, bef, amt, rate, cp⟩, hx⟩ : ∃ x, ds[k] = x := ⟨_, rfl⟩
   rw [hx] at hwk HW HP
   have c0 := hc.at hwk 0 rfl
   have c1 := hc.at hwk 1 rfl
   have c2 := hc.at hwk 2 rfl
   have c3 := hc.at hwk 3 rfl
   have c4 := hc.at hwk 4 rfl
   have c5 := hc.at hwk 5 rfl
   have HN : nameB code.data.toList = true := by have := HM.out _ (List.getElem_mem hlt); rwa [hx] at this
   obtain ⟨⟨q1, q2⟩, ⟨q3, q4⟩, ⟨q5, q6⟩, ⟨q7, q8⟩⟩ := HW
   try dsimp only at *
   simp only [Nat.add_zero] at c0
   clear hx hc hwk
   go_upto_region 7 with (fail)
   obtain ⟨w1, hw1⟩ : ∃ w1, wo.alloc (.cells #[.string code, .int .i64 rank, .bool bef, .int .i64 amt, .int .i64 rate, .int .i64 cp] 170) = w1 := ⟨_, rfl⟩
   have kk : Below wo.heap.size wo w1 := by rw [← hw1]; exact (Below.refl _ _).alloc (Nat.le_refl _) _
   have R : Row w1 wo.heap.size 170 #[.string code, .int .i64 rank, .bool bef, .int .i64 amt, .int .i64 rate, .int .i64 cp] := by rw [← hw1]; exact Row.new _ _ _
   rw [hw1]
   clear hw1 c0 c1 c2 c3 c4 c5
   have lR := R.lt
   obtain ⟨g, hg⟩ : ∃ g, wo.heap.size = g := ⟨_, rfl⟩
   have KK : Hid (Below wo.heap.size wo w1) := kk
   rw [hg] at R lR ⊢
   have e0 := ext_cell lR (Row.cell R 0)
   have e1 := ext_cell lR (Row.cell R 1)
   have e2 := ext_cell lR (Row.cell R 2)
   have e3 := ext_cell lR (Row.cell R 3)
   have e4 := ext_cell lR (Row.cell R 4)
   have e5 := ext_cell lR (Row.cell R 5)
   have HBY : Hid (∀ y : Ext w1, Below w.heap.size w y.val) := fun y => below_after HB.out (KK.out.trans (y.property.mono KK.out.size)) HB.out.size
   have HP2 : Hid (∀ (j : Nat) (_ : j + 1 = k), ∃ q : ByteArray, q.toList < code.toList ∧ ∀ y : Ext w1, y.val.cell? ⟨bk, off + j * 6, none⟩ = some (.string q)) := fun j hj => by
    obtain ⟨q, h1, h2⟩ := HP.out j hj
    exact ⟨q, h1, fun y => h2 ⟨y.val, KK.out.trans (y.property.mono KK.out.size)⟩⟩
   clear kk R hg HP hbl lR
   have HF : Hid (∀ y : Ext w1, Calls Tryz.prog 104 #[.string code] y.val fun e w' => e = .returned (.bool true) ∧ Below y.val.heap.size y.val w') := fun y => by
    have := refIsName_any code y.val
    rwa [HN] at this
   clear HN
   rcases Nat.eq_zero_or_pos k with rfl | hk0
   ·clear HP2
    refine region_ext (by kernel_rfl) (by kernel_rfl) ?_
    repeat (go_big_quiet_step (first | (go_at_call 104; exact ext_call (HF.out _)) | (go_at_call 85; exact ext_quiet (in27_ok _ ⟨by omega, by omega⟩))))
    refine wpQuiet_nil ?_
    rintro _ ⟨y, rfl⟩
    go_wp2_with fail
    go_roundw
    case rel => exact ⟨0 + 1, by omega, by go_num, HBY.out y⟩
    case measure => simp [intOf]; omega
   ·obtain ⟨j, rfl⟩ : ∃ j, k = j + 1 := ⟨k - 1, by omega⟩
    obtain ⟨q, hq, pq⟩ := HP2.out j rfl
    have i2 : (j : Int) < (ds.length : Int) := by omega
    have s2 : IntKind.i64.wrap ((j : Int) + 1 - 1) = (j : Int) := by rw [show (j : Int) + 1 - 1 = (j : Int) by omega]; exact IntWalk.i64_in _ (by omega)
    have b1 : Op.bytesLess q.toList code.toList = true := by rw [bytesLess_eq]; exact decide_eq_true hq
    clear hq HP2
    refine region_ext (by kernel_rfl) (by kernel_rfl) ?_
    repeat (go_big_quiet_step (first | (go_at_call 104; exact ext_call (HF.out _)) | (go_at_call 85; exact ext_quiet (in27_ok _ ⟨by omega, by omega⟩))))
    refine wpQuiet_nil ?_
    rintro _ ⟨y, rfl⟩
    go_wp2_with fail
    go_roundw
    case rel => exact ⟨j + 1 + 1, by omega, by go_num, HBY.out y⟩
    case measure => simp [intOf]; omega
  ·obtain rfl : k = ds.length := by omega
   go_wp2
   go_ret
   exact ⟨rfl, HB.out⟩

set_option maxRecDepth 100000 in
set_option maxHeartbeats 4000000 in
theorem Orders_ok (ds : List Od) (v : Value) (w : World) (hv : Sl w 5 v (ds.map Od.vals)) (hc : Coded Od.code OdOk litO litO.length ds) :
  Calls Tryz.prog 100 #[v] w fun e w' => e = .returned (.bool true) ∧ Below w.heap.size w w' := by
 have HV := Lib.hid hv
 have HL : ds.length ≤ 5 := hc.len
 have HA := Lib.hid (hc.asc litO_asc)
 have HO := Lib.hid hc.ok
 have HM : Hid (∀ x ∈ ds, nameB x.code.data.toList = true) := fun x hx => litO_name _ (hc.mem hx)
 clear hc
 obtain ⟨A, cap, rfl, h1, h2, _, _⟩ := hv
 rw [List.length_map] at h1 HV ⊢
 unfold maxLen at h2
 have d0 : decide ((16 : Int) < (ds.length : Int)) = false := decide_eq_false (by omega)
 go_enter Tryz.func100, Tryz.ntmps100
 go_wp2_with fail
 go_loopw [3] (fun i wr => ∃ k : Nat, k ≤ ds.length ∧ i = .int .i64 k ∧ Hid (Below w.heap.size w wr)) (fun i _ => ds.length - (intOf i).toNat)
 case atStart => exact ⟨0, by omega, rfl, Below.refl _ _⟩
 case round =>
  obtain ⟨k, hk, rfl, HB⟩ := hrel
  obtain ⟨wo, rfl⟩ : ∃ wo : World, wo = wr := ⟨_, rfl⟩
  by_cases hlt : k < ds.length
  ·obtain ⟨bk, off, rfl, hc⟩ := (HV.out.below HB.out).cells (by rw [List.length_map]; omega)
   have hbl := hc.1
   have i1 : (k : Int) < (ds.length : Int) := by omega
   have HW := HO.out _ (List.getElem_mem hlt)
   have hwk : (ds.map Od.vals)[k]? = some ((ds[k]).vals) := by simp [hlt]
   have HP : Hid (∀ (j : Nat) (_ : j + 1 = k), ∃ q : ByteArray, q.toList < (ds[k]).code.toList ∧ ∀ y : Ext wo, y.val.cell? ⟨bk, off + j * 5, none⟩ = some (.string q)) := by
    rintro j rfl
    refine ⟨(ds[j]'(by omega)).code, List.pairwise_iff_getElem.1 HA.out j (j + 1) (by omega) hlt (by omega), fun y => ?_⟩
    exact ext_cell hbl (hc.at (k := j) (x := ((ds[j]'(by omega))).vals) (by simp; exact ⟨_, List.getElem?_eq_getElem (by omega), rfl⟩) 0 rfl) y
   obtain ⟨⟨code, rank, day, amt, total⟩, hx⟩ : ∃ x, ds[k] = x := ⟨_, rfl⟩
   rw [hx] at hwk HW HP
   have c0 := hc.at hwk 0 rfl
   have c1 := hc.at hwk 1 rfl
   have c2 := hc.at hwk 2 rfl
   have c3 := hc.at hwk 3 rfl
   have c4 := hc.at hwk 4 rfl
   have HN : nameB code.data.toList = true := by have := HM.out _ (List.getElem_mem hlt); rwa [hx] at this
   obtain ⟨⟨q1, q2⟩, ⟨q3, q4⟩, ⟨q5, q6⟩, ⟨q7, q8⟩⟩ := HW
   try dsimp only at *
   simp only [Nat.add_zero] at c0
   clear hx hc hwk
   go_upto_region 7 with (fail)
   obtain ⟨w1, hw1⟩ : ∃ w1, wo.alloc (.cells #[.string code, .int .i64 rank, .int .i64 day, .int .i64 amt, .int .i64 total] 202) = w1 := ⟨_, rfl⟩
   have kk : Below wo.heap.size wo w1 := by rw [← hw1]; exact (Below.refl _ _).alloc (Nat.le_refl _) _
   have R : Row w1 wo.heap.size 202 #[.string code, .int .i64 rank, .int .i64 day, .int .i64 amt, .int .i64 total] := by rw [← hw1]; exact Row.new _ _ _
   rw [hw1]
   clear hw1 c0 c1 c2 c3 c4
   have lR := R.lt
   obtain ⟨g, hg⟩ : ∃ g, wo.heap.size = g := ⟨_, rfl⟩
   have KK : Hid (Below wo.heap.size wo w1) := kk
   rw [hg] at R lR ⊢
   have e0 := ext_cell lR (Row.cell R 0)
   have e1 := ext_cell lR (Row.cell R 1)
   have e2 := ext_cell lR (Row.cell R 2)
   have e3 := ext_cell lR (Row.cell R 3)
   have e4 := ext_cell lR (Row.cell R 4)
   have HBY : Hid (∀ y : Ext w1, Below w.heap.size w y.val) := fun y => below_after HB.out (KK.out.trans (y.property.mono KK.out.size)) HB.out.size
   have HP2 : Hid (∀ (j : Nat) (_ : j + 1 = k), ∃ q : ByteArray, q.toList < code.toList ∧ ∀ y : Ext w1, y.val.cell? ⟨bk, off + j * 5, none⟩ = some (.string q)) := fun j hj => by
    obtain ⟨q, h1, h2⟩ := HP.out j hj
    exact ⟨q, h1, fun y => h2 ⟨y.val, KK.out.trans (y.property.mono KK.out.size)⟩⟩
   clear kk R hg HP hbl lR
   have HF : Hid (∀ y : Ext w1, Calls Tryz.prog 104 #[.string code] y.val fun e w' => e = .returned (.bool true) ∧ Below y.val.heap.size y.val w') := fun y => by
    have := refIsName_any code y.val
    rwa [HN] at this
   clear HN
   rcases Nat.eq_zero_or_pos k with rfl | hk0
   ·clear HP2
    refine region_ext (by kernel_rfl) (by kernel_rfl) ?_
    repeat (go_big_quiet_step (first | (go_at_call 104; exact ext_call (HF.out _)) | (go_at_call 133; exact ext_quiet (in31_ok _ ⟨by omega, by omega⟩))))
    refine wpQuiet_nil ?_
    rintro _ ⟨y, rfl⟩
    go_wp2_with fail
    go_roundw
    case rel => exact ⟨0 + 1, by omega, by go_num, HBY.out y⟩
    case measure => simp [intOf]; omega
   ·obtain ⟨j, rfl⟩ : ∃ j, k = j + 1 := ⟨k - 1, by omega⟩
    obtain ⟨q, hq, pq⟩ := HP2.out j rfl
    have i2 : (j : Int) < (ds.length : Int) := by omega
    have s2 : IntKind.i64.wrap ((j : Int) + 1 - 1) = (j : Int) := by rw [show (j : Int) + 1 - 1 = (j : Int) by omega]; exact IntWalk.i64_in _ (by omega)
    have b1 : Op.bytesLess q.toList code.toList = true := by rw [bytesLess_eq]; exact decide_eq_true hq
    clear hq HP2
    refine region_ext (by kernel_rfl) (by kernel_rfl) ?_
    repeat (go_big_quiet_step (first | (go_at_call 104; exact ext_call (HF.out _)) | (go_at_call 133; exact ext_quiet (in31_ok _ ⟨by omega, by omega⟩))))
    refine wpQuiet_nil ?_
    rintro _ ⟨y, rfl⟩
    go_wp2_with fail
    go_roundw
    case rel => exact ⟨j + 1 + 1, by omega, by go_num, HBY.out y⟩
    case measure => simp [intOf]; omega
  ·obtain rfl : k = ds.length := by omega
   go_wp2
   go_ret
   exact ⟨rfl, HB.out⟩

set_option maxRecDepth 100000 in
set_option maxHeartbeats 4000000 in
theorem Record_ok (l : List Ln) (v : Value) (w : World) (hv : Sl w 2 v (els l)) (hl : l.length ≤ 128) (hs : l.Pairwise fun a b => a.code.toList < b.code.toList) (hn : ∀ x ∈ l, nameB x.code.data.toList = true) (ha : ∀ x ∈ l, 0 ≤ x.amt ∧ x.amt ≤ 1000000000000) :
    Calls Tryz.prog 81 #[v] w fun e w' => e = .returned (.bool true) ∧ Below w.heap.size w w' := by
  have HV := Lib.hid hv
  have HA := Lib.hid hs
  have HO := Lib.hid ha
  have HM := Lib.hid hn
  clear hs hn ha
  obtain ⟨A, cap, rfl, h1, h2, _, _⟩ := hv
  rw [els_len] at h1 HV ⊢
  unfold maxLen at h2
  have d0 : decide ((128 : Int) < (l.length : Int)) = false := decide_eq_false (by omega)
  go_enter Tryz.func81, Tryz.ntmps81
  go_wp2_with fail
  go_loopw [3] (fun i wr => ∃ k : Nat, k ≤ l.length ∧ i = .int .i64 k ∧ Hid (Below w.heap.size w wr)) (fun i _ => l.length - (intOf i).toNat)
  case atStart => exact ⟨0, by omega, rfl, Below.refl _ _⟩
  case round =>
    obtain ⟨k, hk, rfl, HB⟩ := hrel
    obtain ⟨wo, rfl⟩ : ∃ wo : World, wo = wr := ⟨_, rfl⟩
    by_cases hlt : k < l.length
    · obtain ⟨bk, off, rfl, hc⟩ := (HV.out.below HB.out).cells (by rw [els_len]; omega)
      have hbl := hc.1
      have i1 : (k : Int) < (l.length : Int) := by omega
      have HW := HO.out _ (List.getElem_mem hlt)
      have hwk : (els l)[k]? = some (elv (l[k])) := by simp [hlt, els]
      have HP : Hid (∀ (j : Nat) (_ : j + 1 = k), ∃ q : ByteArray, q.toList < (l[k]).code.toList ∧ ∀ y : Ext wo, y.val.cell? ⟨bk, off + j * 2, none⟩ = some (.string q)) := by
        rintro j rfl
        refine ⟨(l[j]'(by omega)).code, List.pairwise_iff_getElem.1 HA.out j (j + 1) (by omega) hlt (by omega), fun y => ?_⟩
        exact ext_cell hbl (hc.at (k := j) (x := elv ((l[j]'(by omega)))) (els_at (by omega)) 0 rfl) y
      obtain ⟨⟨kind, code, amt⟩, hx⟩ : ∃ x, l[k] = x := ⟨_, rfl⟩
      rw [hx] at hwk HW HP
      have c0 := hc.at hwk 0 rfl
      have c1 := hc.at hwk 1 rfl
      have HN : nameB code.data.toList = true := by have := HM.out _ (List.getElem_mem hlt); rwa [hx] at this
      obtain ⟨q1, q2⟩ := HW
      try dsimp only at *
      simp only [Nat.add_zero] at c0
      clear hx hc hwk
      have e0 := ext_cell hbl c0
      have e1 := ext_cell hbl c1
      have HBY : Hid (∀ y : Ext wo, Below w.heap.size w y.val) := fun y => below_after HB.out y.property HB.out.size
      clear c0 c1
      have HP2 := HP
      go_upto_region 6 with (fail)
      have HF : Hid (∀ y : Ext wo, Calls Tryz.prog 104 #[.string code] y.val fun e w' => e = .returned (.bool true) ∧ Below y.val.heap.size y.val w') := fun y => by
        have := refIsName_any code y.val
        rwa [HN] at this
      clear HN
      rcases Nat.eq_zero_or_pos k with rfl | hk0
      · clear HP2
        try simp only [Nat.zero_mul, Nat.add_zero] at e0
        try simp only [Nat.zero_mul, Nat.add_zero] at e1
        refine region_ext (by kernel_rfl) (by kernel_rfl) ?_
        repeat (go_big_quiet_step (first | (go_at_call 104; exact ext_call (HF.out _)) | (go_at_call 85; exact ext_quiet (in27_ok _ ⟨by omega, by omega⟩))))
        refine wpQuiet_nil ?_
        rintro _ ⟨y, rfl⟩
        go_wp2_with fail
        go_roundw
        case rel => exact ⟨0 + 1, by omega, by go_num, HBY.out y⟩
        case measure => simp [intOf]; omega
      · obtain ⟨j, rfl⟩ : ∃ j, k = j + 1 := ⟨k - 1, by omega⟩
        obtain ⟨q, hq, pq⟩ := HP2.out j rfl
        have i2 : (j : Int) < (l.length : Int) := by omega
        have s2 : IntKind.i64.wrap ((j : Int) + 1 - 1) = (j : Int) := by rw [show (j : Int) + 1 - 1 = (j : Int) by omega]; exact IntWalk.i64_in _ (by omega)
        have b1 : Op.bytesLess q.toList code.toList = true := by rw [bytesLess_eq]; exact decide_eq_true hq
        clear hq HP2
        refine region_ext (by kernel_rfl) (by kernel_rfl) ?_
        repeat (go_big_quiet_step (first | (go_at_call 104; exact ext_call (HF.out _)) | (go_at_call 85; exact ext_quiet (in27_ok _ ⟨by omega, by omega⟩))))
        refine wpQuiet_nil ?_
        rintro _ ⟨y, rfl⟩
        go_wp2_with fail
        go_roundw
        case rel => exact ⟨j + 1 + 1, by omega, by go_num, HBY.out y⟩
        case measure => simp [intOf]; omega
    · obtain rfl : k = l.length := by omega
      go_wp2
      go_ret
      exact ⟨rfl, HB.out⟩

set_option maxRecDepth 100000 in
set_option maxHeartbeats 4000000 in
theorem Brackets_ok (l : List (Int × Int)) (v : Value) (w : World) (hv : Sl w 2 v (prs l)) (hl : l.length ≤ 24) (ht : Tbl 1000000000000 1000000 l) :
  Calls Tryz.prog 129 #[v] w fun e w' => e = .returned (.bool true) ∧ Below w.heap.size w w' := by
 have HV := Lib.hid hv
 have HA := Lib.hid ht.asc
 have HO := Lib.hid ht.bound
 obtain ⟨r0, h0⟩ := ht.head
 have hpos := ht.pos
 clear ht
 obtain ⟨A, cap, rfl, h1, h2, _, _⟩ := hv
 rw [prs_len] at h1 HV ⊢
 unfold maxLen at h2
 have d0 : decide ((24 : Int) < (l.length : Int)) = false := decide_eq_false (by omega)
 have hz : ((l.length : Int) == 0) = false := beq_eq_false_iff_ne.2 (by omega)
 obtain ⟨b0, o0, rfl, hc0⟩ := HV.out.cells (by rw [prs_len]; omega)
 have z0 := hc0.at (k := 0) (x := [Value.int .i64 0, .int .i64 r0]) (by simp [prs, h0]) 0 rfl
 simp only [Nat.zero_mul, Nat.add_zero] at z0
 have i0 : (0 : Int) < (l.length : Int) := by omega
 clear hc0 h0
 go_enter Tryz.func129, Tryz.ntmps129
 go_wp2_with fail
 go_loopw [3] (fun i wr => ∃ k : Nat, k ≤ l.length ∧ i = .int .i64 k ∧ Hid (Below w.heap.size w wr)) (fun i _ => l.length - (intOf i).toNat)
 case atStart => exact ⟨0, by omega, rfl, Below.refl _ _⟩
 case round =>
  obtain ⟨k, hk, rfl, HB⟩ := hrel
  obtain ⟨wo, rfl⟩ : ∃ wo : World, wo = wr := ⟨_, rfl⟩
  by_cases hlt : k < l.length
  ·obtain ⟨bk, off, hA, hc⟩ := (HV.out.below HB.out).cells (by rw [prs_len]; omega)
   simp only [Option.some.injEq, Addr.mk.injEq] at hA
   obtain ⟨rfl, rfl, _⟩ := hA
   obtain ⟨bk, hbk⟩ : ∃ bk, b0 = bk := ⟨_, rfl⟩
   obtain ⟨off, hoff⟩ : ∃ off, o0 = off := ⟨_, rfl⟩
   rw [hbk, hoff] at hc ⊢
   rw [hbk, hoff] at z0
   clear hbk hoff
   have hbl := hc.1
   have i1 : (k : Int) < (l.length : Int) := by omega
   have HW := HO.out _ (List.getElem_mem hlt)
   have hwk : (prs l)[k]? = some ([Value.int .i64 l[k].1, .int .i64 l[k].2]) := by simp [hlt, prs]
   have HP : Hid (∀ (j : Nat) (_ : j + 1 = k), ∃ q : Int, q < (l[k]).1 ∧ ∀ y : Ext wo, y.val.cell? ⟨bk, off + j * 2, none⟩ = some (.int .i64 q)) := by
    rintro j rfl
    refine ⟨(l[j]'(by omega)).1, List.pairwise_iff_getElem.1 HA.out j (j + 1) (by omega) hlt (by omega), fun y => ?_⟩
    exact ext_cell hbl (hc.at (k := j) (x := [Value.int .i64 (l[j]'(by omega)).1, .int .i64 (l[j]'(by omega)).2]) (prs_at (by omega)) 0 rfl) y
   obtain ⟨⟨a, b⟩, hx⟩ : ∃ x, l[k] = x := ⟨_, rfl⟩
   rw [hx] at hwk HW HP
   have c0 := hc.at hwk 0 rfl
   have c1 := hc.at hwk 1 rfl
   obtain ⟨⟨q1, q2⟩, q3, q4⟩ := HW
   have f1 : decide ((1000000000000 : Int) < a) = false := decide_eq_false (by omega)
   have f2 : decide (b < 0) = false := decide_eq_false (by omega)
   have f3 : decide ((1000000 : Int) < b) = false := decide_eq_false (by omega)
   try dsimp only at *
   simp only [Nat.add_zero] at c0
   clear hx hc hwk
   have e0 := ext_cell hbl c0
   have e1 := ext_cell hbl c1
   have HBY : Hid (∀ y : Ext wo, Below w.heap.size w y.val) := fun y => below_after HB.out y.property HB.out.size
   clear c0 c1
   have HP2 := HP
   go_upto_region 6 with (fail)
   rcases Nat.eq_zero_or_pos k with rfl | hk0
   ·clear HP2
    try simp only [Nat.zero_mul, Nat.add_zero] at e0
    try simp only [Nat.zero_mul, Nat.add_zero] at e1
    refine region_ext (by kernel_rfl) (by kernel_rfl) ?_
    repeat (go_big_quiet_step (fail))
    refine wpQuiet_nil ?_
    rintro _ ⟨y, rfl⟩
    go_wp2_with fail
    go_roundw
    case rel => exact ⟨0 + 1, by omega, by go_num, HBY.out y⟩
    case measure => simp [intOf]; omega
   ·obtain ⟨j, rfl⟩ : ∃ j, k = j + 1 := ⟨k - 1, by omega⟩
    obtain ⟨q, hq, pq⟩ := HP2.out j rfl
    have i2 : (j : Int) < (l.length : Int) := by omega
    have s2 : IntKind.i64.wrap ((j : Int) + 1 - 1) = (j : Int) := by rw [show (j : Int) + 1 - 1 = (j : Int) by omega]; exact IntWalk.i64_in _ (by omega)
    have b1 : decide (a ≤ q) = false := decide_eq_false (by omega)
    clear HP2
    refine region_ext (by kernel_rfl) (by kernel_rfl) ?_
    repeat (go_big_quiet_step (fail))
    refine wpQuiet_nil ?_
    rintro _ ⟨y, rfl⟩
    go_wp2_with fail
    go_roundw
    case rel => exact ⟨j + 1 + 1, by omega, by go_num, HBY.out y⟩
    case measure => simp [intOf]; omega
  ·obtain rfl : k = l.length := by omega
   go_wp2
   go_ret
   exact ⟨rfl, HB.out⟩

set_option maxRecDepth 100000 in
set_option maxHeartbeats 4000000 in
theorem Table_ok (l : List (Int × Int)) (v : Value) (w : World) (hv : Sl w 2 v (prs l)) (hl : l.length ≤ 256) (ht : Tbl 1000000000 1000000000 l) :
  Calls Tryz.prog 130 #[v] w fun e w' => e = .returned (.bool true) ∧ Below w.heap.size w w' := by
 have HV := Lib.hid hv
 have HA := Lib.hid ht.asc
 have HO := Lib.hid ht.bound
 obtain ⟨r0, h0⟩ := ht.head
 have hpos := ht.pos
 clear ht
 obtain ⟨A, cap, rfl, h1, h2, _, _⟩ := hv
 rw [prs_len] at h1 HV ⊢
 unfold maxLen at h2
 have d0 : decide ((256 : Int) < (l.length : Int)) = false := decide_eq_false (by omega)
 have hz : ((l.length : Int) == 0) = false := beq_eq_false_iff_ne.2 (by omega)
 obtain ⟨b0, o0, rfl, hc0⟩ := HV.out.cells (by rw [prs_len]; omega)
 have z0 := hc0.at (k := 0) (x := [Value.int .i64 0, .int .i64 r0]) (by simp [prs, h0]) 0 rfl
 simp only [Nat.zero_mul, Nat.add_zero] at z0
 have i0 : (0 : Int) < (l.length : Int) := by omega
 clear hc0 h0
 go_enter Tryz.func130, Tryz.ntmps130
 go_wp2_with fail
 go_loopw [3] (fun i wr => ∃ k : Nat, k ≤ l.length ∧ i = .int .i64 k ∧ Hid (Below w.heap.size w wr)) (fun i _ => l.length - (intOf i).toNat)
 case atStart => exact ⟨0, by omega, rfl, Below.refl _ _⟩
 case round =>
  obtain ⟨k, hk, rfl, HB⟩ := hrel
  obtain ⟨wo, rfl⟩ : ∃ wo : World, wo = wr := ⟨_, rfl⟩
  by_cases hlt : k < l.length
  ·obtain ⟨bk, off, hA, hc⟩ := (HV.out.below HB.out).cells (by rw [prs_len]; omega)
   simp only [Option.some.injEq, Addr.mk.injEq] at hA
   obtain ⟨rfl, rfl, _⟩ := hA
   obtain ⟨bk, hbk⟩ : ∃ bk, b0 = bk := ⟨_, rfl⟩
   obtain ⟨off, hoff⟩ : ∃ off, o0 = off := ⟨_, rfl⟩
   rw [hbk, hoff] at hc ⊢
   rw [hbk, hoff] at z0
   clear hbk hoff
   have hbl := hc.1
   have i1 : (k : Int) < (l.length : Int) := by omega
   have HW := HO.out _ (List.getElem_mem hlt)
   have hwk : (prs l)[k]? = some ([Value.int .i64 l[k].1, .int .i64 l[k].2]) := by simp [hlt, prs]
   have HP : Hid (∀ (j : Nat) (_ : j + 1 = k), ∃ q : Int, q < (l[k]).1 ∧ ∀ y : Ext wo, y.val.cell? ⟨bk, off + j * 2, none⟩ = some (.int .i64 q)) := by
    rintro j rfl
    refine ⟨(l[j]'(by omega)).1, List.pairwise_iff_getElem.1 HA.out j (j + 1) (by omega) hlt (by omega), fun y => ?_⟩
    exact ext_cell hbl (hc.at (k := j) (x := [Value.int .i64 (l[j]'(by omega)).1, .int .i64 (l[j]'(by omega)).2]) (prs_at (by omega)) 0 rfl) y
   obtain ⟨⟨a, b⟩, hx⟩ : ∃ x, l[k] = x := ⟨_, rfl⟩
   rw [hx] at hwk HW HP
   have c0 := hc.at hwk 0 rfl
   have c1 := hc.at hwk 1 rfl
   obtain ⟨⟨q1, q2⟩, q3, q4⟩ := HW
   have f1 : decide ((1000000000 : Int) < a) = false := decide_eq_false (by omega)
   try dsimp only at *
   simp only [Nat.add_zero] at c0
   clear hx hc hwk
   have e0 := ext_cell hbl c0
   have e1 := ext_cell hbl c1
   have HBY : Hid (∀ y : Ext wo, Below w.heap.size w y.val) := fun y => below_after HB.out y.property HB.out.size
   clear c0 c1
   have HP2 := HP
   go_upto_region 6 with (fail)
   rcases Nat.eq_zero_or_pos k with rfl | hk0
   ·clear HP2
    try simp only [Nat.zero_mul, Nat.add_zero] at e0
    try simp only [Nat.zero_mul, Nat.add_zero] at e1
    refine region_ext (by kernel_rfl) (by kernel_rfl) ?_
    repeat (go_big_quiet_step ((go_at_call 95; exact ext_quiet (in30_ok _ ⟨by omega, by omega⟩))))
    refine wpQuiet_nil ?_
    rintro _ ⟨y, rfl⟩
    go_wp2_with fail
    go_roundw
    case rel => exact ⟨0 + 1, by omega, by go_num, HBY.out y⟩
    case measure => simp [intOf]; omega
   ·obtain ⟨j, rfl⟩ : ∃ j, k = j + 1 := ⟨k - 1, by omega⟩
    obtain ⟨q, hq, pq⟩ := HP2.out j rfl
    have i2 : (j : Int) < (l.length : Int) := by omega
    have s2 : IntKind.i64.wrap ((j : Int) + 1 - 1) = (j : Int) := by rw [show (j : Int) + 1 - 1 = (j : Int) by omega]; exact IntWalk.i64_in _ (by omega)
    have b1 : decide (a ≤ q) = false := decide_eq_false (by omega)
    clear HP2
    refine region_ext (by kernel_rfl) (by kernel_rfl) ?_
    repeat (go_big_quiet_step ((go_at_call 95; exact ext_quiet (in30_ok _ ⟨by omega, by omega⟩))))
    refine wpQuiet_nil ?_
    rintro _ ⟨y, rfl⟩
    go_wp2_with fail
    go_roundw
    case rel => exact ⟨j + 1 + 1, by omega, by go_num, HBY.out y⟩
    case measure => simp [intOf]; omega
  ·obtain rfl : k = l.length := by omega
   go_wp2
   go_ret
   exact ⟨rfl, HB.out⟩

end Go.Proofs.YtogdefomigiepaaGreatDoor
/- payrollref2.Part with a denominator of one million, for amounts that are not negative. -/
namespace Go.Proofs.YtogdefomigiepaaGreatDoor
open Go.RowKit

set_option maxRecDepth 100000 in
set_option maxHeartbeats 4000000 in
theorem Part_any (a num unit m : Int) (w : World) (ha : 0 ≤ a ∧ a ≤ 1000000000) (hn : 0 ≤ num ∧ num ≤ 1000000) (hu : 1 ≤ unit ∧ unit ≤ 100) (hm : modeB m = true) :
  Calls Tryz.prog 124 #[.int .i64 a, .int .i64 num, .int .i64 1000000, .int .i64 unit, .int .i64 m] w fun e w' => e = .returned (.tuple #[.int .i64 (partI a num unit m), .int .i64 0]) ∧ w = w' := by
 obtain ⟨p0, p1⟩ := partI_bounds m ha.1 hn.1 hn.2 hu.1
 have hp0 : 0 ≤ a * num := Int.mul_nonneg ha.1 hn.1
 have hp1 : a * num ≤ 1000000000 * 1000000 := Int.le_trans (Int.mul_le_mul_of_nonneg_left hn.2 ha.1) (Int.mul_le_mul_of_nonneg_right ha.2 (by omega))
 have d1 : decide (a < -1000000000000) = false := decide_eq_false (by omega)
 have d2 : decide (1000000000000 < a) = false := decide_eq_false (by omega)
 have d3 : decide (num < 0) = false := decide_eq_false (by omega)
 have d4 : decide (1000000 < num) = false := decide_eq_false (by omega)
 have d5 : decide (unit < 1) = false := decide_eq_false (by omega)
 have d6 : decide (1000000 < unit) = false := decide_eq_false (by omega)
 have HN := Lib.hid (near_qr (a * num / (1000000 * unit)) (a * num % (1000000 * unit)) (1000000 * unit) (a * num) m w (by rw [Int.mul_comm (a * num / (1000000 * unit)) (1000000 * unit)]; exact (Int.mul_ediv_add_emod (a * num) (1000000 * unit)).symm) (Int.emod_nonneg _ (by omega)) (Int.emod_lt_of_pos _ (by omega)) (Int.ediv_nonneg hp0 (by omega)) (by omega) (by omega) hm)
 have HP : Hid ((a * num / (1000000 * unit) + upI m (a * num % (1000000 * unit)) (1000000 * unit) (a * num / (1000000 * unit))) * unit = partI a num unit m) := rfl
 obtain ⟨pp, hpp⟩ : ∃ pp, a * num = pp := ⟨_, rfl⟩
 rw [hpp] at HN HP hp0 hp1
 obtain ⟨q, hq⟩ : ∃ q, pp / (1000000 * unit) + upI m (pp % (1000000 * unit)) (1000000 * unit) (pp / (1000000 * unit)) = q := ⟨_, rfl⟩
 rw [hq] at HN HP
 have hqu : q * unit = partI a num unit m := HP.out
 obtain ⟨x, hx⟩ : ∃ x, partI a num unit m = x := ⟨_, rfl⟩
 rw [hx] at hqu p0 p1 ⊢
 have e1 : IntKind.i64.wrap pp = pp := IntWalk.i64_in _ (by omega)
 have e2 : IntKind.i64.wrap (1000000 * unit) = 1000000 * unit := IntWalk.i64_in _ (by omega)
 have e3 : IntKind.i64.wrap (q * unit) = q * unit := IntWalk.i64_in _ (by omega)
 have d7 : decide (x < -1000000000000) = false := decide_eq_false (by omega)
 have d8 : decide (1000000000000 < x) = false := decide_eq_false (by omega)
 clear HP hq hx
 go_enter Tryz.func124, Tryz.ntmps124
 go_wp2_with (go_at_call 125; refine (rMode_any m _).mono ?_; rintro e w1 ⟨rfl, rfl⟩; rw [hm])
 refine HN.out.mono ?_
 rintro e w1 ⟨rfl, rfl⟩
 go_wp2
 go_ret2
 exact ⟨rfl, rfl⟩
end Go.Proofs.YtogdefomigiepaaGreatDoor
/- Whole structs of many cells out of and into blocks that are known whole, without opening them cell by cell. -/
namespace Go.Proofs.YtogdefomigiepaaGreatDoor
open Go.RowKit

def setRunA (cs : Array Value) (o : Nat) : List Value → Array Value
 | [] => cs
 | v :: r => setRunA (cs.setIfInBounds o v) (o + 1) r
theorem Row.setCells {g : Nat} {t : TypeId} : ∀ (vs : List Value) {w : World} {cs : Array Value} (o : Nat), Row w g t cs → Row (w.setCells g o vs) g t (setRunA cs o vs)
 | [], _, _, _, h => h
 | v :: r, _, _, o, h => Row.setCells r (o + 1) (h.set o v)
theorem gb_setCells {g : Nat} : ∀ (vs : List Value) {a w : World} (o : Nat), a.grownBy w (some g) → a.grownBy (w.setCells g o vs) (some g)
 | [], _, _, _, h => h
 | v :: r, _, _, o, h => gb_setCells r (o + 1) (gb_set h (.inl rfl) v)
theorem size_setCells {g : Nat} : ∀ (vs : List Value) (w : World) (o : Nat), (w.setCells g o vs).heap.size = w.heap.size
 | [], _, _ => rfl
 | v :: r, w, o => by
  show ((w.setCell ⟨g, o, none⟩ v).setCells g (o + 1) r).heap.size = _
  rw [size_setCells r]; simp [World.setCell]
theorem Row.range {w : World} {g : Nat} {t : TypeId} {cs : Array Value} (h : Row w g t cs) (o : Nat) {vs : List Value} (hv : (cs.toList.drop o).take vs.length = vs) : w.rangeAt g o vs := fun j v hj => by
 rw [h.cell]
 rw [← hv, List.getElem?_take] at hj
 split at hj
 ·rw [List.getElem?_drop] at hj
  simpa using hj
 ·cases hj
theorem Row.there {w : World} {g : Nat} {t : TypeId} {cs : Array Value} (h : Row w g t cs) (o n : Nat) (hn : o + n ≤ cs.size) : w.there g o n := fun j hj => ⟨by rw [h.cell, Array.getElem?_eq_getElem (by omega)]; rfl, h.frozen _⟩
theorem wpList_storeRow {P : Program} {ops : Array Oper} {rest : List Oper} {op : Oper} {a : Act} {w : World} {Q : Exit → Act → World → Prop} (hgd : op.guard = none) (ty : TypeId) (x y : Operand) (ho : op.op = .store ty x y)
  {g o : Nat} {t : TypeId} {old : Array Value} {cells : Array Value} (new : Array Value) (hx : a.eval x = .pointer (some ⟨g, o, none⟩)) (hy : a.eval y = .agg cells) (hr : Row w g t old)
  (ht : o + cells.size ≤ old.size) (hi : (P.info? ty).map (·.size) = some cells.size) (h1 : ∀ v ∈ cells.toList, v.oneCell' = true) (hn : setRunA old o cells.toList = new)
  (h : ∀ w', Row w' g t new → w.grownBy w' (some g) → w'.heap.size = w.heap.size → wpList P ops Q rest (a.put op.dst undef) w') : wpList P ops Q (op :: rest) a w := by
 subst hn
 exact wpList_store_mid hgd ty x y ho g o cells hx hy (hr.there o _ ht) hi (Array.all_eq_true_iff_forall_mem.2 fun v hv => h1 v (by simpa using hv))
  (h _ (hr.setCells cells.toList o) (gb_setCells _ _ (World.grownBy.refl _ _)) (size_setCells _ _ _))
theorem wpList_storeNew {P : Program} {ops : Array Oper} {rest : List Oper} {op : Oper} {a : Act} {w : World} {Q : Exit → Act → World → Prop} (hgd : op.guard = none) (ty : TypeId) (x y : Operand) (ho : op.op = .store ty x y)
  {t : TypeId} {old : Array Value} {cells : Array Value} (new : Array Value) (hx : a.eval x = .pointer (some ⟨w.heap.size, 0, none⟩)) (hy : a.eval y = .agg cells)
  (ht : cells.size ≤ old.size) (hi : (P.info? ty).map (·.size) = some cells.size) (h1 : ∀ v ∈ cells.toList, v.oneCell' = true) (hn : setRunA old 0 cells.toList = new)
  (h : ∀ w', Row w' w.heap.size t new → Below w.heap.size w w' → wpList P ops Q rest (a.put op.dst undef) w') : wpList P ops Q (op :: rest) a (w.alloc (.cells old t)) :=
 wpList_storeRow hgd ty x y ho new hx hy (Row.new w t old) (by omega) hi h1 hn fun w' hr hg _ =>
  h w' hr ⟨hg.os, hg.tape, hg.output, Nat.le_trans (by simp) hg.size, fun k hk => (hg.block k (by simp; omega) (fun e => by injection e; omega)).trans (Below.heap_alloc w _ k hk)⟩
theorem wpList_loadRow {P : Program} {ops : Array Oper} {rest : List Oper} {op : Oper} {a : Act} {w : World} {Q : Exit → Act → World → Prop} (hgd : op.guard = none) (ty : TypeId) (x : Operand) (ho : op.op = .load ty x)
  {g o : Nat} {t : TypeId} {cs : Array Value} (vs : List Value) (d : TypeDesc) (hx : a.eval x = .pointer (some ⟨g, o, none⟩)) (hr : Row w g t cs) (hv : (cs.toList.drop o).take vs.length = vs)
  (hu : P.underlying ty = some d) (hd : d.isRow = true) (hi : (P.info? ty).map (·.size) = some vs.length)
  (h : wpList P ops Q rest (a.put op.dst (.agg vs.toArray)) w) : wpList P ops Q (op :: rest) a w :=
 wpList_load_mid hgd ty x ho g o hx vs d (hr.range o hv) hu hd hi h
theorem wpList_buildTo {P : Program} {ops : Array Oper} {rest : List Oper} {op : Oper} {a : Act} {w : World} {Q : Exit → Act → World → Prop} (hgd : op.guard = none) (t : TypeId) (parts : Array (Nat × Operand)) (ho : op.op = .build t parts)
  (new : Array Value) (hb : P.built t (parts.map fun (i, x) => (i, a.eval x)).toList = some new) (h : wpList P ops Q rest (a.put op.dst (.agg new)) w) : wpList P ops Q (op :: rest) a w :=
 wpList_build hgd t parts ho (by rw [hb]; rfl) (by rw [hb]; exact h)
theorem results_row {P : Program} {fn : Func} {p : Tmp} {ty : TypeId} (h : fn.results = #[.cell p ty]) (tmps : Array Value) {w : World} {g : Nat} {t : TypeId} {cs : Array Value} {d : TypeDesc} (hp : tmps.getD p undef = .pointer (some ⟨g, 0, none⟩)) (hr : Row w g t cs)
  (hu : P.underlying ty = some d) (hd : d.isRow = true) (hi : (P.info? ty).map (·.size) = some cs.size) : (results fn tmps).run P w = .ok (.agg cs) w := by
 have hl := run_loadVar_mid (P := P) w g 0 ty cs.toList d (hr.range 0 (by simp only [List.drop_zero]; exact List.take_of_length_le (Nat.le_refl _))) hu hd (by simpa using hi)
 simp only [Array.toArray_toList] at hl
 have hp' : tmps[p]?.getD undef = .pointer (some ⟨g, 0, none⟩) := by simpa using hp
 simp only [results, h]
 simp [Sem.run_bind, Result.andThen, hp', asAddr, hl]
theorem results_rows {P : Program} {fn : Func} {p u : Tmp} {ty : TypeId} (h : fn.results = #[.cell p ty, .tmp u]) (tmps : Array Value) {w : World} {g : Nat} {t : TypeId} {cs : Array Value} {d : TypeDesc} (hp : tmps.getD p undef = .pointer (some ⟨g, 0, none⟩)) (hr : Row w g t cs)
  (hu : P.underlying ty = some d) (hd : d.isRow = true) (hi : (P.info? ty).map (·.size) = some cs.size) {r : Value} (hu2 : tmps.getD u undef = r) : (results fn tmps).run P w = .ok (.tuple #[.agg cs, r]) w := by
 subst hu2
 have hl := run_loadVar_mid (P := P) w g 0 ty cs.toList d (hr.range 0 (by simp only [List.drop_zero]; exact List.take_of_length_le (Nat.le_refl _))) hu hd (by simpa using hi)
 simp only [Array.toArray_toList] at hl
 have hp' : tmps[p]?.getD undef = .pointer (some ⟨g, 0, none⟩) := by simpa using hp
 rw [results_cell_tmp h]
 simp [Sem.run_bind, Result.andThen, hp', asAddr, hl]

end Go.Proofs.YtogdefomigiepaaGreatDoor
