/- Contracts and plain facts that the laws of this seat share, part 2. -/
import Derived.Test.YtogdefomigiepaaGreatDoorPkA
import Derived.Shelf.SlSortCmp.WholeK
import Derived.Test.YtogdefomigiepaaGreatDoorRows
import Derived.WalkKit
import Derived.WalkSpells
import Derived.WalkLawsBesides
import Derived.Lib.Hide
import Derived.Laws.StructEq
import Derived.MapKept
import Derived.KernelRfl
import Derived.Deep.RegionWith
import Derived.Deep.RegionHeld3
import Derived.Sort.Grow
import Derived.StillTailTactics
import Derived.Shelf.SlSortCmp.NoneTotal
import Derived.Ground.SlsfProg
import Derived.Test.YtogdefomigiepaaGreatDoorProg
import Derived.Sort.Walk0
import Derived.Deep.QuietTactic
import Derived.BigQuiet
import Derived.Deep.CutBlock
import Derived.Deep.DeepCutAuto
import Derived.RegionTactic
import Derived.IntWalk
import Derived.Carry
import Derived.Lib.AppendIntMem
import Derived.Deep.RegionLaw
import Derived.Deep.AppendLies
set_option linter.unusedVariables false
set_option linter.unusedSimpArgs false
/- A slice of the call's own, sorted by slices.SortFunc: what its contract says in the words of Own. -/
namespace Go.Proofs.YtogdefomigiepaaGreatDoor
open Go.RowKit Go.Sort

theorem wide_map {α : Type} {enc : α → List Value} {k : Nat} (hk : ∀ x, (enc x).length = k) (h1 : ∀ x, ∀ v ∈ enc x, v.oneCell' = true) (l : List α) : Wide k (l.map enc) := fun x hx => by
 obtain ⟨a, _, rfl⟩ := List.mem_map.1 hx
 exact ⟨hk a, h1 a⟩

theorem flat_eq {α : Type} [Inhabited α] {enc : α → List Value} {k : Nat} (hk0 : 0 < k) (hk : ∀ x, (enc x).length = k) (h1 : ∀ x, ∀ v ∈ enc x, v.oneCell' = true) (d : Array α) :
  (flatK enc k d).toList = (d.toList.map enc).flatten := by
 have hw := wide_map hk h1 d.toList
 apply List.ext_getElem?
 intro t
 rw [hw.get hk0]
 by_cases ht : t < d.size * k
 ·have hd : t / k < d.size := (Nat.div_lt_iff_lt_mul hk0).2 ht
  have hm : t % k < k := Nat.mod_lt _ hk0
  have e := get_flatK enc k d t ht
  have ht' : t < (flatK enc k d).size := by simpa using ht
  rw [getElem!_pos _ t ht'] at e
  rw [Array.getElem?_toList, Array.getElem?_eq_getElem ht', e]
  have hx : (d.toList.map enc)[t / k]? = some (enc d[t / k]!) := by
   rw [List.getElem?_map, Array.getElem?_toList, Array.getElem?_eq_getElem hd, getElem!_pos d _ hd]; rfl
  rw [hx]
  show _ = (enc d[t / k]!)[t % k]?
  rw [List.getElem?_eq_getElem (by rw [hk]; exact hm), getElem!_pos (enc d[t / k]!) _ (by rw [hk]; exact hm)]
 ·rw [Array.getElem?_toList, Array.getElem?_eq_none (by simpa using ht)]
  have hd : d.size ≤ t / k := by
   rw [Nat.le_div_iff_mul_le hk0]; omega
  rw [List.getElem?_eq_none (by simpa using hd)]; rfl

theorem own_holds {α : Type} [Inhabited α] {enc : α → List Value} {k : Nat} (hk0 : 0 < k) (hk : ∀ x, (enc x).length = k) (h1 : ∀ x, ∀ v ∈ enc x, v.oneCell' = true)
  {w : World} {base e g cap : Nat} {l : List α} (hown : Own w base e k (.slice (some ⟨g, 0, none⟩) l.length cap) (l.map enc)) : HoldsK enc k w g 0 l.toArray ∧ g < w.heap.size := by
 have hl : (l.map enc).length = l.length := by simp
 have ho := hown.1
 rw [hl] at ho
 refine ⟨fun j hj => ?_, ?_⟩
 ·have hj' : j < l.length * k := by simpa using hj
  refine ⟨?_, ho.frozenAt _⟩
  rw [ho.cellAt _ (by omega), Nat.zero_add]
  have := flat_eq hk0 hk h1 l.toArray
  rw [show l.toArray.toList = l from rfl] at this
  rw [← this, Array.getElem?_toList, Array.getElem?_eq_getElem hj, getElem!_pos _ j hj]; rfl
 ·rcases ho.2 with ⟨h', _⟩ | ⟨g', cap', cur, h', _, hg, _⟩
  ·simp at h'
  ·simp only [Value.slice.injEq, Option.some.injEq, Addr.mk.injEq, and_true, true_and] at h'
   obtain ⟨rfl, rfl⟩ := h'
   rcases Nat.lt_or_ge g w.heap.size with hlt | hge
   ·exact hlt
   ·rw [Array.getElem?_eq_none hge] at hg; cases hg

theorem own_sorted {α : Type} [Inhabited α] {enc : α → List Value} {k : Nat} (hk0 : 0 < k) (hk : ∀ x, (enc x).length = k) (h1 : ∀ x, ∀ v ∈ enc x, v.oneCell' = true)
  {w : World} {base e g cap : Nat} {l : List α} (hown : Own w base e k (.slice (some ⟨g, 0, none⟩) l.length cap) (l.map enc)) (d : Array α) (hd : d.size = l.length) (n : Nat) (os : Array Obj) :
  Own (sortWorldK enc k w g 0 n d os) base e k (.slice (some ⟨g, 0, none⟩) l.length cap) (d.toList.map enc) ∧ w.grownBy (sortWorldK enc k w g 0 n d os) (some g) := by
 have hlt := (own_holds hk0 hk h1 hown).2
 have hl : (l.map enc).length = l.length := by simp
 have hl2 : (d.toList.map enc).length = l.length := by simp [hd]
 have ho := hown.1
 rw [hl] at ho
 have hw := wide_map hk h1 d.toList
 refine ⟨⟨?_, hw⟩, ?_⟩
 ·rw [hl2]
  refine ⟨by rw [hw.flat, hl2], .inr ?_⟩
  rcases ho.2 with ⟨h', _⟩ | ⟨g', cap', cur, h', hb, hg, hnc, hcm, hcs, ht⟩
  ·simp at h'
  ·simp only [Value.slice.injEq, Option.some.injEq, Addr.mk.injEq, and_true, true_and] at h'
   obtain ⟨rfl, rfl⟩ := h'
   refine ⟨g, cap, putCells id 0 (flatK enc k d) cur, rfl, hb, ?_, hnc, hcm, by simp [putCells, hcs], ?_⟩
   ·unfold sortWorldK
    rw [heap_grow_old _ _ (by rw [putRowK, size_putRow]; exact hlt)]
    unfold putRowK putRow mapBlock
    rw [Array.getElem?_modify, if_pos rfl]
    show (w.heap[g]?).map _ = _
    rw [hg]; rfl
   ·rw [← flat_eq hk0 hk h1 d]
    apply List.ext_getElem?
    intro t
    rw [List.getElem?_take]
    have hfs : (flatK enc k d).size = l.length * k := by rw [size_flatK, hd]
    by_cases h : t < l.length * k
    ·rw [if_pos h]
     have htc : t < cur.size := by
      rw [hcs]; exact Nat.lt_of_lt_of_le h (Nat.mul_le_mul_right _ hnc)
     rw [Array.getElem?_toList, Array.getElem?_toList]
     unfold putCells
     rw [Array.getElem?_mapIdx, Array.getElem?_eq_getElem htc, Option.map_some, if_pos ⟨Nat.zero_le _, by rw [hfs]; omega⟩, Nat.sub_zero, Array.getElem?_eq_getElem (by rw [hfs]; exact h), getElem!_pos _ t (by rw [hfs]; exact h)]; rfl
    ·rw [if_neg h, Array.getElem?_toList, Array.getElem?_eq_none (by rw [hfs]; omega)]
 ·unfold sortWorldK
  refine ⟨rfl, rfl, rfl, by rw [size_grow, putRowK, size_putRow]; exact Nat.le_add_right _ _, fun b hb hne => ?_⟩
  rw [heap_grow_old _ _ (by rw [putRowK, size_putRow]; exact hb)]
  unfold putRowK putRow mapBlock
  rw [Array.getElem?_modify, if_neg (fun h => hne (by rw [h]))]; rfl

end Go.Proofs.YtogdefomigiepaaGreatDoor
/- Contracts of the functions on names in packages token and payrollref17. -/
namespace Go.Proofs.YtogdefomigiepaaGreatDoor
open Go.RowKit

set_option maxHeartbeats 400000 in
theorem isLower_any (c : Int) (w : World) :
  Calls Tryz.prog 178 #[.int .u8 c] w fun e w' => e = .returned (.bool (lowB c)) ∧ w = w' := by
 unfold lowB
 by_cases h1 : 97 ≤ c
 all_goals
  go_enter Tryz.func178, Tryz.ntmps178
  go_wp2
  go_ret
  exact ⟨by congr 2; simp; omega, rfl⟩
theorem isDigit_any (c : Int) (w : World) :
  Calls Tryz.prog 179 #[.int .u8 c] w fun e w' => e = .returned (.bool (digB c)) ∧ w = w' := by
 unfold digB
 by_cases h1 : 48 ≤ c
 all_goals
  go_enter Tryz.func179, Tryz.ntmps179
  go_wp2
  go_ret
  exact ⟨by congr 2; simp; omega, rfl⟩

set_option maxHeartbeats 400000 in
theorem wordLength_any (s : ByteArray) (w : World) (hs : s.size ≤ maxLen) :
  Calls Tryz.prog 148 #[.string s] w fun e w' => e = .returned (.int .i64 (wordLen s.data.toList)) ∧ w = w' := by
 unfold maxLen at hs
 by_cases h0 : s.size = 0
 ·obtain rfl := size_zero h0
  go_enter Tryz.func148, Tryz.ntmps148
  go_wp2
  go_ret
  exact ⟨rfl, rfl⟩
 ·have hpos : 0 < s.size := by omega
  have hE := notEmpty hpos
  have hE2 := notNil hpos
  have HW := Lib.hid (wordLen_bytes s hpos)
  clear h0
  cases hl : lowB s[0].toNat
  ·go_enter Tryz.func148, Tryz.ntmps148
   go_wp2_with (go_at_call 178; refine (isLower_any _ _).mono ?_; rintro e w' ⟨rfl, rfl⟩)
   go_ret
   exact ⟨by rw [HW.out, hl]; rfl, rfl⟩
  ·go_enter Tryz.func148, Tryz.ntmps148
   go_wp2_with (go_at_call 178; refine (isLower_any _ _).mono ?_; rintro e w' ⟨rfl, rfl⟩)
   have hW2 : wordLen s.data.toList = 1 + wcount (s.data.toList.drop 1) := by rw [HW.out, hl]; rfl
   have HW2 := Lib.hid hW2
   clear HW hW2 hl
   go_loop [3] (fun i => ∃ k : Nat, k ≤ s.size ∧ i = .int .i64 k ∧ Hid (wordLen s.data.toList = k + wcount (s.data.toList.drop k))) (fun i => s.size - (intOf i).toNat)
   case atStart => exact ⟨1, by omega, rfl, HW2⟩
   case round =>
    obtain ⟨k, hk, rfl, HK⟩ := hrel
    clear HW2
    by_cases hlt : k < s.size
    ·have HD := Lib.hid (wcount_drop s k hlt)
     have fin : Hid (wcB s[k].toNat = true → wordLen s.data.toList = (k + 1 : Nat) + wcount (s.data.toList.drop (k + 1))) := fun h => by rw [HK.out, HD.out, if_pos h]; omega
     have fin0 : Hid (wcB s[k].toNat = false → wordLen s.data.toList = k) := fun h => by rw [HK.out, HD.out, if_neg (by simp [h])]; simp
     clear HK HD
     cases hl : lowB s[k].toNat
     ·cases hd : digB s[k].toNat
      ·cases h9 : ((s[k].toNat : Int) == 95)
       ·go_wp2_with (first | (go_at_call 178; refine (isLower_any _ _).mono ?_; rintro e w' ⟨rfl, rfl⟩) | (go_at_call 179; refine (isDigit_any _ _).mono ?_; rintro e w' ⟨rfl, rfl⟩))
        go_ret
        exact ⟨ret_int (by rw [fin0.out (wcB_no hl hd h9)]), rfl⟩
       ·go_wp2_with (first | (go_at_call 178; refine (isLower_any _ _).mono ?_; rintro e w' ⟨rfl, rfl⟩) | (go_at_call 179; refine (isDigit_any _ _).mono ?_; rintro e w' ⟨rfl, rfl⟩))
        go_round
        case rel => exact ⟨k + 1, by omega, by go_num, fin.out (wcB_95 h9)⟩
        case measure => simp [intOf]; omega
      ·go_wp2_with (first | (go_at_call 178; refine (isLower_any _ _).mono ?_; rintro e w' ⟨rfl, rfl⟩) | (go_at_call 179; refine (isDigit_any _ _).mono ?_; rintro e w' ⟨rfl, rfl⟩))
       go_round
       case rel => exact ⟨k + 1, by omega, by go_num, fin.out (wcB_dig hd)⟩
       case measure => simp [intOf]; omega
     ·go_wp2_with (go_at_call 178; refine (isLower_any _ _).mono ?_; rintro e w' ⟨rfl, rfl⟩)
      go_round
      case rel => exact ⟨k + 1, by omega, by go_num, fin.out (wcB_low hl)⟩
      case measure => simp [intOf]; omega
    ·go_wp2
     go_ret
     exact ⟨ret_int (by rw [HK.out, wcount_drop_end s k (by omega)]; simp), rfl⟩

set_option maxHeartbeats 1000000 in
theorem IsKeyword_any (s : ByteArray) (w : World) :
  Calls Tryz.prog 149 #[.string s] w fun e w' => e = .returned (.bool (kwB s.data.toList)) ∧ w = w' := by
 rw [← ByteArray.toList_eq]
 go_enter Tryz.func149, Tryz.ntmps149
 go_wp2
 all_goals
  go_ret
  exact ⟨ret_bool (by first | (simp only [kwB, kws, List.any_cons, List.any_nil, Bool.true_or, Bool.or_true, Bool.or_false, *]; done) | simp_all), rfl⟩

set_option maxHeartbeats 1000000 in
theorem refIsKeyword_any (s : ByteArray) (w : World) :
  Calls Tryz.prog 137 #[.string s] w fun e w' => e = .returned (.bool (kwB s.data.toList)) ∧ Below w.heap.size w w' := by
 rw [← ByteArray.toList_eq]
 go_enter Tryz.func137, Tryz.ntmps137
 go_wp2
 go_loopw [4] (fun i wr => ∃ k : Nat, k ≤ 34 ∧ i = .int .i64 k ∧ Below w.heap.size w wr ∧ Hid (∀ j, j < 34 → wr.cell? ⟨w.heap.size, j, none⟩ = some (.string (kwAt j))) ∧ Hid (∀ j, j < k → (kws.getD j [] == s.toList) = false)) (fun i _ => 34 - (intOf i).toNat)
 case atStart => exact ⟨0, by omega, rfl, (Below.refl _ _).alloc (Nat.le_refl _) _, fun j hj => by rw [World.cell?_alloc_new]; exact kwArr_at j hj, fun j hj => absurd hj (by omega)⟩
 case round =>
  obtain ⟨k, hk, rfl, hb, HC, HN⟩ := hrel
  by_cases hlt : k < 34
  ·have hc := HC.out k hlt
   have e1 := kwAt_toList k
   cases he : (kws.getD k [] == s.toList)
   ·have he' : ((kwAt k).toList == s.toList) = false := by rw [e1]; exact he
    have HE := Lib.hid he
    clear e1 he
    go_wp2
    go_roundw
    case rel => exact ⟨k + 1, by omega, by go_num, hb, HC, fun j hj => by
     by_cases hjk : j = k
     ·subst hjk; exact HE.out
     ·exact HN.out j (by omega)⟩
    case measure => simp [intOf]; omega
   ·have he' : ((kwAt k).toList == s.toList) = true := by rw [e1]; exact he
    have HE := Lib.hid he
    clear e1 he
    go_wp2
    go_ret
    exact ⟨ret_bool (by rw [kwB_yes hlt HE.out]), hb⟩
  ·go_wp2
   go_ret
   exact ⟨ret_bool (by rw [kwB_no fun i hi => HN.out i (by omega)]), hb⟩

end Go.Proofs.YtogdefomigiepaaGreatDoor
/- Contracts of IsName (packages token and payrollref17). -/
namespace Go.Proofs.YtogdefomigiepaaGreatDoor
open Go.RowKit

theorem lower_any (c : Int) (w : World) :
  Calls Tryz.prog 163 #[.int .u8 c] w fun e w' => e = .returned (.bool (lowB c)) ∧ w = w' := by
 unfold lowB
 by_cases h1 : 97 ≤ c
 all_goals
  go_enter Tryz.func163, Tryz.ntmps163
  go_wp2
  go_ret
  exact ⟨by congr 2; simp; omega, rfl⟩
theorem digit_any (c : Int) (w : World) :
  Calls Tryz.prog 164 #[.int .u8 c] w fun e w' => e = .returned (.bool (digB c)) ∧ w = w' := by
 unfold digB
 by_cases h1 : 48 ≤ c
 all_goals
  go_enter Tryz.func164, Tryz.ntmps164
  go_wp2
  go_ret
  exact ⟨by congr 2; simp; omega, rfl⟩

set_option maxHeartbeats 400000 in
theorem word_any (s : ByteArray) (n : Nat) (w : World) (hs : s.size ≤ maxLen) (hn : n ≤ s.size) :
  Calls Tryz.prog 136 #[.string s, .int .i64 n] w fun e w' => e = .returned (.int .i64 (n + wordLen (s.data.toList.drop n) : Nat)) ∧ w = w' := by
 unfold maxLen at hs
 by_cases h0 : n < s.size
 ·have HW := Lib.hid (wordLen_drop s n h0)
  have hge : decide (s.size ≤ n) = false := by simp; omega
  cases hl : lowB s[n].toNat
  ·go_enter Tryz.func136, Tryz.ntmps136
   go_wp2_with (first | (go_at_call 163; refine (lower_any _ _).mono ?_; rintro e w' ⟨rfl, rfl⟩) | (go_at_call 164; refine (digit_any _ _).mono ?_; rintro e w' ⟨rfl, rfl⟩))
   go_ret
   exact ⟨ret_int (by rw [HW.out, hl]; simp), rfl⟩
  ·go_enter Tryz.func136, Tryz.ntmps136
   go_wp2_with (first | (go_at_call 163; refine (lower_any _ _).mono ?_; rintro e w' ⟨rfl, rfl⟩) | (go_at_call 164; refine (digit_any _ _).mono ?_; rintro e w' ⟨rfl, rfl⟩))
   have hW2 : wordLen (s.data.toList.drop n) = wcount (s.data.toList.drop n) := by rw [HW.out, hl]; rfl
   have HW2 := Lib.hid hW2
   clear HW hW2 hl
   go_loop [1] (fun i => ∃ k : Nat, k ≤ s.size ∧ i = .int .i64 k ∧ Hid (n + wordLen (s.data.toList.drop n) = k + wcount (s.data.toList.drop k))) (fun i => s.size - (intOf i).toNat)
   case atStart => exact ⟨n, by omega, rfl, by rw [HW2.out]; exact rfl⟩
   case round =>
    obtain ⟨k, hk, rfl, HK⟩ := hrel
    clear HW2
    by_cases hlt : k < s.size
    ·have HD := Lib.hid (wcount_drop s k hlt)
     have fin : Hid (wcB s[k].toNat = true → n + wordLen (s.data.toList.drop n) = (k + 1 : Nat) + wcount (s.data.toList.drop (k + 1))) := fun h => by rw [HK.out, HD.out, if_pos h]; omega
     have fin0 : Hid (wcB s[k].toNat = false → n + wordLen (s.data.toList.drop n) = k) := fun h => by rw [HK.out, HD.out, if_neg (by simp [h])]; simp
     clear HK HD
     cases hl : lowB s[k].toNat
     ·cases hd : digB s[k].toNat
      ·cases h9 : ((s[k].toNat : Int) == 95)
       ·go_wp2_with (first | (go_at_call 163; refine (lower_any _ _).mono ?_; rintro e w' ⟨rfl, rfl⟩) | (go_at_call 164; refine (digit_any _ _).mono ?_; rintro e w' ⟨rfl, rfl⟩))
        go_ret
        exact ⟨ret_int (by have := fin0.out (wcB_no hl hd h9); omega), rfl⟩
       ·go_wp2_with (first | (go_at_call 163; refine (lower_any _ _).mono ?_; rintro e w' ⟨rfl, rfl⟩) | (go_at_call 164; refine (digit_any _ _).mono ?_; rintro e w' ⟨rfl, rfl⟩))
        go_round
        case rel => exact ⟨k + 1, by omega, by go_num, fin.out (wcB_95 h9)⟩
        case measure => simp [intOf]; omega
      ·go_wp2_with (first | (go_at_call 163; refine (lower_any _ _).mono ?_; rintro e w' ⟨rfl, rfl⟩) | (go_at_call 164; refine (digit_any _ _).mono ?_; rintro e w' ⟨rfl, rfl⟩))
       go_round
       case rel => exact ⟨k + 1, by omega, by go_num, fin.out (wcB_dig hd)⟩
       case measure => simp [intOf]; omega
     ·go_wp2_with (first | (go_at_call 163; refine (lower_any _ _).mono ?_; rintro e w' ⟨rfl, rfl⟩) | (go_at_call 164; refine (digit_any _ _).mono ?_; rintro e w' ⟨rfl, rfl⟩))
      go_round
      case rel => exact ⟨k + 1, by omega, by go_num, fin.out (wcB_low hl)⟩
      case measure => simp [intOf]; omega
    ·go_wp2
     go_ret
     exact ⟨ret_int (by have := HK.out; rw [wcount_drop_end s k (by omega)] at this; omega), rfl⟩
 ·have HW := Lib.hid (wordLen_drop_end s n (by omega))
  go_enter Tryz.func136, Tryz.ntmps136
  go_wp2
  go_ret
  exact ⟨ret_int (by rw [HW.out]; simp), rfl⟩

set_option maxHeartbeats 400000 in
theorem IsName_any (s : ByteArray) (w : World) :
  Calls Tryz.prog 115 #[.string s] w fun e w' => e = .returned (.bool (nameB s.data.toList)) ∧ w = w' := by
 have hle := wordLen_le s.data.toList
 have hsz : s.data.toList.length = s.size := by simp
 by_cases h0 : s.size = 0
 ·obtain rfl := size_zero h0
  go_enter Tryz.func115, Tryz.ntmps115
  go_wp2
  go_ret
  exact ⟨rfl, rfl⟩
 have hpos : 0 < s.size := by omega
 by_cases h1 : s.size ≤ 24
 ·have hs : s.size ≤ maxLen := by unfold maxLen; omega
  cases h2 : (wordLen s.data.toList == s.data.toList.length)
  ·have H := Lib.hid (nameB_word h2)
   rw [hsz] at h2 hle
   have h2' : ((wordLen s.data.toList : Int) == (s.size : Int)) = false := by simp at h2 ⊢; omega
   clear hsz h0 h2
   go_enter Tryz.func115, Tryz.ntmps115
   go_wp2_with (go_at_call 148; refine (wordLength_any _ _ hs).mono ?_; rintro e w' ⟨rfl, rfl⟩)
   go_ret
   exact ⟨ret_bool H.out.symm, rfl⟩
  ·have H := Lib.hid (nameB_kw (by omega) (by omega) h2)
   rw [hsz] at h2 hle
   have h2' : ((wordLen s.data.toList : Int) == (s.size : Int)) = true := by simp at h2 ⊢; omega
   clear hsz h0 h2
   go_enter Tryz.func115, Tryz.ntmps115
   go_wp2_with (first | (go_at_call 148; refine (wordLength_any _ _ hs).mono ?_; rintro e w' ⟨rfl, rfl⟩) | (go_at_call 149; refine (IsKeyword_any _ _).mono ?_; rintro e w' ⟨rfl, rfl⟩))
   go_ret
   exact ⟨ret_bool H.out.symm, rfl⟩
 ·have H := Lib.hid (nameB_long (l := s.data.toList) (by omega))
  clear hsz h0
  go_enter Tryz.func115, Tryz.ntmps115
  go_wp2
  go_ret
  exact ⟨ret_bool H.out.symm, rfl⟩

set_option maxHeartbeats 400000 in
theorem refIsName_any (s : ByteArray) (w : World) :
  Calls Tryz.prog 104 #[.string s] w fun e w' => e = .returned (.bool (nameB s.data.toList)) ∧ Below w.heap.size w w' := by
 have hle := wordLen_le s.data.toList
 have hsz : s.data.toList.length = s.size := by simp
 by_cases h0 : s.size = 0
 ·obtain rfl := size_zero h0
  go_enter Tryz.func104, Tryz.ntmps104
  go_wp2
  go_ret
  exact ⟨rfl, Below.refl _ _⟩
 have hpos : 0 < s.size := by omega
 have hE := notEmpty hpos
 have hE2 := notNil hpos
 have hword : s.size ≤ maxLen → ∀ w : World, Calls Tryz.prog 136 #[.string s, .int .i64 0] w fun e w' => e = .returned (.int .i64 (wordLen s.data.toList : Nat)) ∧ w = w' := by
  intro hs w
  have := word_any s 0 w hs (by omega)
  simpa using this
 have HWD := Lib.hid hword
 clear hword
 by_cases h1 : s.size ≤ 24
 ·have hs : s.size ≤ maxLen := by unfold maxLen; omega
  cases h2 : (wordLen s.data.toList == s.data.toList.length)
  ·have H := Lib.hid (nameB_word h2)
   rw [hsz] at h2 hle
   have h2' : ((wordLen s.data.toList : Int) == (s.size : Int)) = false := by simp at h2 ⊢; omega
   clear hsz h0 h2
   go_enter Tryz.func104, Tryz.ntmps104
   go_wp2_with (go_at_call 136; refine (HWD.out hs _).mono ?_; rintro e w' ⟨rfl, rfl⟩)
   go_ret
   exact ⟨ret_bool H.out.symm, Below.refl _ _⟩
  ·have H := Lib.hid (nameB_kw (by omega) (by omega) h2)
   rw [hsz] at h2 hle
   have h2' : ((wordLen s.data.toList : Int) == (s.size : Int)) = true := by simp at h2 ⊢; omega
   clear hsz h0 h2
   go_enter Tryz.func104, Tryz.ntmps104
   go_wp2_with (first | (go_at_call 136; refine (HWD.out hs _).mono ?_; rintro e w' ⟨rfl, rfl⟩) | (go_at_call 137; refine (refIsKeyword_any _ _).mono ?_; rintro e w1 ⟨rfl, hb⟩))
   go_ret
   exact ⟨ret_bool H.out.symm, hb⟩
 ·have H := Lib.hid (nameB_long (l := s.data.toList) (by omega))
  clear hsz h0
  go_enter Tryz.func104, Tryz.ntmps104
  go_wp2
  go_ret
  exact ⟨ret_bool H.out.symm, Below.refl _ _⟩

end Go.Proofs.YtogdefomigiepaaGreatDoor
/- Contracts of the functions on single lines and postings: packages payslip, payrollref32, payrollref34, book, payrollref35. -/
namespace Go.Proofs.YtogdefomigiepaaGreatDoor
open Go.RowKit

def totB (n : Int) : Bool := decide (-1000000000000 ≤ n) && decide (n ≤ 1000000000000)
def bareB (k : Int) : Bool := decide (k = 6) || (decide (k = 9) || decide (k = 10))
structure Ln where
 kind : Int
 code : ByteArray
 amt : Int
def Ln.vals (l : Ln) : List Value := [.int .i64 l.kind, .string l.code, .int .i64 l.amt]
def formedB (l : Ln) : Bool := decide (1 ≤ l.kind) && (decide (l.kind ≤ 10) && (totB l.amt && (if bareB l.kind then decide (l.code.size = 0) else nameB l.code.data.toList)))
def formB (l : Ln) : Bool := formedB l && decide (l.amt ≠ 0)

theorem isTotal_any (n : Int) (w : World) :
  Calls Tryz.prog 54 #[.int .i64 n] w fun e w' => e = .returned (.bool (totB n)) ∧ w = w' := by
 unfold totB
 by_cases h1 : -1000000000000 ≤ n
 all_goals
  go_enter Tryz.func54, Tryz.ntmps54
  go_wp2
  go_ret
  exact ⟨by congr 2; simp; omega, rfl⟩

theorem bare_any (n : Int) (w : World) :
  Calls Tryz.prog 24 #[.int .i64 n] w fun e w' => e = .returned (.bool (bareB n)) ∧ w = w' := by
 unfold bareB
 cases h1 : (n == 6)
 ·cases h2 : (n == 9)
  ·go_enter Tryz.func24, Tryz.ntmps24
   go_wp2
   go_ret
   exact ⟨ret_bool (by simp at h1 h2; simp [h1, h2]; rfl), rfl⟩
  ·go_enter Tryz.func24, Tryz.ntmps24
   go_wp2
   go_ret
   exact ⟨ret_bool (by simp at h1 h2; simp [h2]), rfl⟩
 ·go_enter Tryz.func24, Tryz.ntmps24
  go_wp2
  go_ret
  exact ⟨ret_bool (by simp at h1; simp [h1]), rfl⟩

theorem refBare_any (n : Int) (w : World) :
  Calls Tryz.prog 62 #[.int .i64 n] w fun e w' => e = .returned (.bool (bareB n)) ∧ w = w' := by
 unfold bareB
 cases h1 : (n == 6)
 ·cases h2 : (n == 9)
  ·go_enter Tryz.func62, Tryz.ntmps62
   go_wp2
   go_ret
   exact ⟨ret_bool (by simp at h1 h2; simp [h1, h2]; rfl), rfl⟩
  ·go_enter Tryz.func62, Tryz.ntmps62
   go_wp2
   go_ret
   exact ⟨ret_bool (by simp at h1 h2; simp [h2]), rfl⟩
 ·go_enter Tryz.func62, Tryz.ntmps62
  go_wp2
  go_ret
  exact ⟨ret_bool (by simp at h1; simp [h1]), rfl⟩

set_option maxHeartbeats 400000 in
theorem formed_any (l : Ln) (w : World) :
  Calls Tryz.prog 67 #[.agg #[.int .i64 l.kind, .string l.code, .int .i64 l.amt]] w fun e w' => e = .returned (.bool (formedB l)) ∧ Below w.heap.size w w' := by
 obtain ⟨k, c, a⟩ := l
 dsimp only
 by_cases h1 : 1 ≤ k
 ·by_cases h2 : k ≤ 10
  ·cases h3 : totB a
   ·go_enter Tryz.func67, Tryz.ntmps67
    go_wp2_with (go_at_call 54; refine (isTotal_any _ _).mono ?_; rintro e w' ⟨rfl, rfl⟩)
    go_ret
    exact ⟨ret_bool (by simp [formedB, h3]), (Below.refl _ _).alloc (Nat.le_refl _) _⟩
   ·cases h4 : bareB k
    ·go_enter Tryz.func67, Tryz.ntmps67
     go_wp2_with (first | (go_at_call 54; refine (isTotal_any _ _).mono ?_; rintro e w' ⟨rfl, rfl⟩) | (go_at_call 24; refine (bare_any _ _).mono ?_; rintro e w' ⟨rfl, rfl⟩) | (go_at_call 115; refine (IsName_any _ _).mono ?_; rintro e w' ⟨rfl, rfl⟩))
     go_ret
     exact ⟨ret_bool (by simp [formedB, h1, h2, h3, h4]), (Below.refl _ _).alloc (Nat.le_refl _) _⟩
    ·go_enter Tryz.func67, Tryz.ntmps67
     go_wp2_with (first | (go_at_call 54; refine (isTotal_any _ _).mono ?_; rintro e w' ⟨rfl, rfl⟩) | (go_at_call 24; refine (bare_any _ _).mono ?_; rintro e w' ⟨rfl, rfl⟩) | (go_at_call 115; refine (IsName_any _ _).mono ?_; rintro e w' ⟨rfl, rfl⟩))
     go_ret
     exact ⟨ret_bool (by simp only [formedB, h1, h2, h3, h4, isEmpty_dec, decide_true, Bool.true_and, if_true]), (Below.refl _ _).alloc (Nat.le_refl _) _⟩
  ·go_enter Tryz.func67, Tryz.ntmps67
   go_wp2
   go_ret
   exact ⟨ret_bool (by simp only [formedB, decide_eq_false (show ¬ k ≤ 10 by omega), Bool.false_and, Bool.and_false]), (Below.refl _ _).alloc (Nat.le_refl _) _⟩
 ·go_enter Tryz.func67, Tryz.ntmps67
  go_wp2
  go_ret
  exact ⟨ret_bool (by simp only [formedB, decide_eq_false (show ¬ 1 ≤ k by omega), Bool.false_and]), (Below.refl _ _).alloc (Nat.le_refl _) _⟩

set_option maxHeartbeats 400000 in
theorem refForm32_any (l : Ln) (w : World) :
  Calls Tryz.prog 110 #[.agg #[.int .i64 l.kind, .string l.code, .int .i64 l.amt]] w fun e w' => e = .returned (.bool (formedB l)) ∧ Below w.heap.size w w' := by
 obtain ⟨k, c, a⟩ := l
 dsimp only
 by_cases h1 : 1 ≤ k
 ·by_cases h2 : k ≤ 10
  ·by_cases h3 : -1000000000000 ≤ a
   ·by_cases h3' : a ≤ 1000000000000
    ·have h3t : totB a = true := by simp [totB, h3, h3']
     cases h4 : bareB k
     ·go_enter Tryz.func110, Tryz.ntmps110
      go_wp2_with (first | (go_at_call 62; refine (refBare_any _ _).mono ?_; rintro e w' ⟨rfl, rfl⟩) | (go_at_call 104; refine (refIsName_any _ _).mono ?_; rintro e w1 ⟨rfl, hb⟩))
      go_ret
      exact ⟨ret_bool (by simp [formedB, h1, h2, h3t, h4]), ((Below.refl _ _).alloc (Nat.le_refl _) _).trans (hb.mono (by simp))⟩
     ·go_enter Tryz.func110, Tryz.ntmps110
      go_wp2_with (first | (go_at_call 62; refine (refBare_any _ _).mono ?_; rintro e w' ⟨rfl, rfl⟩) | (go_at_call 104; refine (refIsName_any _ _).mono ?_; rintro e w1 ⟨rfl, hb⟩))
      go_ret
      exact ⟨ret_bool (by simp only [formedB, h1, h2, h3t, h4, isEmpty_dec, decide_true, Bool.true_and, if_true]), (Below.refl _ _).alloc (Nat.le_refl _) _⟩
    ·go_enter Tryz.func110, Tryz.ntmps110
     go_wp2
     go_ret
     exact ⟨ret_bool (by simp only [formedB, totB, decide_eq_false (show ¬ a ≤ 1000000000000 by omega), Bool.false_and, Bool.and_false]), (Below.refl _ _).alloc (Nat.le_refl _) _⟩
   ·go_enter Tryz.func110, Tryz.ntmps110
    go_wp2
    go_ret
    exact ⟨ret_bool (by simp only [formedB, totB, decide_eq_false (show ¬ -1000000000000 ≤ a by omega), Bool.false_and, Bool.and_false]), (Below.refl _ _).alloc (Nat.le_refl _) _⟩
  ·go_enter Tryz.func110, Tryz.ntmps110
   go_wp2
   go_ret
   exact ⟨ret_bool (by simp only [formedB, decide_eq_false (show ¬ k ≤ 10 by omega), Bool.false_and, Bool.and_false]), (Below.refl _ _).alloc (Nat.le_refl _) _⟩
 ·go_enter Tryz.func110, Tryz.ntmps110
  go_wp2
  go_ret
  exact ⟨ret_bool (by simp only [formedB, decide_eq_false (show ¬ 1 ≤ k by omega), Bool.false_and]), (Below.refl _ _).alloc (Nat.le_refl _) _⟩

set_option maxHeartbeats 400000 in
theorem Form_any (l : Ln) (w : World) :
  Calls Tryz.prog 55 #[.agg #[.int .i64 l.kind, .string l.code, .int .i64 l.amt]] w fun e w' => e = .returned (.bool (formB l)) ∧ Below w.heap.size w w' := by
 have H : Hid (∀ b, formedB l = b → formB l = (b && decide (l.amt ≠ 0))) := fun b hb => by rw [formB, hb]
 cases h1 : formedB l
 all_goals
  go_enter Tryz.func55, Tryz.ntmps55
  go_wp2_with (go_at_call 67; refine (formed_any _ _).mono ?_; rintro e w1 ⟨rfl, hb⟩; obtain ⟨hc, hf⟩ := bcell hb)
  go_ret
  exact ⟨ret_bool (by rw [H.out _ h1, ← ne_dec]; simp), ((Below.refl _ _).alloc (Nat.le_refl _) _).trans (hb.mono (by simp))⟩

set_option maxHeartbeats 400000 in
theorem refForm_any (l : Ln) (w : World) :
  Calls Tryz.prog 59 #[.agg #[.int .i64 l.kind, .string l.code, .int .i64 l.amt]] w fun e w' => e = .returned (.bool (formB l)) ∧ Below w.heap.size w w' := by
 have H : Hid (formB l = (formedB l && decide (l.amt ≠ 0))) := rfl
 cases h1 : (l.amt != 0)
 rotate_left
 ·go_enter Tryz.func59, Tryz.ntmps59
  go_wp2_with (go_at_call 110; refine (refForm32_any _ _).mono ?_; rintro e w1 ⟨rfl, hb⟩; obtain ⟨hc, hf⟩ := bcell hb)
  go_ret
  exact ⟨ret_bool (by rw [H.out, ← ne_dec, h1]; simp), ((Below.refl _ _).alloc (Nat.le_refl _) _).trans (hb.mono (by simp))⟩
 ·go_enter Tryz.func59, Tryz.ntmps59
  go_wp2
  go_ret
  exact ⟨ret_bool (by rw [H.out, ← ne_dec, h1]; simp), (Below.refl _ _).alloc (Nat.le_refl _) _⟩

end Go.Proofs.YtogdefomigiepaaGreatDoor
/- The map of sums of package payslip, entry by entry: map[title]int, keys of a number and a string. -/
namespace Go.Proofs.YtogdefomigiepaaGreatDoor
open Go.RowKit

def tEnt (i : Nat) (l : Ln) : MapEntry := ⟨.agg #[.int .i64 l.kind, .string l.code], .int .i64 l.amt, i⟩
def tEnts (j : Nat) : List Ln → List MapEntry
 | [] => []
 | l :: r => tEnt j l :: tEnts (j + 1) r
def tObj (es : List Ln) : Obj := .map (tEnts 0 es).toArray es.length
def sameT (k : Int) (c : ByteArray) (l : Ln) : Bool := (k == l.kind) && (c.toList == l.code.toList)
def findT (k : Int) (c : ByteArray) (j : Nat) : List Ln → Option (Nat × Int)
 | [] => none
 | l :: r => if sameT k c l then some (j, l.amt) else findT k c (j + 1) r
def amtT (es : List Ln) (k : Int) (c : ByteArray) : Int := ((findT k c 0 es).map (·.2)).getD 0
def putT (k : Int) (c : ByteArray) (v : Int) : List Ln → List Ln
 | [] => [⟨k, c, v⟩]
 | l :: r => if sameT k c l then ⟨k, c, v⟩ :: r else l :: putT k c v r

theorem run_eq_title (a b : Int) (c d : ByteArray) (w : World) : (Op.equal 105 (.agg #[.int .i64 a, .string c]) (.agg #[.int .i64 b, .string d])).run Tryz.prog w = .ok ((a == b) && (c.toList == d.toList)) w := by
 unfold Op.equal Op.maxDepth
 simp [go_sem]
 by_cases h1 : a = b <;> by_cases h2 : c.toList = d.toList <;> simp [h1, h2]
theorem run_check_title (e : Bool) (a : Int) (c : ByteArray) (w : World) : (Instr.checkKey e 10000 105 (.agg #[.int .i64 a, .string c])).run Tryz.prog w = .ok () w := by
 kernel_rfl
theorem run_asking (k : Int) (c : ByteArray) (w : World) (es : List Ln) (j : Nat) :
  (Instr.findAsking 105 (.agg #[.int .i64 k, .string c]) (tEnts j es) j).run Tryz.prog w = .ok ((findT k c j es).map fun p => (p.1, .int .i64 p.2)) w := by
 induction es generalizing j with
 | nil => rfl
 | cons l r ih =>
  have e : (Op.equal 105 (.agg #[.int .i64 k, .string c]) (tEnt j l).key).run Tryz.prog w = .ok (sameT k c l) w := run_eq_title k l.kind c l.code w
  rw [tEnts, Instr.findAsking, Sem.run_bind, e, Result.andThen_ok, findT]
  by_cases h : sameT k c l = true
  ·rw [if_pos h, if_pos h]; rfl
  ·rw [if_neg h, if_neg h]; exact ih (j + 1)
theorem run_find (k : Int) (c : ByteArray) (w : World) (es : List Ln) :
  (Instr.findKey 105 (.agg #[.int .i64 k, .string c]) (tEnts 0 es)).run Tryz.prog w = .ok ((findT k c 0 es).map fun p => (p.1, .int .i64 p.2)) w := by
 cases es with
 | nil => kernel_rfl
 | cons l r =>
  have h := run_asking k c w (l :: r) 0
  unfold Instr.findKey
  simp only [Sem.run_bind, run_underlying Tryz.underlying105, Result.andThen_ok, tEnts, Instr.findNow, Instr.sameNow]
  exact h

theorem tEnts_get (j : Nat) (es : List Ln) (i : Nat) : (tEnts j es)[i]? = (es[i]?).map (tEnt (j + i)) := by
 induction es generalizing j i with
 | nil => simp [tEnts]
 | cons l r ih =>
  cases i with
  | zero => simp [tEnts]
  | succ i => simp only [tEnts, List.getElem?_cons_succ, ih]; rw [show j + 1 + i = j + (i + 1) by omega]
theorem tEnts_len (j : Nat) (es : List Ln) : (tEnts j es).length = es.length := by
 induction es generalizing j with
 | nil => rfl
 | cons l r ih => simp [tEnts, ih]
theorem tEnts_append (j : Nat) (es fs : List Ln) : tEnts j (es ++ fs) = tEnts j es ++ tEnts (j + es.length) fs := by
 induction es generalizing j with
 | nil => simp [tEnts]
 | cons l r ih => simp only [List.cons_append, tEnts, ih, List.length_cons]; rw [show j + 1 + r.length = j + (r.length + 1) by omega]
theorem sameT_eq {k : Int} {c : ByteArray} {l : Ln} (h : sameT k c l = true) : l.kind = k ∧ l.code = c := by
 simp only [sameT, Bool.and_eq_true, beq_iff_eq] at h
 refine ⟨h.1.symm, ?_⟩
 have h2 := h.2
 rw [ByteArray.toList_eq, ByteArray.toList_eq] at h2
 exact (Go.WideShapes.bytes_inj h2).symm
theorem findT_some {k : Int} {c : ByteArray} {j : Nat} {es : List Ln} {n : Nat} {a : Int} (h : findT k c j es = some (n, a)) : j ≤ n ∧ ∃ l, es[n - j]? = some l ∧ l.kind = k ∧ l.code = c ∧ l.amt = a ∧ ∀ v, putT k c v es = es.set (n - j) ⟨k, c, v⟩ := by
 induction es generalizing j with
 | nil => simp [findT] at h
 | cons l r ih =>
  simp only [findT] at h
  by_cases hs : sameT k c l = true
  ·rw [if_pos hs] at h
   injection h with h
   obtain ⟨rfl, rfl⟩ := Prod.mk.inj h
   obtain ⟨h1, h2⟩ := sameT_eq hs
   exact ⟨Nat.le_refl _, l, by simp, h1, h2, rfl, fun v => by simp [putT, hs]⟩
  ·rw [if_neg hs] at h
   obtain ⟨h1, l', h2, h3, h4, h5, h6⟩ := ih h
   refine ⟨by omega, l', ?_, h3, h4, h5, fun v => ?_⟩
   ·rw [show n - j = (n - (j + 1)) + 1 by omega, List.getElem?_cons_succ]; exact h2
   ·rw [show n - j = (n - (j + 1)) + 1 by omega, List.set_cons_succ, ← h6 v]; simp [putT, hs]
theorem findT_none {k : Int} {c : ByteArray} {j : Nat} {es : List Ln} (h : findT k c j es = none) (v : Int) : putT k c v es = es ++ [⟨k, c, v⟩] := by
 induction es generalizing j with
 | nil => rfl
 | cons l r ih =>
  simp only [findT] at h
  by_cases hs : sameT k c l = true
  ·rw [if_pos hs] at h; cases h
  ·rw [if_neg hs] at h
   simp [putT, hs, ih h]

def setB (w : World) (b : Nat) (o : Obj) : World := { w with heap := w.heap.setIfInBounds b o }
theorem setB_at {w : World} {b : Nat} {o' : Obj} (h : b < w.heap.size) : (setB w b o').heap[b]? = some o' := by
 simp [setB, h]
theorem lt_of_some {w : World} {b : Nat} {o : Obj} (h : w.heap[b]? = some o) : b < w.heap.size := by
 rcases Nat.lt_or_ge b w.heap.size with hlt | hge
 ·exact hlt
 ·rw [Array.getElem?_eq_none hge] at h; cases h
theorem setB_grown {w : World} {b : Nat} {o : Obj} : w.grownBy (setB w b o) (some b) :=
 ⟨rfl, rfl, rfl, by simp [setB], fun k hk hne => by simp only [setB]; rw [Array.getElem?_setIfInBounds_ne (by intro h; exact hne (by rw [h]))]⟩
theorem run_lookup_title {w : World} {b : Nat} {es : List Ln} (hb : w.heap[b]? = some (tObj es)) (k : Int) (c : ByteArray) :
  (Instr.lookup 103 (.map (some b)) (.agg #[.int .i64 k, .string c]) false).run Tryz.prog w = .ok (.int .i64 (amtT es k c)) w := by
 have hz : (zeroValue 3).run Tryz.prog w = .ok (.int .i64 0) w := by kernel_rfl
 have hb' : w.heap[b]? = some (.map (tEnts 0 es).toArray es.length) := hb
 unfold Instr.lookup
 simp only [Sem.run_bind, run_underlying Tryz.underlying103, Result.andThen_ok, MapKept.run_getObj_map hb', Sem.run_pure, run_check_title, run_find]
 unfold amtT
 cases hf : findT k c 0 es with
 | none => simp [hz]
 | some p => simp
theorem modify_self {es : Array MapEntry} {i : Nat} {e : MapEntry} {f : MapEntry → MapEntry} (h : es[i]? = some e) (hf : f e = e) : es.modify i f = es := by
 apply Array.ext_getElem?
 intro j
 rw [Array.getElem?_modify]
 by_cases hij : i = j
 ·subst hij; rw [if_pos rfl, h]; simp [hf]
 ·rw [if_neg hij]
theorem run_stays (k : Int) (c : ByteArray) (w : World) : (Instr.keyThatStays (.agg #[.int .i64 k, .string c]) (.agg #[.int .i64 k, .string c])).run Tryz.prog w = .ok (.agg #[.int .i64 k, .string c]) w := by
 have hc : (c == c) = true := by rw [beq_toListBytes]; simp
 simp [Instr.keyThatStays, Instr.sameBits, hc]
theorem findT_append_none {k : Int} {c : ByteArray} {j : Nat} {es fs : List Ln} (h : findT k c j es = none) : findT k c j (es ++ fs) = findT k c (j + es.length) fs := by
 induction es generalizing j with
 | nil => rfl
 | cons l r ih =>
  simp only [findT] at h
  by_cases hs : sameT k c l = true
  ·rw [if_pos hs] at h; cases h
  ·rw [if_neg hs] at h
   rw [List.cons_append, findT, if_neg hs, ih h, List.length_cons, show j + 1 + r.length = j + (r.length + 1) by omega]
theorem run_entry_title {w : World} {b : Nat} {es : List Ln} (hb : w.heap[b]? = some (tObj es)) (k : Int) (c : ByteArray) :
  ∃ (n : Nat) (fs : List Ln), (Instr.mapEntry 103 (.map (some b)) (.agg #[.int .i64 k, .string c])).run Tryz.prog w = .ok (.tuple #[.int .i64 (amtT es k c), .int .i64 n]) (setB w b (tObj fs)) ∧
   amtT fs k c = amtT es k c ∧ n < fs.length ∧ (∀ v, fs.set n ⟨k, c, v⟩ = putT k c v es) ∧ fs[n]? = some ⟨k, c, amtT es k c⟩ := by
 have hz : (zeroValue 3).run Tryz.prog w = .ok (.int .i64 0) w := by kernel_rfl
 have hb' : w.heap[b]? = some (.map (tEnts 0 es).toArray es.length) := hb
 cases hf : findT k c 0 es with
 | none =>
  have hp := findT_none hf
  refine ⟨es.length, es ++ [⟨k, c, 0⟩], ?_, ?_, by simp, fun v => by rw [hp v]; simp, ?_⟩
  ·unfold Instr.mapEntry
   simp only [Sem.run_bind, run_underlying Tryz.underlying103, Result.andThen_ok, MapKept.run_getObj_map hb', Sem.run_pure, run_check_title, run_find, hf, Option.map_none, hz, MapKept.run_setObj_map _ hb']
   simp [tObj, tEnts_append, tEnts, tEnt, setB, goInt, amtT, hf]
  ·unfold amtT
   rw [hf, findT_append_none hf]
   simp [findT, sameT]
  ·simp [amtT, hf]
 | some p =>
  obtain ⟨n, a⟩ := p
  obtain ⟨_, l, h1, h2, h3, h4, h5⟩ := findT_some hf
  rw [Nat.sub_zero] at h1
  have hlt : n < es.length := (List.getElem?_eq_some_iff.1 h1).1
  have hent : (tEnts 0 es).toArray[n]? = some ⟨.agg #[.int .i64 k, .string c], .int .i64 a, n⟩ := by
   rw [List.getElem?_toArray, tEnts_get, h1]; simp [tEnt, h2, h3, h4]
  refine ⟨n, es, ?_, rfl, hlt, fun v => by rw [h5 v, Nat.sub_zero], ?_⟩
  ·unfold Instr.mapEntry
   simp only [Sem.run_bind, run_underlying Tryz.underlying103, Result.andThen_ok, MapKept.run_getObj_map hb', Sem.run_pure, run_check_title, run_find, hf, Option.map_some, hent, Option.getD_some, run_stays, MapKept.run_setObj_map _ hb', modify_self (f := fun e => { e with key := .agg #[.int .i64 k, .string c] }) hent rfl]
   simp [amtT, hf, setB, tObj, goInt]
  ·rw [h1, amtT, hf]
   obtain ⟨x, y, z⟩ := l
   simp only at h2 h3 h4
   subst h2 h3 h4
   rfl
theorem run_store_title {w : World} {b : Nat} {fs : List Ln} (hb : w.heap[b]? = some (tObj fs)) {n : Nat} (hn : n < fs.length) {k : Int} {c : ByteArray} {a0 : Int} (hat : fs[n]? = some ⟨k, c, a0⟩) (v : Int) (mt : TypeId) :
  (Instr.entryStore mt (.map (some b)) (.int .i64 n) (.int .i64 v)).run Tryz.prog w = .ok () (setB w b (tObj (fs.set n ⟨k, c, v⟩))) := by
 have hb' : w.heap[b]? = some (.map (tEnts 0 fs).toArray fs.length) := hb
 have hi : (tEnts 0 fs).toArray.findIdx? (fun e => (e.born : Int) == (n : Int)) = some n := by
  rw [List.findIdx?_toArray]
  rw [List.findIdx?_eq_some_iff_getElem]
  have hl : n < (tEnts 0 fs).length := by rw [tEnts_len]; exact hn
  refine ⟨hl, ?_, fun j hj => ?_⟩
  ·have := tEnts_get 0 fs n
   rw [List.getElem?_eq_getElem hl, hat] at this
   injection this with this
   rw [this]; simp [tEnt]
  ·have := tEnts_get 0 fs j
   rw [List.getElem?_eq_getElem (by omega), List.getElem?_eq_getElem (by omega)] at this
   injection this with this
   rw [this]; simp [tEnt]; omega
 unfold Instr.entryStore
 have hai : (asInt (.int .i64 (n : Int))).run Tryz.prog w = .ok (n : Int) w := rfl
 simp only [Sem.run_bind, Result.andThen_ok, MapKept.run_getObj_map hb', hai, hi, MapKept.run_setObj_map _ hb', setB]
 congr 3
 simp only [tObj, List.length_set]
 congr 2
 apply Array.ext_getElem?
 intro j
 rw [Array.getElem?_modify, List.getElem?_toArray, List.getElem?_toArray, tEnts_get, tEnts_get, List.getElem?_set]
 by_cases hij : n = j
 ·subst hij
  rw [if_pos rfl, if_pos rfl, if_pos hn, hat]; simp [tEnt]
 ·rw [if_neg hij, if_neg hij]

end Go.Proofs.YtogdefomigiepaaGreatDoor
/- Slices of lines, and the sums of lines by title. -/
namespace Go.Proofs.YtogdefomigiepaaGreatDoor
open Go.RowKit

def lns (l : List Ln) : List (List Value) := l.map Ln.vals
theorem lns_len (l : List Ln) : (lns l).length = l.length := by simp [lns]
theorem lns_at {l : List Ln} {k : Nat} (h : k < l.length) : (lns l)[k]? = some (l[k]).vals := by simp [lns, h]
theorem CellsAt.ln {w : World} {b off : Nat} {l : List Ln} (h : CellsAt w 3 b off (lns l)) {k : Nat} (hk : k < l.length) :
  w.cell? ⟨b, off + k * 3, none⟩ = some (.int .i64 (l[k]).kind) ∧ w.cell? ⟨b, off + k * 3 + 1, none⟩ = some (.string (l[k]).code) ∧ w.cell? ⟨b, off + k * 3 + 2, none⟩ = some (.int .i64 (l[k]).amt) :=
 ⟨h.2 k _ (lns_at hk) 0 _ rfl, h.2 k _ (lns_at hk) 1 _ rfl, h.2 k _ (lns_at hk) 2 _ rfl⟩
theorem lns_pos {l : List Ln} {k : Nat} (hlt : k < l.length) (h : lns l = []) : False := by
 have := congrArg List.length h
 rw [lns_len] at this; simp only [List.length_nil] at this; omega
theorem lns_wide (l : List Ln) : Wide 3 (lns l) := fun x hx => by
 obtain ⟨p, _, rfl⟩ := List.mem_map.1 hx
 exact ⟨rfl, by simp [Ln.vals, Value.oneCell']⟩
theorem lns_append (l m : List Ln) : lns (l ++ m) = lns l ++ lns m := by simp [lns]
theorem rowLn : RowTy Tryz.prog 25 45 3 32 := by
 obtain ⟨i, hi, hz, hs, hb⟩ := info_parts (show (Tryz.prog.info? 45).map (fun i => (i.zero, i.size, i.bytes)) = some (some (.agg #[.int .i64 0, .string ⟨#[]⟩, .int .i64 0]), 3, 32) by kernel_rfl)
 exact ⟨Tryz.underlying25, ⟨i, _, hi, hz, hs, hb, rfl⟩, by omega⟩

def addT (es : List Ln) (x : Ln) : List Ln := putT x.kind x.code (amtT es x.kind x.code + x.amt) es
def sumsT (l : List Ln) : List Ln := l.foldl addT []
theorem sumsT_snoc (l : List Ln) (k : Nat) (h : k < l.length) : sumsT (l.take (k + 1)) = addT (sumsT (l.take k)) l[k] := by
 unfold sumsT
 rw [List.take_succ_eq_append_getElem h, List.foldl_append]; rfl
theorem sameT_iff (k : Int) (c : ByteArray) (l : Ln) : sameT k c l = true ↔ l.kind = k ∧ l.code = c :=
 ⟨sameT_eq, fun ⟨h1, h2⟩ => by simp [sameT, h1, h2]⟩
theorem findT_put (es : List Ln) (k : Int) (c : ByteArray) (v : Int) (k' : Int) (c' : ByteArray) (j : Nat) : (findT k' c' j (putT k c v es)).map (·.2) = if k' = k ∧ c' = c then some v else (findT k' c' j es).map (·.2) := by
 induction es generalizing j with
 | nil =>
  simp only [putT, findT]
  by_cases h : k' = k ∧ c' = c
  ·rw [if_pos ((sameT_iff _ _ _).2 ⟨h.1.symm, h.2.symm⟩), if_pos h]; rfl
  ·rw [if_neg (fun hh => h ⟨((sameT_iff _ _ _).1 hh).1.symm, ((sameT_iff _ _ _).1 hh).2.symm⟩), if_neg h]
 | cons l r ih =>
  simp only [putT]
  by_cases hs : sameT k c l = true
  ·rw [if_pos hs]
   simp only [findT]
   obtain ⟨e1, e2⟩ := sameT_eq hs
   by_cases h : k' = k ∧ c' = c
   ·rw [if_pos ((sameT_iff _ _ _).2 ⟨h.1.symm, h.2.symm⟩), if_pos h]; rfl
   ·rw [if_neg (fun hh => h ⟨((sameT_iff _ _ _).1 hh).1.symm, ((sameT_iff _ _ _).1 hh).2.symm⟩), if_neg h,
     if_neg (fun hh => h ⟨((sameT_iff _ _ _).1 hh).1.symm.trans e1, ((sameT_iff _ _ _).1 hh).2.symm.trans e2⟩)]
  ·rw [if_neg hs]
   simp only [findT]
   by_cases h' : sameT k' c' l = true
   ·rw [if_pos h', if_pos h', if_neg]
    intro hh
    obtain ⟨e1, e2⟩ := sameT_eq h'
    exact hs ((sameT_iff _ _ _).2 ⟨e1.trans hh.1, e2.trans hh.2⟩)
   ·rw [if_neg h', if_neg h', ih]
theorem amtT_put (es : List Ln) (k : Int) (c : ByteArray) (v : Int) (k' : Int) (c' : ByteArray) : amtT (putT k c v es) k' c' = if k' = k ∧ c' = c then v else amtT es k' c' := by
 unfold amtT
 rw [findT_put]
 split <;> rfl
theorem amtT_fold (l : List Ln) (es : List Ln) (M : Int) (_hM : 0 ≤ M) (B : Int) (hB : ∀ k c, -B ≤ amtT es k c ∧ amtT es k c ≤ B) (h : ∀ x ∈ l, -M ≤ x.amt ∧ x.amt ≤ M) (k : Int) (c : ByteArray) :
  -(B + M * l.length) ≤ amtT (l.foldl addT es) k c ∧ amtT (l.foldl addT es) k c ≤ B + M * l.length := by
 induction l generalizing es B with
 | nil => simpa using hB k c
 | cons x r ih =>
  have hx := h x (by simp)
  have := ih (addT es x) (B + M) (fun k' c' => by
   unfold addT
   rw [amtT_put]
   have h1 := hB x.kind x.code
   have h2 := hB k' c'
   split <;> omega) (fun y hy => h y (by simp [hy]))
  have e : M * ((x :: r).length : Int) = M * r.length + M := by rw [List.length_cons]; push_cast; rw [Int.mul_add, Int.mul_one]
  rw [List.foldl_cons, e]
  omega
theorem formed_amt {x : Ln} (h : formedB x = true) : -1000000000000 ≤ x.amt ∧ x.amt ≤ 1000000000000 := by simp [formedB, totB] at h; omega
theorem amtT_bound (l : List Ln) (h : l.all formedB = true) (k : Int) (c : ByteArray) : -(1000000000000 * (l.length : Int)) ≤ amtT (sumsT l) k c ∧ amtT (sumsT l) k c ≤ 1000000000000 * (l.length : Int) := by
 have := amtT_fold l [] 1000000000000 (by omega) 0 (fun k c => by simp [amtT, findT]) (fun x hx => formed_amt (List.all_eq_true.1 h x hx)) k c
 unfold sumsT
 omega

end Go.Proofs.YtogdefomigiepaaGreatDoor
/- Contracts of cmp.Compare, cmp.Or and payslip.order. -/
namespace Go.Proofs.YtogdefomigiepaaGreatDoor
open Go.RowKit Go.Sort

def cmpI (a b : Int) : Int := if a < b then -1 else if b < a then 1 else 0
def cmpS (a b : ByteArray) : Int := if Op.bytesLess a.toList b.toList then -1 else if a.toList == b.toList then 0 else 1
def orI (a b : Int) : Int := if a = 0 then b else a
def cmpLn (a b : Ln) : Int := orI (cmpI a.kind b.kind) (cmpS a.code b.code)

theorem nanI_any (a : Int) (w : World) : Calls Tryz.prog 138 #[.int .i64 a] w fun e w' => e = .returned (.bool false) ∧ w = w' := by
 go_enter Tryz.func138, Tryz.ntmps138
 go_wp2
 go_ret
 exact ⟨by simp, rfl⟩
theorem nanS_any (a : ByteArray) (w : World) : Calls Tryz.prog 139 #[.string a] w fun e w' => e = .returned (.bool false) ∧ w = w' := by
 go_enter Tryz.func139, Tryz.ntmps139
 go_wp2
 go_ret
 exact ⟨by simp, rfl⟩
theorem cmpI_any (a b : Int) (w : World) : Calls Tryz.prog 106 #[.int .i64 a, .int .i64 b] w fun e w' => e = .returned (.int .i64 (cmpI a b)) ∧ w = w' := by
 by_cases h1 : a < b
 ·have H : Hid (cmpI a b = -1) := by rw [Hid, cmpI, if_pos h1]
  go_enter Tryz.func106, Tryz.ntmps106
  go_wp2_with (go_at_call 138; refine (nanI_any _ _).mono ?_; rintro e w' ⟨rfl, rfl⟩)
  go_ret
  exact ⟨ret_int H.out.symm, rfl⟩
 ·by_cases h2 : b < a
  ·have H : Hid (cmpI a b = 1) := by rw [Hid, cmpI, if_neg h1, if_pos h2]
   go_enter Tryz.func106, Tryz.ntmps106
   go_wp2_with (go_at_call 138; refine (nanI_any _ _).mono ?_; rintro e w' ⟨rfl, rfl⟩)
   go_ret
   exact ⟨ret_int H.out.symm, rfl⟩
  ·have H : Hid (cmpI a b = 0) := by rw [Hid, cmpI, if_neg h1, if_neg h2]
   go_enter Tryz.func106, Tryz.ntmps106
   go_wp2_with (go_at_call 138; refine (nanI_any _ _).mono ?_; rintro e w' ⟨rfl, rfl⟩)
   go_ret
   exact ⟨ret_int H.out.symm, rfl⟩
theorem cmpS_any (a b : ByteArray) (w : World) : Calls Tryz.prog 107 #[.string a, .string b] w fun e w' => e = .returned (.int .i64 (cmpS a b)) ∧ w = w' := by
 cases h1 : Op.bytesLess a.toList b.toList
 ·cases h2 : (a.toList == b.toList)
  ·have H : Hid (cmpS a b = 1) := by rw [Hid, cmpS, h1, h2]; rfl
   go_enter Tryz.func107, Tryz.ntmps107
   go_wp2_with (go_at_call 139; refine (nanS_any _ _).mono ?_; rintro e w' ⟨rfl, rfl⟩)
   go_ret
   exact ⟨ret_int H.out.symm, rfl⟩
  ·have H : Hid (cmpS a b = 0) := by rw [Hid, cmpS, h1, h2]; rfl
   go_enter Tryz.func107, Tryz.ntmps107
   go_wp2_with (go_at_call 139; refine (nanS_any _ _).mono ?_; rintro e w' ⟨rfl, rfl⟩)
   go_ret
   exact ⟨ret_int H.out.symm, rfl⟩
 ·have H : Hid (cmpS a b = -1) := by rw [Hid, cmpS, h1]; rfl
  go_enter Tryz.func107, Tryz.ntmps107
  go_wp2_with (go_at_call 139; refine (nanS_any _ _).mono ?_; rintro e w' ⟨rfl, rfl⟩)
  go_ret
  exact ⟨ret_int H.out.symm, rfl⟩

set_option maxHeartbeats 400000 in
theorem orI_any (a b : Int) (g c : Nat) (w : World) (h0 : w.cell? ⟨g, 0, none⟩ = some (.int .i64 a)) (h1 : w.cell? ⟨g, 1, none⟩ = some (.int .i64 b)) :
  Calls Tryz.prog 105 #[.slice (some ⟨g, 0, none⟩) 2 c] w fun e w' => e = .returned (.int .i64 (orI a b)) ∧ w = w' := by
 go_enter Tryz.func105, Tryz.ntmps105
 go_wp2
 go_loop [8] (fun i => ∃ k : Nat, k ≤ 2 ∧ i = .int .i64 k ∧ Hid (1 ≤ k → a = 0) ∧ Hid (2 ≤ k → b = 0)) (fun i => 2 - (intOf i).toNat)
 case atStart => exact ⟨0, by omega, rfl, (fun h => by omega), (fun h => by omega)⟩
 case round =>
  obtain ⟨k, hk, rfl, HA, HB⟩ := hrel
  by_cases hk0 : k = 0
  ·subst hk0
   cases ha : (a != 0)
   ·go_wp2
    go_round
    case rel => exact ⟨1, by omega, by go_num, (fun _ => by simpa using ha), (fun h => by omega)⟩
    case measure => simp [intOf]
   ·go_wp2
    go_ret
    exact ⟨ret_int (by rw [orI, if_neg (by simpa using ha)]), rfl⟩
  ·by_cases hk1 : k = 1
   ·subst hk1
    have ha := HA.out (Nat.le_refl _)
    have HA' := Lib.hid ha
    clear ha
    cases hb : (b != 0)
    ·go_wp2
     go_round
     case rel => exact ⟨2, by omega, by go_num, (fun _ => HA'.out), (fun _ => by simpa using hb)⟩
     case measure => simp [intOf]
    ·go_wp2
     go_ret
     exact ⟨ret_int (by rw [orI, if_pos HA'.out]), rfl⟩
   ·obtain rfl : k = 2 := by omega
    go_wp2
    go_ret
    exact ⟨ret_int (by rw [orI, if_pos (HA.out (by omega)), HB.out (by omega)]), rfl⟩

set_option maxRecDepth 100000 in
set_option maxHeartbeats 1000000 in
theorem order_any (a b : Ln) (w : World) : Calls Tryz.prog 56 #[.agg #[.int .i64 a.kind, .string a.code, .int .i64 a.amt], .agg #[.int .i64 b.kind, .string b.code, .int .i64 b.amt]] w fun e w' => e = .returned (.int .i64 (cmpLn a b)) ∧ ∃ q os, w' = grow (w.drewN q) os := by
 unfold cmpLn
 go_enter Tryz.func56, Tryz.ntmps56
 go_wp2
 refine region_tail 10 (by kernel_rfl) (by kernel_rfl) ?_
 simp only [List.take_succ_cons, List.take_zero, List.drop_succ_cons, List.drop_zero]
 repeat still_step
 still_call ((cmpI_any _ _ _).mono fun _ _ h => ⟨h.1, h.2.symm⟩)
 repeat still_step
 still_call ((cmpS_any _ _ _).mono fun _ _ h => ⟨h.1, h.2.symm⟩)
 refine wpStill_nil ?_
 go_wp2_with (go_at_call 105; refine (orI_any (cmpI a.kind b.kind) (cmpS a.code b.code) _ _ _ ?_ ?_).mono ?_; (simp [go_sem]); (simp [go_sem]); rintro e w' ⟨rfl, rfl⟩)
 go_ret
 exact ⟨rfl, 1, _, by rw [alloc_eq_grow, alloc_eq_grow, alloc_eq_grow, grow_grow, grow_grow]; rfl⟩

end Go.Proofs.YtogdefomigiepaaGreatDoor
/-
 DERIVED: THE SHELF's CONTRACTS AT THIS DUMP, IN PLAIN WORDS (tools/lay-plain.mjs out of 'TryzShelf.lean', which tools/lay-shelf.mjs wrote): THE SAME DECLARATIONS UNDER THE SAME NAMES: 'import', 'namespace', 'open', 'def', 'theorem' AND NOTHING ELSE: no command of the shelf's: FOR A HAND-IN. Each laying: the table of numbers ('.._ren') and one theorem, a field a fact of the dump's own or the kernel's comparison; each contract: ONE APPLICATION.
-/
namespace Go.Proofs
open Go.Shelf
def Tryz.sortLn_ren : Go.Shelf.Ren := ⟨fun | 6 => 68 | 15 => 117 | 14 => 116 | 28 => 158 | 29 => 159 | 20 => 150 | 21 => 151 | 22 => 152 | 23 => 153 | 24 => 154 | 25 => 155 | 26 => 156 | 27 => 157 | 46 => 180 | 47 => 181 | 48 => 182 | 49 => 183 | 50 => 184 | 57 => 199 | n => n, fun | 22 => 25 | 24 => 45 | 25 => 140 | 3 => 3 | 39 => 143 | 0 => 0 | 53 => 234 | 55 => 218 | 4 => 4 | 46 => 228 | 45 => 227 | 50 => 148 | 5 => 5 | 9 => 9 | 66 => 252 | 70 => 83 | 76 => 265 | 77 => 266 | n => n, fun | n => n⟩
theorem Tryz.sortLn : Go.Proofs.SlLaysF0.n6 Tryz.prog Tryz.sortLn_ren := {
 mixed := by kernel_rfl
 f6 := ⟨Tryz.f68.name, by decide, Tryz.func68.trans (congrArg some (by kernel_rfl))⟩
 f14 := ⟨Tryz.f116.name, by decide, Tryz.func116.trans (congrArg some (by kernel_rfl))⟩
 f15 := Tryz.func117.trans (congrArg some (by kernel_rfl))
 f20 := ⟨Tryz.f150.name, by decide, Tryz.func150.trans (congrArg some (by kernel_rfl))⟩
 f21 := ⟨Tryz.f151.name, by decide, Tryz.func151.trans (congrArg some (by kernel_rfl))⟩
 f22 := ⟨Tryz.f152.name, by decide, Tryz.func152.trans (congrArg some (by kernel_rfl))⟩
 f23 := ⟨Tryz.f153.name, by decide, Tryz.func153.trans (congrArg some (by kernel_rfl))⟩
 f24 := ⟨Tryz.f154.name, by decide, Tryz.func154.trans (congrArg some (by kernel_rfl))⟩
 f25 := ⟨Tryz.f155.name, by decide, Tryz.func155.trans (congrArg some (by kernel_rfl))⟩
 f26 := ⟨Tryz.f156.name, by decide, Tryz.func156.trans (congrArg some (by kernel_rfl))⟩
 f27 := ⟨Tryz.f157.name, by decide, Tryz.func157.trans (congrArg some (by kernel_rfl))⟩
 f28 := Tryz.func158.trans (congrArg some (by kernel_rfl))
 f29 := Tryz.func159.trans (congrArg some (by kernel_rfl))
 f46 := ⟨Tryz.f180.name, by decide, Tryz.func180.trans (congrArg some (by kernel_rfl))⟩
 f47 := Tryz.func181.trans (congrArg some (by kernel_rfl))
 f48 := Tryz.func182.trans (congrArg some (by kernel_rfl))
 f49 := ⟨Tryz.f183.name, by decide, Tryz.func183.trans (congrArg some (by kernel_rfl))⟩
 f50 := ⟨Tryz.f184.name, by decide, Tryz.func184.trans (congrArg some (by kernel_rfl))⟩
 f57 := ⟨Tryz.f199.name, by decide, Tryz.func199.trans (congrArg some (by kernel_rfl))⟩
 t0 := Tryz.underlying0
 a0 := Tryz.isAgg0
 z0 := Tryz.sizeOf0
 v0 := Tryz.zeroValue0
 t3 := Tryz.underlying3
 a3 := Tryz.isAgg3
 z3 := Tryz.sizeOf3
 v3 := Tryz.zeroValue3
 t4 := Tryz.underlying4
 a4 := Tryz.isAgg4
 z4 := Tryz.sizeOf4
 v4 := Tryz.zeroValue4
 t5 := Tryz.underlying5
 a5 := Tryz.isAgg5
 z5 := Tryz.sizeOf5
 v5 := Tryz.zeroValue5
 t9 := Tryz.underlying9
 a9 := Tryz.isAgg9
 z9 := Tryz.sizeOf9
 v9 := Tryz.zeroValue9
 t22 := Tryz.underlying25
 a22 := Tryz.isAgg25
 z22 := Tryz.sizeOf25
 v22 := Tryz.zeroValue25
 t25 := Tryz.underlying140
 a25 := Tryz.isAgg140
 z25 := Tryz.sizeOf140
 v25 := Tryz.zeroValue140
 t39 := Tryz.underlying143
 a39 := Tryz.isAgg143
 z39 := Tryz.sizeOf143
 v39 := Tryz.zeroValue143
 t45 := Tryz.underlying227
 a45 := Tryz.isAgg227
 z45 := Tryz.sizeOf227
 v45 := Tryz.zeroValue227
 t46 := Tryz.underlying228
 a46 := Tryz.isAgg228
 z46 := Tryz.sizeOf228
 v46 := Tryz.zeroValue228
 t50 := Tryz.underlying148
 a50 := Tryz.isAgg148
 z50 := Tryz.sizeOf148
 v50 := Tryz.zeroValue148
 t53 := Tryz.underlying234
 a53 := Tryz.isAgg234
 z53 := Tryz.sizeOf234
 v53 := Tryz.zeroValue234
 t55 := Tryz.underlying218
 a55 := Tryz.isAgg218
 z55 := Tryz.sizeOf218
 v55 := Tryz.zeroValue218
 t66 := Tryz.underlying252
 a66 := Tryz.isAgg252
 z66 := Tryz.sizeOf252
 v66 := Tryz.zeroValue252
 t70 := Tryz.underlying83
 a70 := Tryz.isAgg83
 z70 := Tryz.sizeOf83
 v70 := Tryz.zeroValue83
 t76 := Tryz.underlying265
 a76 := Tryz.isAgg265
 z76 := Tryz.sizeOf265
 v76 := Tryz.zeroValue265
 t77 := Tryz.underlying266
 a77 := Tryz.isAgg266
 z77 := Tryz.sizeOf266
 v77 := Tryz.zeroValue266 }
end Go.Proofs
/- slices.SortFunc at lines, by payslip.order. -/
namespace Go.Proofs.YtogdefomigiepaaGreatDoor
open Go.RowKit Go.Sort Go.Shelf

def lnLt (a b : Ln) : Bool := decide (a.kind < b.kind) || (decide (a.kind = b.kind) && decide (a.code.toList < b.code.toList))
instance : Inhabited Ln := ⟨⟨0, ByteArray.empty, 0⟩⟩
theorem lnLt_iff (a b : Ln) : lnLt a b = true ↔ a.kind < b.kind ∨ a.kind = b.kind ∧ a.code.toList < b.code.toList := by simp [lnLt]
theorem lnLt_not (a b : Ln) : lnLt a b = false ↔ b.kind < a.kind ∨ a.kind = b.kind ∧ b.code.toList ≤ a.code.toList := by
 rw [Bool.eq_false_iff, Ne, lnLt_iff, ← List.not_lt]
 constructor
 ·intro h
  by_cases h1 : a.kind = b.kind
  ·exact .inr ⟨h1, fun h2 => h (.inr ⟨h1, h2⟩)⟩
  ·exact .inl (by
    rcases Int.lt_or_gt_of_ne h1 with h2 | h2
    ·exact absurd (.inl h2) h
    ·exact h2)
 ·rintro (h | ⟨h1, h2⟩) (h' | ⟨h3, h4⟩)
  ·omega
  ·omega
  ·omega
  ·exact h2 h4
theorem ltOf_ln (a b : Ln) : ltOf cmpLn a b = lnLt a b := by
 unfold ltOf cmpLn orI cmpI cmpS
 rw [bytesLess_eq]
 rw [Bool.eq_iff_iff, lnLt_iff, decide_eq_true_eq]
 by_cases h1 : a.kind < b.kind
 ·simp [h1]
 ·by_cases h2 : b.kind < a.kind
  ·simp [h1, h2]; omega
  ·have h3 : a.kind = b.kind := by omega
   by_cases h4 : a.code.toList < b.code.toList
   ·simp [h3, h4]
   ·by_cases h5 : a.code.toList = b.code.toList
    ·have h6 : ¬ b.code.toList < b.code.toList := by rw [h5] at h4; exact h4
     simp [h3, h5, h6]
    ·simp [h3, h4, h5]
theorem swoLn : SWO (ltOf cmpLn) where
 irrefl x := by rw [ltOf_ln, lnLt_not]; exact .inr ⟨rfl, List.le_refl _⟩
 trans x y z h1 h2 := by
  rw [ltOf_ln, lnLt_iff] at *
  rcases h1 with h1 | ⟨h1, h1'⟩ <;> rcases h2 with h2 | ⟨h2, h2'⟩
  ·exact .inl (by omega)
  ·exact .inl (by omega)
  ·exact .inl (by omega)
  ·exact .inr ⟨h1.trans h2, List.lt_trans h1' h2'⟩
 ntrans x y z h1 h2 := by
  rw [ltOf_ln, lnLt_not] at *
  rcases h1 with h1 | ⟨h1, h1'⟩ <;> rcases h2 with h2 | ⟨h2, h2'⟩
  ·exact .inl (by omega)
  ·exact .inl (by omega)
  ·exact .inl (by omega)
  ·exact .inr ⟨h1.trans h2, List.le_trans h2' h1'⟩

theorem ln_len (x : Ln) : (Ln.vals x).length = 3 := rfl
theorem ln_one (x : Ln) : ∀ v ∈ Ln.vals x, v.oneCell' = true := by simp [Ln.vals, Value.oneCell']

def SortPost (w : World) (base : Nat) (v : Value) (l : List Ln) (e : Ending) (w' : World) : Prop :=
 e = .returned (.tuple #[]) ∧ ∃ l', l'.Perm l ∧ l'.Pairwise (fun a b => lnLt b a = false) ∧ Own w' base 45 3 v (lns l') ∧ w.grownBy w' v.ownBlock

theorem sortLn_any (v : Value) (l : List Ln) (base : Nat) (w : World) (hown : Own w base 45 3 v (lns l)) (hlen : l.length ≤ 1099511627776) :
  Calls Tryz.prog 68 #[v, .func (.func 56) #[] #[]] w (SortPost w base v l) := by
 have hl : (lns l).length = l.length := lns_len l
 rcases hown.1.2 with ⟨rfl, h0⟩ | ⟨g, cap, cur, rfl, hb, hg, hrest⟩
 ·have hl0 : l = [] := List.eq_nil_of_length_eq_zero (by omega)
  subst hl0
  exact (AnyF.slices_SortFunc_none Tryz.sortLn none 0 _ w).mono fun e w' ⟨he, hw⟩ => by
   subst hw
   exact ⟨he, [], .refl _, .nil, hown, World.grownBy.refl _ _⟩
 ·rw [hl] at hown ⊢
  obtain ⟨hH, hlt⟩ := own_holds (enc := Ln.vals) (k := 3) (by omega) ln_len ln_one hown
  have eg : ∀ args w, (callFunc 56 args).run Tryz.prog w = .ok (.enter 56 args) w := enters_of Tryz.func56 (by kernel_rfl) rfl
  have hcmp : CmpLays Tryz.prog 56 #[] Ln.vals 3 cmpLn g 0 l.toArray.size w := fun _ _ _ _ x y => order_any x y _
  have hcon := AnyQ.slices_SortFunc Tryz.sortLn 3 Tryz.isAgg45 Tryz.sizeOf45 Ln.vals ln_len ln_one cmpLn swoLn 56 #[] g 0 cap l.toArray w eg hcmp hH hlt (by simp; omega)
  refine Calls.mono (R := _) hcon fun e w' hh => ?_
  obtain ⟨he, d, n, os, hp, hs, hw⟩ := hh
  subst hw
  have hd : d.size = l.length := by simpa using hp.1
  have hk := own_sorted (enc := Ln.vals) (k := 3) (by omega) ln_len ln_one hown d hd n os
  refine ⟨he, d.toList, ?_, ?_, hk.1, hk.2⟩
  ·have := hp.2.2
   simp only [List.size_toArray] at this
   rw [show d.extract 0 l.length = d by rw [← hd]; simp, show l.toArray.extract 0 l.length = l.toArray by simp] at this
   simpa using this
  ·rw [List.pairwise_iff_getElem]
   intro i j hi hj hij
   have := hs i j (Nat.zero_le _) hij (by simp at hj ⊢; omega)
   rw [ltOf_ln] at this
   simp only [Array.length_toList] at hi hj
   rw [getElem!_pos d j hj, getElem!_pos d i hi] at this
   simpa using this

end Go.Proofs.YtogdefomigiepaaGreatDoor
/- Plain laws on lists of lines: the order of lines, lists with different titles, the sorted list. -/
namespace Go.Proofs.YtogdefomigiepaaGreatDoor
open Go.RowKit

def Dist (es : List Ln) : Prop := es.Pairwise fun a b => ¬ (a.kind = b.kind ∧ a.code = b.code)
def Strict (es : List Ln) : Prop := es.Pairwise fun a b => lnLt a b = true
def nz (x : Ln) : Bool := decide (x.amt ≠ 0)
def insLn (x : Ln) : List Ln → List Ln
 | [] => [x]
 | y :: r => if lnLt x y then x :: y :: r else y :: insLn x r
def srtLn (l : List Ln) : List Ln := l.foldr insLn []

theorem bytes_of_toList {a b : ByteArray} (h : a.toList = b.toList) : a = b := by
 rw [ByteArray.toList_eq, ByteArray.toList_eq] at h
 exact Go.WideShapes.bytes_inj h
theorem lnLt_total {a b : Ln} (h1 : lnLt a b = false) (h2 : lnLt b a = false) : a.kind = b.kind ∧ a.code = b.code := by
 rw [lnLt_not] at h1 h2
 rcases h1 with h1 | ⟨h1, h1'⟩ <;> rcases h2 with h2 | ⟨h2, h2'⟩
 ·omega
 ·omega
 ·omega
 ·exact ⟨h1, bytes_of_toList (List.le_antisymm h2' h1')⟩
theorem lnLt_irrefl (a : Ln) : lnLt a a = false := by rw [← ltOf_ln]; exact swoLn.irrefl a
theorem lnLt_trans {a b c : Ln} (h1 : lnLt a b = true) (h2 : lnLt b c = true) : lnLt a c = true := by
 rw [← ltOf_ln] at *; exact swoLn.trans _ _ _ h1 h2
theorem lnLt_asymm {a b : Ln} (h1 : lnLt a b = true) : lnLt b a = false := by
 rw [Bool.eq_false_iff]; intro h2
 have := lnLt_trans h1 h2
 rw [lnLt_irrefl] at this; cases this
theorem lnLt_title {a b : Ln} (h : lnLt a b = true) : ¬ (a.kind = b.kind ∧ a.code = b.code) := by
 rintro ⟨h1, h2⟩
 rw [lnLt_iff] at h
 rcases h with h | ⟨_, h⟩
 ·omega
 ·rw [h2] at h; exact List.lt_irrefl _ h
theorem Strict.dist {r : List Ln} (h : Strict r) : Dist r := List.Pairwise.imp (fun h => lnLt_title h) h
theorem strict_unique {r1 r2 : List Ln} (h1 : Strict r1) (h2 : Strict r2) (h : ∀ x, x ∈ r1 ↔ x ∈ r2) : r1 = r2 := by
 induction r1 generalizing r2 with
 | nil =>
  cases r2 with
  | nil => rfl
  | cons b r => exact absurd ((h b).2 (by simp)) (by simp)
 | cons a r ih =>
  cases r2 with
  | nil => exact absurd ((h a).1 (by simp)) (by simp)
  | cons b s =>
   have h1' := List.pairwise_cons.1 h1
   have h2' := List.pairwise_cons.1 h2
   have hab : a = b := by
    rcases List.mem_cons.1 ((h a).1 (by simp)) with e | e
    ·exact e
    ·rcases List.mem_cons.1 ((h b).2 (by simp)) with e' | e'
     ·exact e'.symm
     ·have q1 := h2'.1 a e
      have q2 := h1'.1 b e'
      rw [lnLt_asymm q1] at q2; cases q2
   subst hab
   congr 1
   refine ih h1'.2 h2'.2 fun x => ?_
   constructor
   ·intro hx
    rcases List.mem_cons.1 ((h x).1 (by simp [hx])) with e | e
    ·subst e
     have := h1'.1 x hx
     rw [lnLt_irrefl] at this; cases this
    ·exact e
   ·intro hx
    rcases List.mem_cons.1 ((h x).2 (by simp [hx])) with e | e
    ·subst e
     have := h2'.1 x hx
     rw [lnLt_irrefl] at this; cases this
    ·exact e
theorem mem_insLn {x y : Ln} {l : List Ln} : y ∈ insLn x l ↔ y = x ∨ y ∈ l := by
 induction l with
 | nil => simp [insLn]
 | cons a r ih =>
  simp only [insLn]
  split
  ·simp
  ·simp only [List.mem_cons, ih]
   constructor
   ·rintro (h | h | h)
    ·exact .inr (.inl h)
    ·exact .inl h
    ·exact .inr (.inr h)
   ·rintro (h | h | h)
    ·exact .inr (.inl h)
    ·exact .inl h
    ·exact .inr (.inr h)
theorem mem_srtLn {y : Ln} {l : List Ln} : y ∈ srtLn l ↔ y ∈ l := by
 induction l with
 | nil => simp [srtLn]
 | cons a r ih =>
  show y ∈ insLn a (srtLn r) ↔ _
  rw [mem_insLn, ih]; simp
theorem strict_insLn {x : Ln} {l : List Ln} (h : Strict l) (hx : ∀ y ∈ l, ¬ (x.kind = y.kind ∧ x.code = y.code)) : Strict (insLn x l) := by
 induction l with
 | nil => simp [insLn, Strict]
 | cons a r ih =>
  have h' := List.pairwise_cons.1 h
  simp only [insLn]
  by_cases hl : lnLt x a = true
  ·rw [if_pos hl]
   refine List.pairwise_cons.2 ⟨fun y hy => ?_, h⟩
   rcases List.mem_cons.1 hy with rfl | hy
   ·exact hl
   ·exact lnLt_trans hl (h'.1 y hy)
  ·rw [if_neg hl]
   have hax : lnLt a x = true := by
    cases hh : lnLt a x
    ·exact absurd (lnLt_total (by simpa using hl) hh) (hx a (by simp))
    ·rfl
   refine List.pairwise_cons.2 ⟨fun y hy => ?_, ih h'.2 fun y hy => hx y (by simp [hy])⟩
   rcases mem_insLn.1 hy with rfl | hy
   ·exact hax
   ·exact h'.1 y hy
theorem strict_srtLn {l : List Ln} (h : Dist l) : Strict (srtLn l) := by
 induction l with
 | nil => exact .nil
 | cons a r ih =>
  have h' := List.pairwise_cons.1 h
  exact strict_insLn (ih h'.2) fun y hy => h'.1 y (mem_srtLn.1 hy)
theorem dist_filter {l : List Ln} (h : Dist l) (p : Ln → Bool) : Dist (l.filter p) := List.Pairwise.filter _ h
theorem sorted_is {l l' es : List Ln} (hd : Dist l) (hp : l'.Perm l) (hs : l'.Pairwise fun a b => lnLt b a = false) (hes : Dist es) (hm : ∀ x, x ∈ l ↔ x ∈ es ∧ nz x = true) : l' = srtLn (es.filter nz) := by
 have hd' : Dist l' := (hp.symm.pairwise_iff (fun {a b} h hh => h ⟨hh.1.symm, hh.2.symm⟩)).1 hd
 have hst : Strict l' := by
  have := List.pairwise_and_iff.2 ⟨hs, hd'⟩
  refine List.Pairwise.imp (fun {a b} ⟨h1, h2⟩ => ?_) this
  cases hh : lnLt a b
  ·exact absurd (lnLt_total hh h1) h2
  ·rfl
 refine strict_unique hst (strict_srtLn (dist_filter hes nz)) fun x => ?_
 rw [mem_srtLn, hp.mem_iff, hm x, List.mem_filter]

end Go.Proofs.YtogdefomigiepaaGreatDoor
/- A region that draws its order, whose operations read what was there and call functions that only lay new memory: walked in the order of its text, in every world that extends the one at its start. -/
namespace Go.Proofs.YtogdefomigiepaaGreatDoor
open Go.RowKit

structure Ext (w : World) where
 val : World
 property : Below w.heap.size w val
instance (w : World) : Inhabited (Ext w) := ⟨⟨w, Below.refl _ _⟩⟩
theorem region_ext {P : Program} {id : Nat} {Q : Exit → Act → World → Prop} {a : Act} {w : World} {l : List Oper} (hm : P.follows .mixedOrders = true) (hB : Region.lexB .any l.toArray = true)
  (h : wpQuiet P l.toArray (fun w' => ∃ x : Ext w, w' = x.val) (fun a' => ∀ w', (∃ x : Ext w, w' = x.val) → Q .normal a' w') l a) : (Code.region id l.toArray true).wp P Q a w :=
 wp_region_quiet (C := fun w' => ∃ x : Ext w, w' = x.val) hm hB ⟨⟨_, (Below.refl _ w).drew⟩, rfl⟩ (by simpa using h)
theorem ext_call {P : Program} {w : World} {x : Ext w} {f : FuncId} {args : Array Value} {v : Value} (h : Calls P f args x.val fun e w' => e = .returned v ∧ Below x.val.heap.size x.val w') :
    Calls P f args x.val fun e w'' => e = .returned v ∧ ∃ y : Ext w, w'' = y.val :=
  h.mono fun _ w' ⟨he, hb⟩ => ⟨he, ⟨w', x.property.trans (hb.mono x.property.size)⟩, rfl⟩
theorem ext_quiet {P : Program} {w : World} {x : Ext w} {f : FuncId} {args : Array Value} {v : Value} (h : Calls P f args x.val fun e w' => e = .returned v ∧ x.val = w') :
    Calls P f args x.val fun e w'' => e = .returned v ∧ ∃ y : Ext w, w'' = y.val :=
  h.mono fun _ _w' ⟨he, hb⟩ => ⟨he, x, hb.symm⟩
theorem ext_cell {w : World} {b o : Nat} {v : Value} (hb : b < w.heap.size) (h : w.cell? ⟨b, o, none⟩ = some v) (x : Ext w) : x.val.cell? ⟨b, o, none⟩ = some v := (x.property.cell (p := ⟨b, o, none⟩) hb).trans h

end Go.Proofs.YtogdefomigiepaaGreatDoor
/- Contracts of the reference of payslip: Less, put. -/
namespace Go.Proofs.YtogdefomigiepaaGreatDoor
open Go.RowKit

set_option maxHeartbeats 800000 in
theorem Less_any (a b : Ln) (w : World) :
  Calls Tryz.prog 60 #[.agg #[.int .i64 a.kind, .string a.code, .int .i64 a.amt], .agg #[.int .i64 b.kind, .string b.code, .int .i64 b.amt]] w fun e w' => e = .returned (.bool (lnLt a b)) ∧ Below w.heap.size w w' := by
 by_cases h1 : a.kind < b.kind
 ·have H : Hid (lnLt a b = true) := by simp [Hid, lnLt, h1]
  have d1 : decide (a.kind < b.kind) = true := decide_eq_true h1
  go_enter Tryz.func60, Tryz.ntmps60
  go_wp2
  go_ret
  exact ⟨ret_bool H.out.symm, ((Below.refl _ _).alloc (Nat.le_refl _) _).alloc (by simp) _⟩
 have d1 : decide (a.kind < b.kind) = false := decide_eq_false h1
 cases e2 : (a.kind == b.kind)
 ·have H : Hid (lnLt a b = false) := by simp [Hid, lnLt, h1, show ¬ a.kind = b.kind by simpa using e2]
  go_enter Tryz.func60, Tryz.ntmps60
  go_wp2
  go_ret
  exact ⟨ret_bool H.out.symm, ((Below.refl _ _).alloc (Nat.le_refl _) _).alloc (by simp) _⟩
 ·have H : Hid (lnLt a b = Op.bytesLess a.code.toList b.code.toList) := by
   rw [Hid, bytesLess_eq]
   simp [lnLt, show a.kind = b.kind by simpa using e2]
  go_enter Tryz.func60, Tryz.ntmps60
  go_wp2
  go_ret
  exact ⟨ret_bool H.out.symm, ((Below.refl _ _).alloc (Nat.le_refl _) _).alloc (by simp) _⟩

def putR (x : Ln) : List Ln → List Ln
 | [] => [x]
 | a :: r => if lnLt a x then a :: putR x r else if a.kind = x.kind ∧ a.code = x.code then ⟨x.kind, x.code, x.amt + a.amt⟩ :: r else x :: a :: r
theorem putR_same {x : Ln} : ∀ {l : List Ln} {j : Nat} (hj : j < l.length), (∀ i (h : i < j), lnLt (l[i]'(by omega)) x = true) → lnLt l[j] x = false → (l[j].kind = x.kind ∧ l[j].code = x.code) → putR x l = l.take j ++ ⟨x.kind, x.code, x.amt + l[j].amt⟩ :: l.drop (j + 1)
 | a :: r, 0, _, _, h2, h3 => by
  simp only [List.getElem_cons_zero] at h2 h3
  simp [putR, h2, h3]
 | a :: r, j + 1, hj, h1, h2, h3 => by
  have h0 := h1 0 (by omega)
  simp only [List.getElem_cons_zero] at h0
  have := putR_same (x := x) (l := r) (j := j) (by simpa using hj) (fun i hi => by have := h1 (i + 1) (by omega); simpa using this) (by simpa using h2) (by simpa using h3)
  simp [putR, h0, this]
theorem putR_new {x : Ln} : ∀ {l : List Ln} {j : Nat} (hj : j ≤ l.length), (∀ i (h : i < j), lnLt (l[i]'(by omega)) x = true) → (∀ h : j < l.length, lnLt l[j] x = false ∧ ¬ (l[j].kind = x.kind ∧ l[j].code = x.code)) → putR x l = l.take j ++ x :: l.drop j
 | [], 0, _, _, _ => rfl
 | a :: r, 0, _, _, h2 => by
  have h2 := h2 (by simp)
  simp only [List.getElem_cons_zero] at h2
  simp [putR, h2.1, h2.2]
 | a :: r, j + 1, hj, h1, h2 => by
  have h0 := h1 0 (by omega)
  simp only [List.getElem_cons_zero] at h0
  have := putR_new (x := x) (l := r) (j := j) (by simpa using hj) (fun i hi => by have := h1 (i + 1) (by omega); simpa using this) (fun h => by have := h2 (by simpa using h); simpa using this)
  simp [putR, h0, this]
 | [], j + 1, hj, _, _ => by simp at hj
theorem Sl.from {w : World} {sz n cap : Nat} {A : Option Addr} {es : List (List Value)} (h : Sl w sz (.slice A n cap) es) (j : Nat) (hj : j ≤ n) :
  Sl w sz (.slice (if cap = j then A else A.map (·.add (j * sz))) (n - j) (cap - j)) (es.drop j) := by
 obtain ⟨A', cap', he, h1, h2, h3, h4⟩ := h
 injection he with e1 e2 e3
 subst e1 e2 e3
 refine ⟨_, cap - j, by rw [List.length_drop], by rw [List.length_drop]; omega, by omega, fun hA => ?_, ?_⟩
 ·cases A with
  | none => have := h3 rfl; omega
  | some a =>
   exfalso
   by_cases hc : cap = j
   ·rw [if_pos hc] at hA; cases hA
   ·rw [if_neg hc] at hA; cases hA
 ·rcases h4 with rfl | ⟨b, off, rfl, h5, h6⟩
  ·exact .inl (by simp)
  ·by_cases hc : cap = j
   ·left; rw [List.drop_of_length_le (by omega)]
   ·right
    refine ⟨b, off + j * sz, ?_, h5, fun i e hi k u hk => ?_⟩
    ·rw [if_neg hc]
     simp only [Option.map_some, Addr.add]
     by_cases h0 : j * sz = 0
     ·rw [if_pos h0, h0]; rfl
     ·rw [if_neg h0]
    ·rw [List.getElem?_drop] at hi
     have := h6 (j + i) e hi k u hk
     rw [Nat.add_mul] at this
     rw [← this]
     congr 2
     omega

end Go.Proofs.YtogdefomigiepaaGreatDoor
/- Ranging over the map of sums of package payslip. -/
namespace Go.Proofs.YtogdefomigiepaaGreatDoor
open Go.RowKit

theorem run_choose {α : Type} (q : Question) (f : Nat → Sem α) (W : World) : ∃ (t : Nat) (W1 : World), (W1 = W ∨ W1 = W.drew) ∧ (choose q >>= f).run Tryz.prog W = (f t).run Tryz.prog W1 ∧ ∀ n, q = .mapNext n → 0 < n → t < n := by
 by_cases hf : q.forced = true
 ·refine ⟨0, W, .inl rfl, ?_, fun n _ hn => hn⟩
  simp [choose, Sem.run, hf]
 ·refine ⟨q.cut (W.tape W.drawn q), W.drew, .inr rfl, ?_, fun n hq hn => ?_⟩
  ·simp [choose, Sem.run, hf]
  ·subst hq
   exact Nat.mod_lt _ hn

def itObj (m n : Nat) (seen : List Nat) : Obj := .mapIter (some m) n seen.toArray n

theorem run_next_title {W : World} {r m : Nat} {es : List Ln} {seen : List Nat} (hr : W.heap[r]? = some (itObj m es.length seen)) (hm : W.heap[m]? = some (tObj es)) (ty : TypeId) :
    (∃ (i : Nat) (l : Ln) (W1 : World), es[i]? = some l ∧ i ∉ seen ∧ (W1 = W ∨ W1 = W.drew) ∧ (Instr.next (.pointer (some ⟨r, 0, none⟩)) false ty).run Tryz.prog W = .ok (.tuple #[.bool true, .agg #[.int .i64 l.kind, .string l.code], .int .i64 l.amt]) (setB W1 r (itObj m es.length (seen ++ [i])))) ∨
    (∃ W1 : World, (∀ i, i < es.length → i ∈ seen) ∧ (W1 = W ∨ W1 = W.drew) ∧ (Instr.next (.pointer (some ⟨r, 0, none⟩)) false ty).run Tryz.prog W = .ok (.tuple #[.bool false]) W1) := by
  have hr' : W.heap[r]? = some (.mapIter (some m) es.length seen.toArray es.length) := hr
  have hm' : W.heap[m]? = some (.map (tEnts 0 es).toArray es.length) := hm
  have g1 : (getObj r).run Tryz.prog W = .ok (.mapIter (some m) es.length seen.toArray es.length) W := by simp [getObj, Sem.run, hr']
  have g2 := MapKept.run_getObj_map (P := Tryz.prog) hm'
  have hborn : ∀ e ∈ tEnts 0 es, e.born < es.length := by
    intro e he
    obtain ⟨i, hi⟩ := List.getElem?_of_mem he
    rw [tEnts_get] at hi
    cases hl : es[i]? with
    | none => rw [hl] at hi; cases hi
    | some l =>
      rw [hl] at hi
      simp only [Option.map_some, Option.some.injEq] at hi
      have := (List.getElem?_eq_some_iff.1 hl).1
      rw [← hi]; simp [tEnt]; exact this
  have hchk : (!seen.toArray.isEmpty && !(tEnts 0 es).toArray.isEmpty && (tEnts 0 es).toArray.all (fun e => decide (e.born ≥ es.length))) = false := by
    cases hes : tEnts 0 es with
    | nil => simp
    | cons e r =>
      have := hborn e (by rw [hes]; simp)
      simp
      intro _ h
      omega
  have hold : ((tEnts 0 es).toArray.filter fun e => !seen.toArray.contains e.born).filter (fun e => decide (e.born < es.length)) = (tEnts 0 es).toArray.filter fun e => !seen.toArray.contains e.born := by
    rw [Array.filter_eq_self]
    intro e he
    have := hborn e (by simpa using (Array.mem_filter.1 he).1)
    simpa using this
  have hnew : ((tEnts 0 es).toArray.filter fun e => !seen.toArray.contains e.born).filter (fun e => decide (e.born ≥ es.length)) = #[] := by
    rw [Array.filter_eq_empty_iff]
    intro e he
    have := hborn e (by simpa using (Array.mem_filter.1 he).1)
    simp; omega
  have hrun : ∀ (c : Array (Option MapEntry)), c = (if ((tEnts 0 es).toArray.filter fun e => !seen.toArray.contains e.born).isEmpty then #[none] else #[]) ++ ((tEnts 0 es).toArray.filter fun e => !seen.toArray.contains e.born).map some →
      (Instr.next (.pointer (some ⟨r, 0, none⟩)) false ty).run Tryz.prog W = (choose (.mapNext c.size) >>= fun t => match c[t]? with
        | some (some e) => do setObj r (.mapIter (some m) es.length (seen.toArray.push e.born) es.length); pure (.tuple #[.bool true, e.key, e.val])
        | some none => pure (.tuple #[.bool false])
        | none => stuck "Next: no such candidate").run Tryz.prog W := by
    intro c hc
    unfold Instr.next
    simp only [Sem.run_bind, g1, Result.andThen_ok, g2, hchk, Bool.false_eq_true, if_false, hold, hnew, Array.append_empty, ← hc]
    rfl
  have hmem : ∀ e, e ∈ ((tEnts 0 es).toArray.filter fun e => !seen.toArray.contains e.born) ↔ e ∈ tEnts 0 es ∧ e.born ∉ seen := by
    intro e
    rw [Array.mem_filter]
    simp
  generalize ((tEnts 0 es).toArray.filter fun e => !seen.toArray.contains e.born) = F at hrun hmem
  by_cases hF : F = #[]
  · right
    subst hF
    have h := hrun #[none] (by simp)
    obtain ⟨t, W1, hW1, hc, hlt⟩ := run_choose (.mapNext (#[none] : Array (Option MapEntry)).size) (fun t => match (#[none] : Array (Option MapEntry))[t]? with
        | some (some e) => do setObj r (.mapIter (some m) es.length (seen.toArray.push e.born) es.length); pure (Value.tuple #[.bool true, e.key, e.val])
        | some none => pure (.tuple #[.bool false])
        | none => stuck "Next: no such candidate") W
    have ht : t = 0 := by have := hlt _ rfl (by simp); simp at this; exact this
    subst ht
    refine ⟨W1, fun i hi => ?_, hW1, ?_⟩
    · by_cases hin : i ∈ seen
      · exact hin
      · have hl : es[i]? = some es[i] := List.getElem?_eq_getElem hi
        have : tEnt i es[i] ∈ tEnts 0 es := List.mem_of_getElem? (i := i) (by rw [tEnts_get, hl]; simp)
        have := (hmem _).2 ⟨this, by simpa [tEnt] using hin⟩
        simp at this
    · rw [h, hc]; rfl
  · left
    have hne : F.isEmpty = false := by simpa using hF
    have hpos : 0 < F.size := by
      rcases Nat.eq_zero_or_pos F.size with h0 | h0
      · exact absurd (Array.eq_empty_of_size_eq_zero h0) hF
      · exact h0
    have h := hrun (F.map some) (by rw [hne]; simp)
    obtain ⟨t, W1, hW1, hc, hlt⟩ := run_choose (.mapNext (F.map some).size) (fun t => match (F.map some)[t]? with
        | some (some e) => do setObj r (.mapIter (some m) es.length (seen.toArray.push e.born) es.length); pure (Value.tuple #[.bool true, e.key, e.val])
        | some none => pure (.tuple #[.bool false])
        | none => stuck "Next: no such candidate") W
    have ht : t < F.size := by have := hlt _ rfl (by simpa using hpos); simpa using this
    have hFt : (F.map some)[t]? = some (some F[t]) := by simp [ht]
    obtain ⟨h1, h2⟩ := (hmem F[t]).1 (Array.getElem_mem ht)
    obtain ⟨i, hi⟩ := List.getElem?_of_mem h1
    rw [tEnts_get] at hi
    cases hl : es[i]? with
    | none => rw [hl] at hi; cases hi
    | some l =>
      rw [hl] at hi
      simp only [Option.map_some, Option.some.injEq, Nat.zero_add] at hi
      rw [← hi] at h2
      refine ⟨i, l, W1, hl, by simpa [tEnt] using h2, hW1, ?_⟩
      have hr1 : W1.heap[r]? = some (.mapIter (some m) es.length seen.toArray es.length) := by rcases hW1 with rfl | rfl <;> exact hr'
      rw [h, hc, hFt, ← hi]
      simp only [Sem.run_bind, Sem.run_pure]
      simp [setObj, Sem.run, hr1, setB, itObj, tEnt]

theorem run_entry_it {W : World} {r m : Nat} {es : List Ln} {seen : List Nat} {i : Nat} {l : Ln} (hr : W.heap[r]? = some (itObj m es.length (seen ++ [i]))) (hm : W.heap[m]? = some (tObj es)) (hl : es[i]? = some l) :
  (Instr.entry (.pointer (some ⟨r, 0, none⟩))).run Tryz.prog W = .ok (.tuple #[.agg #[.int .i64 l.kind, .string l.code], .int .i64 l.amt]) W := by
 have hr' : W.heap[r]? = some (.mapIter (some m) es.length (seen ++ [i]).toArray es.length) := hr
 have hm' : W.heap[m]? = some (.map (tEnts 0 es).toArray es.length) := hm
 have g1 : (getObj r).run Tryz.prog W = .ok (.mapIter (some m) es.length (seen ++ [i]).toArray es.length) W := by simp [getObj, Sem.run, hr']
 have g2 := MapKept.run_getObj_map (P := Tryz.prog) hm'
 have hback : (seen ++ [i]).toArray.back? = some i := by simp
 have hfind : (tEnts 0 es).toArray.find? (fun e => e.born == i) = some (tEnt i l) := by
  rw [List.find?_toArray]
  have hi : i < es.length := (List.getElem?_eq_some_iff.1 hl).1
  rw [List.find?_eq_some_iff_getElem]
  refine ⟨by simp [tEnt], i, by rw [tEnts_len]; exact hi, ?_, fun j hj => ?_⟩
  ·have := tEnts_get 0 es i
   rw [List.getElem?_eq_getElem (by rw [tEnts_len]; exact hi), hl] at this
   injection this with this
   rw [this]; simp
  ·have := tEnts_get 0 es j
   rw [List.getElem?_eq_getElem (by rw [tEnts_len]; omega), List.getElem?_eq_getElem (by omega)] at this
   injection this with this
   rw [this]; simp [tEnt]; omega
 unfold Instr.entry
 simp only [Sem.run_bind, g1, Result.andThen_ok, hback, g2, hfind, bne_self_eq_false, Bool.false_eq_true, if_false, Sem.run_pure]
 rfl

end Go.Proofs.YtogdefomigiepaaGreatDoor
/- Contract of payslip.collect. -/
namespace Go.Proofs.YtogdefomigiepaaGreatDoor
open Go.RowKit

def colE (es : List Ln) : Int := if es.all (fun x => totB x.amt) then 0 else 4
def colL (es : List Ln) : List Ln := if colE es = 0 then srtLn (es.filter nz) else []
def picks (es : List Ln) (seen : List Nat) : List Ln := seen.filterMap (es[·]?)
theorem picks_snoc (es : List Ln) (seen : List Nat) (i : Nat) (l : Ln) (h : es[i]? = some l) : picks es (seen ++ [i]) = picks es seen ++ [l] := by
 simp [picks, List.filterMap_append, h]
def itLeft (w : World) (r : Nat) : Nat := match w.heap[r]? with
 | some (.mapIter _ n seen _) => ((List.range n).filter fun i => !seen.toList.contains i).length
 | _ => 0
theorem itLeft_at {w : World} {r m n : Nat} {seen : List Nat} (h : w.heap[r]? = some (itObj m n seen)) : itLeft w r = ((List.range n).filter fun i => !seen.contains i).length := by
 unfold itLeft; rw [h]; rfl
theorem left_less {n i : Nat} {seen : List Nat} (hi : i < n) (hn : i ∉ seen) : ((List.range n).filter fun j => !(seen ++ [i]).contains j).length < ((List.range n).filter fun j => !seen.contains j).length := by
 have e : ((List.range n).filter fun j => !(seen ++ [i]).contains j) = ((List.range n).filter fun j => !seen.contains j).filter fun j => decide (j ≠ i) := by
  rw [List.filter_filter]
  congr 1
  funext j
  rw [Bool.eq_iff_iff]
  simp
  constructor
  ·rintro ⟨h1, h2⟩; exact ⟨h2, h1⟩
  ·rintro ⟨h1, h2⟩; exact ⟨h2, h1⟩
 rw [e]
 refine List.length_filter_lt_length_iff_exists.2 ⟨i, ?_, by simp⟩
 simp [hi, hn]
theorem picks_dist {es : List Ln} (hd : Dist es) : ∀ {seen : List Nat}, seen.Nodup → Dist (picks es seen)
 | [], _ => .nil
 | i :: r, h => by
  have h' := List.nodup_cons.1 h
  unfold picks
  cases hl : es[i]? with
  | none => rw [List.filterMap_cons_none hl]; exact picks_dist hd h'.2
  | some l =>
   rw [List.filterMap_cons_some hl]
   refine List.pairwise_cons.2 ⟨fun y hy => ?_, picks_dist hd h'.2⟩
   obtain ⟨j, hj, hjy⟩ := List.mem_filterMap.1 hy
   have hne : i ≠ j := fun e => h'.1 (e ▸ hj)
   obtain ⟨hi1, hi2⟩ := List.getElem?_eq_some_iff.1 hl
   obtain ⟨hj1, hj2⟩ := List.getElem?_eq_some_iff.1 hjy
   rw [Dist, List.pairwise_iff_getElem] at hd
   rcases Nat.lt_or_gt_of_ne hne with hlt | hlt
   ·have := hd i j hi1 hj1 hlt
    rw [hi2, hj2] at this; exact this
   ·have := hd j i hj1 hi1 hlt
    rw [hi2, hj2] at this; exact fun hh => this ⟨hh.1.symm, hh.2.symm⟩
theorem picks_all {es : List Ln} {seen : List Nat} (h : ∀ i, i < es.length → i ∈ seen) (x : Ln) : x ∈ picks es seen ↔ x ∈ es := by
 unfold picks
 rw [List.mem_filterMap]
 constructor
 ·rintro ⟨i, _, hi⟩; exact List.mem_of_getElem? hi
 ·intro hx
  obtain ⟨i, hi⟩ := List.getElem?_of_mem hx
  exact ⟨i, h i (List.getElem?_eq_some_iff.1 hi).1, hi⟩
theorem left_start (n : Nat) : ((List.range n).filter fun i => !([] : List Nat).contains i).length = n := by
 rw [List.filter_eq_self.2 (by simp)]; simp
theorem picks_le (es : List Ln) (seen : List Nat) : ((picks es seen).filter nz).length ≤ seen.length :=
 Nat.le_trans (List.length_filter_le _ _) (List.length_filterMap_le _ _)

theorem Own.set_it {w w' : World} {base e sz r m n : Nat} {v : Value} {es : List (List Value)} {seen : List Nat} (h : Own w base e sz v es) (hr : w.heap[r]? = some (itObj m n seen)) (hg : w.grownBy w' (some r)) : Own w' base e sz v es := by
 refine ⟨h.1.kept hg (.inr fun hv => ?_), h.2⟩
 rcases h.1.2 with ⟨rfl, _⟩ | ⟨g, cap, cur, rfl, _, hc, _⟩
 ·simp [Value.ownBlock] at hv
 ·simp only [Value.ownBlock, Option.some.injEq] at hv
  subst hv
  rw [hc] at hr
  simp [itObj] at hr
theorem Own.keep_obj {W w3 : World} {base e sz k : Nat} {v : Value} {es : List (List Value)} {o o1 o2 : Obj} (h : Own W base e sz v es) (hg : ((W.alloc o1).alloc o2).grownBy w3 v.ownBlock) (hk : W.heap[k]? = some o) (ho : ∀ c t f, o ≠ Obj.cells c t f) : w3.heap[k]? = some o := by
 have hkl := lt_of_some hk
 have h1 : ((W.alloc o1).alloc o2).heap[k]? = some o := (Below.heap_alloc _ _ _ (by simp; omega)).trans ((Below.heap_alloc _ _ _ hkl).trans hk)
 refine (hg.block k (by simp; omega) fun hv => ?_).trans h1
 rcases h.1.2 with ⟨h', _⟩ | ⟨g, cap, cur, h', _, hc, _⟩
 ·rw [h'] at hv; cases hv
 ·rw [h'] at hv
  injection hv with hv
  rw [hv] at hk
  rw [show (⟨g, 0, none⟩ : Addr).block = g from rfl, hc] at hk
  injection hk with hk
  exact ho _ _ _ hk.symm
theorem drew_grown {w W1 : World} (h : W1 = w ∨ W1 = w.drew) (row : Option Nat) : w.grownBy W1 row := by
 rcases h with rfl | rfl
 ·exact World.grownBy.refl _ _
 ·exact ⟨rfl, rfl, rfl, Nat.le_refl _, fun _ _ _ => rfl⟩
theorem run_range_title {w : World} {b : Nat} {es : List Ln} (hb : w.heap[b]? = some (tObj es)) : (Instr.range 103 (.map (some b))).run Tryz.prog w = .ok (.pointer (some ⟨w.heap.size, 0, none⟩)) (w.alloc (itObj b es.length [])) := by
 have hb' : w.heap[b]? = some (.map (tEnts 0 es).toArray es.length) := hb
 unfold Instr.range
 simp only [Sem.run_bind, run_underlying Tryz.underlying103, Result.andThen_ok, MapKept.run_getObj_map hb', Sem.run_pure]
 rfl

set_option maxRecDepth 100000 in
set_option maxHeartbeats 1600000 in
theorem collect_any (b : Nat) (es : List Ln) (w : World) (hb : w.heap[b]? = some (tObj es)) (hd : Dist es) (hlen : es.length ≤ 1000000) :
  Calls Tryz.prog 36 #[.map (some b)] w (RetOwn2 w 45 3 (lns (colL es)) (colE es)) := by
 have hR := run_range_title hb
 have hbl := lt_of_some hb
 have HB := Lib.hid hb
 have HD := Lib.hid hd
 clear hb hd
 go_enter Tryz.func36, Tryz.ntmps36
 go_wp2_with fail
 clear hR
 go_loopw [4] (fun t wr => ∃ seen : List Nat, Hid (wr.heap[w.heap.size]? = some (itObj b es.length seen)) ∧ Hid (wr.heap[b]? = some (tObj es)) ∧ Own wr w.heap.size 45 3 t (lns ((picks es seen).filter nz)) ∧ Hid (∀ x ∈ picks es seen, totB x.amt = true) ∧ Hid seen.Nodup ∧ seen.length + ((List.range es.length).filter fun i => !seen.contains i).length ≤ es.length ∧ Below w.heap.size w wr) (fun _ wr => itLeft wr w.heap.size)
 case atStart => exact ⟨[], heap_alloc_new w _, (Below.heap_alloc w _ _ hbl).trans HB.out, Own.nil _ _ _ _, (fun x hx => by cases hx), List.nodup_nil, by rw [left_start]; simp, (Below.refl _ _).alloc (Nat.le_refl _) _⟩
 case round =>
  obtain ⟨seen, H1, H2, hown, H3, H4, hcnt, hbw⟩ := hrel
  have hbs := hbw.size
  rcases run_next_title H1.out H2.out 0 with ⟨i, l, W1, hl, hni, hW1, hN⟩ | ⟨W1, hall, hW1, hN⟩
  ·have hil : i < es.length := (List.getElem?_eq_some_iff.1 hl).1
   have hr1 : W1.heap[w.heap.size]? = some (itObj b es.length seen) := by rcases hW1 with rfl | rfl <;> exact H1.out
   have hg0 : wr.grownBy (setB W1 w.heap.size (itObj b es.length (seen ++ [i]))) (some w.heap.size) := (drew_grown hW1 _).trans setB_grown
   have hA : (setB W1 w.heap.size (itObj b es.length (seen ++ [i]))).heap[w.heap.size]? = some (itObj b es.length (seen ++ [i])) := setB_at (lt_of_some hr1)
   generalize setB W1 w.heap.size (itObj b es.length (seen ++ [i])) = W2 at hN hg0 hA
   have hB2 : W2.heap[b]? = some (tObj es) := (hg0.block b (by omega) (by intro h; injection h; omega)).trans H2.out
   have hE := run_entry_it hA hB2 hl
   have hN' : ∀ ty, (Instr.next (.pointer (some ⟨w.heap.size, 0, none⟩)) false ty).run Tryz.prog wr = .ok (.tuple #[.bool true, .agg #[.int .i64 l.kind, .string l.code], .int .i64 l.amt]) W2 := fun _ => hN
   have hown2 := hown.set_it H1.out hg0
   have hb2 : Below w.heap.size w W2 := hbw.grown hg0 hbs (fun k hk => by injection hk; omega)
   have hbs2 := hb2.size
   have hlt := left_less hil hni
   have hpl := picks_le es seen
   have HA := Lib.hid hA; have HB2 := Lib.hid hB2; have HP := Lib.hid (picks_snoc es seen i l hl); have HLT := Lib.hid hlt
   have HNI := Lib.hid hni
   have HL := Lib.hid hl
   have h5 : seen.length < es.length := by omega
   have hcnt2 : Hid ((seen ++ [i]).length + ((List.range es.length).filter fun j => !(seen ++ [i]).contains j).length ≤ es.length) := by
    rw [Hid, List.length_append]; simp only [List.length_singleton]; omega
   have hnd2 : Hid (seen ++ [i]).Nodup := by
    rw [Hid, List.nodup_append]
    exact ⟨H4.out, by simp, by simpa using fun a ha (e : a = i) => hni (e ▸ ha)⟩
   clear hN hr1 hW1 hA hB2 hlt hl hni hcnt
   cases ht : totB l.amt
   ·have HE : Hid (colE es = 4) := by
     rw [Hid, colE, if_neg]
     intro hh
     rw [List.all_eq_true] at hh
     have := hh l (List.mem_of_getElem? HL.out)
     rw [ht] at this; cases this
    go_wp2_with (go_at_call 54; refine (isTotal_any _ _).mono ?_; rintro e w' ⟨rfl, rfl⟩)
    go_ret2
    exact ⟨_, tup_int HE.out.symm, by rw [colL, HE.out]; exact Own.nil _ _ _ _, hb2.alloc hbs2 _⟩
   ·have hT : Hid (∀ x ∈ picks es (seen ++ [i]), totB x.amt = true) := by
     intro x hx
     rw [HP.out] at hx
     rcases List.mem_append.1 hx with hx | hx
     ·exact H3.out x hx
     ·rw [List.mem_singleton.1 hx]; exact ht
    cases hz : (l.amt != 0)
    ·have hF : Hid ((picks es (seen ++ [i])).filter nz = (picks es seen).filter nz) := by
      rw [Hid, HP.out, List.filter_append]; simp at hz; simp [nz, hz]
     go_wp2_with (go_at_call 54; refine (isTotal_any _ _).mono ?_; rintro e w' ⟨rfl, rfl⟩)
     go_roundw
     case rel => exact ⟨seen ++ [i], (Below.heap_alloc W2 _ _ (lt_of_some HA.out)).trans HA.out, (Below.heap_alloc W2 _ _ (lt_of_some HB2.out)).trans HB2.out, by rw [hF.out]; exact hown2.alloc _, hT, hnd2, hcnt2, hb2.alloc hbs2 _⟩
     case measure => rw [itLeft_at H1.out, itLeft_at ((Below.heap_alloc W2 _ _ (lt_of_some HA.out)).trans HA.out)]; exact HLT.out
    ·have hF : Hid ((picks es (seen ++ [i])).filter nz = (picks es seen).filter nz ++ [l]) := by
      rw [Hid, HP.out, List.filter_append]; simp at hz; simp [nz, hz]
     go_wp2_with (first
      | (go_at_call 54; refine (isTotal_any _ _).mono ?_; rintro e w' ⟨rfl, rfl⟩)
      | (at_builtin; refine wpList_append_sl rfl (.tmp 19) (.tmp 26) rfl rowLn w.heap.size _ _ _ (lns [l]) rfl ((hown2.alloc _).alloc _) rfl (Sl.one (by simp) rfl) (lns_wide _) (by rw [lns_len, lns_len]; unfold maxLen; simp; omega) (by rw [lns_len, lns_len]; simp; omega) (by simp; omega) ?_; intro v3 w3 hown3 hg3 _; have hb3 := Own.grown ((hown2.alloc _).alloc _) ((hb2.alloc hbs2 _).alloc (by simp; omega) _) hg3 (by simp; omega); rw [← lns_append, ← hF.out] at hown3))
     have hit3 := hown2.keep_obj hg3 HA.out (by intro c t f h; simp [itObj] at h)
     have hmp3 := hown2.keep_obj hg3 HB2.out (by intro c t f h; simp [tObj] at h)
     have HI3 := Lib.hid hit3; have HM3 := Lib.hid hmp3
     clear hit3 hmp3
     go_wp2
     go_roundw
     case rel => exact ⟨seen ++ [i], HI3, HM3, hown3, hT, hnd2, hcnt2, hb3⟩
     case measure => rw [itLeft_at H1.out, itLeft_at HI3.out]; exact HLT.out
  ·have hb1 : Below w.heap.size w W1 := by rcases hW1 with rfl | rfl <;> exact ⟨hbw.os, hbw.tape, hbw.output, hbw.size, hbw.block⟩
   have hown1 : Own W1 w.heap.size 45 3 u4 (lns ((picks es seen).filter nz)) := by rcases hW1 with rfl | rfl <;> exact hown
   have hN' : ∀ ty, (Instr.next (.pointer (some ⟨w.heap.size, 0, none⟩)) false ty).run Tryz.prog wr = .ok (.tuple #[.bool false]) W1 := fun _ => hN
   have hpl := picks_le es seen
   have HE : Hid (colE es = 0) := by
    rw [Hid, colE, if_pos]
    rw [List.all_eq_true]
    exact fun x hx => H3.out x ((picks_all hall x).2 hx)
   have HALL := Lib.hid hall
   clear hN hall
   go_wp2_with (go_at_call 68; refine (sortLn_any _ _ w.heap.size _ hown1 (by omega)).mono ?_; rintro e w2 ⟨rfl, l', hp, hs, hown2, hg2⟩; have hb2 := Own.grown hown1 hb1 hg2 hb1.size)
   go_ret2
   have hL : l' = srtLn (es.filter nz) := sorted_is (dist_filter (picks_dist HD.out H4.out) nz) hp hs HD.out fun x => by rw [List.mem_filter, picks_all HALL.out]
   exact ⟨_, tup_int HE.out.symm, by rw [colL, HE.out, if_pos rfl, ← hL]; exact hown2, hb2⟩

end Go.Proofs.YtogdefomigiepaaGreatDoor
/- Contract of payslip.Merge's loop. -/
namespace Go.Proofs.YtogdefomigiepaaGreatDoor
open Go.RowKit

def mergeE (l : List Ln) : Int := if l.length ≤ 65536 then (if l.all formedB then colE (sumsT l) else 1) else 3
def mergeL (l : List Ln) : List Ln := if mergeE l = 0 then colL (sumsT l) else []
theorem putT_mem {k : Int} {c : ByteArray} {v : Int} {es : List Ln} {x : Ln} (h : x ∈ putT k c v es) : (x.kind = k ∧ x.code = c) ∨ x ∈ es := by
 induction es with
 | nil => simp [putT] at h; subst h; exact .inl ⟨rfl, rfl⟩
 | cons l r ih =>
  simp only [putT] at h
  by_cases hs : sameT k c l = true
  ·rw [if_pos hs] at h
   rcases List.mem_cons.1 h with rfl | h
   ·exact .inl ⟨rfl, rfl⟩
   ·exact .inr (by simp [h])
  ·rw [if_neg hs] at h
   rcases List.mem_cons.1 h with rfl | h
   ·exact .inr (by simp)
   ·rcases ih h with h | h
    ·exact .inl h
    ·exact .inr (by simp [h])
theorem putT_dist {k : Int} {c : ByteArray} {v : Int} {es : List Ln} (h : Dist es) : Dist (putT k c v es) := by
 induction es with
 | nil => simp [putT, Dist]
 | cons l r ih =>
  have h' := List.pairwise_cons.1 h
  simp only [putT]
  by_cases hs : sameT k c l = true
  ·rw [if_pos hs]
   obtain ⟨e1, e2⟩ := sameT_eq hs
   exact List.pairwise_cons.2 ⟨fun y hy => by have := h'.1 y hy; rw [e1, e2] at this; exact this, h'.2⟩
  ·rw [if_neg hs]
   refine List.pairwise_cons.2 ⟨fun y hy => ?_, ih h'.2⟩
   rcases putT_mem hy with ⟨e1, e2⟩ | hy
   ·intro hh
    exact hs ((sameT_iff _ _ _).2 ⟨hh.1.trans e1, hh.2.trans e2⟩)
   ·exact h'.1 y hy
theorem putT_len (k : Int) (c : ByteArray) (v : Int) (es : List Ln) : (putT k c v es).length ≤ es.length + 1 := by
 induction es with
 | nil => simp [putT]
 | cons l r ih =>
  simp only [putT]
  split
  ·simp
  ·simp only [List.length_cons]; omega
theorem fold_dist (l es : List Ln) (h : Dist es) : Dist (l.foldl addT es) := by
 induction l generalizing es with
 | nil => exact h
 | cons x r ih => exact ih _ (putT_dist h)
theorem sumsT_dist (l : List Ln) : Dist (sumsT l) := fold_dist l [] .nil
theorem fold_len (l es : List Ln) : (l.foldl addT es).length ≤ es.length + l.length := by
 induction l generalizing es with
 | nil => simp
 | cons x r ih =>
  have h1 := ih (addT es x)
  have h2 := putT_len x.kind x.code (amtT es x.kind x.code + x.amt) es
  rw [List.foldl_cons, List.length_cons]
  unfold addT at h1 ⊢
  omega
theorem sumsT_len (l : List Ln) : (sumsT l).length ≤ l.length := by have := fold_len l []; simpa [sumsT] using this
theorem colL_zero {es : List Ln} (h : ¬ colE es = 0) : colL es = [] := by rw [colL, if_neg h]

set_option maxRecDepth 100000 in
set_option maxHeartbeats 1600000 in
theorem Merge_any (v : Value) (l : List Ln) (w : World) (hv : Sl w 3 v (lns l)) :
  Calls Tryz.prog 35 #[v] w (RetOwn2 w 45 3 (lns (mergeL l)) (mergeE l)) := by
 obtain ⟨A, cap, rfl, h1, h2, x1, h3⟩ := hv
 rw [lns_len] at h1 ⊢
 unfold maxLen at h2
 have H3 := Lib.hid h3
 clear h3 x1
 by_cases hn : l.length ≤ 65536
 rotate_left
 ·have HE : Hid (mergeE l = 3) := by rw [Hid, mergeE, if_neg hn]
  go_enter Tryz.func35, Tryz.ntmps35
  go_wp2_with fail
  go_ret2
  exact ⟨_, tup_int HE.out.symm, by rw [mergeL, HE.out]; exact Own.nil _ _ _ _, Below.refl _ _⟩
 have hd : decide ((65536 : Int) < (l.length : Int)) = false := by simp; omega
 have hmm := @run_makeMap Tryz.prog
 go_enter Tryz.func35, Tryz.ntmps35
 go_wp2_with fail
 clear hmm
 go_loopw [13] (fun i wr => ∃ k : Nat, k ≤ l.length ∧ i = .int .i64 k ∧ Below w.heap.size w wr ∧ Hid (wr.heap[w.heap.size]? = some (tObj (sumsT (l.take k)))) ∧ Hid ((l.take k).all formedB = true)) (fun i _ => l.length - (intOf i).toNat)
 case atStart => exact ⟨0, by omega, rfl, (Below.refl _ _).alloc (Nat.le_refl _) _, heap_alloc_new w _, rfl⟩
 case round =>
  obtain ⟨k, hk, rfl, hb, HM, Hf⟩ := hrel
  by_cases hlt : k < l.length
  ·rcases H3.out with h | ⟨b, off, rfl, hc0⟩
   ·exact (lns_pos hlt h).elim
   ·obtain ⟨c0, c1, c2⟩ := (hc0.below hb hc0.1).ln hlt
    have hbs := hb.size
    have hms := lt_of_some HM.out
    cases hfk : formedB l[k]
    ·have HE : Hid (mergeE l = 1) := by
      rw [Hid, mergeE, if_pos hn, if_neg]
      intro hh
      have := List.all_eq_true.1 hh _ (List.getElem_mem hlt)
      rw [hfk] at this; cases this
     clear H3 hc0
     go_wp2_with (go_at_call 67; refine (formed_any _ _).mono ?_; rintro e w1 ⟨rfl, hb1⟩; obtain ⟨hc, hfz⟩ := bcell hb1)
     go_ret2
     exact ⟨_, tup_int HE.out.symm, by rw [mergeL, HE.out]; exact Own.nil _ _ _ _, (hb.alloc hbs _).trans (hb1.mono (by simp; omega))⟩
    have hfk' := Lib.hid hfk
    have hbd := amtT_bound (l.take k) Hf.out l[k].kind l[k].code
    rw [List.length_take, Nat.min_eq_left (by omega)] at hbd
    have HS := Lib.hid (sumsT_snoc l k hlt)
    have ha : -1000000000000 ≤ l[k].amt ∧ l[k].amt ≤ 1000000000000 := by simp [formedB, totB] at hfk; omega
    clear H3 hc0
    go_wp2_with (go_at_call 67; refine (formed_any _ _).mono ?_; rintro e w1 ⟨rfl, hb1⟩; obtain ⟨hc, hfz⟩ := bcell hb1)
    have hm1 : w1.drew.heap[w.heap.size]? = some (tObj (sumsT (l.take k))) := (hb1.block _ (by simp; omega)).trans ((Below.heap_alloc wr _ _ hms).trans HM.out)
    have hL1 := run_lookup_title hm1 l[k].kind l[k].code
    obtain ⟨n, fs, hE, e1, hn1, hset, hat⟩ := run_entry_title hm1 l[k].kind l[k].code
    have hW2 : (setB w1.drew w.heap.size (tObj fs)).heap[w.heap.size]? = some (tObj fs) := setB_at (lt_of_some hm1)
    have hg2 : w1.drew.grownBy (setB w1.drew w.heap.size (tObj fs)) (some w.heap.size) := setB_grown
    generalize setB w1.drew w.heap.size (tObj fs) = W2 at hE hW2 hg2
    have hL2 := run_lookup_title hW2 l[k].kind l[k].code
    rw [e1] at hL2
    have hS := run_store_title hW2 hn1 hat (amtT (sumsT (l.take k)) l[k].kind l[k].code + l[k].amt) 103
    have hW3 : (setB W2 w.heap.size (tObj (fs.set n ⟨l[k].kind, l[k].code, amtT (sumsT (l.take k)) l[k].kind l[k].code + l[k].amt⟩))).heap[w.heap.size]? = some (tObj (sumsT (l.take (k + 1)))) := by rw [HS.out, addT, ← hset]; exact setB_at (lt_of_some hW2)
    have hg3 : W2.grownBy (setB W2 w.heap.size (tObj (fs.set n ⟨l[k].kind, l[k].code, amtT (sumsT (l.take k)) l[k].kind l[k].code + l[k].amt⟩))) (some w.heap.size) := setB_grown
    generalize setB W2 w.heap.size (tObj (fs.set n ⟨l[k].kind, l[k].code, amtT (sumsT (l.take k)) l[k].kind l[k].code + l[k].amt⟩)) = W3 at hS hW3 hg3
    have hz1 : w.heap.size ≤ w1.heap.size := by have := hb1.size; simp at this; omega
    have hz2 : w.heap.size ≤ W2.heap.size := Nat.le_trans hz1 hg2.size
    have hB3 : Below w.heap.size w W3 := (((hb.alloc hbs _).trans (hb1.mono (by simp; omega))).drew.grown hg2 hz1 (fun k hk => by injection hk with hk; omega)).grown hg3 hz2 (fun k hk => by injection hk with hk; omega)
    have HW2 := Lib.hid hW2; have HW3 := Lib.hid hW3; have HM1 := Lib.hid hm1; have HSET := Lib.hid hset; have HAT := Lib.hid hat; have HE1 := Lib.hid e1
    clear hW2 hW3 hm1 hset hat e1
    generalize amtT (sumsT (l.take k)) l[k].kind l[k].code = am at *
    go_region
    go_wp2
    go_roundw
    case rel => exact ⟨k + 1, by omega, by go_num, hB3, HW3, by
     show (l.take (k + 1)).all formedB = true
     rw [List.take_succ_eq_append_getElem hlt, List.all_append, Hf.out]; simp [hfk'.out]⟩
    case measure => simp [intOf]; omega
  ·obtain rfl : k = l.length := by omega
   have HM' : wr.heap[w.heap.size]? = some (tObj (sumsT l)) := by have := HM.out; rwa [List.take_length] at this
   have HE : Hid (mergeE l = colE (sumsT l)) := by
    have := Hf.out
    rw [List.take_length] at this
    rw [Hid, mergeE, if_pos hn, if_pos this]
   have HMM := Lib.hid HM'
   clear HM' HM Hf
   go_wp2_with (go_at_call 36; refine (collect_any _ _ _ HMM.out (sumsT_dist l) (Nat.le_trans (sumsT_len l) (by omega))).mono ?_; rintro e w2 ⟨x, rfl, hown2, hb2⟩)
   go_ret2
   refine ⟨_, tup_int HE.out.symm, ?_, below_after hb hb2 hb.size⟩
   rw [mergeL, HE.out]
   by_cases h0 : colE (sumsT l) = 0
   ·rw [if_pos h0]; exact hown2.more hb.size
   ·rw [if_neg h0]; rw [colL_zero h0] at hown2; exact hown2.more hb.size

end Go.Proofs.YtogdefomigiepaaGreatDoor
/- What Merge returns is told by the sums of each title. -/
namespace Go.Proofs.YtogdefomigiepaaGreatDoor

def sumT (l : List Ln) (k : Int) (c : ByteArray) : Int := (l.map fun x => if x.kind = k ∧ x.code = c then x.amt else 0).sum
theorem sumT_nil (k : Int) (c : ByteArray) : sumT [] k c = 0 := rfl
theorem sumT_cons (x : Ln) (l : List Ln) (k : Int) (c : ByteArray) : sumT (x :: l) k c = (if x.kind = k ∧ x.code = c then x.amt else 0) + sumT l k c := by simp [sumT]
theorem sumT_append (l m : List Ln) (k : Int) (c : ByteArray) : sumT (l ++ m) k c = sumT l k c + sumT m k c := by simp [sumT, List.sum_append]
theorem fold_amt (l es : List Ln) (k : Int) (c : ByteArray) : amtT (l.foldl addT es) k c = amtT es k c + sumT l k c := by
 induction l generalizing es with
 | nil => simp [sumT]
 | cons x r ih =>
  rw [List.foldl_cons, ih, sumT_cons, addT, amtT_put]
  by_cases h : k = x.kind ∧ c = x.code
  ·obtain ⟨rfl, rfl⟩ := h
   simp; omega
  ·rw [if_neg h, if_neg (fun hh => h ⟨hh.1.symm, hh.2.symm⟩)]; omega
theorem amt_sums (l : List Ln) (k : Int) (c : ByteArray) : amtT (sumsT l) k c = sumT l k c := by
 rw [sumsT, fold_amt]; simp [amtT, findT]
theorem amtT_cons (x : Ln) (r : List Ln) (k : Int) (c : ByteArray) : amtT (x :: r) k c = if x.kind = k ∧ x.code = c then x.amt else amtT r k c := by
 have key : ∀ (j i : Nat) (r : List Ln), (findT k c j r).map (·.2) = (findT k c i r).map (·.2) := by
  intro j i r
  induction r generalizing j i with
  | nil => rfl
  | cons y r ih =>
   simp only [findT]
   split
   ·rfl
   ·exact ih _ _
 simp only [amtT, findT]
 by_cases h : sameT k c x = true
 ·rw [if_pos h, if_pos ((sameT_iff k c x).1 h)]; rfl
 ·rw [if_neg h, if_neg (fun hh => h ((sameT_iff k c x).2 hh)), key _ 0]
theorem amt_mem {es : List Ln} (hd : Dist es) {x : Ln} (hx : x ∈ es) : amtT es x.kind x.code = x.amt := by
 induction es with
 | nil => cases hx
 | cons y r ih =>
  have h' := List.pairwise_cons.1 hd
  rw [amtT_cons]
  rcases List.mem_cons.1 hx with rfl | hx
  ·simp
  ·rw [if_neg (h'.1 x hx)]; exact ih h'.2 hx
theorem amt_not {es : List Ln} {k : Int} {c : ByteArray} (h : ∀ x ∈ es, ¬ (x.kind = k ∧ x.code = c)) : amtT es k c = 0 := by
 induction es with
 | nil => rfl
 | cons y r ih => rw [amtT_cons, if_neg (h y (by simp)), ih fun x hx => h x (by simp [hx])]
theorem sumT_dist {es : List Ln} (hd : Dist es) (k : Int) (c : ByteArray) : sumT es k c = amtT es k c := by
 induction es with
 | nil => rfl
 | cons y r ih =>
  have h' := List.pairwise_cons.1 hd
  rw [amtT_cons, sumT_cons, ih h'.2]
  by_cases hy : y.kind = k ∧ y.code = c
  ·rw [if_pos hy, if_pos hy, amt_not fun x hx hh => h'.1 x hx ⟨hy.1.trans hh.1.symm, hy.2.trans hh.2.symm⟩]; omega
  ·rw [if_neg hy, if_neg hy]; omega
theorem srtLn_len (l : List Ln) : (srtLn l).length = l.length := by
 have ins : ∀ (x : Ln) (l : List Ln), (insLn x l).length = l.length + 1 := by
  intro x l
  induction l with
  | nil => rfl
  | cons y r ih =>
   simp only [insLn]
   split
   ·rfl
   ·simp [ih]
 induction l with
 | nil => rfl
 | cons x r ih =>
  show (insLn x (srtLn r)).length = _
  rw [ins, ih]; rfl
theorem sumT_bound {l : List Ln} {M : Int} (_hM : 0 ≤ M) (h : ∀ x ∈ l, -M ≤ x.amt ∧ x.amt ≤ M) (k : Int) (c : ByteArray) : -(M * l.length) ≤ sumT l k c ∧ sumT l k c ≤ M * l.length := by
 induction l with
 | nil => simp [sumT]
 | cons x r ih =>
  have h1 := h x (by simp)
  have h2 := ih fun y hy => h y (by simp [hy])
  rw [sumT_cons, List.length_cons, Int.natCast_add, Int.mul_add]
  simp only [Int.natCast_one, Int.mul_one]
  split <;> omega
end Go.Proofs.YtogdefomigiepaaGreatDoor
/- Contracts of the reference of payslip: trim, Merge. -/
namespace Go.Proofs.YtogdefomigiepaaGreatDoor
open Go.RowKit

theorem nz_snoc (l : List Ln) (k : Nat) (h : k < l.length) : (l.take (k + 1)).filter nz = (l.take k).filter nz ++ if l[k].amt = 0 then [] else [l[k]] := by
 rw [List.take_succ_eq_append_getElem h, List.filter_append]
 congr 1
 by_cases hr : l[k].amt = 0 <;> simp [nz, hr]
theorem nz_len (l : List Ln) (k : Nat) : ((l.take k).filter nz).length ≤ k := Nat.le_trans (List.length_filter_le _ _) (List.length_take_le _ _)
def putsR (l : List Ln) : List Ln := l.foldl (fun acc x => putR x acc) []
theorem putsR_snoc (l : List Ln) (k : Nat) (h : k < l.length) : putsR (l.take (k + 1)) = putR l[k] (putsR (l.take k)) := by
 rw [List.take_succ_eq_append_getElem h, putsR, List.foldl_append]; rfl
theorem lt_of_title {a b c : Ln} (h : lnLt a b = true) (h1 : c.kind = b.kind) (h2 : c.code = b.code) : lnLt a c = true := by
 rw [lnLt_iff] at h ⊢; rw [h1, h2]; exact h
theorem lt_of_title' {a b c : Ln} (h : lnLt b a = true) (h1 : c.kind = b.kind) (h2 : c.code = b.code) : lnLt c a = true := by
 rw [lnLt_iff] at h ⊢; rw [h1, h2]; exact h
theorem putR_mem {x y : Ln} {l : List Ln} (h : y ∈ putR x l) : (y.kind = x.kind ∧ y.code = x.code) ∨ y ∈ l := by
 induction l with
 | nil => simp [putR] at h; subst h; exact .inl ⟨rfl, rfl⟩
 | cons a r ih =>
  simp only [putR] at h
  split at h
  ·rcases List.mem_cons.1 h with rfl | h
   ·exact .inr (by simp)
   ·rcases ih h with h | h
    ·exact .inl h
    ·exact .inr (by simp [h])
  ·split at h
   ·rcases List.mem_cons.1 h with rfl | h
    ·exact .inl ⟨rfl, rfl⟩
    ·exact .inr (by simp [h])
   ·rcases List.mem_cons.1 h with rfl | h
    ·exact .inl ⟨rfl, rfl⟩
    ·exact .inr h
theorem putR_strict {x : Ln} {l : List Ln} (h : Strict l) : Strict (putR x l) := by
 induction l with
 | nil => simp [putR, Strict]
 | cons a r ih =>
  have h' := List.pairwise_cons.1 h
  simp only [putR]
  split
  ·rename_i hlt
   refine List.pairwise_cons.2 ⟨fun y hy => ?_, ih h'.2⟩
   rcases putR_mem hy with ⟨e1, e2⟩ | hy
   ·exact lt_of_title hlt e1 e2
   ·exact h'.1 y hy
  ·rename_i hlt
   have hlt : lnLt a x = false := by simpa using hlt
   split
   ·rename_i hs
    exact List.pairwise_cons.2 ⟨fun y hy => lt_of_title' (h'.1 y hy) hs.1.symm hs.2.symm, h'.2⟩
   ·rename_i hs
    have hxa : lnLt x a = true := by
     cases hh : lnLt x a
     ·exact absurd (lnLt_total hlt hh) hs
     ·rfl
    refine List.pairwise_cons.2 ⟨fun y hy => ?_, h⟩
    rcases List.mem_cons.1 hy with rfl | hy
    ·exact hxa
    ·exact lnLt_trans hxa (h'.1 y hy)
theorem sumT_putR (x : Ln) (l : List Ln) (k : Int) (c : ByteArray) : sumT (putR x l) k c = sumT l k c + if x.kind = k ∧ x.code = c then x.amt else 0 := by
 induction l with
 | nil => simp [putR, sumT]
 | cons a r ih =>
  simp only [putR]
  split
  ·rw [sumT_cons, ih, sumT_cons]; omega
  ·split
   ·rename_i hs
    rw [sumT_cons, sumT_cons, hs.1, hs.2]
    dsimp only
    split <;> omega
   ·rw [sumT_cons, sumT_cons]; omega
theorem puts_strict (l : List Ln) (k : Nat) : Strict (putsR (l.take k)) := by
 induction k with
 | zero => exact List.Pairwise.nil
 | succ k ih =>
  by_cases h : k < l.length
  ·rw [putsR_snoc l k h]; exact putR_strict ih
  ·rw [List.take_of_length_le (by omega)]; rw [List.take_of_length_le (by omega)] at ih; exact ih
theorem sumT_puts (l : List Ln) (k : Nat) (i : Int) (c : ByteArray) : sumT (putsR (l.take k)) i c = sumT (l.take k) i c := by
 induction k with
 | zero => rfl
 | succ k ih =>
  by_cases h : k < l.length
  ·rw [putsR_snoc l k h, sumT_putR, ih, List.take_succ_eq_append_getElem h, sumT_append, sumT_cons, sumT_nil]; omega
  ·rw [List.take_of_length_le (by omega)]; rw [List.take_of_length_le (by omega)] at ih; exact ih
theorem putR_len (x : Ln) (l : List Ln) : (putR x l).length ≤ l.length + 1 := by
 induction l with
 | nil => simp [putR]
 | cons a r ih =>
  simp only [putR]
  split
  ·simp only [List.length_cons]; omega
  ·split <;> simp
theorem puts_len (l : List Ln) (k : Nat) : (putsR (l.take k)).length ≤ k := by
 induction k with
 | zero => simp [putsR]
 | succ k ih =>
  by_cases h : k < l.length
  ·rw [putsR_snoc l k h]; have := putR_len l[k] (putsR (l.take k)); omega
  ·rw [List.take_of_length_le (by omega)]; rw [List.take_of_length_le (by omega)] at ih; omega
theorem strict_amt {es : List Ln} (h : Strict es) {x : Ln} (hx : x ∈ es) : sumT es x.kind x.code = x.amt := by rw [sumT_dist h.dist, amt_mem h.dist hx]
end Go.Proofs.YtogdefomigiepaaGreatDoor
/- Contracts of payslip: fields, slipError. -/
namespace Go.Proofs.YtogdefomigiepaaGreatDoor
open Go.RowKit Go.Sort Go.Shelf

set_option maxHeartbeats 1600000 in
theorem fields_any (B : Nat) (w : World) :
  Calls Tryz.prog 23 #[.pointer (some ⟨B, 0, none⟩)] w fun e w' => e = .returned (.agg #[.pointer (some ⟨B, 0, none⟩), .pointer (some ⟨B, 1, none⟩), .pointer (some ⟨B, 2, none⟩), .pointer (some ⟨B, 3, none⟩), .pointer (some ⟨B, 4, none⟩)]) ∧ Below w.heap.size w w' := by
 go_enter Tryz.func23, Tryz.ntmps23
 go_wp2
 go_region
 go_wp2
 exact bodyPost_ret (v := .agg #[.pointer (some ⟨B, 0, none⟩), .pointer (some ⟨B, 1, none⟩), .pointer (some ⟨B, 2, none⟩), .pointer (some ⟨B, 3, none⟩), .pointer (some ⟨B, 4, none⟩)]) (by simp [results, Tryz.results23, go_sem]) rfl ⟨rfl, ((Below.refl _ _).alloc (Nat.le_refl _) _).drew⟩

structure Slp where
 b0 : Int
 b1 : Int
 b2 : Int
 b3 : Int
 b4 : Int
 legal : Int
 lines : List Ln
def Slp.bs (s : Slp) : List Int := [s.b0, s.b1, s.b2, s.b3, s.b4]
def Slp.vals (s : Slp) (v : Value) : Array Value := #[.int .i64 s.b0, .int .i64 s.b1, .int .i64 s.b2, .int .i64 s.b3, .int .i64 s.b4, .int .i64 s.legal, v]
def ordB : List Ln → Bool
 | a :: b :: r => formB a && (lnLt a b && ordB (b :: r))
 | [a] => formB a
 | [] => true
theorem ordB_iff (l : List Ln) : ordB l = true ↔ (∀ j (h : j < l.length), formB l[j] = true) ∧ ∀ j (h : j + 1 < l.length), lnLt (l[j]'(by omega)) (l[j + 1]'h) = true := by
  induction l with
  | nil => simp [ordB]
  | cons a r ih =>
    cases r with
    | nil =>
      simp only [ordB]
      constructor
      · intro h
        exact ⟨fun j hj => by obtain rfl : j = 0 := by simp at hj; omega
                              exact h, fun j hj => by simp at hj⟩
      · intro h; exact h.1 0 (by simp)
    | cons b r =>
      simp only [ordB, Bool.and_eq_true, ih]
      constructor
      · rintro ⟨h1, h2, h3, h4⟩
        refine ⟨fun j hj => ?_, fun j hj => ?_⟩
        · cases j with
          | zero => exact h1
          | succ j => exact h3 j (by simpa using hj)
        · cases j with
          | zero => exact h2
          | succ j => exact h4 j (by simpa using hj)
      · rintro ⟨h1, h2⟩
        exact ⟨h1 0 (by simp), h2 0 (by simp), fun j hj => h1 (j + 1) (by simpa using hj), fun j hj => h2 (j + 1) (by simpa using hj)⟩
def slipE (e p : Int) (s : Slp) : Int :=
 if decide (1 ≤ e) && (decide (e ≤ 2147483647) && (decide (0 ≤ p) && (decide (p ≤ 84005) && totB s.legal))) then
  (if s.bs.all totB then (if s.lines.length ≤ 256 then (if ordB s.lines then 0 else 1) else 1) else 2) else 2
theorem cmp_ge (a b : Ln) : decide (0 ≤ cmpLn a b) = !lnLt a b := by
 rw [← ltOf_ln]
 unfold ltOf
 by_cases h : cmpLn a b < 0
 ·rw [decide_eq_true h, decide_eq_false (by omega)]; rfl
 ·rw [decide_eq_false h, decide_eq_true (by omega)]; rfl

set_option maxRecDepth 100000 in
set_option maxHeartbeats 3200000 in
theorem slipError_any (e p : Int) (s : Slp) (v : Value) (w : World) (hv : Sl w 3 v (lns s.lines)) :
  Calls Tryz.prog 20 #[.int .i64 e, .int .i64 p, .agg (s.vals v)] w fun x w' => x = .returned (.int .i64 (slipE e p s)) ∧ Below w.heap.size w w' := by
 obtain ⟨A, cap, rfl, h1, h2, x1, h3⟩ := hv
 rw [lns_len] at h1 ⊢
 unfold maxLen at h2
 have H3 := Lib.hid h3
 clear h3 x1
 unfold Slp.vals
 by_cases g1 : 1 ≤ e
 rotate_left
 ·have H : Hid (slipE e p s = 2) := by simp [Hid, slipE, g1]
  have d1 : decide (e < 1) = true := decide_eq_true (by omega)
  go_enter Tryz.func20, Tryz.ntmps20
  go_wp2_with (go_at_call 54; refine (isTotal_any _ _).mono ?_; rintro x w1 ⟨rfl, rfl⟩)
  go_ret
  exact ⟨ret_int H.out.symm, (Below.refl _ _).alloc (Nat.le_refl _) _⟩
 by_cases g2 : e ≤ 2147483647
 rotate_left
 ·have H : Hid (slipE e p s = 2) := by simp [Hid, slipE, g2]
  have d1 : decide (e < 1) = false := decide_eq_false (by omega)
  have d2 : decide (2147483647 < e) = true := decide_eq_true (by omega)
  go_enter Tryz.func20, Tryz.ntmps20
  go_wp2_with (go_at_call 54; refine (isTotal_any _ _).mono ?_; rintro x w1 ⟨rfl, rfl⟩)
  go_ret
  exact ⟨ret_int H.out.symm, (Below.refl _ _).alloc (Nat.le_refl _) _⟩
 by_cases g3 : 0 ≤ p
 rotate_left
 ·have H : Hid (slipE e p s = 2) := by simp [Hid, slipE, g3]
  have d1 : decide (e < 1) = false := decide_eq_false (by omega)
  have d2 : decide (2147483647 < e) = false := decide_eq_false (by omega)
  have d3 : decide (p < 0) = true := decide_eq_true (by omega)
  go_enter Tryz.func20, Tryz.ntmps20
  go_wp2_with (go_at_call 54; refine (isTotal_any _ _).mono ?_; rintro x w1 ⟨rfl, rfl⟩)
  go_ret
  exact ⟨ret_int H.out.symm, (Below.refl _ _).alloc (Nat.le_refl _) _⟩
 have d1 : decide (e < 1) = false := decide_eq_false (by omega)
 have d2 : decide (2147483647 < e) = false := decide_eq_false (by omega)
 have d3 : decide (p < 0) = false := decide_eq_false (by omega)
 by_cases g4 : p ≤ 84005
 rotate_left
 ·have H : Hid (slipE e p s = 2) := by simp [Hid, slipE, g4]
  have d4 : decide (84005 < p) = true := decide_eq_true (by omega)
  go_enter Tryz.func20, Tryz.ntmps20
  go_wp2_with (go_at_call 54; refine (isTotal_any _ _).mono ?_; rintro x w1 ⟨rfl, rfl⟩)
  go_ret
  exact ⟨ret_int H.out.symm, (Below.refl _ _).alloc (Nat.le_refl _) _⟩
 have d4 : decide (84005 < p) = false := decide_eq_false (by omega)
 cases g5 : totB s.legal
 ·have H : Hid (slipE e p s = 2) := by simp [Hid, slipE, g5]
  go_enter Tryz.func20, Tryz.ntmps20
  go_wp2_with (go_at_call 54; refine (isTotal_any _ _).mono ?_; rintro x w1 ⟨rfl, rfl⟩; rw [g5])
  go_ret
  exact ⟨ret_int H.out.symm, (Below.refl _ _).alloc (Nat.le_refl _) _⟩
 have HS : Hid (slipE e p s = if s.bs.all totB then (if s.lines.length ≤ 256 then (if ordB s.lines then 0 else 1) else 1) else 2) := by simp [Hid, slipE, g1, g2, g3, g4, g5]
 go_enter Tryz.func20, Tryz.ntmps20
 go_wp2_with (first
  | (go_at_call 54; refine (isTotal_any _ _).mono ?_; rintro x w1 ⟨rfl, rfl⟩; rw [g5]))
 obtain ⟨w0, hw0⟩ : ∃ w0, w0 = w.alloc (Obj.cells #[Value.int IntKind.i64 s.b0, Value.int IntKind.i64 s.b1, Value.int IntKind.i64 s.b2, Value.int IntKind.i64 s.b3, Value.int IntKind.i64 s.b4, Value.int IntKind.i64 s.legal, Value.slice A s.lines.length cap] 27) := ⟨_, rfl⟩
 rw [← hw0]
 have hb0 : Below w.heap.size w w0 := by rw [hw0]; exact (Below.refl _ _).alloc (Nat.le_refl _) _
 have hR0 : Row w0 w.heap.size 27 (s.vals (.slice A s.lines.length cap)) := by rw [hw0]; exact Row.new _ _ _
 clear hw0 g1 g2 g3 g4 g5 d1 d2 d3 d4
 refine (fields_any _ _).mono ?_
 rintro x w1 ⟨rfl, hb1'⟩
 have hb1 := below_after hb0 hb1' hb0.size
 have hR1 := hR0.below hb1' hR0.lt
 have hs1 := hb1.size
 have hl1 := hR1.lt
 clear hb0 hR0 hb1'
 have r0 := hR1.cell 0
 have r1 := hR1.cell 1
 have r2 := hR1.cell 2
 have r3 := hR1.cell 3
 have r4 := hR1.cell 4
 have r6 := hR1.cell 6
 simp [Slp.vals] at r0 r1 r2 r3 r4 r6
 obtain ⟨B, hB⟩ : ∃ B, B = w.heap.size := ⟨_, rfl⟩
 rw [← hB] at r0 r1 r2 r3 r4 r6 hl1 ⊢
 have HB := Lib.hid hB
 have HR1 := Lib.hid hR1
 clear hB hR1
 have ix0 : ∀ w, (Instr.index 84 (.agg #[.pointer (some ⟨B, 0, none⟩), .pointer (some ⟨B, 1, none⟩), .pointer (some ⟨B, 2, none⟩), .pointer (some ⟨B, 3, none⟩), .pointer (some ⟨B, 4, none⟩)]) (.int .i64 0)).run Tryz.prog w = .ok (.pointer (some ⟨B, 0, none⟩)) w := fun _ => by kernel_rfl
 have ix1 : ∀ w, (Instr.index 84 (.agg #[.pointer (some ⟨B, 0, none⟩), .pointer (some ⟨B, 1, none⟩), .pointer (some ⟨B, 2, none⟩), .pointer (some ⟨B, 3, none⟩), .pointer (some ⟨B, 4, none⟩)]) (.int .i64 1)).run Tryz.prog w = .ok (.pointer (some ⟨B, 1, none⟩)) w := fun _ => by kernel_rfl
 have ix2 : ∀ w, (Instr.index 84 (.agg #[.pointer (some ⟨B, 0, none⟩), .pointer (some ⟨B, 1, none⟩), .pointer (some ⟨B, 2, none⟩), .pointer (some ⟨B, 3, none⟩), .pointer (some ⟨B, 4, none⟩)]) (.int .i64 2)).run Tryz.prog w = .ok (.pointer (some ⟨B, 2, none⟩)) w := fun _ => by kernel_rfl
 have ix3 : ∀ w, (Instr.index 84 (.agg #[.pointer (some ⟨B, 0, none⟩), .pointer (some ⟨B, 1, none⟩), .pointer (some ⟨B, 2, none⟩), .pointer (some ⟨B, 3, none⟩), .pointer (some ⟨B, 4, none⟩)]) (.int .i64 3)).run Tryz.prog w = .ok (.pointer (some ⟨B, 3, none⟩)) w := fun _ => by kernel_rfl
 have ix4 : ∀ w, (Instr.index 84 (.agg #[.pointer (some ⟨B, 0, none⟩), .pointer (some ⟨B, 1, none⟩), .pointer (some ⟨B, 2, none⟩), .pointer (some ⟨B, 3, none⟩), .pointer (some ⟨B, 4, none⟩)]) (.int .i64 4)).run Tryz.prog w = .ok (.pointer (some ⟨B, 4, none⟩)) w := fun _ => by kernel_rfl
 go_wp2_with fail
 go_loop [33] (fun i => ∃ k : Nat, k ≤ 5 ∧ i = .int .i64 k ∧ Hid ((s.bs.take k).all totB = true)) (fun i => 5 - (intOf i).toNat)
 case atStart => exact ⟨0, by omega, rfl, rfl⟩
 case round =>
  obtain ⟨k, hk, rfl, HK⟩ := hrel
  by_cases hk5 : k < 5
  ·have HN : Hid (∀ (b : Int), s.bs[k]? = some b → totB b = false → slipE e p s = 2) := fun b hb ht => by
    have : s.bs.all totB = false := by rw [List.all_eq_false]; exact ⟨b, List.mem_of_getElem? hb, by simp [ht]⟩
    rw [HS.out, this]; rfl
   have HT : Hid (∀ (b : Int), s.bs[k]? = some b → totB b = true → (s.bs.take (k + 1)).all totB = true) := fun b hb ht => by
    obtain ⟨hl, he⟩ := List.getElem?_eq_some_iff.1 hb
    rw [List.take_succ_eq_append_getElem hl, List.all_append, HK.out, he]; simp [ht]
   obtain rfl | rfl | rfl | rfl | rfl : k = 0 ∨ k = 1 ∨ k = 2 ∨ k = 3 ∨ k = 4 := by omega
   ·cases ht : totB s.b0
    ·go_wp2_with (go_at_call 54; refine (isTotal_any _ _).mono ?_; rintro x w2 ⟨rfl, rfl⟩; rw [ht])
     go_ret
     exact ⟨ret_int (HN.out _ rfl ht).symm, hb1⟩
    ·go_wp2_with (go_at_call 54; refine (isTotal_any _ _).mono ?_; rintro x w2 ⟨rfl, rfl⟩; rw [ht])
     go_round
     case rel => exact ⟨1, by omega, by go_num, HT.out _ rfl ht⟩
     case measure => simp [intOf]
   ·cases ht : totB s.b1
    ·go_wp2_with (go_at_call 54; refine (isTotal_any _ _).mono ?_; rintro x w2 ⟨rfl, rfl⟩; rw [ht])
     go_ret
     exact ⟨ret_int (HN.out _ rfl ht).symm, hb1⟩
    ·go_wp2_with (go_at_call 54; refine (isTotal_any _ _).mono ?_; rintro x w2 ⟨rfl, rfl⟩; rw [ht])
     go_round
     case rel => exact ⟨2, by omega, by go_num, HT.out _ rfl ht⟩
     case measure => simp [intOf]
   ·cases ht : totB s.b2
    ·go_wp2_with (go_at_call 54; refine (isTotal_any _ _).mono ?_; rintro x w2 ⟨rfl, rfl⟩; rw [ht])
     go_ret
     exact ⟨ret_int (HN.out _ rfl ht).symm, hb1⟩
    ·go_wp2_with (go_at_call 54; refine (isTotal_any _ _).mono ?_; rintro x w2 ⟨rfl, rfl⟩; rw [ht])
     go_round
     case rel => exact ⟨3, by omega, by go_num, HT.out _ rfl ht⟩
     case measure => simp [intOf]
   ·cases ht : totB s.b3
    ·go_wp2_with (go_at_call 54; refine (isTotal_any _ _).mono ?_; rintro x w2 ⟨rfl, rfl⟩; rw [ht])
     go_ret
     exact ⟨ret_int (HN.out _ rfl ht).symm, hb1⟩
    ·go_wp2_with (go_at_call 54; refine (isTotal_any _ _).mono ?_; rintro x w2 ⟨rfl, rfl⟩; rw [ht])
     go_round
     case rel => exact ⟨4, by omega, by go_num, HT.out _ rfl ht⟩
     case measure => simp [intOf]
   ·cases ht : totB s.b4
    ·go_wp2_with (go_at_call 54; refine (isTotal_any _ _).mono ?_; rintro x w2 ⟨rfl, rfl⟩; rw [ht])
     go_ret
     exact ⟨ret_int (HN.out _ rfl ht).symm, hb1⟩
    ·go_wp2_with (go_at_call 54; refine (isTotal_any _ _).mono ?_; rintro x w2 ⟨rfl, rfl⟩; rw [ht])
     go_round
     case rel => exact ⟨5, by omega, by go_num, HT.out _ rfl ht⟩
     case measure => simp [intOf]
  ·obtain rfl : k = 5 := by omega
   have HS2 : Hid (slipE e p s = if s.lines.length ≤ 256 then (if ordB s.lines then 0 else 1) else 1) := by
    rw [Hid, HS.out, if_pos (show s.bs.all totB = true from HK.out)]
   clear r0 r1 r2 r3 r4 ix0 ix1 ix2 ix3 ix4 HK HS
   by_cases hn : s.lines.length ≤ 256
   rotate_left
   ·have H : Hid (slipE e p s = 1) := by rw [Hid, HS2.out, if_neg hn]
    go_wp2_with fail
    go_ret
    exact ⟨ret_int H.out.symm, hb1⟩
   have dl : decide ((256 : Int) < (s.lines.length : Int)) = false := decide_eq_false (by omega)
   have HS3 : Hid (slipE e p s = if ordB s.lines then 0 else 1) := by rw [Hid, HS2.out, if_pos hn]
   clear HS2
   go_wp2_with fail
   go_loopw [49] (fun i wr => ∃ k : Nat, k ≤ s.lines.length ∧ i = .int .i64 k ∧ Below w1.heap.size w1 wr ∧ Hid (∀ j (h : j < s.lines.length), j < k → formB s.lines[j] = true) ∧ Hid (∀ j (h : j + 1 < s.lines.length), j + 1 < k → lnLt (s.lines[j]'(by omega)) (s.lines[j + 1]'h) = true)) (fun i _ => s.lines.length - (intOf i).toNat)
   case atStart => exact ⟨0, by omega, rfl, Below.refl _ _, fun j _ hj => absurd hj (by omega), fun j _ hj => absurd hj (by omega)⟩
   case round =>
    obtain ⟨k, hk, rfl, hb, HF, HO⟩ := hrel
    have hbs := hb.size
    have hBw := below_after hb1 hb hs1
    by_cases hlt : k < s.lines.length
    ·rcases H3.out with h | ⟨b, off, rfl, hc0⟩
     ·exact (lns_pos hlt h).elim
     ·obtain ⟨c0, c1, c2⟩ := (hc0.below hBw hc0.1).ln hlt
      have q6 : wr.cell? ⟨B, 6, none⟩ = some (.slice (some ⟨b, off, none⟩) s.lines.length cap) := (hb.cell (p := ⟨B, 6, none⟩) hl1).trans r6
      obtain ⟨wy, hwy⟩ : ∃ wy, wy = wr.alloc (Obj.cells #[Value.int IntKind.i64 s.lines[k].kind, Value.string s.lines[k].code, Value.int IntKind.i64 s.lines[k].amt] 45) := ⟨_, rfl⟩
      have hby : Below wr.heap.size wr wy := by rw [hwy]; exact (Below.refl _ _).alloc (Nat.le_refl _) _
      have hRy : Row wy wr.heap.size 45 #[Value.int IntKind.i64 s.lines[k].kind, Value.string s.lines[k].code, Value.int IntKind.i64 s.lines[k].amt] := by rw [hwy]; exact Row.new _ _ _
      have hly := hRy.lt
      have e0 := ext_cell hly (hRy.cell 0)
      have e1 := ext_cell hly (hRy.cell 1)
      have e2 := ext_cell hly (hRy.cell 2)
      simp at e0 e1 e2
      have hB2 : B < wr.heap.size := Nat.lt_of_lt_of_le hl1 hbs
      have e6 := ext_cell (Nat.lt_of_lt_of_le hB2 hby.size) ((hby.cell (p := ⟨B, 6, none⟩) hB2).trans q6)
      have hxy : ∀ y : Ext wy, Hid (Below w1.heap.size w1 y.val) := fun y => below_after (below_after hb hby hbs) y.property (Nat.le_trans hbs hby.size)
      have hbl : b < wr.heap.size := Nat.lt_of_lt_of_le hc0.1 hBw.size
      have HCL := Lib.hid (((hc0.below hBw hc0.1).below hby hbl))
      have hbly : b < wy.heap.size := Nat.lt_of_lt_of_le hbl hby.size
      clear hRy H3 hc0 hby
      cases hf : formB s.lines[k]
      ·have H : Hid (slipE e p s = 1) := by
        rw [Hid, HS3.out, if_neg]
        rw [ordB_iff]
        intro hh
        rw [hh.1 k hlt] at hf; cases hf
       have HCF := Lib.hid (fun y : Ext wy => (show Calls Tryz.prog 55 #[.agg #[.int .i64 s.lines[k].kind, .string s.lines[k].code, .int .i64 s.lines[k].amt]] y.val fun e w' => e = .returned (.bool false) ∧ Below y.val.heap.size y.val w' by rw [← hf]; exact Form_any _ _))
       have HCO := Lib.hid (fun y : Ext wy => Form_any s.lines[k] y.val)
       go_upto_region 14 with (fail)
       rw [← hwy]
       clear hwy
       refine region_ext (by kernel_rfl) (by kernel_rfl) ?_
       repeat (go_big_quiet_step ((first | (go_at_call 55; exact ext_call (HCF.out _)) | (go_at_call 56; exact ext_call (HCO.out _)))))
       refine wpQuiet_nil ?_
       rintro _ ⟨y, rfl⟩
       go_wp2_with fail
       go_ret
       exact ⟨ret_int H.out.symm, below_after hb1 (hxy y).out hs1⟩
      ·have HCF := Lib.hid (fun y : Ext wy => (show Calls Tryz.prog 55 #[.agg #[.int .i64 s.lines[k].kind, .string s.lines[k].code, .int .i64 s.lines[k].amt]] y.val fun e w' => e = .returned (.bool true) ∧ Below y.val.heap.size y.val w' by rw [← hf]; exact Form_any _ _))
       have HF2 : Hid (∀ j (h : j < s.lines.length), j < k + 1 → formB s.lines[j] = true) := fun j h hj => by
        by_cases ej : j = k
        ·subst ej; exact hf
        ·exact HF.out j h (by omega)
       by_cases h0 : k = 0
       ·subst h0
        simp only [Nat.zero_mul, Nat.add_zero] at c0 c1 c2
        have HCO := Lib.hid (fun y : Ext wy => Form_any s.lines[0] y.val)
        have HO2 : Hid (∀ j (h : j + 1 < s.lines.length), j + 1 < 0 + 1 → lnLt (s.lines[j]'(by omega)) (s.lines[j + 1]'h) = true) := fun j h hj => absurd hj (by omega)
        go_upto_region 14 with (fail)
        rw [← hwy]
        clear hwy
        refine region_ext (by kernel_rfl) (by kernel_rfl) ?_
        repeat (go_big_quiet_step ((first | (go_at_call 55; exact ext_call (HCF.out _)) | (go_at_call 56; exact ext_call (HCO.out _)))))
        refine wpQuiet_nil ?_
        rintro _ ⟨y, rfl⟩
        go_wp2_with fail
        go_roundw
        case rel => exact ⟨0 + 1, by omega, by go_num, (hxy y).out, HF2, HO2⟩
        case measure => simp [intOf]; omega
       ·obtain ⟨m, rfl⟩ : ∃ m, k = m + 1 := ⟨k - 1, by omega⟩
        have d0 : decide ((0 : Int) < ((m : Int) + 1)) = true := decide_eq_true (by omega)
        obtain ⟨p0, p1, p2⟩ := HCL.out.ln (k := m) (by omega)
        have f0 := ext_cell hbly p0
        have f1 := ext_cell hbly p1
        have f2 := ext_cell hbly p2
        have HCO := Lib.hid (fun y : Ext wy => (order_any s.lines[m] s.lines[m + 1] y.val).mono fun _ w' ⟨he, q, os, hw⟩ => (⟨he, by rw [hw]; exact Lib.below_grow _ _ (Nat.le_refl _) _ _⟩ : _ ∧ Below y.val.heap.size y.val w'))
        have hcg := cmp_ge s.lines[m] s.lines[m + 1]
        clear p0 p1 p2
        cases ho : lnLt s.lines[m] s.lines[m + 1]
        ·rw [ho] at hcg
         have hcg : decide (0 ≤ cmpLn s.lines[m] s.lines[m + 1]) = true := hcg
         have H : Hid (slipE e p s = 1) := by
          rw [Hid, HS3.out, if_neg]
          rw [ordB_iff]
          intro hh
          rw [hh.2 m hlt] at ho; cases ho
         go_upto_region 14 with (fail)
         rw [← hwy]
         clear hwy
         refine region_ext (by kernel_rfl) (by kernel_rfl) ?_
         repeat (go_big_quiet_step ((first | (go_at_call 55; exact ext_call (HCF.out _)) | (go_at_call 56; exact ext_call (HCO.out _)))))
         refine wpQuiet_nil ?_
         rintro _ ⟨y, rfl⟩
         go_wp2_with fail
         go_ret
         exact ⟨ret_int H.out.symm, below_after hb1 (hxy y).out hs1⟩
        ·rw [ho] at hcg
         have hcg : decide (0 ≤ cmpLn s.lines[m] s.lines[m + 1]) = false := hcg
         have HO2 : Hid (∀ j (h : j + 1 < s.lines.length), j + 1 < m + 1 + 1 → lnLt (s.lines[j]'(by omega)) (s.lines[j + 1]'h) = true) := fun j h hj => by
          by_cases ej : j = m
          ·subst ej; exact ho
          ·exact HO.out j h (by omega)
         go_upto_region 14 with (fail)
         rw [← hwy]
         clear hwy
         refine region_ext (by kernel_rfl) (by kernel_rfl) ?_
         repeat (go_big_quiet_step ((first | (go_at_call 55; exact ext_call (HCF.out _)) | (go_at_call 56; exact ext_call (HCO.out _)))))
         refine wpQuiet_nil ?_
         rintro _ ⟨y, rfl⟩
         go_wp2_with fail
         go_roundw
         case rel => exact ⟨m + 1 + 1, by omega, by go_num, (hxy y).out, HF2, HO2⟩
         case measure => simp [intOf]; omega
    ·obtain rfl : k = s.lines.length := by omega
     have H : Hid (slipE e p s = 0) := by
      rw [Hid, HS3.out, if_pos]
      rw [ordB_iff]
      exact ⟨fun j h => HF.out j h h, fun j h => HO.out j h h⟩
     go_wp2_with fail
     go_ret
     exact ⟨ret_int H.out.symm, hBw⟩
end Go.Proofs.YtogdefomigiepaaGreatDoor
/- Plain laws: elements of pay (as lines of kind 0), and the lines of a slip that are made of them. -/
namespace Go.Proofs.YtogdefomigiepaaGreatDoor
open Go.RowKit

def elv (x : Ln) : List Value := [.string x.code, .int .i64 x.amt]
def els (l : List Ln) : List (List Value) := l.map elv
theorem els_len (l : List Ln) : (els l).length = l.length := by simp [els]
theorem els_at {l : List Ln} {k : Nat} (h : k < l.length) : (els l)[k]? = some (elv l[k]) := by simp [els, h]
theorem CellsAt.el {w : World} {b off : Nat} {l : List Ln} (h : CellsAt w 2 b off (els l)) {k : Nat} (hk : k < l.length) :
  w.cell? ⟨b, off + k * 2, none⟩ = some (.string (l[k]).code) ∧ w.cell? ⟨b, off + k * 2 + 1, none⟩ = some (.int .i64 (l[k]).amt) :=
 ⟨h.2 k _ (els_at hk) 0 _ rfl, h.2 k _ (els_at hk) 1 _ rfl⟩
theorem els_pos {l : List Ln} {k : Nat} (hlt : k < l.length) (h : els l = []) : False := by
 have := congrArg List.length h
 rw [els_len] at this; simp only [List.length_nil] at this; omega
theorem els_wide (l : List Ln) : Wide 2 (els l) := fun x hx => by
 obtain ⟨p, _, rfl⟩ := List.mem_map.1 hx
 exact ⟨rfl, by simp [elv, Value.oneCell']⟩
theorem els_append (l m : List Ln) : els (l ++ m) = els l ++ els m := by simp [els]

structure ElOk (l : List Ln) (M : Int) : Prop where
 strict : Strict l
 zero : ∀ x ∈ l, x.kind = 0
 name : ∀ x ∈ l, nameB x.code.data.toList = true
 amt : ∀ x ∈ l, -M ≤ x.amt ∧ x.amt ≤ M
theorem ElOk.more {l : List Ln} {M N : Int} (h : ElOk l M) (hM : M ≤ N) : ElOk l N := ⟨h.strict, h.zero, h.name, fun x hx => by have := h.amt x hx; omega⟩
theorem ElOk.filter {l : List Ln} {M : Int} (h : ElOk l M) (p : Ln → Bool) : ElOk (l.filter p) M :=
 ⟨List.Pairwise.filter _ h.strict, fun x hx => h.zero x (List.mem_filter.1 hx).1, fun x hx => h.name x (List.mem_filter.1 hx).1, fun x hx => h.amt x (List.mem_filter.1 hx).1⟩
def lift (k : Int) (l : List Ln) : List Ln := (l.filter nz).map fun x => ⟨k, x.code, x.amt⟩
theorem mem_lift {k : Int} {l : List Ln} {y : Ln} (h : y ∈ lift k l) : ∃ x ∈ l, y = ⟨k, x.code, x.amt⟩ ∧ x.amt ≠ 0 := by
 obtain ⟨x, hx, rfl⟩ := List.mem_map.1 h
 obtain ⟨h1, h2⟩ := List.mem_filter.1 hx
 exact ⟨x, h1, rfl, by simpa [nz] using h2⟩
theorem lift_len (k : Int) (l : List Ln) : (lift k l).length ≤ l.length := by rw [lift, List.length_map]; exact List.length_filter_le _ _
theorem lift_snoc (k : Int) (l : List Ln) (x : Ln) : lift k (l ++ [x]) = lift k l ++ (if x.amt = 0 then [] else [⟨k, x.code, x.amt⟩]) := by
 unfold lift
 rw [List.filter_append, List.map_append]
 by_cases h : x.amt = 0 <;> simp [nz, h]
theorem lift_strict {k : Int} {l : List Ln} (h : Strict l) (h0 : ∀ x ∈ l, x.kind = 0) : Strict (lift k l) := by
 unfold lift
 refine List.pairwise_map.2 ?_
 have hf : Strict (l.filter nz) := List.Pairwise.filter _ h
 refine List.Pairwise.imp_of_mem (fun {a b} ha hb hab => ?_) hf
 have ea := h0 a (List.mem_filter.1 ha).1
 have eb := h0 b (List.mem_filter.1 hb).1
 rw [lnLt_iff] at hab ⊢
 rcases hab with hab | ⟨_, hab⟩
 ·omega
 ·exact .inr ⟨rfl, hab⟩
structure Upto (l : List Ln) (k : Int) : Prop where
 form : ∀ x ∈ l, formB x = true
 strict : Strict l
 kind : ∀ x ∈ l, x.kind ≤ k
theorem Upto.nil (k : Int) : Upto [] k := ⟨fun _ h => (by cases h), List.Pairwise.nil, fun _ h => (by cases h)⟩
theorem form_of {k : Int} {c : ByteArray} {a : Int} (h1 : 1 ≤ k) (h2 : k ≤ 10) (ha : a ≠ 0 ∧ -1000000000000 ≤ a ∧ a ≤ 1000000000000) (hc : (bareB k = true ∧ c.size = 0) ∨ (bareB k = false ∧ nameB c.data.toList = true)) : formB ⟨k, c, a⟩ = true := by
 have q1 : decide (1 ≤ k) = true := by simp; omega
 have q2 : decide (k ≤ 10) = true := by simp; omega
 have q3 : totB a = true := by simp [totB]; omega
 have q4 : decide (a ≠ 0) = true := by simp [ha.1]
 rcases hc with ⟨h4, h5⟩ | ⟨h4, h5⟩
 ·simp only [formB, formedB, q1, q2, q3, q4, h4, if_true, Bool.true_and, Bool.and_true, h5, decide_true]
 ·simp only [formB, formedB, q1, q2, q3, q4, h4, h5, Bool.true_and, Bool.and_true]; rfl
theorem Upto.add {l m : List Ln} {k : Int} (h : Upto l (k - 1)) (hm : ∀ x ∈ m, formB x = true ∧ x.kind = k) (hs : Strict m) : Upto (l ++ m) k := by
 refine ⟨fun x hx => ?_, List.pairwise_append.2 ⟨h.strict, hs, fun x hx y hy => ?_⟩, fun x hx => ?_⟩
 ·rcases List.mem_append.1 hx with hx | hx
  ·exact h.form x hx
  ·exact (hm x hx).1
 ·have a := h.kind x hx
  have b := (hm y hy).2
  rw [lnLt_iff]; left; omega
 ·rcases List.mem_append.1 hx with hx | hx
  ·have := h.kind x hx; omega
  ·rw [(hm x hx).2]; exact Int.le_refl _
theorem Upto.named {l m : List Ln} {k : Int} (h : Upto l (k - 1)) (h1 : 1 ≤ k) (h2 : k ≤ 10) (hb : bareB k = false) (hm : ElOk m 1000000000000) : Upto (l ++ lift k m) k :=
 h.add (fun y hy => by
  obtain ⟨x, hx, rfl, h0⟩ := mem_lift hy
  refine ⟨form_of h1 h2 ⟨h0, hm.amt x hx⟩ (.inr ⟨hb, hm.name x hx⟩), rfl⟩) (lift_strict hm.strict hm.zero)
theorem Upto.bare {l : List Ln} {k a : Int} (h : Upto l (k - 1)) (h1 : 1 ≤ k) (h2 : k ≤ 10) (hb : bareB k = true) (ha : -1000000000000 ≤ a ∧ a ≤ 1000000000000) : Upto (l ++ lift k [⟨0, ⟨#[]⟩, a⟩]) k := by
 refine h.add (fun y hy => ?_) (lift_strict (List.pairwise_singleton _ _) (fun x hx => ?_))
 ·obtain ⟨x, hx, rfl, h0⟩ := mem_lift hy
  rw [List.mem_singleton.1 hx] at h0 ⊢
  exact ⟨form_of h1 h2 ⟨h0, ha⟩ (.inl ⟨hb, rfl⟩), rfl⟩
 ·rw [List.mem_singleton.1 hx]
theorem Upto.ord {l : List Ln} {k : Int} (h : Upto l k) : ordB l = true := by
 rw [ordB_iff]
 exact ⟨fun j hj => h.form _ (List.getElem_mem hj), fun j hj => List.pairwise_iff_getElem.1 h.strict j (j + 1) (by omega) hj (by omega)⟩
structure Parts where
 ear : List Ln
 ben : List Ln
 bef : List Ln
 own : List Ln
 emp : List Ln
 tax : Int
 att : List Ln
 aft : List Ln
 net : Int
 short : Int
def Parts.lines (p : Parts) : List Ln := lift 1 p.ear ++ lift 2 p.ben ++ lift 3 p.bef ++ lift 4 p.own ++ lift 5 p.emp ++ lift 6 [⟨0, ⟨#[]⟩, p.tax⟩] ++ lift 7 p.att ++ lift 8 p.aft ++ lift 9 [⟨0, ⟨#[]⟩, p.net⟩] ++ lift 10 [⟨0, ⟨#[]⟩, p.short⟩]
structure PartsOk (p : Parts) : Prop where
 ear : ElOk p.ear 1000000000000
 ben : ElOk p.ben 1000000000000
 bef : ElOk p.bef 1000000000000
 own : ElOk p.own 1000000000000
 emp : ElOk p.emp 1000000000000
 tax : -1000000000000 ≤ p.tax ∧ p.tax ≤ 1000000000000
 att : ElOk p.att 1000000000000
 aft : ElOk p.aft 1000000000000
 net : -1000000000000 ≤ p.net ∧ p.net ≤ 1000000000000
 short : -1000000000000 ≤ p.short ∧ p.short ≤ 1000000000000
 len : p.ear.length + p.ben.length + p.bef.length + p.own.length + p.emp.length + p.att.length + p.aft.length ≤ 200
theorem PartsOk.ord {p : Parts} (h : PartsOk p) : ordB p.lines = true := by
 have a1 := (Upto.nil 0).named (k := 1) (by omega) (by omega) (by decide) h.ear
 have a2 := a1.named (k := 2) (by omega) (by omega) (by decide) h.ben
 have a3 := a2.named (k := 3) (by omega) (by omega) (by decide) h.bef
 have a4 := a3.named (k := 4) (by omega) (by omega) (by decide) h.own
 have a5 := a4.named (k := 5) (by omega) (by omega) (by decide) h.emp
 have a6 := a5.bare (k := 6) (by omega) (by omega) (by decide) h.tax
 have a7 := a6.named (k := 7) (by omega) (by omega) (by decide) h.att
 have a8 := a7.named (k := 8) (by omega) (by omega) (by decide) h.aft
 have a9 := a8.bare (k := 9) (by omega) (by omega) (by decide) h.net
 have a10 := a9.bare (k := 10) (by omega) (by omega) (by decide) h.short
 exact a10.ord
theorem PartsOk.length {p : Parts} (h : PartsOk p) : p.lines.length ≤ 256 := by
 have := h.len
 unfold Parts.lines
 simp only [List.length_append]
 have := lift_len 1 p.ear
 have := lift_len 2 p.ben
 have := lift_len 3 p.bef
 have := lift_len 4 p.own
 have := lift_len 5 p.emp
 have := lift_len 6 [⟨0, ⟨#[]⟩, p.tax⟩]
 have := lift_len 7 p.att
 have := lift_len 8 p.aft
 have := lift_len 9 [⟨0, ⟨#[]⟩, p.net⟩]
 have := lift_len 10 [⟨0, ⟨#[]⟩, p.short⟩]
 simp only [List.length_singleton] at *
 omega
def SlipOk (s : Slp) : Prop := s.bs.all totB = true ∧ totB s.legal = true ∧ s.lines.length ≤ 256 ∧ ordB s.lines = true
theorem SlipOk.e0 {s : Slp} (h : SlipOk s) {e p : Int} (h1 : 1 ≤ e) (h2 : e ≤ 2147483647) (h3 : 0 ≤ p) (h4 : p ≤ 84005) : slipE e p s = 0 := by
 obtain ⟨a, b, c, d⟩ := h
 simp [slipE, h1, h2, h3, h4, a, b, c, d]
theorem SlipOk.zero : SlipOk ⟨0, 0, 0, 0, 0, 0, []⟩ := ⟨by decide, by decide, by decide, rfl⟩
def sumA (l : List Ln) : Int := (l.map (·.amt)).sum
theorem sumA_cons (x : Ln) (l : List Ln) : sumA (x :: l) = x.amt + sumA l := by simp [sumA]
theorem sumA_nil : sumA [] = 0 := rfl
theorem sumA_append (l m : List Ln) : sumA (l ++ m) = sumA l + sumA m := by simp [sumA, List.sum_append]
theorem sumA_snoc (l : List Ln) (k : Nat) (h : k < l.length) : sumA (l.take (k + 1)) = sumA (l.take k) + l[k].amt := by
 rw [List.take_succ_eq_append_getElem h, sumA_append]; simp [sumA]
theorem sumA_put (x : Ln) (l : List Ln) : sumA (putR x l) = sumA l + x.amt := by
 induction l with
 | nil => simp [putR, sumA]
 | cons a r ih =>
  simp only [putR]
  split
  ·rw [sumA_cons, sumA_cons, ih]; omega
  ·split
   ·rw [sumA_cons, sumA_cons]; dsimp only; omega
   ·rw [sumA_cons, sumA_cons]; omega
theorem sumA_nonneg {l : List Ln} (h : ∀ x ∈ l, 0 ≤ x.amt) : 0 ≤ sumA l := by
 induction l with
 | nil => exact Int.le_refl _
 | cons a r ih =>
  have := h a (by simp)
  have := ih fun x hx => h x (by simp [hx])
  rw [sumA_cons]; omega
theorem sumA_mem {l : List Ln} (h : ∀ x ∈ l, 0 ≤ x.amt) {x : Ln} (hx : x ∈ l) : x.amt ≤ sumA l := by
 induction l with
 | nil => cases hx
 | cons a r ih =>
  have h0 := h a (by simp)
  have hr := fun y hy => h y (List.mem_cons_of_mem a hy)
  have := sumA_nonneg hr
  rw [sumA_cons]
  rcases List.mem_cons.1 hx with rfl | hx
  ·omega
  ·have := ih hr hx; omega
theorem sumA_bound {l : List Ln} {M : Int} (h : ∀ x ∈ l, -M ≤ x.amt ∧ x.amt ≤ M) : -(M * l.length) ≤ sumA l ∧ sumA l ≤ M * l.length := by
 induction l with
 | nil => simp [sumA]
 | cons a r ih =>
  have h0 := h a (by simp)
  have := ih fun x hx => h x (by simp [hx])
  have e : M * ((a :: r).length : Nat) = M * (r.length : Nat) + M := by simp only [List.length_cons]; rw [Int.natCast_succ, Int.mul_add, Int.mul_one]
  rw [sumA_cons, e]; omega
theorem put_nonneg {x : Ln} {l : List Ln} (h : ∀ y ∈ l, 0 ≤ y.amt) (hx : 0 ≤ x.amt) : ∀ y ∈ putR x l, 0 ≤ y.amt := by
  induction l with
  | nil => intro y hy; obtain rfl : y = x := by simpa [putR] using hy
           exact hx
  | cons a r ih =>
    intro y hy
    have ha := h a (by simp)
    have hr := fun y hy => h y (List.mem_cons_of_mem a hy)
    simp only [putR] at hy
    split at hy
    · rcases List.mem_cons.1 hy with rfl | hy
      · exact ha
      · exact ih hr y hy
    · split at hy
      · rcases List.mem_cons.1 hy with rfl | hy
        · show 0 ≤ x.amt + a.amt; omega
        · exact hr y hy
      · rcases List.mem_cons.1 hy with rfl | hy
        · exact hx
        · exact h y hy
theorem put_kind {x : Ln} {l : List Ln} (h : ∀ y ∈ l, y.kind = 0) (hx : x.kind = 0) : ∀ y ∈ putR x l, y.kind = 0 := fun y hy => by
 rcases putR_mem hy with ⟨h1, _⟩ | h1
 ·rw [h1, hx]
 ·exact h y h1
theorem put_name {x : Ln} {l : List Ln} {p : ByteArray → Prop} (h : ∀ y ∈ l, p y.code) (hx : p x.code) : ∀ y ∈ putR x l, p y.code := fun y hy => by
 rcases putR_mem hy with ⟨_, h1⟩ | h1
 ·rw [h1]; exact hx
 ·exact h y h1
theorem nodup_le {α : Type} [BEq α] [LawfulBEq α] {l m : List α} (hl : l.Pairwise (· ≠ ·)) (h : ∀ x ∈ l, x ∈ m) : l.length ≤ m.length := by
 induction l generalizing m with
 | nil => simp
 | cons a r ih =>
  have h' := List.pairwise_cons.1 hl
  have ha : a ∈ m := h a (by simp)
  have := ih (m := m.erase a) h'.2 fun x hx => (List.mem_erase_of_ne (fun e => h'.1 x hx e.symm)).2 (h x (by simp [hx]))
  have hlen := List.length_erase_of_mem ha
  have : 0 < m.length := List.length_pos_of_mem ha
  simp only [List.length_cons]; omega
theorem strict_le {l : List Ln} {m : List (List UInt8)} (hs : Strict l) (h0 : ∀ x ∈ l, x.kind = 0) (h : ∀ x ∈ l, x.code.data.toList ∈ m) : l.length ≤ m.length := by
 have hp : (l.map fun x => x.code.data.toList).Pairwise (· ≠ ·) := by
  refine List.pairwise_map.2 (List.Pairwise.imp_of_mem (fun {a b} ha hb hab e => ?_) hs)
  refine lnLt_title hab ⟨by rw [h0 a ha, h0 b hb], ?_⟩
  have := congrArg List.toArray e
  simp only [Array.toArray_toList] at this
  cases hA : a.code; cases hB : b.code
  rw [hA, hB] at this
  exact congrArg _ this
 have := nodup_le hp (fun c hc => by obtain ⟨x, hx, rfl⟩ := List.mem_map.1 hc; exact h x hx)
 simpa using this

end Go.Proofs.YtogdefomigiepaaGreatDoor
/- Storing one cell of an element into a slice of the call's own. -/
namespace Go.Proofs.YtogdefomigiepaaGreatDoor
open Go.RowKit

theorem Own.set1 {w : World} {base e sz g n cap : Nat} {es : List (List Value)} (hsz : 0 < sz) (h : Own w base e sz (.slice (some ⟨g, 0, none⟩) n cap) es) (i : Nat) {x : List Value} (hi : es[i]? = some x) (j : Nat) (hj : j < sz) (u : Value) (hu : u.oneCell' = true) :
  Own (w.setCell ⟨g, i * sz + j, none⟩ u) base e sz (.slice (some ⟨g, 0, none⟩) n cap) (es.set i (x.set j u)) ∧ w.grownBy (w.setCell ⟨g, i * sz + j, none⟩ u) (some g) := by
 have hn : n = es.length := by
  rcases h.1.2 with ⟨h', _⟩ | ⟨g', cap', cur, h', _⟩
  ·simp at h'
  ·injection h'
 subst hn
 have hil : i < es.length := (List.getElem?_eq_some_iff.1 hi).1
 have hx := h.2 x (List.mem_of_getElem? hi)
 obtain ⟨h1, h2⟩ := h.1.stored (i * sz + j) u
 have hf : es.flatten.set (i * sz + j) u = (es.set i (x.set j u)).flatten := by
  apply List.ext_getElem?
  intro t
  have hb : i * sz + sz ≤ es.flatten.length := by
   rw [h.2.flat]
   have : (i + 1) * sz ≤ es.length * sz := Nat.mul_le_mul_right _ hil
   rw [Nat.add_mul, Nat.one_mul] at this; exact this
  rw [List.getElem?_set, flatten_set hsz h.2 i hil _ (by rw [List.length_set]; exact hx.1)]
  by_cases ht : i * sz ≤ t ∧ t < i * sz + sz
  ·rw [if_pos ht, List.getElem?_set]
   by_cases he : i * sz + j = t
   ·rw [if_pos he, if_pos (by omega), if_pos (by omega), if_pos (by omega)]
   ·rw [if_neg he, if_neg (by omega), h.2.get hsz]
    have e1 : t / sz = i := by
     have : t = sz * i + (t - i * sz) := by rw [Nat.mul_comm]; omega
     rw [this, Nat.mul_add_div hsz, Nat.div_eq_of_lt (by omega)]; rfl
    have e2 : t % sz = t - i * sz := by
     have : t = sz * i + (t - i * sz) := by rw [Nat.mul_comm]; omega
     conv => lhs; rw [this]
     rw [Nat.mul_add_mod, Nat.mod_eq_of_lt (by omega)]
    rw [e1, e2, hi]; rfl
  ·rw [if_neg (by omega), if_neg ht]
 refine ⟨⟨?_, fun y hy => ?_⟩, h2⟩
 ·rw [List.length_set, ← hf]; exact h1
 ·rcases List.mem_or_eq_of_mem_set hy with hy | rfl
  ·exact h.2 y hy
  ·refine ⟨by rw [List.length_set]; exact hx.1, fun v hv => ?_⟩
   rcases List.mem_or_eq_of_mem_set hv with hv | rfl
   ·exact hx.2 v hv
   ·exact hu
theorem Sl.cells {w : World} {sz n cap : Nat} {A : Option Addr} {es : List (List Value)} (h : Sl w sz (.slice A n cap) es) (h0 : 0 < es.length) : ∃ b off, A = some ⟨b, off, none⟩ ∧ CellsAt w sz b off es := by
 obtain ⟨A', cap', hv, _, _, _, hc⟩ := h
 injection hv with hv1 hv2 hv3
 subst hv1
 rcases hc with rfl | hc
 ·exact absurd h0 (by simp)
 ·exact hc
end Go.Proofs.YtogdefomigiepaaGreatDoor
/- Contracts of payrollref26.Amount, Valid, Find and At. Written by gen_r26.py. -/
namespace Go.Proofs.YtogdefomigiepaaGreatDoor
open Go.RowKit

theorem Amount_ok {n : Int} (w : World) (h : -1000000000 ≤ n ∧ n ≤ 1000000000) :
  Calls Tryz.prog 50 #[.int .i64 n] w fun e w' => e = .returned (.bool true) ∧ w = w' := by
 obtain ⟨h1, h2⟩ := h
 go_enter Tryz.func50, Tryz.ntmps50
 go_wp2
 go_ret
 exact ⟨rfl, rfl⟩
theorem CellsAt.at {w : World} {sz b off : Nat} {es : List (List Value)} (h : CellsAt w sz b off es) {k : Nat} {x : List Value} (hk : es[k]? = some x) (j : Nat) {u : Value} (hj : x[j]? = some u) : w.cell? ⟨b, off + k * sz + j, none⟩ = some u := h.2 k x hk j u hj
set_option maxRecDepth 100000 in
set_option maxHeartbeats 4000000 in
theorem Wages_ok (ws : List Wg) (v : Value) (w : World) (hv : Sl w 6 v (ws.map Wg.vals)) (hc : Coded Wg.code WgOk litW litW.length ws) :
  Calls Tryz.prog 82 #[v] w fun e w' => e = .returned (.bool true) ∧ Below w.heap.size w w' := by
 have HV := Lib.hid hv
 have HL : ws.length ≤ 4 := hc.len
 have HA := Lib.hid (hc.asc litW_asc)
 have HO := Lib.hid hc.ok
 have HM : Hid (∀ x ∈ ws, nameB x.code.data.toList = true) := fun x hx => litW_name _ (hc.mem hx)
 obtain ⟨A, cap, rfl, h1, h2, _, _⟩ := hv
 rw [List.length_map] at h1 HV ⊢
 unfold maxLen at h2
 clear hc
 go_enter Tryz.func82, Tryz.ntmps82
 have d0 : decide ((64 : Int) < (ws.length : Int)) = false := decide_eq_false (by omega)
 go_wp2_with fail
 go_loopw [3] (fun i wr => ∃ k : Nat, k ≤ ws.length ∧ i = .int .i64 k ∧ Hid (Below w.heap.size w wr)) (fun i _ => ws.length - (intOf i).toNat)
 case atStart => exact ⟨0, by omega, rfl, Below.refl _ _⟩
 case round =>
  obtain ⟨k, hk, rfl, HB⟩ := hrel
  obtain ⟨wo, rfl⟩ : ∃ wo : World, wo = wr := ⟨_, rfl⟩
  by_cases hlt : k < ws.length
  ·obtain ⟨bk, off, rfl, hc⟩ := (HV.out.below HB.out).cells (by rw [List.length_map]; omega)
   have hbl := hc.1
   have i1 : (k : Int) < (ws.length : Int) := by omega
   have HN := HM.out _ (List.getElem_mem hlt)
   have HW := HO.out _ (List.getElem_mem hlt)
   have hwk : (ws.map Wg.vals)[k]? = some (ws[k]).vals := by simp [hlt]
   have HP : Hid (∀ (j : Nat) (_ : j + 1 = k), ∃ q : ByteArray, q.toList < (ws[k]).code.toList ∧ ∀ y : Ext wo, y.val.cell? ⟨bk, off + j * 6, none⟩ = some (.string q)) := by
    rintro j rfl
    refine ⟨(ws[j]'(by omega)).code, List.pairwise_iff_getElem.1 HA.out j (j + 1) (by omega) hlt (by omega), fun y => ?_⟩
    exact ext_cell hbl (hc.at (k := j) (x := (ws[j]'(by omega)).vals) (by simp; exact ⟨_, List.getElem?_eq_getElem (by omega), rfl⟩) 0 rfl) y
   obtain ⟨⟨code, kind, tax, ins, att, acc⟩, hx⟩ : ∃ x, ws[k] = x := ⟨_, rfl⟩
   rw [hx] at hwk HN HW HP
   have c0 := hc.at hwk 0 rfl
   have c1 := hc.at hwk 1 rfl
   have c2 := hc.at hwk 2 rfl
   have c3 := hc.at hwk 3 rfl
   have c4 := hc.at hwk 4 rfl
   have c5 := hc.at hwk 5 rfl
   obtain ⟨q1, q2, q3⟩ := HW
   dsimp only at c0 HN q1 q2 q3 HP
   simp only [Nat.add_zero] at c0
   clear hx hc hwk
   go_upto_region 7 with (fail)
   obtain ⟨w1, hw1⟩ : ∃ w1, wo.alloc (.cells #[.string code, .int .i64 kind, .bool tax, .bool ins, .bool att, .int .i64 acc] 120) = w1 := ⟨_, rfl⟩
   have kk : Below wo.heap.size wo w1 := by rw [← hw1]; exact (Below.refl _ _).alloc (Nat.le_refl _) _
   have R : Row w1 wo.heap.size 120 #[.string code, .int .i64 kind, .bool tax, .bool ins, .bool att, .int .i64 acc] := by rw [← hw1]; exact Row.new _ _ _
   rw [hw1]
   clear hw1 c0 c1 c2 c3 c4 c5
   have lR := R.lt
   obtain ⟨g, hg⟩ : ∃ g, wo.heap.size = g := ⟨_, rfl⟩
   have KK : Hid (Below wo.heap.size wo w1) := kk
   rw [hg] at R lR ⊢
   have e0 := ext_cell lR (Row.cell R 0)
   have e1 := ext_cell lR (Row.cell R 1)
   have e4 := ext_cell lR (Row.cell R 4)
   have e5 := ext_cell lR (Row.cell R 5)
   have HF : Hid (∀ y : Ext w1, Calls Tryz.prog 104 #[.string code] y.val fun e w' => e = .returned (.bool true) ∧ Below y.val.heap.size y.val w') := fun y => by
    have := refIsName_any code y.val
    rwa [HN] at this
   have HBY : Hid (∀ y : Ext w1, Below w.heap.size w y.val) := fun y => below_after HB.out (KK.out.trans (y.property.mono KK.out.size)) HB.out.size
   have a1 : decide (acc < 1000) = false := decide_eq_false (by omega)
   have a2 : decide (9999 < acc) = false := decide_eq_false (by omega)
   have HP2 : Hid (∀ (j : Nat) (_ : j + 1 = k), ∃ q : ByteArray, q.toList < code.toList ∧ ∀ y : Ext w1, y.val.cell? ⟨bk, off + j * 6, none⟩ = some (.string q)) := fun j hj => by
    obtain ⟨q, h1, h2⟩ := HP.out j hj
    exact ⟨q, h1, fun y => h2 ⟨y.val, KK.out.trans (y.property.mono KK.out.size)⟩⟩
   clear kk R HN hg HP hbl lR q3
   rcases Nat.eq_zero_or_pos k with rfl | hk0
   ·rcases q1 with rfl | rfl
    ·refine region_ext (by kernel_rfl) (by kernel_rfl) ?_
     repeat (go_big_quiet_step ((go_at_call 104; exact ext_call (HF.out _))))
     refine wpQuiet_nil ?_
     rintro _ ⟨y, rfl⟩
     go_wp2_with fail
     go_roundw
     case rel => exact ⟨0 + 1, by omega, by go_num, HBY.out y⟩
     case measure => simp [intOf]; omega
    ·obtain rfl := q2 rfl
     refine region_ext (by kernel_rfl) (by kernel_rfl) ?_
     repeat (go_big_quiet_step ((go_at_call 104; exact ext_call (HF.out _))))
     refine wpQuiet_nil ?_
     rintro _ ⟨y, rfl⟩
     go_wp2_with fail
     go_roundw
     case rel => exact ⟨0 + 1, by omega, by go_num, HBY.out y⟩
     case measure => simp [intOf]; omega
   ·obtain ⟨j, rfl⟩ : ∃ j, k = j + 1 := ⟨k - 1, by omega⟩
    obtain ⟨q, hq, pq⟩ := HP2.out j rfl
    have i2 : (j : Int) < (ws.length : Int) := by omega
    have s2 : IntKind.i64.wrap ((j : Int) + 1 - 1) = (j : Int) := by rw [show (j : Int) + 1 - 1 = (j : Int) by omega]; exact IntWalk.i64_in _ (by omega)
    have b1 : Op.bytesLess q.toList code.toList = true := by rw [bytesLess_eq]; exact decide_eq_true hq
    clear hq HP2
    rcases q1 with rfl | rfl
    ·refine region_ext (by kernel_rfl) (by kernel_rfl) ?_
     repeat (go_big_quiet_step ((go_at_call 104; exact ext_call (HF.out _))))
     refine wpQuiet_nil ?_
     rintro _ ⟨y, rfl⟩
     go_wp2_with fail
     go_roundw
     case rel => exact ⟨j + 1 + 1, by omega, by go_num, HBY.out y⟩
     case measure => simp [intOf]; omega
    ·obtain rfl := q2 rfl
     refine region_ext (by kernel_rfl) (by kernel_rfl) ?_
     repeat (go_big_quiet_step ((go_at_call 104; exact ext_call (HF.out _))))
     refine wpQuiet_nil ?_
     rintro _ ⟨y, rfl⟩
     go_wp2_with fail
     go_roundw
     case rel => exact ⟨j + 1 + 1, by omega, by go_num, HBY.out y⟩
     case measure => simp [intOf]; omega
  ·obtain rfl : k = ws.length := by omega
   go_wp2
   go_ret
   exact ⟨rfl, HB.out⟩
end Go.Proofs.YtogdefomigiepaaGreatDoor
/- Append inside a region that draws its order: one step; worlds behind allocations in such a region. -/
namespace Go.Proofs.YtogdefomigiepaaGreatDoor
open Go.RowKit

theorem step_append_sl {P : Program} {w : World} {ops : Array Oper} {o : Oper} {a : Act} {K : Act → World → Prop} {Q : Exit → Act → World → Prop} {E : Prop} (hgd : o.guard = none) (s x : Operand) {t e : TypeId} {sz bytes : Nat}
  (ho : o.op = .call { callee := .builtin .append, args := #[s, x], argTypes := #[t, t] }) (hT : RowTy P t e sz bytes) (base : Nat)
  (v u : Value) (es fs : List (List Value)) (hs : a.eval s = v) (hown : Own w base e sz v es) (hx : a.eval x = u) (hsl : Sl w sz u fs) (hwd : Wide sz fs)
  (h63 : es.length + fs.length ≤ maxLen) (hbytes : (es.length + fs.length) * bytes ≤ 140737488355328) (hbase : base ≤ w.heap.size)
  (h : ∀ v' w', Own w' base e sz v' (es ++ fs) → w.grownBy w' v.ownBlock → (v'.ownBlock = v.ownBlock ∨ v'.ownBlock = some w.heap.size) → K (a.put o.dst v') w') :
  if Region.wanted o (yielded ops a.tmps) = true then Oper.wp P o a w K Q else E := by
 have hw : Region.wanted o (yielded ops a.tmps) = true := by simp [Region.wanted, hgd]
 rw [if_pos hw]
 obtain ⟨v', w', hrun, k1, k2, k3⟩ := run_append_sl (P := P) w hT o.type base v u es fs hown hsl hwd h63 hbytes hbase
 unfold Oper.wp execOp
 simp only [ho, resolve, invoke, builtin, Sem.run_bind, Sem.run_pure, Result.andThen_ok, List.map_toArray, List.map_cons, List.map_nil, hs, hx, hrun]
 exact h v' w' k1 k2 k3
theorem Own.drew {w : World} {base e sz : Nat} {v : Value} {es : List (List Value)} (h : Own w base e sz v es) : Own w.drew base e sz v es := h.kept (Below.refl _ _).drew
theorem own_none (w : World) (e : TypeId) (sz base n : Nat) (hn : w.heap.size = n) (hb : base ≤ n) : Own (w.alloc (.cells #[] e)) base e sz (.slice (some ⟨n, 0, none⟩) 0 0) [] := by
 subst hn
 exact ⟨⟨by simp, .inr ⟨_, 0, #[], rfl, hb, heap_alloc_new w _, Nat.le_refl _, by unfold maxLen; omega, by simp, by simp⟩⟩, Wide.nil sz⟩
theorem below_a0 (w : World) : Below w.heap.size w w.drew := (Below.refl _ _).drew
theorem below_a2 (w : World) (o o' : Obj) : Below w.heap.size w ((w.alloc o).alloc o').drew := (((Below.refl _ _).alloc (Nat.le_refl _) _).alloc (by simp) _).drew
end Go.Proofs.YtogdefomigiepaaGreatDoor
