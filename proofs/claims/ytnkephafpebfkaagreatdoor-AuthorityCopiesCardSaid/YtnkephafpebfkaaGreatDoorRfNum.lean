/- Contract of ref34.Number. -/
import Derived.Test.YtnkephafpebfkaaGreatDoorNumS
import Derived.Test.YtnkephafpebfkaaGreatDoorProg
import Derived.Lib.SplitLaws
import Derived.LoopTactic
import Derived.Deep.CutBlock
import Derived.Deep.DeepCutAuto
namespace Go.Proofs.YtnkephafpebfkaaGreatDoor
open Go.RowKit

theorem head_bytes (s : ByteArray) (h : 0 < s.size) : s.data.toList = s[0] :: (s.extract 1 s.size).data.toList := by
  have e : (s.extract 1 s.size).data.toList = s.data.toList.drop 1 := Lib.extract_to_end s 1
  rw [e]
  have hl : 0 < s.data.toList.length := by simpa using h
  have := List.drop_eq_getElem_cons hl
  rw [List.drop_zero] at this
  rw [this]; rfl
theorem ng_short {s : ByteArray} (h : s.size ≤ 1) : ngB s.data.toList = false := by
  have : s.data.toList.length = s.size := by simp
  rw [ngB, Bool.and_eq_false_iff]; left; rw [decide_eq_false_iff_not]; omega
theorem ng_long {s : ByteArray} (h : 0 < s.size) (h1 : 1 < s.size) : ngB s.data.toList = (((s[0].toNat : Int)) == 45) := by
  have hl : s.data.toList.length = s.size := by simp
  rw [ngB, decide_eq_true (by omega), Bool.true_and, head_bytes s h]
  rw [Bool.eq_iff_iff]
  simp only [List.head?_cons, Option.some.injEq, decide_eq_true_eq, beq_iff_eq]
  constructor
  · intro e; rw [e]; rfl
  · intro e; apply UInt8.toNat_inj.1; have : (45 : UInt8).toNat = 45 := rfl; omega
/-- the digits' text -/
def dgS (s : ByteArray) : ByteArray := if ngB s.data.toList then s.extract 1 s.size else s
theorem dgS_list (s : ByteArray) : (dgS s).data.toList = dgL s.data.toList := by
  unfold dgS dgL
  cases ngB s.data.toList
  · rfl
  · have e : (s.extract 1 s.size).data.toList = s.data.toList.drop 1 := Lib.extract_to_end s 1
    simp only [if_true]
    rw [e, List.drop_one]
theorem dgS_size (s : ByteArray) : (dgS s).size ≤ s.size := by
  unfold dgS; split
  · rw [ByteArray.size_extract]; omega
  · omega
theorem take_bytes (s : ByteArray) (k : Nat) (h : k < s.size) : s.data.toList.take (k + 1) = s.data.toList.take k ++ [s[k]] := by
  rw [List.take_succ_eq_append_getElem (by simpa using h)]; rfl
theorem mem_bytes (s : ByteArray) (k : Nat) (h : k < s.size) : s[k] ∈ s.data.toList := by
  have : s.data.toList[k]'(by simpa using h) = s[k] := rfl
  rw [← this]; exact List.getElem_mem _
set_option maxRecDepth 100000 in
set_option maxHeartbeats 2000000 in
theorem Number_any (s : ByteArray) (w : World) (hs : s.size ≤ 1000000000) :
    Calls Tryz.prog 46 #[.string s] w fun e w' => e = .returned (.tuple #[.int .i64 ((numZ s.data.toList).getD 0), .bool (numZ s.data.toList).isSome]) ∧ w = w' := by
  obtain ⟨ng, hng⟩ : ∃ ng, ngB s.data.toList = ng := ⟨_, rfl⟩
  have HNG := Lib.hid hng
  go_enter Tryz.func46, Tryz.ntmps46
  clear hng
  go_upto_region 1 with (fail)
  go_cut [4] (fun a wx => a = .bool ng ∧ w = wx)
  case first =>
    by_cases h1 : s.size ≤ 1
    · have hd : decide ((1 : Int) < (s.size : Int)) = false := by simp; omega
      obtain rfl : ng = false := HNG.out.symm.trans (ng_short h1)
      go_wp2
      go_meet
      exact ⟨rfl, rfl⟩
    · have h0 : 0 < s.size := by omega
      have hd : decide ((1 : Int) < (s.size : Int)) = true := by simp; omega
      have HQ : Hid (((s[0].toNat : Int) == 45) = ng) := (ng_long h0 (by omega)).symm.trans HNG.out
      cases hq : ((s[0].toNat : Int) == 45)
      · obtain rfl : ng = false := HQ.out.symm.trans hq
        go_wp2
        go_meet
        exact ⟨rfl, rfl⟩
      · obtain rfl : ng = true := HQ.out.symm.trans hq
        go_wp2
        go_meet
        exact ⟨rfl, rfl⟩
  case rest =>
    obtain ⟨rfl, rfl⟩ := hcut
    have HDL := Lib.hid (dgS_list s)
    have HDE : Hid (dgS s = if ng then s.extract 1 s.size else s) := by rw [Hid, dgS, HNG.out]
    have hdz := dgS_size s
    obtain ⟨d, hd⟩ : ∃ d, dgS s = d := ⟨_, rfl⟩
    rw [hd] at HDL HDE hdz
    clear hd
    go_upto_if 17 with (fail)
    go_cut [5] (fun b wx => b = .string d ∧ w = wx)
    case first =>
      cases ng
      · have hE : s = d := HDE.out.symm
        have HE := Lib.hid hE
        clear hE
        go_wp2
        go_meet
        exact ⟨by rw [HE.out], rfl⟩
      · have hE : s.extract 1 s.size = d := HDE.out.symm
        have HE := Lib.hid hE
        have h1 : 1 < s.size := by
          have := HNG.out
          rw [ngB, Bool.and_eq_true, decide_eq_true_eq] at this
          have hl : s.data.toList.length = s.size := by simp
          omega
        clear hE
        go_wp2
        go_meet
        exact ⟨by rw [HE.out], rfl⟩
    case rest =>
      obtain ⟨rfl, rfl⟩ := hcut
      have hdl : (dgL s.data.toList).length = d.size := by rw [← HDL.out]; simp
      have HLN := Lib.hid hdl
      clear hdl HDE
      have HQ0 : Hid (0 < d.size → (dgL s.data.toList).head? = (d.data.toList).head?) := fun _ => by rw [HDL.out]
      obtain ⟨bd, hbd⟩ : ∃ bd : Bool, decide (d.size = 0 ∨ 19 < d.size ∨ (d.size = 19 ∧ ¬ d.data.toList = topD) ∨ (d.data.toList.head? = some 48 ∧ (1 < d.size ∨ ng = true))) = bd := ⟨_, rfl⟩
      have HBD := Lib.hid hbd
      clear hbd
      go_upto_region 5 with (fail)
      go_cut [48] (fun c wx => c = .bool bd ∧ w = wx)
      case first =>
        have HT : Hid ((d.size = 0 ∨ 19 < d.size ∨ (d.size = 19 ∧ ¬ d.data.toList = topD) ∨ (d.data.toList.head? = some 48 ∧ (1 < d.size ∨ ng = true))) → bd = true) := fun h => by rw [← HBD.out]; exact decide_eq_true h
        have HF : Hid (¬ (d.size = 0 ∨ 19 < d.size ∨ (d.size = 19 ∧ ¬ d.data.toList = topD) ∨ (d.data.toList.head? = some 48 ∧ (1 < d.size ∨ ng = true))) → bd = false) := fun h => by rw [← HBD.out]; exact decide_eq_false h
        clear HBD
        by_cases h0 : d.size = 0
        · obtain rfl : bd = true := HT.out (.inl h0)
          obtain rfl := size_zero h0
          clear h0
          go_wp2
          go_meet
          exact ⟨rfl, rfl⟩
        have hpos : 0 < d.size := by omega
        have t1 := notEmpty hpos
        have t2 := notNil hpos
        have HH := Lib.hid (show d.data.toList.head? = some d[0] by rw [head_bytes d hpos]; rfl)
        by_cases h19 : 19 < d.size
        · obtain rfl : bd = true := HT.out (.inr (.inl h19))
          have hd1 : decide ((19 : Int) < (d.size : Int)) = true := by simp; omega
          clear h0 h19
          go_wp2
          go_meet
          exact ⟨rfl, rfl⟩
        have hd1 : decide ((19 : Int) < (d.size : Int)) = false := by simp; omega
        have HR : Hid (¬ (d.size = 19 ∧ ¬ d.data.toList = topD) → bd = decide (d[0] = 48 ∧ (1 < d.size ∨ ng = true))) := fun hn => by
          by_cases hc : d[0] = 48 ∧ (1 < d.size ∨ ng = true)
          · rw [decide_eq_true hc]; exact HT.out (.inr (.inr (.inr ⟨by rw [HH.out, hc.1], hc.2⟩)))
          · rw [decide_eq_false hc]
            refine HF.out ?_
            rintro (h | h | h | h)
            · exact h0 h
            · exact h19 h
            · exact hn h
            · refine hc ⟨?_, h.2⟩
              have := h.1
              rw [HH.out] at this
              exact Option.some.inj this
        by_cases hs19 : d.size = 19
        · have i19 : (((d.size : Int)) == 19) = true := by simp; omega
          have hd2 : decide ((1 : Int) < (d.size : Int)) = true := by simp; omega
          by_cases htop : d.data.toList = topD
          · have t3 : (d.toList == [49, 48, 48, 48, 48, 48, 48, 48, 48, 48, 48, 48, 48, 48, 48, 48, 48, 48, 48]) = true := by rw [ByteArray.toList_eq, htop]; rfl
            have t4 : d.toList = [49, 48, 48, 48, 48, 48, 48, 48, 48, 48, 48, 48, 48, 48, 48, 48, 48, 48, 48] := by simpa using t3
            have e0 : d[0] = 49 := by
              have := HH.out
              rw [htop] at this
              exact (Option.some.inj this).symm
            have z0 : (((d[0]).toNat : Int) == 48) = false := by rw [e0]; rfl
            obtain rfl : bd = false := by rw [HR.out (fun h => h.2 htop), e0]; simp
            clear htop h0 h19 hs19 e0
            go_wp2
            go_meet
            exact ⟨rfl, rfl⟩
          · have t3 : (d.toList == [49, 48, 48, 48, 48, 48, 48, 48, 48, 48, 48, 48, 48, 48, 48, 48, 48, 48, 48]) = false := by
              rw [ByteArray.toList_eq]
              have : ¬ d.data.toList = [49, 48, 48, 48, 48, 48, 48, 48, 48, 48, 48, 48, 48, 48, 48, 48, 48, 48, 48] := htop
              simpa using this
            have t4 : ¬ d.toList = [49, 48, 48, 48, 48, 48, 48, 48, 48, 48, 48, 48, 48, 48, 48, 48, 48, 48, 48] := by simpa using t3
            obtain rfl : bd = true := HT.out (.inr (.inr (.inl ⟨hs19, htop⟩)))
            clear htop h0 h19 hs19
            go_wp2
            go_meet
            exact ⟨rfl, rfl⟩
        have i19 : (((d.size : Int)) == 19) = false := by simp; omega
        have HR2 := Lib.hid (HR.out (fun h => hs19 h.1))
        cases z0 : (((d[0]).toNat : Int) == 48)
        · obtain rfl : bd = false := by
            rw [HR2.out, decide_eq_false]
            rintro ⟨e, -⟩
            rw [e] at z0; cases z0
          clear h0 h19 hs19
          go_wp2
          go_meet
          exact ⟨rfl, rfl⟩
        · have e48 : d[0] = 48 := by
            apply UInt8.toNat_inj.1
            have h48 : (48 : UInt8).toNat = 48 := rfl
            simp only [beq_iff_eq] at z0
            omega
          have HE := Lib.hid e48
          clear e48
          by_cases hd2 : 1 < d.size
          · have hd3 : decide ((1 : Int) < (d.size : Int)) = true := by simp; omega
            obtain rfl : bd = true := by rw [HR2.out, decide_eq_true ⟨HE.out, .inl hd2⟩]
            clear h0 h19 hs19
            go_wp2
            go_meet
            exact ⟨rfl, rfl⟩
          · have hd3 : decide ((1 : Int) < (d.size : Int)) = false := by simp; omega
            obtain rfl : bd = ng := by
              rw [HR2.out]
              cases ng
              · rw [decide_eq_false]; rintro ⟨-, h | h⟩
                · exact hd2 h
                · cases h
              · rw [decide_eq_true ⟨HE.out, .inr rfl⟩]
            clear h0 h19 hs19
            cases bd
            all_goals
              go_wp2
              go_meet
              exact ⟨rfl, rfl⟩
      case rest =>
        obtain ⟨rfl, rfl⟩ := hcut
        cases bd
        rotate_left
        · have hb := of_decide_eq_true HBD.out
          have HN : Hid (numZ s.data.toList = none) := num_bad fun h => by
            have hL := HLN.out
            rcases hb with h0 | h0 | ⟨h0, h1⟩ | ⟨h0, h1⟩
            · exact h.ne (List.eq_nil_of_length_eq_zero (by omega))
            · have := h.le; omega
            · exact h1 (by rw [HDL.out]; exact h.top (by omega))
            · have := h.lead (by rw [← HDL.out]; exact h0)
              rw [HNG.out] at this
              rcases h1 with h1 | h1
              · omega
              · rw [h1] at this; cases this.2
          clear hb
          go_wp2
          go_ret2
          exact ⟨by rw [HN.out]; rfl, rfl⟩
        · have hb := of_decide_eq_false HBD.out
          have HOK : Hid ((∀ c ∈ d.data.toList, isD c) → NumOk s.data.toList) := fun hd => by
            have hL := HLN.out
            refine ⟨fun e => hb (.inl (by rw [e] at hL; simpa using hL.symm)), by rw [hL]; rcases Nat.lt_or_ge 19 d.size with h | h; exact absurd (.inr (.inl h)) hb; exact h, fun h => ?_, fun h => ?_, by rw [← HDL.out]; exact hd⟩
            · rw [← HDL.out]
              exact Classical.byContradiction fun hn => hb (.inr (.inr (.inl ⟨by omega, hn⟩)))
            · have h48 : d.data.toList.head? = some 48 := by rw [HDL.out]; exact h
              have hno : ¬ (1 < d.size ∨ ng = true) := fun hh => hb (.inr (.inr (.inr ⟨h48, hh⟩)))
              have hz : ¬ d.size = 0 := fun hh => hb (.inl hh)
              refine ⟨by rw [hL]; have := fun h => hno (.inl h); omega, ?_⟩
              rw [HNG.out]
              cases ng
              · rfl
              · exact absurd (.inr rfl) hno
          have hz : ¬ d.size = 0 := fun hh => hb (.inl hh)
          have hz19 : d.size ≤ 19 := by rcases Nat.lt_or_ge 19 d.size with h | h; exact absurd (.inr (.inl h)) hb; exact h
          have HSM : Hid (∀ i, i ≤ d.size → (∀ c ∈ d.data.toList.take i, isD c) → vD 0 (d.data.toList.take i) ≤ 1000000000000000000) := fun i hi hd => by
            by_cases h19 : d.size = 19
            · have : d.data.toList = topD := Classical.byContradiction fun hn => hb (.inr (.inr (.inl ⟨h19, hn⟩)))
              rw [this]; exact top_take i (by omega)
            · have hl : d.data.toList.length = d.size := by simp
              have h1 := vD_lt i (d.data.toList.take i) (by rw [List.length_take]; omega) hd
              have h2 : 10 ^ i ≤ 10 ^ 18 := Nat.pow_le_pow_right (by omega) (by omega)
              omega
          clear hb HBD
          go_wp2_with fail
          go_loop [6, 7] (fun n i => ∃ k : Nat, k ≤ d.size ∧ i = .int .i64 k ∧ n = .int .i64 (vD 0 (d.data.toList.take k) : Nat) ∧ Hid (∀ c ∈ d.data.toList.take k, isD c)) (fun _ i => d.size - (intOf i).toNat)
          case atStart => exact ⟨0, by omega, rfl, rfl, fun c hc => by simp at hc⟩
          case round =>
            obtain ⟨k, hk, rfl, rfl, HD⟩ := hrel
            by_cases hlt : k < d.size
            · by_cases hd : 48 ≤ d[k].toNat ∧ d[k].toNat ≤ 57
              · have z1 : decide (((d[k]).toNat : Int) < 48) = false := by simp; omega
                have z2 : decide ((57 : Int) < ((d[k]).toNat : Int)) = false := by simp; omega
                have HD2 : Hid (∀ c ∈ d.data.toList.take (k + 1), isD c) := fun c hc => by
                  rw [take_bytes d k hlt] at hc
                  rcases List.mem_append.1 hc with hc | hc
                  · exact HD.out c hc
                  · rw [List.mem_singleton.1 hc]; exact hd
                have HV : Hid (vD 0 (d.data.toList.take (k + 1)) = vD 0 (d.data.toList.take k) * 10 + ((d[k]).toNat - 48)) := by rw [Hid, take_bytes d k hlt, vD_snoc]
                have hv2 := HSM.out (k + 1) hlt HD2.out
                rw [HV.out] at hv2
                obtain ⟨x, hx⟩ : ∃ x, vD 0 (d.data.toList.take k) = x := ⟨_, rfl⟩
                rw [hx] at hv2 HV ⊢
                obtain ⟨c, hc⟩ : ∃ c, d[k].toNat = c := ⟨_, rfl⟩
                clear hx
                go_wp2
                go_round
                case rel => exact ⟨k + 1, by omega, by go_num, by rw [HV.out]; congr 1; omega, HD2⟩
                case measure => simp [intOf]; omega
              · have HN : Hid (numZ s.data.toList = none) := num_bad fun h => hd (h.dig _ (by rw [← HDL.out]; exact mem_bytes d k hlt))
                by_cases z1 : ((d[k]).toNat : Int) < 48
                · have z1' : decide (((d[k]).toNat : Int) < 48) = true := decide_eq_true z1
                  clear z1
                  go_wp2
                  go_ret2
                  exact ⟨by rw [HN.out]; rfl, rfl⟩
                · have z1' : decide (((d[k]).toNat : Int) < 48) = false := decide_eq_false z1
                  have z2' : decide ((57 : Int) < ((d[k]).toNat : Int)) = true := by simp; omega
                  clear z1
                  go_wp2
                  go_ret2
                  exact ⟨by rw [HN.out]; rfl, rfl⟩
            · obtain rfl : k = d.size := by omega
              have hall : d.data.toList.take d.size = d.data.toList := List.take_of_length_le (by simp)
              rw [hall] at HD ⊢
              have HNO := Lib.hid (HOK.out HD.out)
              have HVL : Hid (numZ s.data.toList = some (if ng then -(vD 0 d.data.toList : Int) else (vD 0 d.data.toList : Int))) := by
                rw [Hid, num_val HNO.out, HNG.out, HDL.out]
              have hv := HNO.out.val
              rw [← HDL.out] at hv
              obtain ⟨x, hx⟩ : ∃ x, vD 0 d.data.toList = x := ⟨_, rfl⟩
              rw [hx] at hv HVL ⊢
              clear hx hall
              cases ng
              · go_wp2
                go_ret2
                exact ⟨by rw [HVL.out]; rfl, rfl⟩
              · go_wp2
                go_ret2
                exact ⟨by rw [HVL.out]; rfl, rfl⟩
end Go.Proofs.YtnkephafpebfkaaGreatDoor
