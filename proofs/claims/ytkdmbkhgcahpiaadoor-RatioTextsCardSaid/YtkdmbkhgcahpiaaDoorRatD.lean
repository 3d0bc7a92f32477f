/- Contract of payrollref1.digits. -/
import Derived.Test.YtkdmbkhgcahpiaaDoorRatG
namespace Go.Proofs.YtkdmbkhgcahpiaaDoor
open Go.RowKit

theorem dgR_nil (k n : Nat) : dgR k n [] = (n, []) := by cases k <;> rfl
theorem dgR_stop (k n : Nat) (c : UInt8) (r : List UInt8) (h : ¬ (48 ≤ c.toNat ∧ c.toNat ≤ 57)) : dgR k n (c :: r) = (n, c :: r) := by
  cases k with
  | zero => rfl
  | succ k => rw [dgR, if_neg h]
theorem dgR_go (k n : Nat) (c : UInt8) (r : List UInt8) (h : 48 ≤ c.toNat ∧ c.toNat ≤ 57) : dgR (k + 1) n (c :: r) = dgR k (n * 10 + (c.toNat - 48)) r := by rw [dgR, if_pos h]
theorem head_cons (s : ByteArray) (h : 0 < s.size) : s.data.toList = s[0] :: (s.extract 1 s.size).data.toList := by
  have e : (s.extract 1 s.size).data.toList = s.data.toList.drop 1 := by
    exact Lib.extract_to_end s 1
  rw [e]
  have hl : 0 < s.data.toList.length := by simpa using h
  have := List.drop_eq_getElem_cons hl
  rw [List.drop_zero] at this
  rw [this]; rfl
theorem digits_step {n k : Nat} {c : Nat} (hn : n < 10 ^ k) (hc : c ≤ 9) : n * 10 + c < 10 ^ (k + 1) := by
  rw [Nat.pow_succ]; omega
theorem digits_small {n k : Nat} (hn : n < 10 ^ k) (hk : k < 13) : n < 1000000000000 :=
  Nat.lt_of_lt_of_le hn (Nat.le_trans (Nat.pow_le_pow_right (by omega) (show k ≤ 12 by omega)) (by decide))
set_option maxRecDepth 100000 in
set_option maxHeartbeats 1600000 in
theorem digits_any (s0 : ByteArray) (w : World) (hs0 : s0.size ≤ maxLen) :
    Calls Tryd.prog 39 #[.string s0] w fun e w' => ∃ s : ByteArray, e = .returned (.tuple #[.int .i64 ((dgR 13 0 s0.data.toList).1 : Nat), .string s]) ∧ Hid (s.data.toList = (dgR 13 0 s0.data.toList).2) ∧ s.size ≤ s0.size ∧ Below w.heap.size w w' := by
  unfold maxLen at hs0
  go_enter Tryd.func39, Tryd.ntmps39
  go_wp2_with fail
  go_loopw [0, 4, 5] (fun x y z wr => ∃ (s : ByteArray) (n k : Nat), x = .string s ∧ y = .int .i64 n ∧ z = .int .i64 k ∧ k ≤ 13 ∧ n < 10 ^ k ∧ s.size ≤ s0.size ∧ Hid (dgR (13 - k) n s.data.toList = dgR 13 0 s0.data.toList) ∧ Below w.heap.size w wr) (fun _ _ z _ => 13 - (intOf z).toNat)
  case atStart => exact ⟨s0, 0, 0, rfl, rfl, rfl, by omega, by omega, Nat.le_refl _, rfl, Below.refl _ _⟩
  case round =>
    obtain ⟨s, n, k, rfl, rfl, rfl, hk, hn, hsl, HR, hB⟩ := hrel
    by_cases hlt : k < 13
    · obtain ⟨j, hj⟩ : ∃ j, 13 - k = j + 1 := ⟨12 - k, by omega⟩
      have hj2 : 13 - (k + 1) = j := by omega
      rw [hj] at HR
      have HJ := Lib.hid hj2
      clear hj hj2
      by_cases h0 : s.size = 0
      · obtain rfl := size_zero h0
        have HE : Hid (dgR 13 0 s0.data.toList = (n, [])) := HR.out.symm.trans (dgR_nil _ _)
        go_wp2_with fail
        go_ret2
        exact ⟨ByteArray.empty, by rw [HE.out]; rfl, by rw [Hid, HE.out]; rfl, hsl, hB⟩
      · have hpos : 0 < s.size := by omega
        have HC := Lib.hid (head_cons s hpos)
        have z0 : ((s.size : Int) == 0) = false := by rw [eq_dec, decide_eq_false_iff_not]; omega
        by_cases hd : 48 ≤ s[0].toNat ∧ s[0].toNat ≤ 57
        · have hn2 := digits_small hn hlt
          have HN : Hid (n * 10 + ((s[0]).toNat - 48) < 10 ^ (k + 1)) := digits_step hn (by omega)
          have HG : Hid (dgR (13 - (k + 1)) (n * 10 + ((s[0]).toNat - 48)) (s.extract 1 s.size).data.toList = dgR 13 0 s0.data.toList) := by
            rw [Hid, HJ.out, ← HR.out, HC.out, dgR_go _ _ _ _ hd]
          have z1 : decide (((s[0]).toNat : Int) < 48) = false := by simp; omega
          have z2 : decide ((57 : Int) < ((s[0]).toNat : Int)) = false := by simp; omega
          have hsz : (s.extract 1 s.size).size ≤ s.size := by rw [ByteArray.size_extract]; omega
          clear hn
          go_wp2_with fail
          go_region
          all_goals
            go_wp2_with fail
            go_roundw
            case rel => exact ⟨_, n * 10 + ((s[0]).toNat - 48), k + 1, rfl, by congr 1; omega, by go_num, by omega, HN.out, by omega, HG, hB.drew⟩
            case measure => simp [intOf]; omega
        · have HE : Hid (dgR 13 0 s0.data.toList = (n, s.data.toList)) := by
            rw [Hid, ← HR.out, HC.out]; exact dgR_stop _ _ _ _ hd
          by_cases hd1 : (s[0]).toNat < 48
          · have z1 : decide (((s[0]).toNat : Int) < 48) = true := by simp; omega
            clear hd hd1
            go_wp2_with fail
            go_ret2
            exact ⟨s, by rw [HE.out]; rfl, by rw [Hid, HE.out], hsl, hB⟩
          · have z1 : decide (((s[0]).toNat : Int) < 48) = false := by simp; omega
            have z2 : decide ((57 : Int) < ((s[0]).toNat : Int)) = true := by simp; omega
            clear hd hd1
            go_wp2_with fail
            go_ret2
            exact ⟨s, by rw [HE.out]; rfl, by rw [Hid, HE.out], hsl, hB⟩
    · obtain rfl : k = 13 := by omega
      have HE : Hid (dgR 13 0 s0.data.toList = (n, s.data.toList)) := HR.out.symm
      go_wp2_with fail
      go_ret2
      exact ⟨s, by rw [HE.out]; rfl, by rw [Hid, HE.out], hsl, hB⟩
end Go.Proofs.YtkdmbkhgcahpiaaDoor
