/- Contracts of payrollref1.size and Decimal. -/
import Derived.Test.YtnkephafpebfkaaGreatDoorTab
import Derived.Test.YtnkephafpebfkaaGreatDoorExt
import Derived.Laws.IdiomStrings
namespace Go.Proofs.YtnkephafpebfkaaGreatDoor
open Go.RowKit

theorem size_any (n : Int) (w : World) (h0 : -9223372036854775808 ≤ n) (h1 : n ≤ 9223372036854775807) :
    Calls Tryz.prog 60 #[.int .i64 n] w fun e w' => e = .returned (.int .u64 (n.natAbs : Nat)) ∧ w' = w := by
  by_cases hn : n < 0
  · go_enter Tryz.func60, Tryz.ntmps60
    go_wp2
    go_ret
    exact ⟨ret_int (by omega), rfl⟩
  · go_enter Tryz.func60, Tryz.ntmps60
    go_wp2
    go_ret
    exact ⟨ret_int (by omega), rfl⟩
/-- a string of one byte -/
theorem run_one (w : World) (x : Int) (h0 : 0 ≤ x) (h1 : x < 256) : (convert 66 9 (.slice (some ⟨w.heap.size, 0, none⟩) 1 1)).run Tryz.prog (w.alloc (.cells #[.int .u8 x] 5)) = .ok (.string ⟨#[UInt8.ofNat x.toNat]⟩) (w.alloc (.cells #[.int .u8 x] 5)) := by
  refine run_convert_bytes_back (P := Tryz.prog) _ _ _ _ ⟨w.heap.size, 0, none⟩ 1 [UInt8.ofNat x.toNat] Tryz.underlying66 Tryz.underlying5 Tryz.underlying9 ?_
  intro j hj
  obtain rfl : j = 0 := by simpa using hj
  have : ((UInt8.ofNat x.toNat).toNat : Int) = x := by rw [UInt8.toNat_ofNat']; omega
  rw [show (⟨w.heap.size, 0, none⟩ : Addr).add 0 = ⟨w.heap.size, 0, none⟩ from rfl, World.cell?_alloc_new]
  simp only [List.getElem_cons_zero, this]; rfl
theorem dec_step (N : Nat) (m : Nat) (l : List UInt8) (h : l = [] ∧ m = N ∨ l ≠ [] ∧ (if m = 0 then l = Lib.decDigits N else Lib.decDigits N = Lib.decDigits m ++ l)) (hg : 0 < m ∨ l = []) :
    UInt8.ofNat (48 + m % 10) :: l ≠ [] ∧ (if m / 10 = 0 then UInt8.ofNat (48 + m % 10) :: l = Lib.decDigits N else Lib.decDigits N = Lib.decDigits (m / 10) ++ UInt8.ofNat (48 + m % 10) :: l) := by
  refine ⟨by simp, ?_⟩
  have key : Lib.decDigits N = Lib.decDigits m ++ l := by
    rcases h with ⟨rfl, rfl⟩ | ⟨hne, h⟩
    · simp
    · have : m ≠ 0 := by rcases hg with hg | hg; omega; exact absurd hg hne
      rwa [if_neg this] at h
  by_cases hm : m < 10
  · rw [if_pos (by omega), key, dec_small m hm, Nat.mod_eq_of_lt hm]; rfl
  · rw [if_neg (by omega), key, dec_big m (by omega)]; simp
set_option maxRecDepth 100000 in
set_option maxHeartbeats 1600000 in
theorem Decimal_any (n : Int) (w : World) (h0 : -9223372036854775808 ≤ n) (h1 : n ≤ 9223372036854775807) :
    Calls Tryz.prog 38 #[.int .i64 n] w (RetTxt (Lib.itoa n) w) := by
  go_enter Tryz.func38, Tryz.ntmps38
  go_wp2_with fail
  refine (size_any n _ h0 h1).mono ?_
  rintro e w' ⟨rfl, rfl⟩
  obtain ⟨N, hN⟩ : ∃ N, N = n.natAbs := ⟨_, rfl⟩
  rw [← hN]
  have hNl : N < 18446744073709551616 := by omega
  have HN := Lib.hid hN
  clear hN
  go_wp2_with fail
  go_loopw [3, 4] (fun x y wr => ∃ (s : ByteArray) (m : Nat), x = .string s ∧ y = .int .u64 m ∧ m ≤ N ∧ Hid (s.data.toList = [] ∧ m = N ∨ s.data.toList ≠ [] ∧ (if m = 0 then s.data.toList = Lib.decDigits N else Lib.decDigits N = Lib.decDigits m ++ s.data.toList)) ∧ s.size ≤ 20 ∧ Below w'.heap.size w' wr) (fun x y _ => (intOf y).toNat + match x with | .string s => (if s.data.toList = [] then 1 else 0) | _ => 0)
  case atStart => exact ⟨_, N, rfl, rfl, Nat.le_refl _, .inl ⟨rfl, rfl⟩, Nat.zero_le _, Below.refl _ _⟩
  case round =>
    obtain ⟨s, m, rfl, rfl, hm, HR, hsl, hB⟩ := hrel
    have HL : Hid (s.size + (if m = 0 then 0 else 1) ≤ (Lib.decDigits N).length) := by
      have e : s.size = s.data.toList.length := by simp
      have hp : 0 < (Lib.decDigits N).length := List.length_pos_iff.2 (dec_ne N)
      rcases HR.out with ⟨h, rfl⟩ | ⟨_, h⟩
      · rw [Hid, e, h]; split <;> simp <;> omega
      · by_cases hz : m = 0
        · rw [if_pos hz] at h; rw [Hid, if_pos hz, e, h]; omega
        · rw [if_neg hz] at h
          have := List.length_pos_iff.2 (dec_ne m)
          rw [Hid, if_neg hz, e, h, List.length_append]; omega
    have hN20 := dec_len N 19 (by omega)
    have hCV := run_one wr (48 + (m : Int) % 10) (by omega) (by omega)
    rw [show (48 + (m : Int) % 10).toNat = 48 + m % 10 by omega] at hCV
    obtain ⟨c, hc⟩ : ∃ c : UInt8, c = UInt8.ofNat (48 + m % 10) := ⟨_, rfl⟩
    rw [← hc] at hCV
    have HCC := Lib.hid hc
    clear hc
    by_cases hg : 0 < m ∨ s.data.toList = []
    · have HS := Lib.hid (dec_step N m s.data.toList HR.out hg)
      rw [← HCC.out] at HS
      have hs1 : s.size ≤ 19 := by
        have := HL.out
        by_cases hz : m = 0
        · rcases hg with hg | hg
          · omega
          · have e2 : s.size = s.data.toList.length := by simp
            rw [hg, List.length_nil] at e2; omega
        · rw [if_neg hz] at this; omega
      have HB : Hid ((⟨#[c]⟩ ++ s : ByteArray).data.toList = c :: s.data.toList) := by
        rw [Hid, app_list]; rfl
      have fin : ∀ wq, wq = wr.alloc (.cells #[.int .u8 (48 + (m : Int) % 10)] 5) → ∃ (s' : ByteArray) (m' : Nat), (⟨#[c]⟩ ++ s : ByteArray) = s' ∧ ((m / 10 : Nat) : Int) = m' ∧ m' ≤ N ∧ Hid (s'.data.toList = [] ∧ m' = N ∨ s'.data.toList ≠ [] ∧ (if m' = 0 then s'.data.toList = Lib.decDigits N else Lib.decDigits N = Lib.decDigits m' ++ s'.data.toList)) ∧ s'.size ≤ 20 ∧ Below w'.heap.size w' wq := by
        intro wq hq
        subst hq
        refine ⟨_, m / 10, rfl, rfl, by omega, ?_, ?_, hB.alloc hB.size _⟩
        · rw [Hid, HB.out]; exact .inr HS.out
        · rw [ByteArray.size_append]; have : (⟨#[c]⟩ : ByteArray).size = 1 := rfl
          omega
      have FIN := Lib.hid fin
      clear fin
      obtain ⟨s', m', e1, e2, h3, h4, h5, h6⟩ := FIN.out _ rfl
      by_cases hm0 : 0 < m
      · clear hg
        have E1 := Lib.hid e1
        have E2 := Lib.hid e2
        clear e1 e2
        go_wp2_with fail
        go_roundw
        case rel => exact ⟨s', m', by rw [← E1.out], by rw [← E2.out]; go_num, h3, h4, h5, h6⟩
        case measure =>
          simp [intOf]
          split <;> simp <;> omega
      · obtain rfl : m = 0 := by omega
        have hse : s.data.toList = [] := by rcases hg with h | h; omega; exact h
        obtain rfl : s = ⟨#[]⟩ := bytes_ext hse
        clear hg
        have E1 := Lib.hid e1
        have E2 := Lib.hid e2
        clear e1 e2 hse
        have hCV0 : (convert 66 9 (.slice (some ⟨wr.heap.size, 0, none⟩) 1 1)).run Tryz.prog (wr.alloc (.cells #[.int .u8 48] 5)) = .ok (.string ⟨#[c]⟩) (wr.alloc (.cells #[.int .u8 48] 5)) := hCV
        clear hCV
        go_wp2_with fail
        go_roundw
        case rel => exact ⟨s', m', by rw [← E1.out], by rw [← E2.out]; go_num, h3, h4, h5, h6⟩
        case measure => simp [intOf]
    · have hm0 : m = 0 := by omega
      subst hm0
      have hse : s.data.toList ≠ [] := by intro h; exact hg (.inr h)
      have HT : Hid (s.data.toList = Lib.decDigits N) := by
        rcases HR.out with ⟨h, _⟩ | ⟨_, h⟩
        · exact absurd h hse
        · rw [if_pos rfl] at h; exact h
      have hs0 : 0 < s.size := by
        have e2 : s.size = s.data.toList.length := by simp
        have := List.length_pos_iff.2 hse
        omega
      have t1 := notEmpty hs0
      have t2 := notNil hs0
      clear hg hse
      by_cases hn : n < 0
      · go_wp2_with fail
        go_ret
        exact RetTxt.of (by rw [app_list, HT.out, HN.out, itoa_neg' n hn]; rfl) hB
      · go_wp2_with fail
        go_ret
        exact RetTxt.of (by rw [HT.out, HN.out, itoa_pos' n (by omega)]) hB
end Go.Proofs.YtnkephafpebfkaaGreatDoor
