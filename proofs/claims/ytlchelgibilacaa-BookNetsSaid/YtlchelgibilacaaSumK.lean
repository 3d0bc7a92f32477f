/- Contract of payrollref32.Sum. -/
import Derived.Test.YtlchelgibilacaaLns
namespace Go.Proofs.Ytlchelgibilacaa
open Go.RowKit

/-- the sum of the amounts of a kind -/
def sumK (l : List Ln) (k : Int) : Int := (l.map fun x => if x.kind = k then x.amt else 0).sum
theorem sumK_snoc (l : List Ln) (k : Int) (i : Nat) (h : i < l.length) : sumK (l.take (i + 1)) k = sumK (l.take i) k + if l[i].kind = k then l[i].amt else 0 := by
  unfold sumK
  rw [List.take_succ_eq_append_getElem h, List.map_append, List.sum_append]
  simp
theorem sumK_bound {l : List Ln} {M : Int} (_hM : 0 ≤ M) (h : ∀ x ∈ l, -M ≤ x.amt ∧ x.amt ≤ M) (k : Int) : -(M * l.length) ≤ sumK l k ∧ sumK l k ≤ M * l.length := by
  induction l with
  | nil => simp [sumK]
  | cons x r ih =>
    have h1 := h x (by simp)
    have h2 := ih fun y hy => h y (by simp [hy])
    have e : sumK (x :: r) k = (if x.kind = k then x.amt else 0) + sumK r k := by simp [sumK]
    rw [e, List.length_cons, Int.natCast_add, Int.mul_add]
    simp only [Int.natCast_one, Int.mul_one]
    split <;> omega
set_option maxHeartbeats 800000 in
theorem Sum_any (v : Value) (l : List Ln) (k : Int) (w : World) (hv : Sl w 3 v (lns l)) (hl : l.length ≤ 1000000) (hm : ∀ x ∈ l, -1000000000000 ≤ x.amt ∧ x.amt ≤ 1000000000000) :
    Calls Try.prog 34 #[v, .int .i64 k] w fun e w' => e = .returned (.int .i64 (sumK l k)) ∧ w = w' := by
  obtain ⟨A, cap, rfl, h1, h2, x1, h3⟩ := hv
  rw [lns_len] at h1 ⊢
  unfold maxLen at h2
  have H3 := Lib.hid h3
  have HM := Lib.hid hm
  clear h3 x1 hm
  go_enter Try.func34, Try.ntmps34
  go_wp2
  go_loop [5, 6] (fun s i => ∃ j : Nat, j ≤ l.length ∧ i = .int .i64 j ∧ s = .int .i64 (sumK (l.take j) k)) (fun _ i => l.length - (intOf i).toNat)
  case atStart => exact ⟨0, by omega, rfl, rfl⟩
  case round =>
    obtain ⟨j, hj, rfl, rfl⟩ := hrel
    by_cases hlt : j < l.length
    · rcases H3.out with h | ⟨b, off, rfl, hc0⟩
      · exact (lns_pos hlt h).elim
      · obtain ⟨c0, c1, c2⟩ := hc0.ln hlt
        have hb := sumK_bound (l := l.take j) (M := 1000000000000) (by omega) (fun x hx => HM.out x (List.mem_of_mem_take hx)) k
        have hlj : ((l.take j).length : Int) = j := by rw [List.length_take, Nat.min_eq_left (by omega)]
        rw [hlj] at hb
        have ha := HM.out l[j] (List.getElem_mem hlt)
        have hsn := Lib.hid (sumK_snoc l k j hlt)
        clear H3 hc0 hlj
        cases e1 : (l[j].kind == k)
        · have hN : Hid (sumK (l.take j) k = sumK (l.take (j + 1)) k) := by rw [Hid, hsn.out, if_neg (by simpa using e1)]; omega
          go_wp2
          go_round
          case rel => exact ⟨j + 1, by omega, by go_num, by rw [hN.out]⟩
          case measure => simp [intOf]; omega
        · have hN : Hid (sumK (l.take (j + 1)) k = sumK (l.take j) k + l[j].amt) := by rw [Hid, hsn.out, if_pos (by simpa using e1)]
          go_wp2
          go_round
          case rel => exact ⟨j + 1, by omega, by go_num, by rw [hN.out]⟩
          case measure => simp [intOf]; omega
    · obtain rfl : j = l.length := by omega
      go_wp2
      go_ret
      exact ⟨ret_int (by first | rfl | rw [List.take_length]), rfl⟩
end Go.Proofs.Ytlchelgibilacaa
