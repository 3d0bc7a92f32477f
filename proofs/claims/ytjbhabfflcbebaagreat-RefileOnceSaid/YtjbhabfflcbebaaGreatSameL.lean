/- Contract of payrollref32.Same, at equal lists. -/
import Derived.Test.YtjbhabfflcbebaaGreatLns
import Derived.Deep.QuietTactic
import Derived.BigQuiet
namespace Go.Proofs.YtjbhabfflcbebaaGreat
open Go.RowKit

set_option maxRecDepth 100000 in
set_option maxHeartbeats 1600000 in
theorem SameL_any (u v : Value) (l : List Ln) (w : World) (hu : Sl w 3 u (lns l)) (hv : Sl w 3 v (lns l)) :
    Calls Tryz.prog 20 #[u, v] w fun e w' => e = .returned (.bool true) ∧ Below w.heap.size w w' := by
  obtain ⟨A, cap, rfl, h1, h2, x1, h3⟩ := hu
  obtain ⟨B, cup, rfl, k1, k2, x2, k3⟩ := hv
  rw [lns_len] at h1 k1 ⊢
  unfold maxLen at h2 k2
  have H3 := Lib.hid h3
  have K3 := Lib.hid k3
  clear h3 k3 x1 x2
  have hne : ((l.length : Int) != (l.length : Int)) = false := by simp
  go_enter Tryz.func20, Tryz.ntmps20
  go_wp2
  go_loopw [5] (fun i wr => ∃ k : Nat, k ≤ l.length ∧ i = .int .i64 k ∧ Below w.heap.size w wr) (fun i _ => l.length - (intOf i).toNat)
  case atStart => exact ⟨0, by omega, rfl, Below.refl _ _⟩
  case round =>
    obtain ⟨k, hk, rfl, hb⟩ := hrel
    by_cases hlt : k < l.length
    · rcases H3.out with h | ⟨b, off, rfl, hc0⟩
      · exact (lns_pos hlt h).elim
      rcases K3.out with h | ⟨b2, off2, rfl, hd0⟩
      · exact (lns_pos hlt h).elim
      obtain ⟨c0, c1, c2⟩ := (hc0.below hb hc0.1).ln hlt
      obtain ⟨d0, d1, d2⟩ := (hd0.below hb hd0.1).ln hlt
      clear H3 K3 hc0 hd0
      go_wp2
      go_quiet (fail)
      go_wp2
      go_roundw
      case rel => exact ⟨k + 1, by omega, by go_num, Below.draws hb _⟩
      case measure => simp [intOf]; omega
    · go_wp2
      go_ret
      exact ⟨rfl, hb⟩

end Go.Proofs.YtjbhabfflcbebaaGreat
