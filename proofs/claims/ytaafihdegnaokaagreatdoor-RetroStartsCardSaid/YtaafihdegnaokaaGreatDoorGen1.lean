/- Contracts of package paygen: Mod. -/
import Derived.Test.YtaafihdegnaokaaGreatDoorGen0
namespace Go.Proofs.YtaafihdegnaokaaGreatDoor
open Go.RowKit

theorem Mod_any (v n : Int) (w : World) (hn : 0 < n) (hn2 : n ≤ 1099511627776) :
    Calls Tryz.prog 13 #[.int .i64 v, .int .i64 n] w fun e w' => e = .returned (.int .i64 (v % n)) ∧ w = w' := by
  have h1 := Int.tmod_lt_of_pos v hn
  have h2 := tmod_lo v n hn
  have H := Lib.hid (emod_of_tmod v n hn)
  have hz : (n == 0) = false := beq_eq_false_iff_ne.2 (by omega)
  by_cases h0 : v.tmod n < 0
  · go_enter Tryz.func13, Tryz.ntmps13
    go_wp2
    go_ret
    exact ⟨ret_int (by rw [H.out, if_pos (by omega)]), rfl⟩
  · go_enter Tryz.func13, Tryz.ntmps13
    go_wp2
    go_ret
    exact ⟨ret_int (by rw [H.out, if_neg (by omega)]), rfl⟩

end Go.Proofs.YtaafihdegnaokaaGreatDoor
