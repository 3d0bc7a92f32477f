/- The law BookNets: it returns true. -/
import Derived.Test.YtlchelgibilacaaNetS
import Derived.Test.YtlchelgibilacaaAdds
namespace Go.Proofs.Ytlchelgibilacaa
open Go.RowKit

theorem CellsAt.int {w : World} {b off : Nat} {l : List Int} (h : CellsAt w 1 b off (ints l)) {k : Nat} (hk : k < l.length) : w.cell? ⟨b, off + k, none⟩ = some (.int .i64 l[k]) := by
  have := h.2 k [.int .i64 l[k]] (by simp [ints, hk]) 0 _ rfl
  simpa using this
theorem ints_pos {l : List Int} {k : Nat} (hlt : k < l.length) (h : ints l = []) : False := by
  have := congrArg List.length h
  rw [ints_len] at this; simp only [List.length_nil] at this; omega

set_option maxRecDepth 100000 in
set_option maxHeartbeats 1600000 in
theorem BookNets_any (v : Value) (zs : List Int) (a : Int) (w : World) (hv : Sl w 1 v (ints zs)) :
    Calls Try.prog 9 #[v, .int .i64 a] w fun e w' => e = .returned (.bool true) ∧ Below w.heap.size w w' := by
  have HV := Lib.hid hv
  clear hv
  go_enter Try.func9, Try.ntmps9
  go_wp2_with fail
  refine (new_any v zs w HV.out).mono ?_
  rintro e w2 ⟨rfl, hd2, hB2⟩
  obtain ⟨D, hDe⟩ : ∃ D, D = w.heap.size := ⟨_, rfl⟩
  rw [← hDe] at hd2 ⊢
  have hDlo : w.heap.size ≤ D := by omega
  clear HV hDe
  have hs2 := hB2.size
  have hDlt := hd2.lt
  go_wp2_with fail
  refine (DBook_any D 0 6 w2 hd2 (by omega) (by omega)).mono ?_
  rintro e w3 ⟨x, b, R, d3, rfl, hgood, hR, hlen, hown3, hd3, hdd3, hg3⟩
  have hB3 := hB2.grown hg3 hs2 (fun g hg => by cases hg; exact hDlo)
  have hs3 := hB3.size
  have HG := Lib.hid hgood
  have HS3 := Lib.hid (hown3.sl (by omega))
  clear hB2 hg3 hd2 hd3 hgood hown3
  go_wp2_with fail
  refine (Mod_any a 4 w3 (by omega) (by omega)).mono ?_
  rintro e w4 ⟨rfl, rfl⟩
  have he1 := Int.emod_nonneg a (show (4 : Int) ≠ 0 by omega)
  have he2 := Int.emod_lt_of_pos a (show (0 : Int) < 4 by omega)
  obtain ⟨K, hK⟩ : ∃ K, K = a % 4 := ⟨_, rfl⟩
  rw [← hK] at he1 he2 ⊢
  clear hK
  obtain ⟨n, hn⟩ : ∃ n, n = 1 + K := ⟨_, rfl⟩
  go_wp2_with fail
  rw [← hn]
  clear hn
  refine (Periods_any _ b n w3 HS3.out).mono ?_
  rintro e w5 ⟨p, rfl, hown5, hb5⟩
  have hB5 := below_after hB3 hb5 hs3
  have hs5 := hB5.size
  have hpl := periods_len (b := b) n
  have HN := Lib.hid (nets_ok HG.out (by omega) n)
  obtain ⟨ps, hps⟩ : ∃ ps, ps = periodsOf b n := ⟨_, rfl⟩
  rw [← hps] at hown5 hpl HN
  have HS5 := Lib.hid (HS3.out.below hb5)
  clear hps HS3 hb5 hB3
  obtain ⟨A, cp, rfl⟩ := hown5.form
  rw [ints_len] at hown5 ⊢
  have HP5 := Lib.hid (hown5.sl (by omega))
  clear hown5
  go_wp2_with fail
  go_loopw [8, 9] (fun s i wr => ∃ j : Nat, j ≤ ps.length ∧ i = .int .i64 j ∧ s = .int .i64 (perNet b n (ps.take j)) ∧ Below w5.heap.size w5 wr) (fun _ i _ => ps.length - (intOf i).toNat)
  case atStart => exact ⟨0, by omega, rfl, rfl, Below.refl _ _⟩
  case round =>
    obtain ⟨j, hj, rfl, rfl, hb⟩ := hrel
    have hbs := hb.size
    by_cases hlt : j < ps.length
    · obtain ⟨A', cap', hA, h1, h2, _, hc0⟩ := HP5.out
      injection hA with hA1 hA2 hA3
      subst hA1 hA3
      rcases hc0 with h | ⟨bb, off, rfl, hc0⟩
      · exact (ints_pos hlt h).elim
      · have c0 := (hc0.below hb hc0.1).int hlt
        have hbd := perNet_bound HG.out (by omega) n (ps.take j)
        have hlj : ((ps.take j).length : Int) = j := by rw [List.length_take, Nat.min_eq_left (by omega)]
        rw [hlj] at hbd
        have hr := res_len HG.out (by omega) n ps[j]
        have ha := res_amt HG.out (by omega) n ps[j]
        have hk := sumK_bound (by omega) ha 9
        have hsn := Lib.hid (perNet_snoc b n ps j hlt)
        rw [ints_len] at h1
        clear hc0 hlj hA2
        go_wp2_with fail
        refine (Result_any _ b n ps[j] _ (HS5.out.below hb)).mono ?_
        rintro e w6 ⟨y, rfl, hown6, hb6⟩
        have hB6 := below_after hb hb6 hbs
        go_wp2_with fail
        refine (Sum_any _ _ 9 _ (hown6.sl (by omega)) (by omega) (fun x hx => by have := ha x hx; omega)).mono ?_
        rintro e w7 ⟨rfl, rfl⟩
        clear ha hown6 hb6
        go_wp2_with fail
        go_roundw
        case rel => exact ⟨j + 1, by omega, by go_num, by rw [hsn.out], hB6⟩
        case measure => simp [intOf]; omega
    · obtain rfl : j = ps.length := by omega
      have hB := below_after hB5 hb hs5
      have hs := hB.size
      rw [List.take_length, HN.out]
      go_wp2_with fail
      refine (Net_any _ b n _ (HS5.out.below hb)).mono ?_
      rintro e w8 ⟨rfl, hb8⟩
      have hB8 := below_after hB hb8 hs
      have hs8 := hB8.size
      go_wp2_with fail
      refine (awake_any _).mono ?_
      rintro e w12 ⟨rfl, hb12⟩
      go_wp2
      go_ret
      exact ⟨rfl, below_after hB8 hb12 hs8⟩

end Go.Proofs.Ytlchelgibilacaa
