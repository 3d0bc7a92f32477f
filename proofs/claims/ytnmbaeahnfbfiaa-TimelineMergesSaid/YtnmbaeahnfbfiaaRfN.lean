/- payrollref6.counting. -/
import Derived.Test.YtnmbaeahnfbfiaaRfC
import Derived.Test.YtnmbaeahnfbfiaaChgT
import Derived.Test.YtnmbaeahnfbfiaaSet1
import Derived.Test.YtnmbaeahnfbfiaaExt
namespace Go.Proofs.Ytnmbaeahnfbfiaa
open Go.RowKit

theorem cnt_no {l : List Chg} {kn : Int} {c : Chg} (h : ¬ c.k ≤ kn) : cntB l kn c = false := by
  rw [Bool.eq_false_iff]; intro hh; exact h (cnt_iff.1 hh).1
theorem cnt_out {l : List Chg} {kn : Int} {c x : Chg} (hx : x ∈ l) (h1 : x.f = c.f) (h2 : x.k ≤ kn) (h3 : ltC c x) : cntB l kn c = false := by
  rw [Bool.eq_false_iff]; intro hh; exact (cnt_iff.1 hh).2 x hx h1 h2 h3
theorem cnt_yes {l : List Chg} {kn : Int} {c : Chg} (h : c.k ≤ kn) (hh : ∀ j (hj : j < l.length), ¬ ((l[j]).f = c.f ∧ (l[j]).k ≤ kn ∧ ltC c l[j])) : cntB l kn c = true :=
  cnt_iff.2 ⟨h, fun x hx h1 h2 h3 => by obtain ⟨j, hj, rfl⟩ := List.mem_iff_getElem.1 hx; exact hh j hj ⟨h1, h2, h3⟩⟩
def CntP (w : World) (b : Bool) (e : Ending) (w' : World) : Prop := e = .returned (.bool b) ∧ Below w.heap.size w w'
def CnR (w : World) (l : List Chg) (kn : Int) (c : Chg) (i : Value) (wr : World) : Prop :=
  ∃ k : Nat, k ≤ l.length ∧ i = .int .i64 k ∧ Below w.heap.size w wr ∧ Hid (∀ j (hj : j < l.length), j < k → ¬ ((l[j]).f = c.f ∧ (l[j]).k ≤ kn ∧ ltC c l[j]))
theorem cnr_next {l : List Chg} {kn : Int} {c : Chg} {k : Nat} (h : ∀ j (hj : j < l.length), j < k → ¬ ((l[j]).f = c.f ∧ (l[j]).k ≤ kn ∧ ltC c l[j])) (hk : k < l.length) (hn : ¬ ((l[k]).f = c.f ∧ (l[k]).k ≤ kn ∧ ltC c l[k])) :
    ∀ j (hj : j < l.length), j < k + 1 → ¬ ((l[j]).f = c.f ∧ (l[j]).k ≤ kn ∧ ltC c l[j]) := fun j hj h' => by
  by_cases e : j = k
  · subst e; exact hn
  · exact h j hj (by omega)

set_option maxRecDepth 100000 in
set_option maxHeartbeats 2000000 in
theorem counting_any (v : Value) (l : List Chg) (i : Nat) (kn : Int) (w : World) (hv : Sl w 4 v (chgs l)) (hi : i < l.length) (hl : l.length ≤ 1024) :
    Calls Try.prog 63 #[v, .int .i64 i, .int .i64 kn] w (CntP w (cntB l kn l[i])) := by
  have fv : ∃ P c, v = .slice P l.length c := by obtain ⟨P, c, h, _⟩ := hv; rw [chgs_len] at h; exact ⟨P, c, h⟩
  obtain ⟨A, cap, rfl⟩ := fv
  obtain ⟨b, off, rfl, hc0⟩ := hv.cells (by rw [chgs_len]; omega)
  obtain ⟨c0, c1, c2, c3⟩ := hc0.chg hi
  have HC := Lib.hid hc0
  have hbl := hc0.1
  clear hc0 hv
  obtain ⟨c, hc⟩ : ∃ c, l[i] = c := ⟨_, rfl⟩
  rw [hc] at c0 c1 c2 c3 ⊢
  have HI := Lib.hid hc
  clear hc
  by_cases hk : c.k ≤ kn
  · go_enter Try.func63, Try.ntmps63
    go_wp2
    clear c0 c1 c2 c3
    go_loopw [7] (fun i wr => CnR w l kn c i wr) (fun i _ => l.length - (intOf i).toNat)
    case atStart => exact ⟨0, by omega, rfl, Below.refl _ _, fun j _ h => by omega⟩
    case round =>
      obtain ⟨k, hkl, rfl, hb, HE⟩ := hrel
      obtain ⟨wo, rfl⟩ : ∃ wo : World, wo = wr := ⟨_, rfl⟩
      have hbs := hb.size
      by_cases hlt : k < l.length
      · obtain ⟨d0, d1, d2, d3⟩ := (HC.out.below hb HC.out.1).chg hlt
        obtain ⟨c0, c1, c2, c3⟩ := (HC.out.below hb HC.out.1).chg hi
        rw [HI.out] at c0 c1 c2 c3
        obtain ⟨x, hx⟩ : ∃ x, l[k] = x := ⟨_, rfl⟩
        have hm : x ∈ l := by rw [← hx]; exact List.getElem_mem hlt
        have HN := Lib.hid (cnr_next HE.out hlt)
        rw [hx] at d0 d1 d2 d3 HN
        clear hx
        have hbo : b < wo.heap.size := by omega
        have e0 := ext_cell hbo d0
        have e1 := ext_cell hbo d1
        have e2 := ext_cell hbo d2
        have e3 := ext_cell hbo d3
        have g0 := ext_cell hbo c0
        have g1 := ext_cell hbo c1
        have g2 := ext_cell hbo c2
        have g3 := ext_cell hbo c3
        have hbx : ∀ y : Ext wo, Hid (Below w.heap.size w y.val) := fun y => hb.trans (y.property.mono hbs)
        have i1 : (k : Int) < (l.length : Int) := by omega
        have i2 : (i : Int) < (l.length : Int) := by omega
        clear c0 c1 c2 c3 d0 d1 d2 d3
        cases hf : (x.f == c.f)
        · have HR := Lib.hid (HN.out (fun h => by simp [h.1] at hf))
          clear HN
          go_wp2_with fail
          refine region_ext (by kernel_rfl) (by kernel_rfl) ?_
          repeat (go_big_quiet_step (fail))
          refine wpQuiet_nil ?_
          rintro _ ⟨y, rfl⟩
          go_wp2
          go_roundw
          case rel => exact ⟨k + 1, by omega, by go_num, (hbx y).out, HR⟩
          case measure => simp [intOf]; omega
        · have HF := Lib.hid (show x.f = c.f by simpa using hf)
          cases hkk : decide (x.k ≤ kn)
          · have HR := Lib.hid (HN.out (fun h => by simp [h.2.1] at hkk))
            clear HN
            go_wp2_with fail
            refine region_ext (by kernel_rfl) (by kernel_rfl) ?_
            repeat (go_big_quiet_step (fail))
            refine wpQuiet_nil ?_
            rintro _ ⟨y, rfl⟩
            go_wp2
            go_roundw
            case rel => exact ⟨k + 1, by omega, by go_num, (hbx y).out, HR⟩
            case measure => simp [intOf]; omega
          · have HK := Lib.hid (show x.k ≤ kn by simpa using hkk)
            have HCON := Lib.hid (fun y : Ext wo => refCompare_any x c y.val)
            obtain ⟨z, hz⟩ : ∃ z, cmpC x c = z := ⟨_, rfl⟩
            rw [hz] at HCON
            have HZ := Lib.hid hz
            clear hz
            cases hzz : decide (0 < z)
            · have HR := Lib.hid (HN.out (fun h => by have := cmpC_pos.2 h.2.2; rw [HZ.out] at this; simp [this] at hzz))
              clear HN
              go_wp2_with fail
              refine region_ext (by kernel_rfl) (by kernel_rfl) ?_
              repeat (go_big_quiet_step ((go_at_call 33; exact ext_call (HCON.out _))))
              refine wpQuiet_nil ?_
              rintro _ ⟨y, rfl⟩
              go_wp2
              go_roundw
              case rel => exact ⟨k + 1, by omega, by go_num, (hbx y).out, HR⟩
              case measure => simp [intOf]; omega
            · have HR : Hid (cntB l kn c = false) := cnt_out hm HF.out HK.out (cmpC_pos.1 (by rw [HZ.out]; simpa using hzz))
              clear HN
              go_wp2_with fail
              refine region_ext (by kernel_rfl) (by kernel_rfl) ?_
              repeat (go_big_quiet_step ((go_at_call 33; exact ext_call (HCON.out _))))
              refine wpQuiet_nil ?_
              rintro _ ⟨y, rfl⟩
              go_wp2
              go_ret
              exact ⟨ret_bool HR.out.symm, (hbx y).out⟩
      · have HR : Hid (cntB l kn c = true) := cnt_yes hk fun j hj => HE.out j hj (by omega)
        go_wp2
        go_ret
        exact ⟨ret_bool HR.out.symm, hb⟩
  · have HE := Lib.hid (cnt_no (l := l) hk)
    go_enter Try.func63, Try.ntmps63
    go_wp2
    go_ret
    exact ⟨ret_bool HE.out.symm, Below.refl _ _⟩
end Go.Proofs.Ytnmbaeahnfbfiaa
