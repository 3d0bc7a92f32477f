/- timeline: check, At, Merge. -/
import Derived.Test.YtaafihdegnaokaaGreatDoorChgK
import Derived.Test.YtaafihdegnaokaaGreatDoorChgA
import Derived.Test.YtaafihdegnaokaaGreatDoorChgV
namespace Go.Proofs.YtaafihdegnaokaaGreatDoor
open Go.RowKit

theorem validE_len {l : List Chg} (h : validE l = 0) : l.length ≤ 1024 := by
  unfold validE at h
  split at h
  · cases h
  · omega
theorem cpt_len : ∀ (l : List Chg), (cpt l).length ≤ l.length
  | [] => by simp [cpt]
  | [x] => by simp [cpt]
  | x :: y :: r => by
    have h := cpt_len (y :: r)
    unfold cpt
    split <;> simp only [List.length_cons] at h ⊢ <;> omega
theorem inC_len (l : List Chg) (kn : Int) : (inC l kn).length ≤ l.length := by
  have h1 : (inC l kn).length ≤ (ascC l).length := List.length_filter_le _ _
  have h2 := ascC_len l
  omega
/-- the error of At -/
def atE (l : List Chg) (day : Int) : Int := if validE l = 0 then (if 0 ≤ day ∧ day ≤ 84005 then 0 else 2) else validE l
/-- the value that At returns -/
def atO (l : List Chg) (day kn : Int) : Option Int := if atE l day = 0 then valD (inC l kn) day else none
def AtP (w : World) (o : Option Int) (er : Int) (e : Ending) (w' : World) : Prop := e = .returned (.tuple #[.int .i64 (o.getD 0), .bool o.isSome, .int .i64 er]) ∧ Below w.heap.size w w'
/-- the error of check -/
def checkE (l : List Chg) (f t : Int) : Int := if validE l = 0 then (if 0 ≤ f ∧ f ≤ 84005 ∧ 0 ≤ t ∧ t ≤ 84005 then (if t < f then 1 else 0) else 2) else validE l

theorem check_any (v : Value) (l : List Chg) (f t : Int) (w : World) (hv : Sl w 4 v (chgs l)) :
    Calls Tryz.prog 59 #[v, .int .i64 f, .int .i64 t] w fun e w' => e = .returned (.int .i64 (checkE l f t)) ∧ Below w.heap.size w w' := by
  have V := valid_any v l w hv
  by_cases h0 : validE l = 0
  · rw [h0] at V
    have H := Lib.hid V
    clear V
    by_cases hr : 0 ≤ f ∧ f ≤ 84005 ∧ 0 ≤ t ∧ t ≤ 84005
    · have HE : Hid (checkE l f t = if t < f then 1 else 0) := by rw [Hid, checkE, if_pos h0, if_pos hr]
      obtain ⟨r1, r2, r3, r4⟩ := hr
      clear h0
      by_cases ht : t < f
      · go_enter Tryz.func59, Tryz.ntmps59
        go_wp2_with (go_at_call 35; (with_reducible refine H.out.mono ?_); rintro e w1 ⟨rfl, hb1⟩)
        go_ret
        exact ⟨ret_int (by rw [HE.out, if_pos ht]), hb1⟩
      · go_enter Tryz.func59, Tryz.ntmps59
        go_wp2_with (go_at_call 35; (with_reducible refine H.out.mono ?_); rintro e w1 ⟨rfl, hb1⟩)
        go_ret
        exact ⟨ret_int (by rw [HE.out, if_neg (by omega)]), hb1⟩
    · have HE : Hid (checkE l f t = 2) := by rw [Hid, checkE, if_pos h0, if_neg hr]
      clear h0
      have hr' : f < 0 ∨ (¬ f < 0 ∧ f > 84005) ∨ (¬ f < 0 ∧ ¬ f > 84005 ∧ t < 0) ∨ (¬ f < 0 ∧ ¬ f > 84005 ∧ ¬ t < 0 ∧ t > 84005) := by omega
      clear hr
      rcases hr' with h | ⟨h, h'⟩ | ⟨h, h', h''⟩ | ⟨h, h', h'', h3⟩ <;>
      · go_enter Tryz.func59, Tryz.ntmps59
        go_wp2_with (go_at_call 35; (with_reducible refine H.out.mono ?_); rintro e w1 ⟨rfl, hb1⟩)
        go_ret
        exact ⟨ret_int HE.out.symm, hb1⟩
  · have HE : Hid (checkE l f t = validE l) := by rw [Hid, checkE, if_neg h0]
    obtain ⟨er, her⟩ : ∃ er, validE l = er := ⟨_, rfl⟩
    rw [her] at V HE h0
    have hne : (er != 0) = true := by simpa using h0
    have H := Lib.hid V
    clear V her h0
    go_enter Tryz.func59, Tryz.ntmps59
    go_wp2_with (go_at_call 35; (with_reducible refine H.out.mono ?_); rintro e w1 ⟨rfl, hb1⟩)
    go_ret
    exact ⟨ret_int HE.out.symm, hb1⟩

/-- the error of Merge -/
def mrgE (a b : List Chg) : Int := if validE a = 0 then (if validE b = 0 then (if 1024 < (ascC (a ++ b)).length then 3 else 0) else validE b) else validE a
def mrgC (a b : List Chg) : List Chg := if mrgE a b = 0 then ascC (a ++ b) else []
end Go.Proofs.YtaafihdegnaokaaGreatDoor
