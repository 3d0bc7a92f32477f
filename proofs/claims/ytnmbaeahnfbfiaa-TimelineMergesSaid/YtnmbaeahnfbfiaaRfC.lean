/- payrollref6.Compare. -/
import Derived.Test.YtnmbaeahnfbfiaaChgV
import Derived.Test.YtnmbaeahnfbfiaaRow
import Derived.BigQuiet
import Derived.Deep.QuietTactic
import Derived.Deep.CutBlock
import Derived.Deep.DeepCutAuto
namespace Go.Proofs.Ytnmbaeahnfbfiaa
open Go.RowKit

def keyC (a : Chg) : List Int := [a.f, a.k, nb a.d, a.v]
theorem cmp_keys (a b : Chg) : orL ((List.range 4).map fun i => cmpI ((keyC a).getD i 0) ((keyC b).getD i 0)) = cmpC a b := by
  rw [← orL_cmp]; rfl
theorem keys_lt {a b : Chg} {k : Nat} (hk : k < 4) (h : ∀ j, j < k → (keyC a).getD j 0 = (keyC b).getD j 0) (hl : (keyC a).getD k 0 < (keyC b).getD k 0) : cmpC a b = -1 := by
  rw [← cmp_keys, orL_at (k := k) (by simp; omega) (fun j hj h' => by simp only [List.getElem_map, List.getElem_range]; rw [h j h']; simp [cmpI]) (by simp only [List.getElem_map, List.getElem_range, cmpI, hl, if_true]; decide)]
  simp only [List.getElem_map, List.getElem_range, cmpI, hl, if_true]
theorem keys_gt {a b : Chg} {k : Nat} (hk : k < 4) (h : ∀ j, j < k → (keyC a).getD j 0 = (keyC b).getD j 0) (hl : (keyC b).getD k 0 < (keyC a).getD k 0) : cmpC a b = 1 := by
  have hn : ¬ (keyC a).getD k 0 < (keyC b).getD k 0 := by omega
  rw [← cmp_keys, orL_at (k := k) (by simp; omega) (fun j hj h' => by simp only [List.getElem_map, List.getElem_range]; rw [h j h']; simp [cmpI]) (by simp only [List.getElem_map, List.getElem_range]; simp only [cmpI, hn, hl, if_true, if_false]; decide)]
  simp only [List.getElem_map, List.getElem_range]; simp only [cmpI, hn, hl, if_true, if_false]
theorem keys_eq {a b : Chg} (h : ∀ j, j < 4 → (keyC a).getD j 0 = (keyC b).getD j 0) : cmpC a b = 0 := by
  rw [← cmp_keys, orL_none (fun j hj => by simp only [List.getElem_map, List.getElem_range]; rw [h j (by simpa using hj)]; simp [cmpI])]
theorem row_key {w : World} {g : Nat} {T : TypeId} {a : Chg} (h : Row w g T #[.int .i64 a.f, .int .i64 a.k, .int .i64 (nb a.d), .int .i64 a.v]) {k : Nat} (hk : k < 4) : w.cell? ⟨g, k, none⟩ = some (.int .i64 ((keyC a).getD k 0)) := by
  match k, hk with
  | 0, _ => exact h.cell 0
  | 1, _ => exact h.cell 1
  | 2, _ => exact h.cell 2
  | 3, _ => exact h.cell 3

def CmpP (w : World) (x : Int) (e : Ending) (w' : World) : Prop := e = .returned (.int .i64 x) ∧ Below w.heap.size w w'
def CmpR (w : World) (a b : Chg) (i : Value) (wr : World) : Prop := ∃ k : Nat, k ≤ 4 ∧ i = .int .i64 k ∧ Below w.heap.size w wr ∧ Hid (∀ j, j < k → (keyC a).getD j 0 = (keyC b).getD j 0)
theorem Row.new' {w : World} {n : Nat} (hn : w.heap.size = n) (t : TypeId) (cs : Array Value) : Row (w.alloc (.cells cs t)) n t cs := by subst hn; exact Row.new w t cs
theorem row4 {w : World} {g : Nat} {T : TypeId} {a b c d : Value} (h : Row w g T #[a, b, c, d]) : w.cell? ⟨g, 2, none⟩ = some c ∧ w.cell? ⟨g, 3, none⟩ = some d ∧ w.frozen? ⟨g, 2, none⟩ = false ∧ g < w.heap.size := ⟨h.cell 2, h.cell 3, h.frozen 2, h.lt⟩
set_option maxRecDepth 100000 in
set_option maxHeartbeats 1000000 in
theorem refCompare_any (a b : Chg) (w : World) : Calls Try.prog 33 #[.agg #[.int .i64 a.f, .int .i64 a.k, .int .i64 a.v, .bool a.d], .agg #[.int .i64 b.f, .int .i64 b.k, .int .i64 b.v, .bool b.d]] w (CmpP w (cmpC a b)) := by
  obtain ⟨c, hc⟩ : ∃ c, cmpC a b = c := ⟨_, rfl⟩
  rw [hc]
  have HC := Lib.hid hc
  clear hc
  obtain ⟨af, ak, av, ad⟩ := a
  obtain ⟨bf, bk, bv, bd⟩ := b
  simp only
  go_enter Try.func33, Try.ntmps33
  go_upto_if 23 with (fail)
  obtain ⟨W, hW⟩ : ∃ W : World, (((w.alloc (.cells #[.int .i64 af, .int .i64 ak, .int .i64 av, .bool ad] 40)).alloc (.cells #[.int .i64 bf, .int .i64 bk, .int .i64 bv, .bool bd] 40)).alloc (.cells #[.int .i64 af, .int .i64 ak, .int .i64 0, .int .i64 av] 80)).alloc (.cells #[.int .i64 bf, .int .i64 bk, .int .i64 0, .int .i64 bv] 80) = W := ⟨_, rfl⟩
  have rb : Row W (w.heap.size + 1) 40 #[.int .i64 bf, .int .i64 bk, .int .i64 bv, .bool bd] := by rw [← hW]; exact (((Row.new' (by simp) 40 #[.int .i64 bf, .int .i64 bk, .int .i64 bv, .bool bd]).alloc _).alloc _)
  have rx : Row W (w.heap.size + 1 + 1) 80 #[.int .i64 af, .int .i64 ak, .int .i64 0, .int .i64 av] := by rw [← hW]; exact ((Row.new' (by simp) 80 #[.int .i64 af, .int .i64 ak, .int .i64 0, .int .i64 av]).alloc _)
  have ry : Row W (w.heap.size + 1 + 1 + 1) 80 #[.int .i64 bf, .int .i64 bk, .int .i64 0, .int .i64 bv] := by rw [← hW]; exact Row.new' (by simp) 80 #[.int .i64 bf, .int .i64 bk, .int .i64 0, .int .i64 bv]
  have hb : Below w.heap.size w W := by rw [← hW]; exact (((((Below.refl _ _).alloc (Nat.le_refl _) _).alloc (by simp) _).alloc (by simp; omega) _).alloc (by simp; omega) _)
  rw [hW]
  clear hW
  go_cut [] (fun wx => Row wx (w.heap.size + 1) 40 #[.int .i64 bf, .int .i64 bk, .int .i64 bv, .bool bd] ∧ Row wx (w.heap.size + 1 + 1) 80 #[.int .i64 af, .int .i64 ak, .int .i64 (nb ad), .int .i64 av] ∧ Row wx (w.heap.size + 1 + 1 + 1) 80 #[.int .i64 bf, .int .i64 bk, .int .i64 0, .int .i64 bv] ∧ Below w.heap.size w wx)
  case first =>
    obtain ⟨x2, x3, xf, xl⟩ := row4 rx
    cases ad
    · go_wp2_with fail
      go_meet
      exact ⟨rb, rx, ry, hb⟩
    · go_wp2_with fail
      go_meet
      exact ⟨rb.far (by simp) _, rx.set 2 _, ry.far (by simp) _, hb.setCell (by simp; omega) _⟩
  case rest =>
    clear rb rx ry hb
    obtain ⟨rb, rx, ry, hb⟩ := hcut
    obtain ⟨W1, hW1⟩ : ∃ W1 : World, W1 = wc := ⟨_, rfl⟩
    subst hW1
    obtain ⟨b2, b3, _, bl⟩ := row4 rb
    go_upto_if 26 with (fail)
    go_cut [] (fun wx => Row wx (w.heap.size + 1 + 1) 80 #[.int .i64 af, .int .i64 ak, .int .i64 (nb ad), .int .i64 av] ∧ Row wx (w.heap.size + 1 + 1 + 1) 80 #[.int .i64 bf, .int .i64 bk, .int .i64 (nb bd), .int .i64 bv] ∧ Below w.heap.size w wx)
    case first =>
      obtain ⟨x2, x3, xf, xl⟩ := row4 ry
      cases bd
      · go_wp2_with fail
        go_meet
        exact ⟨rx, ry, hb⟩
      · go_wp2_with fail
        go_meet
        exact ⟨rx.far (by simp) _, ry.set 2 _, hb.setCell (by simp; omega) _⟩
    case rest =>
      clear rb rx ry hb b2 b3 bl
      obtain ⟨rx, ry, hb⟩ := hcut
      obtain ⟨W2, hW2⟩ : ∃ W2 : World, W2 = wc := ⟨_, rfl⟩
      subst hW2
      have lx := rx.lt
      have ly := ry.lt
      have HX : Hid (∀ k, k < 4 → W2.cell? ⟨w.heap.size + 1 + 1, k, none⟩ = some (.int .i64 ((keyC ⟨af, ak, av, ad⟩).getD k 0))) := fun k hk => row_key (a := ⟨af, ak, av, ad⟩) rx hk
      have HY : Hid (∀ k, k < 4 → W2.cell? ⟨w.heap.size + 1 + 1 + 1, k, none⟩ = some (.int .i64 ((keyC ⟨bf, bk, bv, bd⟩).getD k 0))) := fun k hk => row_key (a := ⟨bf, bk, bv, bd⟩) ry hk
      clear rx ry
      generalize (⟨af, ak, av, ad⟩ : Chg) = a at HX HY HC
      generalize (⟨bf, bk, bv, bd⟩ : Chg) = b at HX HY HC
      go_wp2_with fail
      go_loopw [7] (fun i wr => CmpR W2 a b i wr) (fun i _ => 4 - (intOf i).toNat)
      case atStart => exact ⟨0, by omega, rfl, Below.refl _ _, fun j hj => by omega⟩
      case round =>
        obtain ⟨k, hk, rfl, hbl, HE⟩ := hrel
        obtain ⟨wo, rfl⟩ : ∃ wo : World, wo = wr := ⟨_, rfl⟩
        by_cases hlt : k < 4
        · have x0 := (hbl.cell (p := ⟨w.heap.size + 1 + 1, k, none⟩) lx).trans (HX.out k hlt)
          have y0 := (hbl.cell (p := ⟨w.heap.size + 1 + 1 + 1, k, none⟩) ly).trans (HY.out k hlt)
          have i1 : (k : Int) < 4 := by omega
          obtain ⟨x, hx⟩ : ∃ x, (keyC a).getD k 0 = x := ⟨_, rfl⟩
          obtain ⟨y, hy⟩ : ∃ y, (keyC b).getD k 0 = y := ⟨_, rfl⟩
          rw [hx] at x0
          rw [hy] at y0
          by_cases hxy : x < y
          · have HR : Hid (c = -1) := by rw [Hid, ← HC.out]; exact keys_lt hlt HE.out (by rw [hx, hy]; exact hxy)
            clear hx hy
            go_wp2_with fail
            go_quiet (fail)
            go_wp2
            go_ret
            exact ⟨ret_int HR.out.symm, hb.trans ((Below.draws hbl _).mono hb.size)⟩
          · by_cases hyx : y < x
            · have HR : Hid (c = 1) := by rw [Hid, ← HC.out]; exact keys_gt hlt HE.out (by rw [hx, hy]; exact hyx)
              clear hx hy
              go_wp2_with fail
              go_quiet (fail)
              go_wp2_with fail
              go_quiet (fail)
              go_wp2
              go_ret
              exact ⟨ret_int HR.out.symm, hb.trans ((Below.draws (Below.draws hbl _) _).mono hb.size)⟩
            · have HR : Hid (∀ j, j < k + 1 → (keyC a).getD j 0 = (keyC b).getD j 0) := fun j hj => by
                by_cases e : j = k
                · subst e; omega
                · exact HE.out j (by omega)
              clear hx hy
              go_wp2_with fail
              go_quiet (fail)
              go_wp2_with fail
              go_quiet (fail)
              go_wp2
              go_roundw
              case rel => exact ⟨k + 1, by omega, by go_num, Below.draws hbl _, HR⟩
              case measure => simp [intOf]; omega
        · have HR : Hid (c = 0) := by rw [Hid, ← HC.out]; exact keys_eq fun j hj => HE.out j (by omega)
          go_wp2
          go_ret
          exact ⟨ret_int HR.out.symm, hb.trans (hbl.mono hb.size)⟩
end Go.Proofs.Ytnmbaeahnfbfiaa
