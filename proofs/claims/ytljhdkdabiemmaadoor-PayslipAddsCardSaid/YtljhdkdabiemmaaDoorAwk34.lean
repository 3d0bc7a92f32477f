/- Contract of payrolllaw34.awake. -/
import Derived.Test.YtljhdkdabiemmaaDoorCmp
import Derived.Test.YtljhdkdabiemmaaDoorFmt2
namespace Go.Proofs.YtljhdkdabiemmaaDoor
open Go.RowKit Go.Shelf

def awA : List Ln := [⟨9, ⟨#[]⟩, 100⟩, ⟨6, ⟨#[]⟩, 20⟩]
def awB : List Ln := [⟨9, ⟨#[]⟩, 90⟩, ⟨4, ⟨#[97]⟩, 10⟩, ⟨6, ⟨#[]⟩, 20⟩]
theorem awC : cmpE awA awB = 0 ∧ cmpR awA awB = [⟨4, ⟨#[97]⟩, 10⟩, ⟨9, ⟨#[]⟩, -10⟩] := ⟨by kernel_rfl, by kernel_rfl⟩
def awS : Slp := ⟨0, 0, 0, 0, 0, -5, []⟩
theorem dec0 : Lib.decDigits 0 = [48] := by rw [Lib.decDigits]; rfl
theorem dec5 : Lib.decDigits 5 = [53] := by rw [Lib.decDigits]; rfl
theorem dec7 : Lib.decDigits 7 = [55] := by rw [Lib.decDigits]; rfl
theorem dec1 : Lib.decDigits 1 = [49] := by rw [Lib.decDigits]; rfl
theorem dec12 : Lib.decDigits 12 = [49, 50] := by
  rw [Lib.decDigits, dif_neg (by omega), show 12 / 10 = 1 from rfl, dec1]; rfl
theorem it0 : Lib.itoa 0 = [48] := dec0
theorem it7 : Lib.itoa 7 = [55] := dec7
theorem it12 : Lib.itoa 12 = [49, 50] := dec12
theorem itm5 : Lib.itoa (-5) = [45, 53] := by
  show 45 :: Lib.decDigits 5 = _
  rw [dec5]
theorem awE : slipE 7 12 awS = 0 := by kernel_rfl
theorem awT : formatT 7 12 awS = [112, 97, 121, 115, 108, 105, 112, 32, 55, 32, 112, 101, 114, 105, 111, 100, 32, 49, 50, 10, 98, 97, 115, 101, 115, 32, 48, 32, 48, 32, 48, 32, 48, 32, 48, 32, 108, 101, 103, 97, 108, 32, 45, 53, 10, 101, 110, 100, 10] := by
  rw [formatT, if_pos awE]
  simp only [textT, headT, basesT, linesT, awS, Slp.bs, List.map_cons, List.map_nil, it0, it7, it12, itm5]
  rfl

/-- a block of elements is a slice of them -/
theorem Sl.row {w : World} {g sz : Nat} {t : TypeId} {cs : Array Value} (h : Row w g t cs) (hsz : 0 < sz) (es : List (List Value)) (hw : Wide sz es) (hcs : cs.toList = es.flatten) (hl : es.length ≤ maxLen) : Sl w sz (.slice (some ⟨g, 0, none⟩) es.length es.length) es := by
  refine ⟨_, es.length, rfl, Nat.le_refl _, hl, (fun h => by cases h), .inr ⟨g, 0, rfl, h.lt, fun i e hi j u hj => ?_⟩⟩
  have hjs : j < sz := by
    have h1 := (List.getElem?_eq_some_iff.1 hj).1
    have h2 := (hw e (List.mem_of_getElem? hi)).1
    omega
  rw [h.cell, Nat.zero_add]
  have h3 := hw.get hsz (i * sz + j)
  rw [show (i * sz + j) / sz = i by rw [Nat.mul_comm, Nat.mul_add_div hsz, Nat.div_eq_of_lt hjs]; rfl, show (i * sz + j) % sz = j by rw [Nat.mul_comm, Nat.mul_add_mod, Nat.mod_eq_of_lt hjs], hi] at h3
  rw [← hcs] at h3
  rw [← Array.getElem?_toList, h3]
  exact hj
theorem own_two {w : World} {base : Nat} {v : Value} {x y : Ln} (h : Own w base 25 3 v (lns [x, y])) : ∃ g cap, v = .slice (some ⟨g, 0, none⟩) 2 cap ∧ g < w.heap.size ∧ w.cell? ⟨g, 2, none⟩ = some (.int .i64 x.amt) ∧ w.cell? ⟨g, 5, none⟩ = some (.int .i64 y.amt) := by
  have hs := h.sl (by omega)
  rcases h.1.2 with ⟨_, h0⟩ | ⟨g, cap, cur, rfl, hb, hg, _⟩
  · simp [lns] at h0
  · obtain ⟨A, c, he, _, _, _, hc⟩ := hs
    injection he with e1 e2 e3
    rcases hc with hc | ⟨b, off, hA, hc⟩
    · simp [lns] at hc
    · rw [← e1] at hA
      injection hA with hA
      injection hA with hA1 hA2
      subst hA1 hA2
      exact ⟨g, cap, rfl, hc.1, hc.2 0 _ rfl 2 _ rfl, hc.2 1 _ rfl 2 _ rfl⟩

set_option maxRecDepth 100000 in
set_option maxHeartbeats 1600000 in
theorem awake34_any (w : World) (hT : Tabs w) (hW : Words w) : Calls Tryd.prog 11 #[] w fun e w' => e = .returned (.bool true) ∧ Below w.heap.size w w' := by
  have HT := Lib.hid hT
  have HW := Lib.hid hW
  clear hT hW
  go_enter Tryd.func11, Tryd.ntmps11
  go_wp2_with fail
  have hA := Row.new w 25 #[Value.int IntKind.i64 9, Value.string { data := #[] }, Value.int IntKind.i64 100, Value.int IntKind.i64 6, Value.string { data := #[] }, Value.int IntKind.i64 20]
  have hB := Row.new (w.alloc (Obj.cells #[Value.int IntKind.i64 9, Value.string { data := #[] }, Value.int IntKind.i64 100, Value.int IntKind.i64 6, Value.string { data := #[] }, Value.int IntKind.i64 20] 25)) 25 #[Value.int IntKind.i64 9, Value.string { data := #[] }, Value.int IntKind.i64 90, Value.int IntKind.i64 4, Value.string { data := #[97] }, Value.int IntKind.i64 10, Value.int IntKind.i64 6, Value.string { data := #[] }, Value.int IntKind.i64 20]
  have hA2 := hA.alloc (Obj.cells #[Value.int IntKind.i64 9, Value.string { data := #[] }, Value.int IntKind.i64 90, Value.int IntKind.i64 4, Value.string { data := #[97] }, Value.int IntKind.i64 10, Value.int IntKind.i64 6, Value.string { data := #[] }, Value.int IntKind.i64 20] 25)
  have hsz : (w.alloc (Obj.cells #[Value.int IntKind.i64 9, Value.string { data := #[] }, Value.int IntKind.i64 100, Value.int IntKind.i64 6, Value.string { data := #[] }, Value.int IntKind.i64 20] 25)).heap.size = w.heap.size + 1 := by simp
  rw [hsz] at hB
  have hSA := Lib.hid (Sl.row hA2 (by omega) (lns awA) (lns_wide _) rfl (by unfold maxLen; simp [lns, awA]))
  have hSB := Lib.hid (Sl.row hB (by omega) (lns awB) (lns_wide _) rfl (by unfold maxLen; simp [lns, awB]))
  clear hA hB hA2 hsz
  refine (Compare_any _ _ awA awB _ hSA.out hSB.out).mono ?_
  rintro e w1 ⟨x, rfl, hown1, hb1⟩
  rw [awC.1]
  rw [awC.2] at hown1
  have hB1 : Below w.heap.size w w1 := (((Below.refl _ w).alloc (Nat.le_refl _) _).alloc (by simp) _).trans (hb1.mono (by simp; omega))
  obtain ⟨g, cap, rfl, hg, q1, q2⟩ := own_two hown1
  have hs1 := hB1.size
  clear hSA hSB hb1 hown1
  go_wp2_with fail
  refine (Format_any 7 12 awS (.slice none 0 0) w1 (Sl.nil _ _) (HT.out.below hB1) (HW.out.below hB1) (fun x hx => by cases hx) ⟨by omega, by omega⟩).mono ?_
  rintro e w2 ⟨rfl, hb2⟩
  rw [awT, awE]
  have hB2 := below_after hB1 hb2 hs1
  obtain ⟨hc, -⟩ := bcell hb2
  have r1 : w2.cell? ⟨g, 2, none⟩ = some (.int .i64 10) := (hc g 2 hg).trans q1
  have r2 : w2.cell? ⟨g, 5, none⟩ = some (.int .i64 (-10)) := (hc g 5 hg).trans q2
  clear hc q1 q2 hb2 hB1
  go_wp2_with fail
  go_ret
  exact ⟨rfl, hB2⟩
end Go.Proofs.YtljhdkdabiemmaaDoor
