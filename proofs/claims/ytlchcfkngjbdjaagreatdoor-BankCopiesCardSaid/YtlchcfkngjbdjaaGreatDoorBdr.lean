/- A strings.Builder that holds a text: WriteString, WriteByte, String. -/
import Derived.Test.YtlchcfkngjbdjaaGreatDoorBld
import Derived.Test.YtlchcfkngjbdjaaGreatDoorRow
namespace Go.Proofs.YtlchcfkngjbdjaaGreatDoor
open Go.RowKit Go.Shelf

/-- a builder in block b that holds t -/
def Bd (w : World) (b : Nat) (t : List UInt8) : Prop := Lib.IsBuilder 88 5 b b (Lib.byteCells t) w
theorem Bd.kept {w w' : World} {b : Nat} {t : List UInt8} (h : Bd w b t) (hb : Below w.heap.size w w') : Bd w' b t := by
  have key : ∀ p, Lib.BuilderAt 88 5 b b p (Lib.byteCells t) w → Lib.BuilderAt 88 5 b b p (Lib.byteCells t) w' := by
    intro p h
    have hl := h.lt
    obtain ⟨hB, v, hk, ho, hne⟩ := h
    refine ⟨hB, v, (hb.block b hl).trans hk, ho.kept (row := none) ⟨hb.os, hb.tape, hb.output, hb.size, fun k hk _ => hb.block k hk⟩ ?_, hne⟩
    cases hv : v.ownBlock
    · exact .inl rfl
    · exact .inr (by simp)
  rcases h with h | h
  · exact .inl (key _ h)
  · exact .inr (key _ h)
theorem Bd.lt {w : World} {b : Nat} {t : List UInt8} (h : Bd w b t) : b < w.heap.size := by
  rcases h with h | h <;> exact h.lt
theorem Bd.new (w : World) : Bd (w.alloc (.cells #[.pointer none, .slice none 0 0] 88)) w.heap.size [] :=
  .inl ⟨Nat.le_refl _, _, heap_alloc_new w _, World.ownsRow_nil _ _ _ _, by simp [Value.ownBlock]⟩
theorem WriteS_any (b : Nat) (t : List UInt8) (s : ByteArray) (w : World) (h : Bd w b t) (hlen : t.length + s.size ≤ 140737488355328) :
    Calls Tryz.prog 58 #[.pointer (some ⟨b, 0, none⟩), .string s] w fun e w' => e = .returned (.tuple #[.int .i64 s.size, .nilIface]) ∧ Bd w' b (t ++ s.data.toList) ∧ Below b w w' ∧ Lib.OthersKept 5 (some b) w w' := by
  refine (WriteString_any b b _ s w h (by rw [Lib.byteCells_length]; exact hlen) (Nat.le_of_lt h.lt)).mono ?_
  rintro e w' ⟨rfl, h1, h2, h3⟩
  refine ⟨rfl, .inr ?_, h2, h3⟩
  rw [Lib.strCells_eq] at h1
  simpa [Lib.byteCells] using h1
theorem Row.others {w w' : World} {g b : Nat} {t : TypeId} {cs : Array Value} (h : Row w g t cs) (hk : Lib.OthersKept 5 (some b) w w') (hb : g ≠ b) (ht : t ≠ 5) : Row w' g t cs :=
  hk g _ h (fun e => hb (by injection e)) (fun c fz e => ht (by injection e))
theorem BString_any (b : Nat) (t : List UInt8) (w : World) (h : Bd w b t) :
    Calls Tryz.prog 47 #[.pointer (some ⟨b, 0, none⟩)] w fun e w' => e = .returned (.string ⟨t.toArray⟩) ∧ Below b w w' :=
  Tryz.Builder_String_any b b t w h (Nat.le_of_lt h.lt)

set_option maxHeartbeats 1000000 in
set_option maxRecDepth 100000 in
theorem WriteByte_any (B b : Nat) (bs : List Value) (c : Int) (w : World) (h : Lib.IsBuilder 88 5 B b bs w) (hlen : bs.length + 1 ≤ 140737488355328) (hBw : B ≤ w.heap.size) :
    Calls Tryz.prog 57 #[.pointer (some ⟨b, 0, none⟩), .int .u8 c] w fun e w' => e = .returned .nilIface ∧ (Lib.BuilderAt 88 5 B b (.pointer (some ⟨b, 0, none⟩)) (bs ++ [.int .u8 c]) w' ∧ Below B w w' ∧ Lib.OthersKept 5 (some b) w w') := by
  obtain ⟨i0, hi, hz0, hz1, hz2⟩ := info_parts (show (Tryz.prog.info? 5).map (fun i => (i.zero, i.size, i.bytes)) = some (some (.int .u8 0), 1, 1) by kernel_rfl)
  go_enter Tryz.func57, Tryz.ntmps57
  go_wp2_with (go_at_call 66; refine (copyCheck_any B b bs _ h).mono ?_)
  rintro e w1 ⟨rfl, h1, hb1, hk1⟩
  obtain ⟨hB, v, hbk, hown, hne⟩ := h1
  have c0 : w1.cell? ⟨b, 0, none⟩ = some (.pointer (some ⟨b, 0, none⟩)) := by rw [Lib.cell_of_heap hbk]; rfl
  have c1 : w1.cell? ⟨b, 1, none⟩ = some v := by rw [Lib.cell_of_heap hbk]; rfl
  go_wp2_with (at_builtin; refine wpList_append_own _ rfl _ _ 65 rfl B 5 i0 (.int .u8 0) 1 1 Tryz.underlying65 hi hz0 hz1 hz2 rfl (by decide) _ _ _ rfl (hown.alloc _) ⟨w1.heap.size, 0, none⟩ 1 1 [.int .u8 c] rfl rfl ?c1 ?c2 ?c3 ?c4 ?c5 ?_)
  case c1 =>
    intro j u hj
    match j, hj with
    | 0, hj => simp at hj; subst hj; simp [Addr.add]
  case c2 => intro u hu; simp at hu; subst hu; rfl
  case c3 => unfold maxLen; omega
  case c4 => omega
  case c5 => have := hb1.size; simp; omega
  intro v' w2 hown' hgrow _
  have hlt : b < w1.heap.size := by
    rcases Nat.lt_or_ge b w1.heap.size with h' | h'
    · exact h'
    · simp [Array.getElem?_eq_none h'] at hbk
  have hb2 : w2.heap[b]? = some (.cells #[.pointer (some ⟨b, 0, none⟩), v] 88 (0, 0)) := by
    rw [hgrow.block b (by simp; omega) (fun e => hne e.symm), Lib.alloc_old w1 _ b hlt]
    exact hbk
  have d0 : w2.cell? ⟨b, 0, none⟩ = some (.pointer (some ⟨b, 0, none⟩)) := by rw [Lib.cell_of_heap hb2]; rfl
  have d1 : w2.cell? ⟨b, 1, none⟩ = some v := by rw [Lib.cell_of_heap hb2]; rfl
  have f1 : w2.frozen? ⟨b, 1, none⟩ = false := Lib.frozen_of_heap hb2 1
  obtain ⟨g, cap, rfl⟩ : ∃ g cap, v' = .slice (some ⟨g, 0, none⟩) (bs.length + 1) cap := by
    rcases hown'.2 with ⟨_, h0⟩ | ⟨g, cap, cur, hv, _⟩
    · omega
    · exact ⟨g, cap, hv⟩
  go_wp2
  go_ret
  refine ⟨rfl, ?_, ?_, ((hk1.alloc _).grown hgrow fun g hg => ?_).setCell ⟨b, 1, none⟩ rfl _⟩
  · exact Lib.BuilderAt.put (T := 88) (e := 5) hB hb2 (bs' := bs ++ [.int .u8 c]) (by simpa using hown') (by decide)
  · exact ((hb1.alloc (by have := hb1.size; omega) _).grown hgrow (by have := hb1.size; simp; omega) (fun k hk => (hown.lt k hk).1)).setCell (p := ⟨b, 1, none⟩) hB _
  · rcases (hown.alloc _).2 with ⟨rfl, _⟩ | ⟨g', cap', cur, rfl, _, hg', _⟩
    · cases hg
    · injection hg with hg
      subst hg
      exact ⟨_, _, hg'⟩
theorem WriteB_any (b : Nat) (t : List UInt8) (c : UInt8) (w : World) (h : Bd w b t) (hlen : t.length + 1 ≤ 140737488355328) (z : Int) (hz : z = (c.toNat : Int)) :
    Calls Tryz.prog 57 #[.pointer (some ⟨b, 0, none⟩), .int .u8 z] w fun e w' => e = .returned .nilIface ∧ Bd w' b (t ++ [c]) ∧ Below b w w' ∧ Lib.OthersKept 5 (some b) w w' := by
  subst hz
  refine (WriteByte_any b b _ _ w h (by rw [Lib.byteCells_length]; exact hlen) (Nat.le_of_lt h.lt)).mono ?_
  rintro e w' ⟨rfl, h1, h2, h3⟩
  refine ⟨rfl, .inr ?_, h2, h3⟩
  simpa [Lib.byteCells] using h1
end Go.Proofs.YtlchcfkngjbdjaaGreatDoor
