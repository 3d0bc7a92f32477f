/- A strings.Builder that holds a text: WriteString, String. -/
import Derived.Test.YtnkephafpebfkaaGreatDoorBld
import Derived.Test.YtnkephafpebfkaaGreatDoorRow
namespace Go.Proofs.YtnkephafpebfkaaGreatDoor
open Go.RowKit Go.Shelf

/-- a builder in block b that holds t -/
def Bd (w : World) (b : Nat) (t : List UInt8) : Prop := Lib.IsBuilder 68 5 b b (Lib.byteCells t) w
theorem Bd.kept {w w' : World} {b : Nat} {t : List UInt8} (h : Bd w b t) (hb : Below w.heap.size w w') : Bd w' b t := by
  have key : ∀ p, Lib.BuilderAt 68 5 b b p (Lib.byteCells t) w → Lib.BuilderAt 68 5 b b p (Lib.byteCells t) w' := by
    intro p h
    have hl := h.lt
    obtain ⟨hB, v, hk, ho, hne⟩ := h
    refine ⟨hB, v, (hb.block b hl).trans hk, ho.kept (row := none) ⟨hb.os, hb.tape, hb.output, hb.size, fun k hk _ => hb.block k hk⟩ ?_, hne⟩
    cases hv : v.ownBlock
    · exact .inl rfl
    · exact .inr (by simp)
  rcases h with h | h
  · exact .inl (key _ h)
  · exact .inr (key _ h)
theorem Bd.lt {w : World} {b : Nat} {t : List UInt8} (h : Bd w b t) : b < w.heap.size := by
  rcases h with h | h <;> exact h.lt
theorem Bd.new (w : World) : Bd (w.alloc (.cells #[.pointer none, .slice none 0 0] 68)) w.heap.size [] :=
  .inl ⟨Nat.le_refl _, _, heap_alloc_new w _, World.ownsRow_nil _ _ _ _, by simp [Value.ownBlock]⟩
theorem WriteS_any (b : Nat) (t : List UInt8) (s : ByteArray) (w : World) (h : Bd w b t) (hlen : t.length + s.size ≤ 140737488355328) :
    Calls Tryz.prog 34 #[.pointer (some ⟨b, 0, none⟩), .string s] w fun e w' => e = .returned (.tuple #[.int .i64 s.size, .nilIface]) ∧ Bd w' b (t ++ s.data.toList) ∧ Below b w w' ∧ Lib.OthersKept 5 (some b) w w' := by
  refine (WriteString_any b b _ s w h (by rw [Lib.byteCells_length]; exact hlen) (Nat.le_of_lt h.lt)).mono ?_
  rintro e w' ⟨rfl, h1, h2, h3⟩
  refine ⟨rfl, .inr ?_, h2, h3⟩
  rw [Lib.strCells_eq] at h1
  simpa [Lib.byteCells] using h1
theorem Row.others {w w' : World} {g b : Nat} {t : TypeId} {cs : Array Value} (h : Row w g t cs) (hk : Lib.OthersKept 5 (some b) w w') (hb : g ≠ b) (ht : t ≠ 5) : Row w' g t cs :=
  hk g _ h (fun e => hb (by injection e)) (fun c fz e => ht (by injection e))
theorem BString_any (b : Nat) (t : List UInt8) (w : World) (h : Bd w b t) :
    Calls Tryz.prog 37 #[.pointer (some ⟨b, 0, none⟩)] w fun e w' => e = .returned (.string ⟨t.toArray⟩) ∧ Below b w w' :=
  Tryz.Builder_String_any b b t w h (Nat.le_of_lt h.lt)

end Go.Proofs.YtnkephafpebfkaaGreatDoor
