/- Contract of payslip.Format, where the payslip has no lines. -/
import Derived.Test.YtljhdkdabiemmaaDoorSlip
import Derived.Test.YtljhdkdabiemmaaDoorBld
import Derived.Lib.ItoaNum
namespace Go.Proofs.YtljhdkdabiemmaaDoor
open Go.RowKit Go.Shelf

/-- the table of strconv -/
def Tabs (w : World) : Prop := Lib.TabIs Tryd.prog w "internal/strconv.uint64pow10" .u64 Lib.pow10Tab
theorem var_below {P : Program} {w w' : World} {B : Nat} {name : String} {cs : Array Value} (h : w.var? P name = some cs) (hb : Below B w w') (hB : B = w.heap.size) : w'.var? P name = some cs := by
  subst hB
  unfold World.var? at h ⊢
  cases hg : P.globalNamed name with
  | none => rw [hg] at h; cases h
  | some g =>
    rw [hg] at h
    simp only [Option.bind_some] at h ⊢
    have hlt : g < w.heap.size := by
      rcases Nat.lt_or_ge g w.heap.size with h' | h'
      · exact h'
      · rw [Array.getElem?_eq_none h'] at h; cases h
    rw [hb.block g hlt]; exact h
theorem Tabs.below {w w' : World} (h : Tabs w) (hb : Below w.heap.size w w') : Tabs w' := var_below h hb rfl
theorem Itoa_any (n : Int) (w : World) (h0 : -9223372036854775808 ≤ n) (h1 : n ≤ 9223372036854775807) (ht : Tabs w) :
    Calls Tryd.prog 39 #[.int .i64 n] w fun e w' => e = .returned (.string ⟨(Lib.itoa n).toArray⟩) ∧ Below w.heap.size w w' :=
  (Tryd.strconv_Itoa n h0 h1 w ht).mono fun _ w' ⟨he, k, os, hw⟩ => ⟨he, by rw [hw]; exact Lib.below_grow _ _ (Nat.le_refl _) _ _⟩
/-- a builder in block b that holds t -/
def Bd (w : World) (b : Nat) (t : List UInt8) : Prop := Lib.IsBuilder 70 5 b b (Lib.byteCells t) w
theorem Bd.kept {w w' : World} {b : Nat} {t : List UInt8} (h : Bd w b t) (hb : Below w.heap.size w w') : Bd w' b t := by
  have key : ∀ p, Lib.BuilderAt 70 5 b b p (Lib.byteCells t) w → Lib.BuilderAt 70 5 b b p (Lib.byteCells t) w' := by
    intro p h
    have hl := h.lt
    obtain ⟨hB, v, hk, ho, hne⟩ := h
    refine ⟨hB, v, (hb.block b hl).trans hk, ho.kept (row := none) ⟨hb.os, hb.tape, hb.output, hb.size, fun k hk _ => hb.block k hk⟩ ?_, hne⟩
    cases hv : v.ownBlock
    · exact .inl rfl
    · exact .inr (by simp)
  rcases h with h | h
  · exact .inl (key _ h)
  · exact .inr (key _ h)
theorem Bd.lt {w : World} {b : Nat} {t : List UInt8} (h : Bd w b t) : b < w.heap.size := by
  rcases h with h | h <;> exact h.lt
theorem Bd.new (w : World) : Bd (w.alloc (.cells #[.pointer none, .slice none 0 0] 70)) w.heap.size [] :=
  .inl ⟨Nat.le_refl _, _, heap_alloc_new w _, World.ownsRow_nil _ _ _ _, by simp [Value.ownBlock]⟩
theorem WriteS_any (b : Nat) (t : List UInt8) (s : ByteArray) (w : World) (h : Bd w b t) (hlen : t.length + s.size ≤ 140737488355328) :
    Calls Tryd.prog 38 #[.pointer (some ⟨b, 0, none⟩), .string s] w fun e w' => e = .returned (.tuple #[.int .i64 s.size, .nilIface]) ∧ Bd w' b (t ++ s.data.toList) ∧ Below b w w' ∧ Lib.OthersKept 5 (some b) w w' := by
  refine (WriteString_any b b _ s w h (by rw [Lib.byteCells_length]; exact hlen) (Nat.le_of_lt h.lt)).mono ?_
  rintro e w' ⟨rfl, h1, h2, h3⟩
  refine ⟨rfl, .inr ?_, h2, h3⟩
  rw [Lib.strCells_eq] at h1
  simpa [Lib.byteCells] using h1
theorem Row.others {w w' : World} {g b : Nat} {t : TypeId} {cs : Array Value} (h : Row w g t cs) (hk : Lib.OthersKept 5 (some b) w w') (hb : g ≠ b) (ht : t ≠ 5) : Row w' g t cs :=
  hk g _ h (fun e => hb (by injection e)) (fun c fz e => ht (by injection e))
theorem BString_any (b : Nat) (t : List UInt8) (w : World) (h : Bd w b t) :
    Calls Tryd.prog 41 #[.pointer (some ⟨b, 0, none⟩)] w fun e w' => e = .returned (.string ⟨t.toArray⟩) ∧ Below b w w' :=
  Tryd.Builder_String_any b b t w h (Nat.le_of_lt h.lt)
theorem dec_len (u : Nat) (k : Nat) (h : u < 10 ^ (k + 1)) : (Lib.decDigits u).length ≤ k + 1 := by
  induction k generalizing u with
  | zero =>
    rw [Lib.decDigits]
    simp at h
    simp [h]
  | succ k ih =>
    rw [Lib.decDigits]
    by_cases hu : u < 10
    · simp [hu]
    · simp only [hu, dite_false, List.length_append, List.length_singleton]
      have := ih (u / 10) (by rw [Nat.pow_succ] at h; omega)
      omega
theorem itoa_len (n : Int) (h0 : -9223372036854775808 ≤ n) (h1 : n ≤ 9223372036854775807) : (Lib.itoa n).length ≤ 21 := by
  unfold Lib.itoa
  split
  · have := dec_len n.natAbs 18 (by omega)
    simp only [List.length_cons]; omega
  · have := dec_len n.toNat 18 (by omega)
    omega
/-- the call returns the decimal text of a number -/
def RetDec (n : Int) (w : World) (e : Ending) (w' : World) : Prop := ∃ s : ByteArray, e = .returned (.string s) ∧ Hid (s.data.toList = Lib.itoa n) ∧ s.size ≤ 21 ∧ Below w.heap.size w w'
theorem ItoaD_any (n : Int) (w : World) (h0 : -9223372036854775808 ≤ n) (h1 : n ≤ 9223372036854775807) (ht : Tabs w) : Calls Tryd.prog 39 #[.int .i64 n] w (RetDec n w) :=
  (Itoa_any n w h0 h1 ht).mono fun _ w' ⟨he, hb⟩ => ⟨_, he, (show (Lib.itoa n).toArray.toList = _ by simp), (by have := itoa_len n h0 h1; simpa [ByteArray.size] using this), hb⟩
end Go.Proofs.YtljhdkdabiemmaaDoor
