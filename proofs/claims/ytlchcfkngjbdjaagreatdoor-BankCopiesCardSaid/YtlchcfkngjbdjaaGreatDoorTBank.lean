/- transfer.Bank: New, Submit. -/
import Derived.Test.YtlchcfkngjbdjaaGreatDoorTDec
import Derived.Test.YtlchcfkngjbdjaaGreatDoorMapG
namespace Go.Proofs.YtlchcfkngjbdjaaGreatDoor
open Go.RowKit Go.Shelf

def entB (p : Fil × Value) : Int × Value := (p.1.n, .agg (p.1.vals p.2))
/-- a bank in block B with its map in block M -/
structure BankS (w : World) (B M : Nat) (es : List (Fil × Value)) : Prop where
  box : Row w B 57 #[.map (some M)]
  map : w.heap[M]? = some (iObj (es.map entB))
  pay : ∀ p ∈ es, Sl w 2 p.2 (pays p.1.l)
  val : ∀ p ∈ es, filB p.1 = true
theorem BankS.below {w w' : World} {B M : Nat} {es : List (Fil × Value)} (h : BankS w B M es) (hb : Below w.heap.size w w') : BankS w' B M es :=
  ⟨h.box.below hb h.box.lt, (hb.block M (lt_of_some h.map)).trans h.map, fun p hp => (h.pay p hp).below hb, h.val⟩
theorem grownBy_of_below {w w' : World} {row : Option Nat} (h : Below w.heap.size w w') : w.grownBy w' row := ⟨h.os, h.tape, h.output, h.size, fun k hk _ => h.block k hk⟩
theorem bank_ty : Tryz.prog.underlying 55 = some (.map 3 37) := Tryz.underlying55
theorem zero_file (w : World) : (zeroValue 37).run Tryz.prog w = .ok (.agg #[.int .i64 0, .int .i64 0, .slice none 0 0]) w := by kernel_rfl
theorem eq_nil_map (m : Nat) (w : World) : (binOp .eql 55 (.map (some m)) (.map none)).run Tryz.prog w = .ok (.bool false) w := by kernel_rfl
theorem eq_nil_bank (b : Nat) (w : World) : (binOp .eql 25 (.pointer (some ⟨b, 0, none⟩)) (.pointer none)).run Tryz.prog w = .ok (.bool false) w := by kernel_rfl
theorem New_any (w : World) : Calls Tryz.prog 8 #[] w fun e w' => ∃ B M, e = .returned (.pointer (some ⟨B, 0, none⟩)) ∧ BankS w' B M [] ∧ Below w.heap.size w w' ∧ w.heap.size ≤ M ∧ M < B := by
  have hmm := @run_makeMap Tryz.prog
  go_enter Tryz.func8, Tryz.ntmps8
  go_wp2
  go_ret
  have hb := (Below.refl w.heap.size w).alloc (Nat.le_refl _) (.map #[] 0)
  refine ⟨w.heap.size + 1, w.heap.size, rfl, ⟨?_, ?_, (fun p hp => absurd hp (by simp)), (fun p hp => absurd hp (by simp))⟩, hb.alloc hb.size _, Nat.le_refl _, by omega⟩
  · have := Row.new (w.alloc (.map #[] 0)) 57 #[.map (some w.heap.size)]
    rwa [World.size_alloc] at this
  · exact (Below.heap_alloc _ _ _ (by simp)).trans (heap_alloc_new w _)
/-- the answer of a bank, and its files behind it -/
def subE (fs : List Fil) (s : List UInt8) : Int := if decE s = 0 then (if fs.any (fun f => decide (f.n = (decF s).n)) then 8 else 0) else decE s
def subF (fs : List Fil) (s : List UInt8) : List Fil := if subE fs s = 0 then fs ++ [decF s] else fs
theorem find_known {es : List (Fil × Value)} {k : Int} {j : Nat} : (findI k j (es.map entB)).isSome = (es.map (·.1)).any (fun f => decide (f.n = k)) := by
  induction es generalizing j with
  | nil => rfl
  | cons p r ih =>
    simp only [List.map_cons, findI, entB, List.any_cons]
    by_cases h : k = p.1.n
    · rw [if_pos h]; simp [h]
    · rw [if_neg h]
      have : ¬ p.1.n = k := fun e => h e.symm
      simp only [this, decide_false, Bool.false_or]
      exact ih
theorem get_known {es : List (Fil × Value)} {k : Int} : (getI (es.map entB) k).isSome = (es.map (·.1)).any (fun f => decide (f.n = k)) := by
  unfold getI
  rw [Option.isSome_map, find_known]
/-- the value of a file in a map is a file's -/
theorem get_file {es : List (Fil × Value)} (hv : ∀ p ∈ es, ∃ A n c, p.2 = .slice A n c) {k : Int} : ∃ (x y : Int) (A : Option Addr) (n c : Nat), ((getI (es.map entB) k).getD (.agg #[.int .i64 0, .int .i64 0, .slice none 0 0])) = .agg #[.int .i64 x, .int .i64 y, .slice A n c] := by
  unfold getI
  cases hf : findI k 0 (es.map entB) with
  | none => exact ⟨0, 0, none, 0, 0, rfl⟩
  | some p =>
    obtain ⟨n, a⟩ := p
    obtain ⟨_, h2, _⟩ := findI_some hf
    rw [Nat.sub_zero, List.getElem?_map] at h2
    cases hp : es[n]? with
    | none => rw [hp] at h2; cases h2
    | some q =>
      rw [hp] at h2
      simp only [Option.map_some, Option.some.injEq, entB, Prod.mk.injEq] at h2
      obtain ⟨A, m, c, hq⟩ := hv q (List.mem_of_getElem? hp)
      refine ⟨q.1.n, q.1.d, A, m, c, ?_⟩
      simp only [Option.map_some, Option.getD_some]
      rw [← h2.2, Fil.vals, hq]
theorem Sl.map_far {w w' : World} {M n : Nat} {a : Array MapEntry} {v : Value} {l : List Pay} (h : Sl w 2 v (pays l)) (hg : w.grownBy w' (some M)) (hm : w.heap[M]? = some (.map a n)) : Sl w' 2 v (pays l) := by
  obtain ⟨A, cap, rfl, h1, h2, h0, h3⟩ := h
  refine ⟨A, cap, rfl, h1, h2, h0, ?_⟩
  rcases h3 with h3 | ⟨b, off, rfl, hc⟩
  · exact .inl h3
  · cases l with
    | nil => exact .inl rfl
    | cons p r =>
      have hbM : b ≠ M := fun e => by
        have := hc.2 0 p.vals rfl 0 _ rfl
        rw [e] at this
        simp [World.cell?, hm] at this
      exact .inr ⟨b, off, rfl, Nat.lt_of_lt_of_le hc.1 hg.size, fun i x hi j u hu => (World.cell?_of_block (w := w) (a := ⟨b, _, none⟩) (hg.block b hc.1 (fun e => hbM (Option.some.inj e)))).trans (hc.2 i x hi j u hu)⟩
theorem Sl.is {w : World} {sz : Nat} {v : Value} {es : List (List Value)} (h : Sl w sz v es) : ∃ A n c, v = .slice A n c := by
  obtain ⟨A, c, h, _⟩ := h; exact ⟨A, _, c, h⟩
/-- a slice of the call's own does not lie in a map -/
theorem own_not_map {w : World} {base e sz M n : Nat} {v : Value} {es : List (List Value)} {a : Array MapEntry} (h : Own w base e sz v es) (hm : w.heap[M]? = some (.map a n)) : v.ownBlock = none ∨ v.ownBlock ≠ some M := by
  cases hv : v.ownBlock with
  | none => exact .inl rfl
  | some g =>
    refine .inr fun e => ?_
    rcases h.1.2 with ⟨rfl, _⟩ | ⟨g1, c1, cur1, rfl, _, hg1, _⟩
    · simp [Value.ownBlock] at hv
    · simp only [Value.ownBlock, Option.some.injEq] at hv e
      rw [hv, e, hm] at hg1
      cases hg1
/-- what Submit leaves -/
def SubT (w : World) (B M : Nat) (es : List (Fil × Value)) (s : List UInt8) (e : Ending) (w' : World) : Prop :=
  ∃ es', e = .returned (.int .i64 (subE (es.map (·.1)) s)) ∧ BankS w' B M es' ∧ es'.map (·.1) = subF (es.map (·.1)) s ∧ w.grownBy w' (some M) ∧ ∀ p ∈ es', p ∈ es ∨ Own w' w.heap.size 46 2 p.2 (pays p.1.l)
set_option maxRecDepth 100000 in
set_option maxHeartbeats 2000000 in
theorem SubmitT_any (B M : Nat) (es : List (Fil × Value)) (s : ByteArray) (w : World) (hb : BankS w B M es) (hT : Tabs w) (hE : Errs w) :
    Calls Tryz.prog 14 #[.pointer (some ⟨B, 0, none⟩), .string s] w (SubT w B M es s.data.toList) := by
  have HS : Hid (subE (es.map (·.1)) s.data.toList = if decE s.data.toList = 0 then (if (es.map (·.1)).any (fun f => decide (f.n = (decF s.data.toList).n)) then 8 else 0) else decE s.data.toList) := rfl
  have HF : Hid (subF (es.map (·.1)) s.data.toList = if subE (es.map (·.1)) s.data.toList = 0 then (es.map (·.1)) ++ [decF s.data.toList] else (es.map (·.1))) := rfl
  have HB := Lib.hid hb
  clear hb
  have hq := eq_nil_bank B
  have HD := Lib.hid (Decode_any s w hT hE)
  obtain ⟨f, hf⟩ : ∃ f, decF s.data.toList = f := ⟨_, rfl⟩
  obtain ⟨er, her⟩ : ∃ er, decE s.data.toList = er := ⟨_, rfl⟩
  rw [hf, her] at HD
  rw [hf, her] at HS
  rw [hf] at HF
  have HFV : Hid (er = 0 → filB f = true) := fun h => by
    obtain ⟨_, g, _, hg, hgf⟩ := decE_ok.1 (her.trans h)
    rw [← hf, hgf]; exact hg
  clear hf her
  go_enter Tryz.func14, Tryz.ntmps14
  go_wp2_with fail
  refine HD.out.mono ?_
  rintro e w1 ⟨v, rfl, hown, hb1⟩
  have hvl : f.vals v = #[.int .i64 f.n, .int .i64 f.d, v] := rfl
  rw [hvl]
  clear hvl hq
  have hB1 := HB.out.below hb1
  obtain ⟨Av, cv, rfl⟩ := hown.form
  rw [pays_len] at hown ⊢
  have hs1 := hb1.size
  by_cases h0 : er = 0
  rotate_left
  · have hne : (er != 0) = true := by simpa using h0
    have HS2 : Hid (subE (es.map (·.1)) s.data.toList = er) := by rw [Hid, HS.out, if_neg h0]
    have HF2 : Hid (subF (es.map (·.1)) s.data.toList = es.map (·.1)) := by rw [Hid, HF.out, HS2.out, if_neg h0]
    have HBN := Lib.hid (hB1.below ((Below.refl w1.heap.size w1).alloc (Nat.le_refl _) (.cells #[.int .i64 f.n, .int .i64 f.d, .slice Av f.l.length cv] 37)))
    have HG : Hid (w.grownBy (w1.alloc (.cells #[.int .i64 f.n, .int .i64 f.d, .slice Av f.l.length cv] 37)) (some M)) := grownBy_of_below (hb1.alloc hs1 _)
    clear h0 hB1 hown
    go_wp2
    go_ret
    exact ⟨es, by rw [HS2.out]; rfl, HBN.out, HF2.out.symm, HG.out, fun p hp => .inl hp⟩
  · subst h0
    have hx := Row.new w1 37 #[.int .i64 f.n, .int .i64 f.d, .slice Av f.l.length cv]
    have hal := (Below.refl w1.heap.size w1).alloc (Nat.le_refl _) (.cells #[.int .i64 f.n, .int .i64 f.d, .slice Av f.l.length cv] 37)
    have hB2 := hB1.below hal
    have hb2 := below_after hb1 hal hs1
    have hO2 := Lib.hid (hown.kept hal)
    obtain ⟨x, y, A', n', c', hget⟩ := get_file (es := es) (fun p hp => (hB1.pay p hp).is) (k := f.n)
    obtain ⟨kn, hkn⟩ : ∃ kn, (es.map (·.1)).any (fun g => decide (g.n = f.n)) = kn := ⟨_, rfl⟩
    have hkn' := get_known (es := es) (k := f.n)
    rw [hkn] at hkn' HS
    have HKN := Lib.hid hkn
    go_wp2_with fail
    obtain ⟨w2, hw2⟩ : ∃ w2, w1.alloc (.cells #[.int .i64 f.n, .int .i64 f.d, .slice Av f.l.length cv] 37) = w2 := ⟨_, rfl⟩
    rw [hw2] at hx hal hB2 hb2 hO2 ⊢
    obtain ⟨b, hbb⟩ : ∃ b, w1.heap.size = b := ⟨_, rfl⟩
    rw [hbb] at hx ⊢
    have HB2 := Lib.hid hB2
    have E1 := (run_lookup_i bank_ty (zero_file w2.drew) (show w2.drew.heap[M]? = some (iObj (es.map entB)) from hB2.map) f.n).1
    have E2 := (run_lookup_i bank_ty (zero_file (w2.alloc (.cells #[.int .i64 0, .int .i64 0, .slice none 0 0] 37)).drew) (show (w2.alloc (.cells #[.int .i64 0, .int .i64 0, .slice none 0 0] 37)).drew.heap[M]? = some (iObj (es.map entB)) from (Below.heap_alloc w2 _ M (lt_of_some hB2.map)).trans hB2.map) f.n).1
    rw [hget, hkn'] at E1 E2
    have c0 := hB2.box.cell 0
    have cl := hB2.box.lt
    simp only [List.getElem?_toArray, List.getElem?_cons_zero] at c0
    obtain ⟨⟨d0, d1, d2, dl⟩, -⟩ := row3 hx
    have HX := Lib.hid hx
    have HBB := Lib.hid hbb
    clear hx hw2 hB1 hB2 hown hget hkn' hkn hal hbb
    go_region_held3 (fun w' => w'.cell? ⟨B, 0, none⟩ = some (.map (some M)) ∧ w'.cell? ⟨b, 0, none⟩ = some (.int .i64 f.n)) (go_keep) (fail)
    all_goals
      clear E1 E2 c0 cl d0 d1 d2 dl
      have hal4 := (((Below.refl w2.heap.size w2).alloc (Nat.le_refl _) (.cells #[.int .i64 x, .int .i64 y, .slice A' n' c'] 37)).drew)
      obtain ⟨w4, hw4⟩ : ∃ w4, (w2.alloc (.cells #[.int .i64 x, .int .i64 y, .slice A' n' c'] 37)).drew = w4 := ⟨_, rfl⟩
      rw [hw4] at hal4 ⊢
      have hB4 := HB2.out.below hal4
      have hb4 := below_after hb2 hal4 hb2.size
      have hx4 := HX.out.below hal4 HX.out.lt
      have HO4 := Lib.hid (hO2.out.kept hal4)
      clear hw4 hal4
      cases kn
      · have HS2 : Hid (subE (es.map (·.1)) s.data.toList = 0) := by rw [Hid, HS.out]; rfl
        have HF2 : Hid (subF (es.map (·.1)) s.data.toList = es.map (·.1) ++ [f]) := by rw [Hid, HF.out, HS2.out, if_pos rfl]
        have hput : putI f.n (.agg #[.int .i64 f.n, .int .i64 f.d, .slice Av f.l.length cv]) (es.map entB) = (es ++ [(f, Value.slice Av f.l.length cv)]).map entB := by
          rw [findI_none (j := 0) (by
            have := get_known (es := es) (k := f.n)
            rw [HKN.out] at this
            unfold getI at this
            rw [Option.isSome_map] at this
            cases hh : findI f.n 0 (es.map entB) with
            | none => rfl
            | some p => rw [hh] at this; cases this)]
          simp [entB, Fil.vals]
        have hM4 := lt_of_some hB4.map
        have hBM : B ≠ M := fun e => by have := hB4.box; unfold Row at this; rw [e, hB4.map] at this; cases this
        have hbM : b ≠ M := fun e => by have := hx4; unfold Row at this; rw [e, hB4.map] at this; cases this
        have E3 := run_update_i bank_ty (show w4.drew.heap[M]? = some (iObj (es.map entB)) from hB4.map) f.n (.agg #[.int .i64 f.n, .int .i64 f.d, .slice Av f.l.length cv])
        rw [hput] at E3
        have hg5 : w4.drew.grownBy (setB w4.drew M (iObj ((es ++ [(f, Value.slice Av f.l.length cv)]).map entB))) (some M) := setB_grown
        have hm5 : (setB w4.drew M (iObj ((es ++ [(f, Value.slice Av f.l.length cv)]).map entB))).heap[M]? = some (iObj ((es ++ [(f, Value.slice Av f.l.length cv)]).map entB)) := setB_at hM4
        have c0 := hB4.box.cell 0
        have cl := hB4.box.lt
        simp only [List.getElem?_toArray, List.getElem?_cons_zero] at c0
        obtain ⟨⟨d0, d1, d2, dl⟩, -⟩ := row3 hx4
        obtain ⟨w5, hw5⟩ : ∃ w5, setB w4.drew M (iObj ((es ++ [(f, Value.slice Av f.l.length cv)]).map entB)) = w5 := ⟨_, rfl⟩
        rw [hw5] at E3 hg5 hm5
        have k0 := (World.cell?_of_block (w := w4.drew) (a := ⟨B, 0, none⟩) (hg5.block B cl (fun e => hBM (Option.some.inj e)))).trans c0
        have k1 := (World.cell?_of_block (w := w4.drew) (a := ⟨b, 0, none⟩) (hg5.block b dl (fun e => hbM (Option.some.inj e)))).trans d0
        have k2 := (World.cell?_of_block (w := w4.drew) (a := ⟨b, 1, none⟩) (hg5.block b dl (fun e => hbM (Option.some.inj e)))).trans d1
        have k3 := (World.cell?_of_block (w := w4.drew) (a := ⟨b, 2, none⟩) (hg5.block b dl (fun e => hbM (Option.some.inj e)))).trans d2
        have HEND : Hid (BankS w5 B M (es ++ [(f, Value.slice Av f.l.length cv)]) ∧ w.grownBy w5 (some M) ∧ Own w5 w.heap.size 46 2 (.slice Av f.l.length cv) (pays f.l)) := by
          refine ⟨⟨hB4.box.keep (w := w4.drew) hg5 (fun e => hBM (Option.some.inj e)), hm5, fun p hp => ?_, fun p hp => ?_⟩, ?_, (HO4.out.kept (Below.refl _ _).drew).keepG hg5 (own_not_map HO4.out hB4.map)⟩
          · rcases List.mem_append.1 hp with hp | hp
            · exact ((hB4.pay p hp).below (Below.refl _ _).drew).map_far hg5 hB4.map
            · rw [List.mem_singleton.1 hp]
              exact ((HO4.out.sl (by omega)).below (Below.refl _ _).drew).map_far hg5 hB4.map
          · rcases List.mem_append.1 hp with hp | hp
            · exact hB4.val p hp
            · rw [List.mem_singleton.1 hp]; exact HFV.out (by simp)
          · have h1 : w.grownBy w4.drew (some M) := grownBy_of_below hb4.drew
            exact ⟨hg5.os.trans h1.os, hg5.tape.trans h1.tape, hg5.output.trans h1.output, Nat.le_trans h1.size hg5.size, fun i hi hne => (hg5.block i (Nat.lt_of_lt_of_le hi h1.size) hne).trans (h1.block i hi hne)⟩
        have qm := eq_nil_map M
        clear hw5 hg5 hm5 hB4 hx4 HO4 hput hM4
        go_wp2_with fail
        go_region_held3 (fun w' => w'.cell? ⟨B, 0, none⟩ = some (.map (some M)) ∧ w'.cell? ⟨b, 0, none⟩ = some (.int .i64 f.n) ∧ w'.cell? ⟨b, 1, none⟩ = some (.int .i64 f.d) ∧ w'.cell? ⟨b, 2, none⟩ = some (.slice Av f.l.length cv)) (go_keep) (fail)
        clear k0 k1 k2 k3 c0 d0 d1 d2 E3 qm
        go_wp2
        go_ret
        exact ⟨_, by rw [HS2.out]; rfl, HEND.out.1, by rw [HF2.out]; simp, HEND.out.2.1, fun p hp => by
          rcases List.mem_append.1 hp with hp | hp
          · exact .inl hp
          · rw [List.mem_singleton.1 hp]; exact .inr HEND.out.2.2⟩
      · have HS2 : Hid (subE (es.map (·.1)) s.data.toList = 8) := by rw [Hid, HS.out]; rfl
        have HF2 : Hid (subF (es.map (·.1)) s.data.toList = es.map (·.1)) := by rw [Hid, HF.out, HS2.out, if_neg (by decide)]
        have HG : Hid (w.grownBy w4 (some M)) := grownBy_of_below hb4
        have HB4 := Lib.hid hB4
        clear hB4 hx4 HO4
        go_wp2
        go_ret
        exact ⟨es, by rw [HS2.out]; rfl, HB4.out, HF2.out.symm, HG.out, fun p hp => .inl hp⟩
theorem Submit_any (B M : Nat) (es : List (Fil × Value)) (s : ByteArray) (w : World) (hb : BankS w B M es) (hT : Tabs w) (hE : Errs w) :
    Calls Tryz.prog 14 #[.pointer (some ⟨B, 0, none⟩), .string s] w fun e w' => ∃ es', e = .returned (.int .i64 (subE (es.map (·.1)) s.data.toList)) ∧ BankS w' B M es' ∧ es'.map (·.1) = subF (es.map (·.1)) s.data.toList ∧ w.grownBy w' (some M) :=
  (SubmitT_any B M es s w hb hT hE).mono fun _ _ ⟨es', h1, h2, h3, h4, _⟩ => ⟨es', h1, h2, h3, h4⟩
end Go.Proofs.YtlchcfkngjbdjaaGreatDoor
