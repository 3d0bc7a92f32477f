/- filing.Authority: New, Submit. -/
import Derived.Test.YtnkephafpebfkaaDoorFd
import Derived.Test.YtnkephafpebfkaaDoorAuS
import Derived.Test.YtnkephafpebfkaaDoorQt
import Derived.Deep.RegionHeld3
namespace Go.Proofs.YtnkephafpebfkaaDoor
open Go.RowKit Go.Shelf

/-- an authority in block B with its map in block M -/
structure AuthS (w : World) (B M : Nat) (es : List (Ret × Value)) : Prop where
  box : Row w B 73 #[.map (some M)]
  map : w.heap[M]? = some (iObj (es.map entA))
  ln : ∀ p ∈ es, Sl w 3 p.2 (lns p.1.l)
  val : ∀ p ∈ es, retB p.1 = true
  dist : DistR (es.map (·.1))
theorem AuthS.below {w w' : World} {B M : Nat} {es : List (Ret × Value)} (h : AuthS w B M es) (hb : Below w.heap.size w w') : AuthS w' B M es :=
  ⟨h.box.below hb h.box.lt, (hb.block M (lt_of_some h.map)).trans h.map, fun p hp => (h.ln p hp).below hb, h.val, h.dist⟩
theorem grownBy_of_below {w w' : World} {row : Option Nat} (h : Below w.heap.size w w') : w.grownBy w' row := ⟨h.os, h.tape, h.output, h.size, fun k hk _ => h.block k hk⟩
theorem grown_trans' {w w1 w2 : World} {row : Option Nat} (h1 : w.grownBy w1 row) (h2 : w1.grownBy w2 row) : w.grownBy w2 row :=
  ⟨h2.os.trans h1.os, h2.tape.trans h1.tape, h2.output.trans h1.output, Nat.le_trans h1.size h2.size, fun i hi hne => (h2.block i (Nat.lt_of_lt_of_le hi h1.size) hne).trans (h1.block i hi hne)⟩
theorem auth_ty : Tryd.prog.underlying 71 = some (.map 3 25) := Tryd.underlying71
theorem zero_ret (w : World) : (zeroValue 25).run Tryd.prog w = .ok (.agg #[.int .i64 0, .int .i64 0, .slice none 0 0]) w := by kernel_rfl
theorem eq_nil_map (m : Nat) (w : World) : (binOp .eql 71 (.map (some m)) (.map none)).run Tryd.prog w = .ok (.bool false) w := by kernel_rfl
theorem eq_nil_auth (b : Nat) (w : World) : (binOp .eql 46 (.pointer (some ⟨b, 0, none⟩)) (.pointer none)).run Tryd.prog w = .ok (.bool false) w := by kernel_rfl
theorem field_ver (x y : Int) (A : Option Addr) (n c : Nat) (w : World) : (Instr.field 25 (.agg #[.int .i64 x, .int .i64 y, .slice A n c]) 1).run Tryd.prog w = .ok (.int .i64 y) w := by kernel_rfl
theorem NewA_any (w : World) : Calls Tryd.prog 16 #[] w fun e w' => ∃ B M, e = .returned (.pointer (some ⟨B, 0, none⟩)) ∧ AuthS w' B M [] ∧ Below w.heap.size w w' ∧ w.heap.size ≤ M ∧ M < B := by
  have hmm := @run_makeMap Tryd.prog
  go_enter Tryd.func16, Tryd.ntmps16
  go_wp2
  go_ret
  have hb := (Below.refl w.heap.size w).alloc (Nat.le_refl _) (.map #[] 0)
  refine ⟨w.heap.size + 1, w.heap.size, rfl, ⟨?_, ?_, (fun p hp => absurd hp (by simp)), (fun p hp => absurd hp (by simp)), .nil⟩, hb.alloc hb.size _, Nat.le_refl _, by omega⟩
  · have := Row.new (w.alloc (.map #[] 0)) 73 #[.map (some w.heap.size)]
    rwa [World.size_alloc] at this
  · exact (Below.heap_alloc _ _ _ (by simp)).trans (heap_alloc_new w _)
/-- a slice of the call's own does not lie in a map -/
theorem own_not_map {w : World} {base e sz M n : Nat} {v : Value} {es : List (List Value)} {a : Array MapEntry} (h : Own w base e sz v es) (hm : w.heap[M]? = some (.map a n)) : v.ownBlock = none ∨ v.ownBlock ≠ some M := by
  cases hv : v.ownBlock with
  | none => exact .inl rfl
  | some g =>
    refine .inr fun e => ?_
    rcases h.1.2 with ⟨rfl, _⟩ | ⟨g1, c1, cur1, rfl, _, hg1, _⟩
    · simp [Value.ownBlock] at hv
    · simp only [Value.ownBlock, Option.some.injEq] at hv e
      rw [hv, e, hm] at hg1
      cases hg1
/-- the version that the map knows -/
theorem get_ver {w : World} {B M : Nat} {es : List (Ret × Value)} (h : AuthS w B M es) (p : Int) : ∃ (x : Int) (A : Option Addr) (n c : Nat), ((getI (es.map entA) p).getD (.agg #[.int .i64 0, .int .i64 0, .slice none 0 0])) = .agg #[.int .i64 x, .int .i64 (verP (es.map (·.1)) p), .slice A n c] := by
  obtain ⟨h1, h2⟩ := get_ret h.dist p
  cases hh : hasP (es.map (·.1)) p
  · rw [h2 hh, verP_lat, latP_no hh]
    exact ⟨0, none, 0, 0, rfl⟩
  · obtain ⟨v, hv, he⟩ := h1 hh
    obtain ⟨A, n, c, hv'⟩ := (h.ln _ hv).is
    rw [he, verP_lat]
    simp only at hv'
    exact ⟨_, A, n, c, by rw [Option.getD_some, Ret.vals, hv']⟩
/-- what Submit leaves -/
def SubT (w : World) (B M : Nat) (es : List (Ret × Value)) (s : List UInt8) (e : Ending) (w' : World) : Prop :=
  ∃ es', e = .returned (.int .i64 (subE (es.map (·.1)) s)) ∧ AuthS w' B M es' ∧ es'.map (·.1) = subA (es.map (·.1)) s ∧ w.grownBy w' (some M) ∧ ∀ p ∈ es', p ∈ es ∨ Own w' w.heap.size 28 3 p.2 (lns p.1.l)
set_option maxRecDepth 100000 in
set_option maxHeartbeats 4000000 in
theorem SubmitA_any (B M : Nat) (es : List (Ret × Value)) (s : ByteArray) (w : World) (hb : AuthS w B M es) (hT : Tabs w) (hE : Errs w) :
    Calls Tryd.prog 17 #[.pointer (some ⟨B, 0, none⟩), .string s] w (SubT w B M es s.data.toList) := by
  have HS : Hid (subE (es.map (·.1)) s.data.toList = if decE s.data.toList = 0 then (if (decR s.data.toList).v ≤ verP (es.map (·.1)) (decR s.data.toList).p then 8 else if verP (es.map (·.1)) (decR s.data.toList).p + 1 < (decR s.data.toList).v then 16 else 0) else decE s.data.toList) := rfl
  have HF : Hid (subA (es.map (·.1)) s.data.toList = if subE (es.map (·.1)) s.data.toList = 0 then putR (es.map (·.1)) (decR s.data.toList) else (es.map (·.1))) := rfl
  have HB := Lib.hid hb
  clear hb
  have hq := eq_nil_auth B
  have HD := Lib.hid (DecodeR_any s w hT hE)
  obtain ⟨f, hf⟩ : ∃ f, decR s.data.toList = f := ⟨_, rfl⟩
  obtain ⟨er, her⟩ : ∃ er, decE s.data.toList = er := ⟨_, rfl⟩
  rw [hf, her] at HD
  rw [hf, her] at HS
  rw [hf] at HF
  have HFV : Hid (er = 0 → retB f = true) := fun h => by
    have := (decE_ok (her.trans h)).2
    rwa [hf] at this
  clear hf her
  go_enter Tryd.func17, Tryd.ntmps17
  go_wp2_with fail
  refine HD.out.mono ?_
  rintro e w1 ⟨v, rfl, hown, hb1⟩
  have hvl : f.vals v = #[.int .i64 f.p, .int .i64 f.v, v] := rfl
  rw [hvl]
  clear hvl hq
  have hB1 := HB.out.below hb1
  obtain ⟨Av, cv, rfl⟩ := hown.form
  rw [lns_len] at hown ⊢
  have hs1 := hb1.size
  by_cases h0 : er = 0
  rotate_left
  · have hne : (er != 0) = true := by simpa using h0
    have HS2 : Hid (subE (es.map (·.1)) s.data.toList = er) := by rw [Hid, HS.out, if_neg h0]
    have HF2 : Hid (subA (es.map (·.1)) s.data.toList = es.map (·.1)) := by rw [Hid, HF.out, HS2.out, if_neg h0]
    have HBN := Lib.hid (hB1.below ((Below.refl w1.heap.size w1).alloc (Nat.le_refl _) (.cells #[.int .i64 f.p, .int .i64 f.v, .slice Av f.l.length cv] 25)))
    have HG : Hid (w.grownBy (w1.alloc (.cells #[.int .i64 f.p, .int .i64 f.v, .slice Av f.l.length cv] 25)) (some M)) := grownBy_of_below (hb1.alloc hs1 _)
    clear h0 hB1 hown
    go_wp2
    go_ret
    exact ⟨es, by rw [HS2.out]; rfl, HBN.out, HF2.out.symm, HG.out, fun p hp => .inl hp⟩
  · subst h0
    have hfv := (retB_iff _).1 (HFV.out (by trivial))
    have hv0 := hfv.v0
    have hv1 := hfv.v1
    have hx := Row.new w1 25 #[.int .i64 f.p, .int .i64 f.v, .slice Av f.l.length cv]
    have hal := (Below.refl w1.heap.size w1).alloc (Nat.le_refl _) (.cells #[.int .i64 f.p, .int .i64 f.v, .slice Av f.l.length cv] 25)
    have hB2 := hB1.below hal
    have hb2 := below_after hb1 hal hs1
    have hO2 := Lib.hid (hown.kept hal)
    obtain ⟨x, A', n', c', hget⟩ := get_ver hB1 f.p
    obtain ⟨kv, hkv⟩ : ∃ kv, verP (es.map (·.1)) f.p = kv := ⟨_, rfl⟩
    have hkvb : 0 ≤ kv ∧ kv ≤ 65536 := by
      rw [← hkv, verP_lat]
      cases hh : hasP (es.map (·.1)) f.p
      · rw [latP_no hh]; simp
      · obtain ⟨q, hq, he⟩ := List.mem_map.1 (latP_mem hh).1
        have := (retB_iff _).1 (hB1.val q hq)
        have a0 := this.v0
        have a1 := this.v1
        rw [← he]; omega
    rw [hkv] at hget HS
    clear hkv
    obtain ⟨k0, k1⟩ := hkvb
    clear hfv
    go_wp2_with fail
    obtain ⟨w2, hw2⟩ : ∃ w2, w1.alloc (.cells #[.int .i64 f.p, .int .i64 f.v, .slice Av f.l.length cv] 25) = w2 := ⟨_, rfl⟩
    rw [hw2] at hx hal hB2 hb2 hO2 ⊢
    obtain ⟨b, hbb⟩ : ∃ b, w1.heap.size = b := ⟨_, rfl⟩
    rw [hbb] at hx ⊢
    have HB2 := Lib.hid hB2
    have E1 := fun y : Ext w2 => (run_lookup_i auth_ty (zero_ret y.val) (hB2.below y.property).map f.p).2
    rw [hget] at E1
    have c0 := hB2.box.cell 0
    have cl := hB2.box.lt
    simp only [List.getElem?_toArray, List.getElem?_cons_zero] at c0
    obtain ⟨⟨d0, d1, d2, dl⟩, -⟩ := row3 hx
    have HX := Lib.hid hx
    have y0 := ext_cell cl c0
    have y1 := ext_cell dl d0
    have y2 := ext_cell dl d1
    have y3 := ext_cell dl d2
    clear hx hw2 hB1 hB2 hown hget hal hbb c0 d0 d1 d2
    have EF := fun W => field_ver x kv A' n' c' W
    refine region_ext (by kernel_rfl) (by kernel_rfl) ?_
    repeat (go_big_quiet_step (fail))
    refine wpQuiet_nil ?_
    rintro _ ⟨y, rfl⟩
    have hb3 := below_after hb2 y.property hb2.size
    have hB3 := HB2.out.below y.property
    have hx3 := HX.out.below y.property HX.out.lt
    have HO3 : Hid (Own y.val w.heap.size 28 3 (.slice Av f.l.length cv) (lns f.l)) := hO2.out.kept y.property
    generalize y.val = w3 at hb3 hB3 hx3 HO3 ⊢
    clear E1 EF y0 y1 y2 y3 y cl dl HB2 HX hO2 hb2
    have c0 := hB3.box.cell 0
    have cl := hB3.box.lt
    simp only [List.getElem?_toArray, List.getElem?_cons_zero] at c0
    obtain ⟨⟨d0, d1, d2, dl⟩, -⟩ := row3 hx3
    by_cases hle : f.v ≤ kv
    · have HS2 : Hid (subE (es.map (·.1)) s.data.toList = 8) := by rw [Hid, HS.out, if_pos (by trivial), if_pos hle]
      have HF2 : Hid (subA (es.map (·.1)) s.data.toList = es.map (·.1)) := by rw [Hid, HF.out, HS2.out, if_neg (by decide)]
      have hd : decide (f.v ≤ kv) = true := decide_eq_true hle
      have HG : Hid (w.grownBy w3 (some M)) := grownBy_of_below hb3
      have HBN := Lib.hid hB3
      clear hle hB3 hx3
      go_wp2
      go_ret
      exact ⟨es, by rw [HS2.out]; rfl, HBN.out, HF2.out.symm, HG.out, fun p hp => .inl hp⟩
    have hd : decide (f.v ≤ kv) = false := decide_eq_false hle
    by_cases hgt : kv + 1 < f.v
    · have HS2 : Hid (subE (es.map (·.1)) s.data.toList = 16) := by rw [Hid, HS.out, if_pos (by trivial), if_neg hle, if_pos hgt]
      have HF2 : Hid (subA (es.map (·.1)) s.data.toList = es.map (·.1)) := by rw [Hid, HF.out, HS2.out, if_neg (by decide)]
      have HG : Hid (w.grownBy w3 (some M)) := grownBy_of_below hb3
      have HBN := Lib.hid hB3
      clear hle hB3 hx3
      go_wp2
      go_ret
      exact ⟨es, by rw [HS2.out]; rfl, HBN.out, HF2.out.symm, HG.out, fun p hp => .inl hp⟩
    have HS2 : Hid (subE (es.map (·.1)) s.data.toList = 0) := by rw [Hid, HS.out, if_pos (by trivial), if_neg hle, if_neg hgt]
    have HF2 : Hid (subA (es.map (·.1)) s.data.toList = putR (es.map (·.1)) f) := by rw [Hid, HF.out, HS2.out, if_pos rfl]
    have qm := eq_nil_map M
    clear hle
    go_wp2_with fail
    have y0 := ext_cell cl c0
    have y1 := ext_cell dl d0
    have y2 := ext_cell dl d1
    have y3 := ext_cell dl d2
    have HB3 := Lib.hid hB3
    have HX3 := Lib.hid hx3
    have hbM : b ≠ M := fun e => by have := hx3; unfold Row at this; rw [e, hB3.map] at this; cases this
    have hBM : B ≠ M := fun e => by have := hB3.box; unfold Row at this; rw [e, hB3.map] at this; cases this
    clear c0 d0 d1 d2 hB3 hx3
    refine region_ext_tail 7 (by kernel_rfl) (by kernel_rfl) ?_
    simp only [List.take_succ_cons, List.take_zero, List.drop_succ_cons, List.drop_zero]
    repeat (go_big_quiet_step (fail))
    refine wpQuiet_nil ?_
    rintro _ ⟨y, rfl⟩
    have hB4 := HB3.out.below y.property
    have hb4 := below_after hb3 y.property hb3.size
    have HO4 := Lib.hid (HO3.out.kept y.property)
    generalize y.val = w4 at hB4 hb4 HO4 ⊢
    clear y0 y1 y2 y3 y HB3 HX3 HO3 hb3
    have hput := putI_ents hB4.dist f (.slice Av f.l.length cv)
    have hM4 := lt_of_some hB4.map
    have E3 := run_update_i auth_ty hB4.map f.p (.agg #[.int .i64 f.p, .int .i64 f.v, .slice Av f.l.length cv])
    rw [show (Value.agg #[.int .i64 f.p, .int .i64 f.v, .slice Av f.l.length cv]) = .agg (f.vals (.slice Av f.l.length cv)) from rfl, hput] at E3
    rw [show (Value.agg (f.vals (.slice Av f.l.length cv))) = .agg #[.int .i64 f.p, .int .i64 f.v, .slice Av f.l.length cv] from rfl] at E3
    have hg5 : w4.grownBy (setB w4 M (iObj ((putE es f (.slice Av f.l.length cv)).map entA))) (some M) := setB_grown
    have hm5 : (setB w4 M (iObj ((putE es f (.slice Av f.l.length cv)).map entA))).heap[M]? = some (iObj ((putE es f (.slice Av f.l.length cv)).map entA)) := setB_at hM4
    obtain ⟨w5, hw5⟩ : ∃ w5, setB w4 M (iObj ((putE es f (.slice Av f.l.length cv)).map entA)) = w5 := ⟨_, rfl⟩
    rw [hw5] at E3 hg5 hm5
    have HEND : Hid (AuthS w5 B M (putE es f (.slice Av f.l.length cv)) ∧ w.grownBy w5 (some M) ∧ Own w5 w.heap.size 28 3 (.slice Av f.l.length cv) (lns f.l)) := by
      refine ⟨⟨hB4.box.keep hg5 (fun e => hBM (Option.some.inj e)), hm5, fun p hp => ?_, fun p hp => ?_, by rw [putE_fst]; exact hB4.dist.put f⟩, ?_, HO4.out.keepG hg5 (own_not_map HO4.out hB4.map)⟩
      · rcases putE_mem hp with hp | rfl
        · exact (hB4.ln p hp).ln_far hg5 (noLn_map hB4.map)
        · exact (HO4.out.sl (by omega)).ln_far hg5 (noLn_map hB4.map)
      · rcases putE_mem hp with hp | rfl
        · exact hB4.val p hp
        · exact HFV.out (by trivial)
      · exact grown_trans' (grownBy_of_below hb4) hg5
    clear hw5 hg5 hm5 hB4 HO4 hput hM4 hb4
    go_wp2
    go_ret
    exact ⟨_, by rw [HS2.out]; rfl, HEND.out.1, by rw [HF2.out, putE_fst], HEND.out.2.1, fun p hp => by
      rcases putE_mem hp with hp | rfl
      · exact .inl hp
      · exact .inr HEND.out.2.2⟩
end Go.Proofs.YtnkephafpebfkaaDoor
