/- The law FilingLimits: it returns true. -/
import Derived.Test.YtnkephafpebfkaaDoorFaw
import Derived.Test.YtnkephafpebfkaaDoorGen1
import Derived.OwnWalk
namespace Go.Proofs.YtnkephafpebfkaaDoor
open Go.RowKit Go.Shelf

def codeL (j : Nat) : List UInt8 := [UInt8.ofNat (97 + j / 26), UInt8.ofNat (97 + j % 26), 113]
def codeQ (j : Nat) : ByteArray := ⟨(codeL j).toArray⟩
theorem codeQ_list (j : Nat) : (codeQ j).data.toList = codeL j := by simp [codeQ]
theorem codeL_name : ∀ j, j < 258 → nameB (codeL j) = true := by decide +kernel
theorem codeL_lt : ∀ j, j < 258 → codeL j < codeL (j + 1) := by decide +kernel
/-- i lines -/
def limL (i : Nat) : List Ln := (List.range i).map fun (j : Nat) => (⟨4, codeQ j, 1⟩ : Ln)
theorem limL_len (i : Nat) : (limL i).length = i := by simp [limL]
theorem limL_step (i : Nat) : limL (i + 1) = limL i ++ [⟨4, codeQ i, 1⟩] := by simp [limL, List.range_succ]
theorem limL_at {i j : Nat} (h : j < (limL i).length) : (limL i)[j] = ⟨4, codeQ j, 1⟩ := by simp [limL]
theorem limL_ord {k : Nat} (hk : k ≤ 258) : ordB (limL k) = true := by
  rw [ordB_iff]
  refine ⟨fun j hj => ?_, fun j hj => ?_⟩
  · rw [limL_at]
    rw [limL_len] at hj
    have := codeL_name j (by omega)
    simp [formB, formedB, totB, bareB, codeQ_list, this]
  · rw [limL_at, limL_at, lnLt_iff]
    rw [limL_len] at hj
    refine .inr ⟨rfl, ?_⟩
    rw [ByteArray.toList_eq, ByteArray.toList_eq, codeQ_list, codeQ_list]
    exact codeL_lt j (by omega)
def limF (k : Nat) : Ret := ⟨0, 1, limL k⟩
theorem limF_val {k : Nat} (hk : k ≤ 258) : retB (limF k) = decide (k ≤ 256) := by
  by_cases h : k ≤ 256
  · rw [decide_eq_true h, retB_iff]
    refine ⟨Int.le_refl 0, (by show (0 : Int) ≤ 84005; omega), Int.le_refl 1, (by show (1 : Int) ≤ 65536; omega), by rw [limF, limL_len]; exact h, fun x hx => ?_, limL_ord hk⟩
    obtain ⟨j, _, rfl⟩ := List.mem_map.1 (show x ∈ (List.range k).map (fun (j : Nat) => (⟨4, codeQ j, 1⟩ : Ln)) from hx)
    rfl
  · rw [decide_eq_false h, Bool.eq_false_iff]
    intro hh
    have := ((retB_iff _).1 hh).n
    rw [limF, limL_len] at this
    exact h this
theorem limF_dec {k : Nat} (hk : k ≤ 256) : decE (encT (limF k)) = 0 ∧ decR (encT (limF k)) = limF k ∧ encE (limF k) = 0 := by
  have hv : retB (limF k) = true := by rw [limF_val (by omega)]; simpa using hk
  have := dec_of hv
  rw [encT, hv, if_pos rfl]
  exact ⟨this.1, this.2, by rw [encE, hv]; rfl⟩
theorem limF_big {k : Nat} (h1 : 256 < k) (hk : k ≤ 258) : encT (limF k) = [] ∧ encE (limF k) = 1 ∧ decE [] = 6 ∧ decR [] = ⟨0, 0, []⟩ := by
  have hv : retB (limF k) = false := by rw [limF_val hk]; simpa using h1
  have h0 : decE [] = 6 := by decide
  exact ⟨by rw [encT, hv]; rfl, by rw [encE, hv]; rfl, h0, decR_no (by rw [h0]; decide)⟩
theorem dec_zeros (N : Nat) : decE (List.replicate N 0) = if 65536 < N then 3 else 6 := by
  by_cases h : 65536 < N
  · rw [decE, List.length_replicate, if_pos h, if_pos h]
  · rw [if_neg h]
    refine decE_no (by rw [List.length_replicate]; omega) fun r _ hr => ?_
    have h10 : (10 : UInt8) ∈ List.replicate N (0 : UInt8) := by rw [hr, retT_join]; simp
    have := List.eq_of_mem_replicate h10
    cases this
theorem run_three (w : World) (a b : UInt8) : (convert 26 9 (.slice (some ⟨w.heap.size, 0, none⟩) 3 3)).run Tryd.prog (w.alloc (.cells #[.int .u8 a.toNat, .int .u8 b.toNat, .int .u8 113] 5)) = .ok (.string ⟨#[a, b, 113]⟩) (w.alloc (.cells #[.int .u8 a.toNat, .int .u8 b.toNat, .int .u8 113] 5)) := by
  refine run_convert_bytes_back (P := Tryd.prog) _ _ _ _ ⟨w.heap.size, 0, none⟩ 3 [a, b, 113] Tryd.underlying26 Tryd.underlying5 Tryd.underlying9 ?_
  intro j hj
  match j, hj with
  | 0, _ => rw [show (⟨w.heap.size, 0, none⟩ : Addr).add 0 = ⟨w.heap.size, 0, none⟩ from rfl, World.cell?_alloc_new]; rfl
  | 1, _ => rw [show (⟨w.heap.size, 0, none⟩ : Addr).add 1 = ⟨w.heap.size, 1, none⟩ from rfl, World.cell?_alloc_new]; rfl
  | 2, _ => rw [show (⟨w.heap.size, 0, none⟩ : Addr).add 2 = ⟨w.heap.size, 2, none⟩ from rfl, World.cell?_alloc_new]; rfl
theorem PaS.push {wL w5 W : World} {m : Nat} {n d : Int} {acc : List Ln} {v : Value} (h : PaS wL m n d acc v w5) (hW : Below w5.heap.size w5 W) (p : Ln) {v7 : Value} {w7 : World}
    (hown7 : Own w7 wL.heap.size 28 3 v7 (lns acc ++ [p.vals])) (hg7 : W.grownBy w7 v.ownBlock) (hv7 : v7.ownBlock = v.ownBlock ∨ v7.ownBlock = some W.heap.size) :
    PaS wL m n d (acc ++ [p]) v7 (w7.setCell ⟨m, 2, none⟩ v7) ∧ Row w7 m 25 #[.int .i64 n, .int .i64 d, v] := by
  have h5 := h.same hW
  have hml := h.box.lt
  have hr7 := h5.box.keep hg7 (fun e => h.apart e.symm)
  have hne : v7.ownBlock ≠ some m := by
    rcases hv7 with e | e
    · rw [e]; exact h.apart
    · rw [e]; intro hh; injection hh with hh; have := hW.size; omega
  refine ⟨⟨(Own.grown h5.own h5.below hg7 h5.below.size).setCell (p := ⟨m, 2, none⟩) h.high _, hr7.set 2 _, ?_, hne, h.high⟩, hr7⟩
  rw [lns_append]
  exact hown7.keepG (grown_set w7 m 2 v7) (.inr hne)
theorem run_code (w : World) (i : Nat) (hi : i < 258) : (convert 26 9 (.slice (some ⟨w.heap.size, 0, none⟩) 3 3)).run Tryd.prog (w.alloc (.cells #[.int .u8 (97 + (i : Int) / 26), .int .u8 (97 + (i : Int) % 26), .int .u8 113] 5)) = .ok (.string (codeQ i)) (w.alloc (.cells #[.int .u8 (97 + (i : Int) / 26), .int .u8 (97 + (i : Int) % 26), .int .u8 113] 5)) := by
  have h := run_three w (UInt8.ofNat (97 + i / 26)) (UInt8.ofNat (97 + i % 26))
  have e1 : ((UInt8.ofNat (97 + i / 26)).toNat : Int) = 97 + (i : Int) / 26 := by rw [UInt8.toNat_ofNat']; omega
  have e2 : ((UInt8.ofNat (97 + i % 26)).toNat : Int) = 97 + (i : Int) % 26 := by rw [UInt8.toNat_ofNat']; omega
  rw [e1, e2] at h
  exact h
set_option maxRecDepth 100000 in
set_option maxHeartbeats 2000000 in
theorem FilingLimits_any (n m : Int) (w : World) (hT : Tabs w) (hE : Errs w) :
    Calls Tryd.prog 3 #[.int .i64 n, .int .i64 m] w fun e w' => e = .returned (.bool true) ∧ Below w.heap.size w w' := by
  have HT := Lib.hid hT
  have HER := Lib.hid hE
  clear hT hE
  obtain ⟨k, hk⟩ : ∃ k : Nat, (k : Int) = 255 + n % 3 := ⟨(255 + n % 3).toNat, by omega⟩
  obtain ⟨N, hN⟩ : ∃ N : Nat, (N : Int) = 65535 + m % 3 := ⟨(65535 + m % 3).toNat, by omega⟩
  have hk1 : 255 ≤ k := by omega
  have hk2 : k ≤ 257 := by omega
  have hN1 : 65535 ≤ N := by omega
  have hN2 : N ≤ 65537 := by omega
  have HK : Hid ((255 : Int) + n % 3 = k) := hk.symm
  have HN : Hid ((65535 : Int) + m % 3 = N) := hN.symm
  have hm1 : 0 ≤ n % 3 := by omega
  have hm2 : n % 3 ≤ 2 := by omega
  have hm3 : 0 ≤ m % 3 := by omega
  have hm4 : m % 3 ≤ 2 := by omega
  clear hk hN
  go_enter Tryd.func3, Tryd.ntmps3
  go_wp2_with fail
  refine (Mod_any _ _ _ (by omega) (by omega)).mono ?_
  rintro e w1 ⟨rfl, rfl⟩
  go_wp2_with fail
  rw [HK.out]
  clear hm1 hm2 HK
  have h00 : PaS w w.heap.size 0 1 (limL 0) (.slice none 0 0) (w.alloc (.cells #[.int .i64 0, .int .i64 1, .slice none 0 0] 25)) :=
    ⟨(Below.refl _ _).alloc (Nat.le_refl _) _, Row.new _ _ _, (by rw [show lns (limL 0) = [] from rfl]; exact Own.nil _ _ _ _), by simp [Value.ownBlock], Nat.le_refl _⟩
  obtain ⟨g, hg⟩ : ∃ g, w.heap.size = g := ⟨_, rfl⟩
  rw [show PaS w w.heap.size 0 1 (limL 0) (.slice none 0 0) (w.alloc (.cells #[.int .i64 0, .int .i64 1, .slice none 0 0] 25)) = PaS w g 0 1 (limL 0) (.slice none 0 0) (w.alloc (.cells #[.int .i64 0, .int .i64 1, .slice none 0 0] 25)) by rw [hg]] at h00
  rw [hg]
  clear hg
  go_loopw [7] (fun t wr => ∃ i : Nat, ∃ v, i ≤ k ∧ t = .int .i64 i ∧ Hid (PaS w g 0 1 (limL i) v wr)) (fun t _ => k - (intOf t).toNat)
  case atStart => exact ⟨0, _, by omega, rfl, h00⟩
  case round =>
    clear h00
    obtain ⟨i, v, hi, rfl, HS⟩ := hrel
    obtain ⟨wo, rfl⟩ : ∃ wo : World, wo = wr := ⟨_, rfl⟩
    obtain ⟨⟨b0, b1, b2, bl⟩, ⟨f0, f1, f2⟩⟩ := row3 HS.out.box
    by_cases hlt : i < k
    · have hcv := run_code wo i (by omega)
      have hW1 := (Below.refl wo.heap.size wo).alloc (Nat.le_refl _) (.cells #[.int .u8 (97 + (i : Int) / 26), .int .u8 (97 + (i : Int) % 26), .int .u8 113] 5)
      have hW2 := hW1.alloc hW1.size (.cells #[.int .i64 4, .string (codeQ i), .int .i64 1] 28)
      have hO2 := Lib.hid ((HS.out.own.alloc (.cells #[.int .u8 (97 + (i : Int) / 26), .int .u8 (97 + (i : Int) % 26), .int .u8 113] 5)).alloc (.cells #[.int .i64 4, .string (codeQ i), .int .i64 1] 28))
      go_wp2_with (at_builtin; (refine wpList_append_sl rfl (.tmp 26) (.tmp 38) rfl rowLn w.heap.size _ _ (lns (limL i)) [Ln.vals ⟨4, codeQ i, 1⟩] rfl hO2.out rfl (Sl.one (World.size_alloc _ _) rfl) (lns_wide [⟨4, codeQ i, 1⟩]) (by simp only [lns_len, limL_len, List.length_cons, List.length_nil]; unfold maxLen; omega) (by simp only [lns_len, limL_len, List.length_cons, List.length_nil]; omega) (by have := HS.out.below.size; simp only [World.size_alloc]; omega) ?_); intro v7 w7 hown7 hg7 hv7; obtain ⟨g7, c7, rfl, hc7⟩ := hown7.form1 (by simp); simp only [List.length_append, lns_len, limL_len, List.length_cons, List.length_nil, Nat.zero_add] at hown7 hg7 hv7 hc7 ⊢; have H7 := Lib.hid (HS.out.push hW2 ⟨4, codeQ i, 1⟩ hown7 hg7 hv7); obtain ⟨⟨y0, y1, y2, yl⟩, ⟨z0, z1, z2⟩⟩ := row3 H7.out.2; clear hown7 hg7 hv7)
      have R : Hid (PaS w g 0 1 (limL (i + 1)) (.slice (some ⟨g7, 0, none⟩) (i + 1) c7) (w7.setCell ⟨g, 2, none⟩ (.slice (some ⟨g7, 0, none⟩) (i + 1) c7))) := by
        rw [Hid, limL_step]; exact H7.out.1
      clear b0 b1 b2 f0 f1 f2 y0 y1 y2 z0 z1 z2 hW1 hW2 hcv
      go_roundw
      case rel => exact ⟨i + 1, _, hlt, by go_num, R⟩
      case measure => simp [intOf]; omega
    · obtain rfl : k = i := by omega
      obtain ⟨Av, cv, rfl⟩ := HS.out.own.form
      rw [lns_len, limL_len] at HS b2
      have hBo := HS.out.below
      have hso := hBo.size
      have HSL := Lib.hid (HS.out.own.sl (by omega))
      have HEN : Hid (Calls Tryd.prog 7 #[.agg #[.int .i64 0, .int .i64 1, .slice Av k cv]] wo fun e w' => e = .returned (.tuple #[.string ⟨(encT (limF k)).toArray⟩, .int .i64 (encE (limF k))]) ∧ Below wo.heap.size wo w') := EncodeR_any (limF k) _ wo HSL.out (HT.out.below hBo)
      have HVA : Hid (∀ W, Below wo.heap.size wo W → Calls Tryd.prog 9 #[.agg #[.int .i64 0, .int .i64 1, .slice Av k cv]] W fun e w' => e = .returned (.bool (decide (k ≤ 256))) ∧ Below W.heap.size W w') := fun W hb => by
        have := ValidR_any (limF k) (.slice Av k cv) W (HSL.out.below hb)
        rw [limF_val (by omega)] at this
        exact this
      obtain ⟨tx, htx⟩ : ∃ tx : ByteArray, (⟨(encT (limF k)).toArray⟩ : ByteArray) = tx := ⟨_, rfl⟩
      have HTX : Hid (tx.data.toList = encT (limF k)) := by rw [Hid, ← htx]
      obtain ⟨er, her⟩ : ∃ er, encE (limF k) = er := ⟨_, rfl⟩
      rw [htx, her] at HEN
      have HER1 := Lib.hid her
      have HBX := Lib.hid HS.out.box
      clear htx her HS
      go_wp2_with fail
      refine HEN.out.mono ?_
      rintro e w2 ⟨rfl, hb2⟩
      have hBX2 := HBX.out.below hb2 HBX.out.lt
      have hB2 := below_after hBo hb2 hBo.size
      have hO2 := hb2
      clear b0 b1 b2 bl f0 f1 f2 hb2 HEN HBX hBo
      go_wp2_with fail
      refine (DecodeR_any tx w2 (HT.out.below hB2) (HER.out.below hB2)).mono ?_
      rintro e w3 ⟨v3, rfl, hown3, hb3⟩
      rw [HTX.out] at hown3 ⊢
      have hB3 := below_after hB2 hb3 hB2.size
      have hBX3 := hBX2.below hb3 hBX2.lt
      have hO3 := hO2.trans (hb3.mono hO2.size)
      obtain ⟨G, hG⟩ : ∃ G, decR (encT (limF k)) = G := ⟨_, rfl⟩
      obtain ⟨er2, her2⟩ : ∃ er2, decE (encT (limF k)) = er2 := ⟨_, rfl⟩
      rw [hG] at hown3 ⊢
      rw [her2]
      obtain ⟨A3, c3, rfl⟩ := hown3.form
      rw [lns_len]
      have hgv : G.vals (.slice A3 G.l.length c3) = #[.int .i64 G.p, .int .i64 G.v, .slice A3 G.l.length c3] := rfl
      rw [hgv]
      have HGQ := Lib.hid (And.intro hG her2)
      clear hgv hG her2 hB2 hBX2 hb3 hO2 hown3
      have hs3 := hB3.size
      have hX3 := Row.new w3 25 #[.int .i64 G.p, .int .i64 G.v, .slice A3 G.l.length c3]
      have hal3 := (Below.refl w3.heap.size w3).alloc (Nat.le_refl _) (.cells #[.int .i64 G.p, .int .i64 G.v, .slice A3 G.l.length c3] 25)
      go_wp2_with fail
      obtain ⟨w4, hw4⟩ : ∃ w4, w3.alloc (.cells #[.int .i64 G.p, .int .i64 G.v, .slice A3 G.l.length c3] 25) = w4 := ⟨_, rfl⟩
      rw [hw4] at hX3 hal3 ⊢
      obtain ⟨gx, hgx⟩ : ∃ gx, w3.heap.size = gx := ⟨_, rfl⟩
      rw [hgx] at hX3 ⊢
      have hB4 := below_after hB3 hal3 hB3.size
      have hBX4 := hBX3.below hal3 hBX3.lt
      have hO4 := hO3.trans (hal3.mono hO3.size)
      clear hw4 hgx hal3 hB3 hBX3 hO3
      refine (Mod_any _ _ _ (by omega) (by omega)).mono ?_
      rintro e w5 ⟨rfl, rfl⟩
      obtain ⟨i0, hi0, hz0, hs0, hby0⟩ := info_parts (show (Tryd.prog.info? 5).map (fun i => (i.zero, i.size, i.bytes)) = some (some (.int .u8 0), 1, 1) by kernel_rfl)
      have Hi := Lib.hid hi0; have Hz := Lib.hid hz0; have Hs := Lib.hid hs0; have Hby := Lib.hid hby0
      clear hi0 hz0 hs0 hby0
      go_wp2_with (at_make; refine wpList_make_full _ rfl _ _ 26 rfl w4.heap.size 5 i0 _ 1 Tryd.underlying26 Hi.out Hz.out Hs.out .i64 .i64 _ _ N rfl rfl HN.out HN.out (by rw [Hby.out]; omega) (by unfold maxLen; omega) (Nat.le_refl _) ?_; intro w6 hown6 hg6)
      have hb6 : Below w4.heap.size w4 w6 := (Below.refl _ _).grown hg6 (Nat.le_refl _) (by simp)
      have hcells : ∀ j (hj : j < (List.replicate N (0 : UInt8)).length), w6.cell? ((⟨w4.heap.size, 0, none⟩ : Addr).add j) = some (.int .u8 ((List.replicate N (0 : UInt8))[j].toNat : Int)) := fun j hj => by
        have hjN : j < N := by simpa using hj
        have h1 := hown6.cellAt j (by rw [Nat.mul_one]; exact hjN)
        have hm := made_flat #[.int .u8 0] (by simp) (by simp [Value.oneCell']) N
        rw [show (#[Value.int .u8 0] : Array Value).size = 1 from rfl] at hm
        rw [show (Value.int .u8 0).cells = #[Value.int .u8 0] from rfl, hm] at h1
        have h2 : ((⟨w4.heap.size, 0, none⟩ : Addr).add j) = ⟨w4.heap.size, j, none⟩ := by unfold Addr.add; split <;> simp_all
        rw [h2, h1]
        simp [hjN]
      have hcv := run_convert_bytes_back (P := Tryd.prog) w6 26 9 5 ⟨w4.heap.size, 0, none⟩ N (List.replicate N 0) Tryd.underlying26 Tryd.underlying5 Tryd.underlying9 hcells
      rw [List.length_replicate] at hcv
      obtain ⟨lg, hlg⟩ : ∃ lg : ByteArray, (⟨(List.replicate N (0 : UInt8)).toArray⟩ : ByteArray) = lg := ⟨_, rfl⟩
      have HLG : Hid (lg.data.toList = List.replicate N 0) := by rw [Hid, ← hlg]
      rw [hlg] at hcv
      have hB6 := below_after hB4 hb6 hB4.size
      have hBX6 := hBX4.below hb6 hBX4.lt
      have hX6 := hX3.below hb6 hX3.lt
      have hO6 := hO4.trans (hb6.mono hO4.size)
      rw [HN.out]
      clear hown6 hg6 hb6 hcells hlg hB4 hBX4 hX3 hO4 Hi Hz Hs Hby HN hm3 hm4
      go_wp2_with fail
      rw [hcv]
      simp only [Result.andThen]
      rw [Oper.upon_value]
      clear hcv
      go_wp2_with fail
      refine (DecodeR_any lg w6 (HT.out.below hB6) (HER.out.below hB6)).mono ?_
      rintro e w7 ⟨v7, rfl, hown7, hb7⟩
      rw [HLG.out, dec_zeros] at *
      obtain ⟨Z, hZ⟩ : ∃ Z, decR (List.replicate N 0) = Z := ⟨_, rfl⟩
      rw [hZ] at hown7 ⊢
      clear hZ
      obtain ⟨A7, c7, rfl⟩ := hown7.form
      rw [lns_len]
      have hgv : Z.vals (.slice A7 Z.l.length c7) = #[.int .i64 Z.p, .int .i64 Z.v, .slice A7 Z.l.length c7] := rfl
      rw [hgv]
      have hB7 := below_after hB6 hb7 hB6.size
      have hBX7 := hBX6.below hb7 hBX6.lt
      have hX7 := hX6.below hb7 hX6.lt
      have hO7 := hO6.trans (hb7.mono hO6.size)
      have hs7 := hB7.size
      have hal7 := (Below.refl w7.heap.size w7).alloc (Nat.le_refl _) (.cells #[.int .i64 Z.p, .int .i64 Z.v, .slice A7 Z.l.length c7] 25)
      have hB8 := below_after hB7 hal7 hB7.size
      have hX8 := hX7.below hal7 hX7.lt
      have hO8 := hO7.trans (hal7.mono hO7.size)
      clear hgv hown7 hB6 hBX6 hX6 hO6 hb7 hB7 hX7 hO7 hal7
      obtain ⟨w8, hw8⟩ : ∃ w8, w7.alloc (.cells #[.int .i64 Z.p, .int .i64 Z.v, .slice A7 Z.l.length c7] 25) = w8 := ⟨_, rfl⟩
      rw [hw8] at hB8 hX8 hO8
      obtain ⟨⟨b0, b1, b2, bl⟩, -⟩ := row3 hBX7
      have HX8 := Lib.hid hX8
      have HO8 := Lib.hid hO8
      have HB8 := Lib.hid hB8
      have HW8 := Lib.hid hw8
      clear hBX7 hX8 hO8 hB8 hw8
      by_cases hN3 : 65536 < N
      · have hNd : decide ((65536 : Int) < (N : Int)) = true := decide_eq_true (by omega)
        rw [if_pos hN3]
        clear hN3
        by_cases hkk : k ≤ 256
        · have hsz : (limF k).l.length = k := limL_len k
          obtain ⟨q1, q2, q3⟩ := limF_dec hkk
          obtain ⟨hG, he2⟩ := HGQ.out
          rw [q2] at hG
          rw [q1] at he2
          rw [q3] at HER1
          have hlen : ((G.l.length : Int) == (k : Int)) = true := by rw [← hG, hsz]; simp
          have e1 : er = 0 := HER1.out.symm
          have e2 : er2 = 0 := he2.symm
          subst e1 e2
          have hkd : decide ((k : Int) ≤ 256) = true := decide_eq_true (by omega)
          have hkd2 : decide ((256 : Int) < (k : Int)) = false := decide_eq_false (by omega)
          have hkv : Hid (decide (k ≤ 256) = true) := decide_eq_true hkk
          clear hkk q1 q2 q3 hG he2 HGQ HER1 hsz
          go_wp2_with fail
          rw [HW8.out]
          refine (HVA.out _ HO8.out).mono ?_
          rw [hkv.out]
          rintro e w9 ⟨rfl, hb9⟩
          have hB9 := below_after HB8.out hb9 HB8.out.size
          have hX9 := HX8.out.below hb9 HX8.out.lt
          obtain ⟨⟨x0, x1, x2, xl⟩, -⟩ := row3 hX9
          clear hb9 hX9
          go_wp2_with fail
          refine (awake_any w9 (HT.out.below hB9) (HER.out.below hB9)).mono ?_
          rintro e w10 ⟨rfl, hb10⟩
          have hB10 := below_after hB9 hb10 hB9.size
          clear hb10 hB9 x0 x1 x2
          go_wp2
          go_ret
          exact ⟨rfl, hB10⟩
        · have hsz : (limF k).l.length = k := limL_len k
          obtain ⟨q1, q2, q3, q4⟩ := limF_big (k := k) (by omega) (by omega)
          rw [q2] at HER1
          have e1 : er = 1 := HER1.out.symm
          subst e1
          have t1 : tx.toList = [] := by rw [ByteArray.toList_eq, HTX.out, q1]
          have t2 : tx.toList.isEmpty = true := by rw [t1]; rfl
          have hkd : decide ((k : Int) ≤ 256) = false := decide_eq_false (by omega)
          have hkd2 : decide ((256 : Int) < (k : Int)) = true := decide_eq_true (by omega)
          have hkv : Hid (decide (k ≤ 256) = false) := decide_eq_false hkk
          clear hkk q1 q2 q3 q4 HGQ HER1 hsz
          go_wp2_with fail
          rw [HW8.out]
          refine (HVA.out _ HO8.out).mono ?_
          rw [hkv.out]
          rintro e w9 ⟨rfl, hb9⟩
          have hB9 := below_after HB8.out hb9 HB8.out.size
          have hX9 := HX8.out.below hb9 HX8.out.lt
          obtain ⟨⟨x0, x1, x2, xl⟩, -⟩ := row3 hX9
          clear hb9 hX9
          go_wp2_with fail
          refine (awake_any w9 (HT.out.below hB9) (HER.out.below hB9)).mono ?_
          rintro e w10 ⟨rfl, hb10⟩
          have hB10 := below_after hB9 hb10 hB9.size
          clear hb10 hB9 x0 x1 x2
          go_wp2
          go_ret
          exact ⟨rfl, hB10⟩
      · have hNd : decide ((65536 : Int) < (N : Int)) = false := decide_eq_false (by omega)
        rw [if_neg hN3]
        clear hN3
        by_cases hkk : k ≤ 256
        · have hsz : (limF k).l.length = k := limL_len k
          obtain ⟨q1, q2, q3⟩ := limF_dec hkk
          obtain ⟨hG, he2⟩ := HGQ.out
          rw [q2] at hG
          rw [q1] at he2
          rw [q3] at HER1
          have hlen : ((G.l.length : Int) == (k : Int)) = true := by rw [← hG, hsz]; simp
          have e1 : er = 0 := HER1.out.symm
          have e2 : er2 = 0 := he2.symm
          subst e1 e2
          have hkd : decide ((k : Int) ≤ 256) = true := decide_eq_true (by omega)
          have hkd2 : decide ((256 : Int) < (k : Int)) = false := decide_eq_false (by omega)
          have hkv : Hid (decide (k ≤ 256) = true) := decide_eq_true hkk
          clear hkk q1 q2 q3 hG he2 HGQ HER1 hsz
          go_wp2_with fail
          rw [HW8.out]
          refine (HVA.out _ HO8.out).mono ?_
          rw [hkv.out]
          rintro e w9 ⟨rfl, hb9⟩
          have hB9 := below_after HB8.out hb9 HB8.out.size
          have hX9 := HX8.out.below hb9 HX8.out.lt
          obtain ⟨⟨x0, x1, x2, xl⟩, -⟩ := row3 hX9
          clear hb9 hX9
          go_wp2_with fail
          refine (awake_any w9 (HT.out.below hB9) (HER.out.below hB9)).mono ?_
          rintro e w10 ⟨rfl, hb10⟩
          have hB10 := below_after hB9 hb10 hB9.size
          clear hb10 hB9 x0 x1 x2
          go_wp2
          go_ret
          exact ⟨rfl, hB10⟩
        · have hsz : (limF k).l.length = k := limL_len k
          obtain ⟨q1, q2, q3, q4⟩ := limF_big (k := k) (by omega) (by omega)
          rw [q2] at HER1
          have e1 : er = 1 := HER1.out.symm
          subst e1
          have t1 : tx.toList = [] := by rw [ByteArray.toList_eq, HTX.out, q1]
          have t2 : tx.toList.isEmpty = true := by rw [t1]; rfl
          have hkd : decide ((k : Int) ≤ 256) = false := decide_eq_false (by omega)
          have hkd2 : decide ((256 : Int) < (k : Int)) = true := decide_eq_true (by omega)
          have hkv : Hid (decide (k ≤ 256) = false) := decide_eq_false hkk
          clear hkk q1 q2 q3 q4 HGQ HER1 hsz
          go_wp2_with fail
          rw [HW8.out]
          refine (HVA.out _ HO8.out).mono ?_
          rw [hkv.out]
          rintro e w9 ⟨rfl, hb9⟩
          have hB9 := below_after HB8.out hb9 HB8.out.size
          have hX9 := HX8.out.below hb9 HX8.out.lt
          obtain ⟨⟨x0, x1, x2, xl⟩, -⟩ := row3 hX9
          clear hb9 hX9
          go_wp2_with fail
          refine (awake_any w9 (HT.out.below hB9) (HER.out.below hB9)).mono ?_
          rintro e w10 ⟨rfl, hb10⟩
          have hB10 := below_after hB9 hb10 hB9.size
          clear hb10 hB9 x0 x1 x2
          go_wp2
          go_ret
          exact ⟨rfl, hB10⟩
end Go.Proofs.YtnkephafpebfkaaDoor
