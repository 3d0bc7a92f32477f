/- Contracts of ref34.Lines and ref34.Words. -/
import Derived.Test.YtnkephafpebfkaaGreatDoorSpl
import Derived.Test.YtnkephafpebfkaaGreatDoorExt
import Derived.Test.YtnkephafpebfkaaGreatDoorSet1
import Derived.Lib.SplitLaws
import Derived.LoopTactic
namespace Go.Proofs.YtnkephafpebfkaaGreatDoor
open Go.RowKit Go.Shelf

theorem rowTxt : RowTy Tryz.prog 39 9 1 16 := by
  obtain ⟨i, hi, hz, hs, hb⟩ := info_parts (show (Tryz.prog.info? 9).map (fun i => (i.zero, i.size, i.bytes)) = some (some (.string ⟨#[]⟩), 1, 16) by kernel_rfl)
  exact ⟨Tryz.underlying39, ⟨i, _, hi, hz, hs, hb, rfl⟩, by omega⟩
theorem txt_wide (s : ByteArray) : Wide 1 [[.string s]] := fun x hx => by
  obtain rfl := List.mem_singleton.1 hx
  exact ⟨rfl, by simp [Value.oneCell']⟩
theorem extract_list (s : ByteArray) (f k : Nat) : (s.extract f k).data.toList = (s.data.toList.drop f).take (k - f) := by
  simp [ByteArray.data_extract]
/-- where the search for pieces stands: P are done, the next begins at f, k bytes are seen -/
def SpI (c : UInt8) (s : ByteArray) (P : List ByteArray) (f k : Nat) : Prop :=
  f ≤ k ∧ splitBy c s.data.toList = P.map (·.data.toList) ++ splitBy c (s.data.toList.drop f) ∧ c ∉ (s.data.toList.drop f).take (k - f)
theorem spI_start (c : UInt8) (s : ByteArray) : SpI c s [] 0 0 := ⟨Nat.le_refl _, by simp, by simp⟩
theorem take_more {s : ByteArray} {f k : Nat} (hf : f ≤ k) (hk : k < s.size) : (s.data.toList.drop f).take (k + 1 - f) = (s.data.toList.drop f).take (k - f) ++ [s[k]] := by
  rw [show k + 1 - f = (k - f) + 1 by omega, List.take_succ_eq_append_getElem (by simp; omega)]
  congr 1
  simp only [List.getElem_drop, List.cons.injEq, and_true]
  have : f + (k - f) = k := by omega
  simp only [this]; rfl
theorem SpI.no {c : UInt8} {s : ByteArray} {P : List ByteArray} {f k : Nat} (h : SpI c s P f k) (hk : k < s.size) (hc : ¬ s[k] = c) : SpI c s P f (k + 1) := by
  obtain ⟨h1, h2, h3⟩ := h
  refine ⟨by omega, h2, ?_⟩
  rw [take_more h1 hk]
  intro hm
  rcases List.mem_append.1 hm with hm | hm
  · exact h3 hm
  · exact hc (List.mem_singleton.1 hm).symm
theorem SpI.yes {c : UInt8} {s : ByteArray} {P : List ByteArray} {f k : Nat} (h : SpI c s P f k) (hk : k < s.size) (hc : s[k] = c) : SpI c s (P ++ [s.extract f k]) (k + 1) (k + 1) := by
  obtain ⟨h1, h2, h3⟩ := h
  refine ⟨Nat.le_refl _, ?_, by simp⟩
  have e : s.data.toList.drop f = (s.data.toList.drop f).take (k - f) ++ c :: s.data.toList.drop (k + 1) := by
    conv => lhs; rw [← List.take_append_drop (k - f) (s.data.toList.drop f)]
    congr 1
    rw [List.drop_drop, show f + (k - f) = k by omega, List.drop_eq_getElem_cons (by simpa using hk)]
    congr 1
  rw [h2]
  conv => lhs; rw [e]
  rw [split_app _ h3]
  simp
theorem SpI.last {c : UInt8} {s : ByteArray} {P : List ByteArray} {f : Nat} (h : SpI c s P f s.size) : splitBy c s.data.toList = P.map (·.data.toList) ++ [s.data.toList.drop f] := by
  obtain ⟨h1, h2, h3⟩ := h
  rw [List.take_of_length_le (by simp)] at h3
  rw [h2, split_free h3]
/-- the call returns the ended pieces of a text, and whether nothing is left -/
def RetLin (s : ByteArray) (w : World) (e : Ending) (w' : World) : Prop :=
  ∃ P : List ByteArray, ∃ A cap, ∃ rest : List UInt8, e = .returned (.tuple #[.slice A P.length cap, .bool (decide (rest = []))]) ∧ splitBy 10 s.data.toList = P.map (·.data.toList) ++ [rest] ∧ (∀ p ∈ P, p.size ≤ s.size) ∧ P.length ≤ s.size ∧ Sl w' 1 (.slice A P.length cap) (txts P) ∧ Below w.heap.size w w'
theorem piece_le {P : List ByteArray} {s : ByteArray} (h : ∀ p ∈ P, p.size ≤ s.size) (f k : Nat) : ∀ p ∈ P ++ [s.extract f k], p.size ≤ s.size := fun p hp => by
  rcases List.mem_append.1 hp with hp | hp
  · exact h p hp
  · rw [List.mem_singleton.1 hp, ByteArray.size_extract]; omega
theorem byte_ne {x : UInt8} {n : Nat} (hn : n < 256) (h : ¬ (x.toNat : Int) = n) : ¬ x = UInt8.ofNat n := fun e => h (by rw [e, UInt8.toNat_ofNat']; omega)
def LinS (w : World) (c : UInt8) (s : ByteArray) (k f : Nat) (P : List ByteArray) (x : Value) (wr : World) : Prop :=
  SpI c s P f k ∧ (∀ p ∈ P, p.size ≤ s.size) ∧ Own wr w.heap.size 9 1 x (txts P) ∧ Below w.heap.size w wr
set_option maxRecDepth 100000 in
set_option maxHeartbeats 2000000 in
theorem refLines_any (s : ByteArray) (w : World) (hs : s.size ≤ 1000000000) :
    Calls Tryz.prog 44 #[.string s] w (RetLin s w) := by
  go_enter Tryz.func44, Tryz.ntmps44
  go_wp2_with fail
  go_loopw [4, 5, 6] (fun x y z wr => ∃ P : List ByteArray, ∃ f k : Nat, y = .int .i64 f ∧ z = .int .i64 k ∧ f ≤ k ∧ k ≤ s.size ∧ P.length ≤ k ∧ Hid (LinS w 10 s k f P x wr)) (fun _ _ z _ => s.size - (intOf z).toNat)
  case atStart => exact ⟨[], 0, 0, rfl, rfl, by omega, by omega, by simp, spI_start _ _, (fun p hp => by cases hp), Own.nil _ _ _ _, Below.refl _ _⟩
  case round =>
    obtain ⟨P, f, k, rfl, rfl, hf, hk, hP, HS⟩ := hrel
    obtain ⟨wo, rfl⟩ : ∃ wo : World, wo = wr := ⟨_, rfl⟩
    by_cases hlt : k < s.size
    · cases hc : ((s[k].toNat : Int) == 10)
      · have HS2 : Hid (LinS w 10 s (k + 1) f P _ wo) := ⟨HS.out.1.no hlt (fun e => by rw [e] at hc; cases hc), HS.out.2⟩
        go_wp2
        go_roundw
        case rel => exact ⟨P, f, k + 1, rfl, by go_num, by omega, by omega, by omega, HS2⟩
        case measure => simp [intOf]; omega
      · have hb := HS.out.2.2.2.size
        have HI : Hid (SpI 10 s (P ++ [s.extract f k]) (k + 1) (k + 1)) := HS.out.1.yes hlt (by
          apply UInt8.toNat_inj.1
          have h10 : (10 : UInt8).toNat = 10 := rfl
          simp only [beq_iff_eq] at hc
          omega)
        have HZ := Lib.hid (piece_le HS.out.2.1 f k)
        obtain ⟨q, hq⟩ : ∃ q, s.extract f k = q := ⟨_, rfl⟩
        rw [hq] at HI HZ
        go_wp2_with (at_builtin; (refine wpList_append_sl rfl (.tmp 17) (.tmp 22) rfl rowTxt w.heap.size _ _ (txts P) [[.string q]] rfl (HS.out.2.2.1.alloc _) rfl (Sl.one rfl rfl) (txt_wide _) (by rw [txts_len]; simp only [List.length_cons, List.length_nil]; unfold maxLen; omega) (by rw [txts_len]; simp only [List.length_cons, List.length_nil]; omega) (by simp only [World.size_alloc]; omega) ?_); intro v7 w7 hown7 hg7 _; have hb7 := Own.grown (HS.out.2.2.1.alloc _) (HS.out.2.2.2.alloc hb _) hg7 (by simp only [World.size_alloc]; omega); rw [show txts P ++ [[.string q]] = txts (P ++ [q]) by rw [txts_append]; rfl] at hown7; have HN := Lib.hid (And.intro hown7 hb7); clear hown7 hb7 hg7)
        go_roundw
        case rel => exact ⟨P ++ [q], k + 1, k + 1, by go_num, by go_num, by omega, by omega, by rw [List.length_append]; simp only [List.length_cons, List.length_nil]; omega, HI.out, HZ.out, HN.out⟩
        case measure => simp [intOf]; omega
    · obtain rfl : k = s.size := by omega
      have HL := Lib.hid HS.out.1.last
      obtain ⟨A, cap, rfl⟩ := HS.out.2.2.1.form
      rw [txts_len] at HS ⊢
      have HD : Hid ((((f : Int)) == (s.size : Int)) = decide (s.data.toList.drop f = [])) := by
        rw [Hid, Bool.eq_iff_iff]
        simp only [beq_iff_eq, decide_eq_true_eq, List.drop_eq_nil_iff]
        have hl : s.data.toList.length = s.size := by simp
        omega
      go_wp2
      go_ret2
      exact ⟨P, A, cap, _, by rw [← HD.out]; rfl, HL.out, HS.out.2.1, hP, HS.out.2.2.1.sl (by omega), HS.out.2.2.2⟩
set_option maxRecDepth 100000 in
set_option maxHeartbeats 2000000 in
theorem Words_any (s : ByteArray) (w : World) (hs : s.size ≤ 1000000000) :
    Calls Tryz.prog 45 #[.string s] w (RetSpl 32 s w) := by
  go_enter Tryz.func45, Tryz.ntmps45
  go_wp2_with fail
  go_loopw [3, 4, 5] (fun x y z wr => ∃ P : List ByteArray, ∃ f k : Nat, y = .int .i64 f ∧ z = .int .i64 k ∧ k ≤ s.size + 1 ∧ P.length ≤ k ∧ (∀ p ∈ P, p.size ≤ s.size) ∧ Hid (Own wr w.heap.size 9 1 x (txts P) ∧ Below w.heap.size w wr) ∧ ((f ≤ k ∧ k ≤ s.size ∧ Hid (SpI 32 s P f k)) ∨ (k = s.size + 1 ∧ Hid (splitBy 32 s.data.toList = P.map (·.data.toList))))) (fun _ _ z _ => s.size + 1 - (intOf z).toNat)
  case atStart => exact ⟨[], 0, 0, rfl, rfl, by omega, by simp, (fun p hp => by cases hp), ⟨Own.nil _ _ _ _, Below.refl _ _⟩, .inl ⟨by omega, by omega, spI_start _ _⟩⟩
  case round =>
    obtain ⟨P, f, k, rfl, rfl, hk1, hP, hPz, HS, hor⟩ := hrel
    obtain ⟨wo, rfl⟩ : ∃ wo : World, wo = wr := ⟨_, rfl⟩
    have HPZ := Lib.hid hPz
    clear hPz
    rcases hor with ⟨hf, hk, HI⟩ | ⟨hk, HE⟩
    · have hb := HS.out.2.size
      by_cases hlt : k < s.size
      · have he : ((k : Int) == (s.size : Int)) = false := by simp; omega
        cases hc : ((s[k].toNat : Int) == 32)
        · have HI2 : Hid (SpI 32 s P f (k + 1)) := HI.out.no hlt (fun e => by rw [e] at hc; cases hc)
          go_wp2
          go_roundw
          case rel => exact ⟨P, f, k + 1, rfl, by go_num, by omega, by omega, HPZ.out, HS, .inl ⟨by omega, by omega, HI2⟩⟩
          case measure => simp [intOf]; omega
        · have HI2 : Hid (SpI 32 s (P ++ [s.extract f k]) (k + 1) (k + 1)) := HI.out.yes hlt (by
            apply UInt8.toNat_inj.1
            have h32 : (32 : UInt8).toNat = 32 := rfl
            simp only [beq_iff_eq] at hc
            omega)
          have HZ := Lib.hid (piece_le HPZ.out f k)
          obtain ⟨q, hq⟩ : ∃ q, s.extract f k = q := ⟨_, rfl⟩
          rw [hq] at HI2 HZ
          go_wp2_with (at_builtin; (refine wpList_append_sl rfl (.tmp 22) (.tmp 27) rfl rowTxt w.heap.size _ _ (txts P) [[.string q]] rfl (HS.out.1.alloc _) rfl (Sl.one rfl rfl) (txt_wide _) (by rw [txts_len]; simp only [List.length_cons, List.length_nil]; unfold maxLen; omega) (by rw [txts_len]; simp only [List.length_cons, List.length_nil]; omega) (by simp only [World.size_alloc]; omega) ?_); intro v7 w7 hown7 hg7 _; have hb7 := Own.grown (HS.out.1.alloc _) (HS.out.2.alloc hb _) hg7 (by simp only [World.size_alloc]; omega); rw [show txts P ++ [[.string q]] = txts (P ++ [q]) by rw [txts_append]; rfl] at hown7; have HN := Lib.hid (And.intro hown7 hb7); clear hown7 hb7 hg7)
          go_roundw
          case rel => exact ⟨P ++ [q], k + 1, k + 1, by go_num, by go_num, by omega, by rw [List.length_append]; simp only [List.length_cons, List.length_nil]; omega, HZ.out, HN.out, .inl ⟨by omega, by omega, HI2⟩⟩
          case measure => simp [intOf]; omega
      · obtain rfl : k = s.size := by omega
        have HL : Hid (splitBy 32 s.data.toList = (P ++ [s.extract f s.size]).map (·.data.toList)) := by
          rw [Hid, HI.out.last]; simp only [List.map_append, List.map_cons, List.map_nil, Lib.extract_to_end]
        have HZ := Lib.hid (piece_le HPZ.out f s.size)
        obtain ⟨q, hq⟩ : ∃ q, s.extract f s.size = q := ⟨_, rfl⟩
        rw [hq] at HL HZ
        go_wp2_with (at_builtin; (refine wpList_append_sl rfl (.tmp 22) (.tmp 27) rfl rowTxt w.heap.size _ _ (txts P) [[.string q]] rfl (HS.out.1.alloc _) rfl (Sl.one rfl rfl) (txt_wide _) (by rw [txts_len]; simp only [List.length_cons, List.length_nil]; unfold maxLen; omega) (by rw [txts_len]; simp only [List.length_cons, List.length_nil]; omega) (by simp only [World.size_alloc]; omega) ?_); intro v7 w7 hown7 hg7 _; have hb7 := Own.grown (HS.out.1.alloc _) (HS.out.2.alloc hb _) hg7 (by simp only [World.size_alloc]; omega); rw [show txts P ++ [[.string q]] = txts (P ++ [q]) by rw [txts_append]; rfl] at hown7; have HN := Lib.hid (And.intro hown7 hb7); clear hown7 hb7 hg7)
        go_roundw
        case rel => exact ⟨P ++ [q], s.size + 1, s.size + 1, by go_num, by go_num, by omega, by rw [List.length_append]; simp only [List.length_cons, List.length_nil]; omega, HZ.out, HN.out, .inr ⟨rfl, HL⟩⟩
        case measure => simp [intOf]
    · subst hk
      obtain ⟨A, cap, rfl⟩ := HS.out.1.form
      rw [txts_len] at HS ⊢
      go_wp2
      go_ret
      exact ⟨P, A, cap, rfl, HE.out.symm, HPZ.out, hP, HS.out.1.sl (by omega), HS.out.2⟩
end Go.Proofs.YtnkephafpebfkaaGreatDoor
