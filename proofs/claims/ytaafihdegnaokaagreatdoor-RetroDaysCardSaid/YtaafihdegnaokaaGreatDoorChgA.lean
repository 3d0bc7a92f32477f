/- timeline.at: the value of a day from the steps, by sort.Search. -/
import Derived.Test.YtaafihdegnaokaaGreatDoorChgP
import Derived.Test.YtaafihdegnaokaaGreatDoorChgD
import Derived.Test.YtaafihdegnaokaaGreatDoorShelfS
import Derived.Deep.QuietTactic
import Derived.BigQuiet
namespace Go.Proofs.YtaafihdegnaokaaGreatDoor
open Go.RowKit Go.Shelf Go.Sort

theorem range_getD : ∀ (l : List Int), (List.range l.length).map (fun i => l.getD i 0) = l := fun l => by
  apply List.ext_getElem
  · simp
  · intro i h1 h2
    simp [List.getD_eq_getElem?_getD, h2]
theorem cntD (L : List Chg) (day : Int) : (List.range L.length).countP (fun i => !decide (day < (L.map (·.f)).getD i 0)) = (L.filter fun c => decide (c.f ≤ day)).length := by
  have h := range_getD (L.map (·.f))
  rw [List.length_map] at h
  have e : (List.range L.length).countP (fun i => !decide (day < (L.map (·.f)).getD i 0)) = (((List.range L.length).map fun i => (L.map (·.f)).getD i 0)).countP (fun x => !decide (day < x)) := by
    rw [List.countP_map]; rfl
  rw [e, h, List.countP_map, ← List.countP_eq_length_filter]
  apply List.countP_congr
  intro x _
  simp
theorem valD_zero {L : List Chg} {day : Int} (h : (L.filter fun c => decide (c.f ≤ day)).length = 0) : valD L day = none := by
  rw [valD, List.eq_nil_of_length_eq_zero h]; rfl
theorem valD_last {L : List Chg} (hs : L.Pairwise (fun a b => a.f < b.f)) {day : Int} {n : Nat} (h : (L.filter fun c => decide (c.f ≤ day)).length = n) (hn : 0 < n) : ∃ h : n - 1 < L.length, valD L day = some (L[n - 1]).v := by
  have h1 := upTo_take hs day
  have h2 : n ≤ L.length := by rw [← h]; exact List.length_filter_le _ _
  rw [h] at h1
  refine ⟨by omega, ?_⟩
  rw [valD, h1, List.getLast?_eq_getElem?, List.length_take, Nat.min_eq_left h2, List.getElem?_take, if_pos (by omega), List.getElem?_eq_getElem (by omega)]
  rfl

set_option maxHeartbeats 400000 in
theorem at1_any (i n cap b off bs bd : Nat) (x day : Int) (w : World) (h1 : w.cell? ⟨bs, 0, none⟩ = some (.slice (some ⟨b, off, none⟩) n cap)) (h2 : w.cell? ⟨bd, 0, none⟩ = some (.int .i64 day)) (hi : i < n) (_hn : n ≤ 1024) (h3 : w.cell? ⟨b, off + i * 2, none⟩ = some (.int .i64 x)) :
    Calls Tryz.prog 87 #[.int .i64 i, .pointer (some ⟨bs, 0, none⟩), .pointer (some ⟨bd, 0, none⟩)] w fun e w' => e = .returned (.bool (decide (day < x))) ∧ ∃ q os', w' = grow (w.drewN q) os' := by
  have hi0 : (0 : Int) ≤ (i : Int) := by omega
  have hi1 : (i : Int) < (n : Int) := by omega
  go_enter Tryz.func87, Tryz.ntmps87
  go_wp2
  go_quiet (fail)
  go_wp2
  go_ret
  exact ⟨by simp, _, #[], by rw [grow_empty]⟩

def dayP (L : List Chg) (day : Int) (i : Nat) : Bool := decide (day < (L.map (·.f)).getD i 0)
theorem dayP_at {L : List Chg} {day : Int} {i : Nat} (h : i < L.length) : dayP L day i = decide (day < (L[i]).f) := by
  simp [dayP, List.getD_eq_getElem?_getD, h]
theorem dayP_mono {L : List Chg} (hs : L.Pairwise (fun a b => a.f < b.f)) {day : Int} (a b : Nat) (hab : a ≤ b) (hb : b < L.length) (h : dayP L day a = true) : dayP L day b = true := by
  rw [dayP_at (by omega)] at h
  rw [dayP_at hb]
  simp only [decide_eq_true_eq] at h ⊢
  rcases Nat.lt_or_ge a b with h' | h'
  · have := (List.pairwise_iff_getElem.1 hs) a b (by omega) hb h'
    omega
  · have e : a = b := by omega
    subst e; exact h
def AtPost (w : World) (o : Option Int) (e : Ending) (w' : World) : Prop := e = .returned (.tuple #[.int .i64 (o.getD 0), .bool o.isSome]) ∧ Below w.heap.size w w'
theorem search_days (L : List Chg) (hs : L.Pairwise (fun a b => a.f < b.f)) (day : Int) (A : Option Addr) (cap bs bd : Nat) (w : World) (hl : L.length ≤ 1024)
    (h1 : w.cell? ⟨bs, 0, none⟩ = some (.slice A L.length cap)) (h2 : w.cell? ⟨bd, 0, none⟩ = some (.int .i64 day)) (h3 : stps L = [] ∨ ∃ b off, A = some ⟨b, off, none⟩ ∧ CellsAt w 2 b off (stps L)) :
    Calls Tryz.prog 86 #[.int .i64 L.length, .func (.func 87) #[] #[.pointer (some ⟨bs, 0, none⟩), .pointer (some ⟨bd, 0, none⟩)]] w fun e w' => e = .returned (.int .i64 ((L.filter fun c => decide (c.f ≤ day)).length : Nat)) ∧ ∃ q os, w' = grow (w.drewN q) os := by
  have eg : ∀ args w, (callFunc 87 args).run Tryz.prog w = .ok (.enter 87 args) w := enters_of Tryz.func87 (by kernel_rfl) rfl
  have hcon := Any.sort_Search Tryz.search 87 #[.pointer (some ⟨bs, 0, none⟩), .pointer (some ⟨bd, 0, none⟩)] L.length (dayP L day) w eg (by omega) (fun m os i hi => by
    rcases h3 with h | ⟨b, off, rfl, hc0⟩
    · exact (stps_pos hi h).elim
    · have c1 := (hc0.stp hi).1
      rw [dayP_at hi]
      exact at1_any i L.length cap b off bs bd _ day _ (cell_grown (World.block_lt_of_cell? _ _ h1) h1 m os) (cell_grown (World.block_lt_of_cell? _ _ h2) h2 m os) hi hl (cell_grown (World.block_lt_of_cell? _ _ c1) c1 m os)) (dayP_mono hs)
  refine Calls.mono (R := _) hcon fun e w' hh => ?_
  obtain ⟨he, hw⟩ := hh
  refine ⟨?_, hw⟩
  rw [he, ← cntD L day]; rfl
set_option maxHeartbeats 1000000 in
theorem at_any (v : Value) (L : List Chg) (day : Int) (w : World) (hv : Sl w 2 v (stps L)) (hs : L.Pairwise (fun a b => a.f < b.f)) (hl : L.length ≤ 1024) :
    Calls Tryz.prog 62 #[v, .int .i64 day] w (AtPost w (valD L day)) := by
  obtain ⟨A, cap, rfl, h1, h2, _, h3⟩ := hv
  rw [stps_len] at h1 ⊢
  unfold maxLen at h2
  have hb2 : Below w.heap.size w ((w.alloc (.cells #[.slice A L.length cap] 83)).alloc (.cells #[.int .i64 day] 3)) := ((Below.refl _ _).alloc (Nat.le_refl _) _).alloc (by simp) _
  have hcon := search_days L hs day A cap w.heap.size (w.heap.size + 1) ((w.alloc (.cells #[.slice A L.length cap] 83)).alloc (.cells #[.int .i64 day] 3)) hl (by simp [go_sem]) (by simp [go_sem]) (by
    rcases h3 with h | ⟨b, off, h, hc⟩
    · exact .inl h
    · exact .inr ⟨b, off, h, hc.below hb2 hc.1⟩)
  obtain ⟨n, hn⟩ : ∃ n, (L.filter fun c => decide (c.f ≤ day)).length = n := ⟨_, rfl⟩
  have hnl : n ≤ L.length := by rw [← hn]; exact List.length_filter_le _ _
  rw [hn] at hcon
  have HN := Lib.hid hn
  have H3 := Lib.hid h3
  clear hn h3
  rcases Nat.eq_zero_or_pos n with h0 | h0
  · subst h0
    have HV := Lib.hid (valD_zero HN.out)
    have HC := Lib.hid hcon
    clear hcon hs
    go_enter Tryz.func62, Tryz.ntmps62
    go_wp2_with (go_at_call 86; (with_reducible refine HC.out.mono ?_); rintro e w3 ⟨rfl, q, os, rfl⟩)
    go_ret2
    exact ⟨by rw [HV.out]; rfl, hb2.trans (below_grown_sl _ _ _ _ hb2.size)⟩
  · obtain ⟨hlt, hval⟩ := valD_last hs HN.out h0
    have HV := Lib.hid hval
    clear hval
    rcases H3.out with h | ⟨b, off, rfl, hc0⟩
    · exact (stps_pos hlt h).elim
    · have HC := Lib.hid hcon
      have c1 := ((hc0.below hb2 hc0.1).stp hlt).2
      have hbw := hc0.1
      obtain ⟨x, hx⟩ : ∃ x, (L[n - 1]).v = x := ⟨_, rfl⟩
      rw [hx] at c1
      have HX := Lib.hid hx
      clear hcon hs hc0 H3 hx
      have c0 : ((w.alloc (.cells #[.slice (some ⟨b, off, none⟩) L.length cap] 83)).alloc (.cells #[.int .i64 day] 3)).cell? ⟨w.heap.size, 0, none⟩ = some (.slice (some ⟨b, off, none⟩) L.length cap) := by simp [go_sem]
      have e0 : ((n : Int) == 0) = false := by simp; omega
      have e1 : (1 : Int) ≤ (n : Int) := by omega
      have e2 : ((n : Int) - 1).toNat = n - 1 := by omega
      have e3 : (n : Int) - 1 < (L.length : Int) := by omega
      go_enter Tryz.func62, Tryz.ntmps62
      go_wp2_with (go_at_call 86; (with_reducible refine HC.out.mono ?_); rintro e w3 ⟨rfl, q, os, rfl⟩; have k1 := cell_grown (World.block_lt_of_cell? _ _ c1) c1 q os; have k0 := cell_grown (World.block_lt_of_cell? _ _ c0) c0 q os)
      go_ret2
      exact ⟨by rw [HV.out, HX.out]; rfl, hb2.trans (below_grown_sl _ _ _ _ hb2.size)⟩
end Go.Proofs.YtaafihdegnaokaaGreatDoor
