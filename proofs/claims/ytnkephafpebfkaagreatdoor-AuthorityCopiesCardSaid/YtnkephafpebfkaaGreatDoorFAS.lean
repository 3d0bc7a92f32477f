/- An authority that has received the first returns of a valid list: no program in sight. -/
import Derived.Test.YtnkephafpebfkaaGreatDoorAuS
import Derived.Test.YtnkephafpebfkaaGreatDoorRgS
namespace Go.Proofs.YtnkephafpebfkaaGreatDoor
open Go.RowKit

/-- the authority knows of each period what the list says -/
structure Knows (fs l : List Ret) : Prop where
  dist : DistR fs
  lat : ∀ p, latP fs p = latP l p
  has : ∀ p, hasP fs p = hasP l p
theorem Knows.nil : Knows [] [] := ⟨.nil, fun _ => rfl, fun _ => rfl⟩
theorem Knows.ver {fs l : List Ret} (h : Knows fs l) (p : Int) : verP fs p = verP l p := by rw [verP_lat, verP_lat, h.lat]
theorem Knows.put {fs l : List Ret} (h : Knows fs l) (r : Ret) : Knows (putR fs r) (l ++ [r]) :=
  ⟨h.dist.put r, fun p => by rw [(put_lat h.dist r p).1, latP_snoc, h.lat], fun p => by rw [(put_lat h.dist r p).2.2, hasP_snoc, h.has]⟩
theorem enc_dec {r : Ret} (h : retB r = true) : decE (encT r) = 0 ∧ decR (encT r) = r ∧ encE r = 0 := by
  have := dec_of h
  rw [encT, h, if_pos rfl]
  exact ⟨this.1, this.2, by rw [encE, h]; rfl⟩
theorem sub_next {fs : List Ret} {r : Ret} (h : retB r = true) (hv : r.v = verP fs r.p + 1) : subE fs (encT r) = 0 ∧ subA fs (encT r) = putR fs r := by
  obtain ⟨h1, h2, -⟩ := enc_dec h
  have h0 : subE fs (encT r) = 0 := by rw [subE, if_pos h1, h2, if_neg (by omega), if_neg (by omega)]
  exact ⟨h0, by rw [subA, h0, if_pos rfl, h2]⟩
theorem sub_old {fs : List Ret} {r : Ret} (h : retB r = true) (hv : r.v ≤ verP fs r.p) : subE fs (encT r) = 8 ∧ subA fs (encT r) = fs := by
  obtain ⟨h1, h2, -⟩ := enc_dec h
  have h0 : subE fs (encT r) = 8 := by rw [subE, if_pos h1, h2, if_pos hv]
  exact ⟨h0, by rw [subA, h0, if_neg (by decide)]⟩
theorem GoodRs.le : ∀ (n : Nat) {l : List Ret}, GoodRs l → l.length = n → ∀ r ∈ l, r.v ≤ verP l r.p
  | 0, l, _, hl, r, hr => by rw [List.eq_nil_of_length_eq_zero hl] at hr; cases hr
  | n + 1, l, h, hl, r, hr => by
    have e : l = l.take n ++ [l[n]'(by omega)] := by
      conv => lhs; rw [← List.take_length (l := l), hl]
      rw [List.take_succ_eq_append_getElem (by omega)]
    have ih := GoodRs.le n (h.take n) (by rw [List.length_take]; omega)
    have hn := h n (by omega)
    rw [e, verP_snoc]
    rw [e] at hr
    rcases List.mem_append.1 hr with hr | hr
    · have := ih r hr
      split
      · rename_i he
        rw [← he] at this
        rw [hn.2.2.1]; omega
      · exact this
    · rw [List.mem_singleton.1 hr, if_pos rfl]; omega
theorem Knows.step {fs l : List Ret} (hg : GoodRs l) {k : Nat} (hk : k < l.length) (h : Knows fs (l.take k)) :
    subE fs (encT l[k]) = 0 ∧ subA fs (encT l[k]) = putR fs l[k] ∧ Knows (putR fs l[k]) (l.take (k + 1)) ∧ ∀ j (hj : j < l.length), j ≤ k → subE (putR fs l[k]) (encT l[j]) = 8 ∧ subA (putR fs l[k]) (encT l[j]) = putR fs l[k] := by
  have hx := hg k hk
  obtain ⟨h1, h2⟩ := sub_next hx.1 (by rw [hx.2.2.1, h.ver])
  have h3 : Knows (putR fs l[k]) (l.take (k + 1)) := by rw [List.take_succ_eq_append_getElem hk]; exact h.put _
  refine ⟨h1, h2, h3, fun j hj hjk => sub_old (hg j hj).1 ?_⟩
  rw [h3.ver]
  refine (hg.take (k + 1)).le _ rfl _ ?_
  rw [List.mem_take_iff_getElem]
  exact ⟨j, by omega, rfl⟩
/-- a slice does not lie in a block without cells -/
theorem Sl.far {w w' : World} {X sz : Nat} {v : Value} {es : List (List Value)} (h : Sl w sz v es) (hg : w.grownBy w' (some X)) (hx : ∀ off, w.cell? ⟨X, off, none⟩ = none) (hw : ∀ e ∈ es, e ≠ []) : Sl w' sz v es := by
  obtain ⟨A, cap, rfl, h1, h2, h0, h3⟩ := h
  refine ⟨A, cap, rfl, h1, h2, h0, ?_⟩
  rcases h3 with h3 | ⟨b, off, rfl, hc⟩
  · exact .inl h3
  · cases es with
    | nil => exact .inl rfl
    | cons e r =>
      have hbX : b ≠ X := fun heq => by
        cases e with
        | nil => exact hw [] (by simp) rfl
        | cons u t =>
          have h0 := hc.2 0 (u :: t) rfl 0 u rfl
          rw [heq, hx] at h0
          cases h0
      exact .inr ⟨b, off, rfl, Nat.lt_of_lt_of_le hc.1 hg.size, fun i x hi j u hu => (World.cell?_of_block (w := w) (a := ⟨b, _, none⟩) (hg.block b hc.1 (fun e => hbX (Option.some.inj e)))).trans (hc.2 i x hi j u hu)⟩
theorem no_cells {w : World} {M n : Nat} {a : Array MapEntry} (h : w.heap[M]? = some (.map a n)) : ∀ off, w.cell? ⟨M, off, none⟩ = none := fun off => by simp [World.cell?, h]
theorem RetsAt.far {w w' : World} {X : Nat} {v : Value} {ps : List (Ret × Value)} (h : RetsAt w v ps) (hg : w.grownBy w' (some X)) (hx : ∀ off, w.cell? ⟨X, off, none⟩ = none) : RetsAt w' v ps :=
  ⟨h.sl.far hg hx fun e he => by
      obtain ⟨p, _, rfl⟩ := List.mem_map.1 he
      simp [Ret.vals], fun p hp => (h.ln p hp).far hg hx fun e he => by
      obtain ⟨p, _, rfl⟩ := List.mem_map.1 he
      simp [Ln.vals]⟩
end Go.Proofs.YtnkephafpebfkaaGreatDoor
