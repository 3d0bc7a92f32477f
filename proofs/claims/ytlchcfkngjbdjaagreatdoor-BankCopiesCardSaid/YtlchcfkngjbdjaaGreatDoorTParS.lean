/- What parse reads, step by step: no program in sight. -/
import Derived.Test.YtlchcfkngjbdjaaGreatDoorTTxt
namespace Go.Proofs.YtlchcfkngjbdjaaGreatDoor

/-- the file and the control totals of lines -/
def parseL (ls : List (List UInt8)) : Option (Fil × Ctl) :=
  if 3 ≤ ls.length ∧ ls[ls.length - 1]? = some wEnd then
    match readL pHead (ls.getD 0 []) with
    | some [n, d] => (match readL pTotal (ls.getD (ls.length - 2) []) with
      | some [c, t, h] => (match readPays ((ls.drop 1).take (ls.length - 3)) with
        | some l => some (⟨n, d, l⟩, ⟨c, t, h⟩)
        | none => none)
      | _ => none)
    | _ => none
  else none
theorem parseF_lines (s : List UInt8) : parseF s = if Lib.hasSuffix s [10] then parseL (splitBy 10 (Lib.trimSuffix s [10])) else none := rfl
theorem pl_short {ls : List (List UInt8)} (h : ¬ (3 ≤ ls.length ∧ ls[ls.length - 1]? = some wEnd)) : parseL ls = none := if_neg h
theorem pl_head {ls : List (List UInt8)} (h : 3 ≤ ls.length ∧ ls[ls.length - 1]? = some wEnd) (h1 : readL pHead (ls.getD 0 []) = none) : parseL ls = none := by
  rw [parseL, if_pos h, h1]
theorem pl_total {ls : List (List UInt8)} {n d : Int} (h : 3 ≤ ls.length ∧ ls[ls.length - 1]? = some wEnd) (h1 : readL pHead (ls.getD 0 []) = some [n, d]) (h2 : readL pTotal (ls.getD (ls.length - 2) []) = none) : parseL ls = none := by
  rw [parseL, if_pos h, h1]; simp only [h2]
theorem pl_pays {ls : List (List UInt8)} {n d c t y : Int} (h : 3 ≤ ls.length ∧ ls[ls.length - 1]? = some wEnd) (h1 : readL pHead (ls.getD 0 []) = some [n, d]) (h2 : readL pTotal (ls.getD (ls.length - 2) []) = some [c, t, y]) (h3 : readPays ((ls.drop 1).take (ls.length - 3)) = none) : parseL ls = none := by
  rw [parseL, if_pos h, h1]; simp only [h2, h3]
theorem pl_ok {ls : List (List UInt8)} {n d c t y : Int} {l : List Pay} (h : 3 ≤ ls.length ∧ ls[ls.length - 1]? = some wEnd) (h1 : readL pHead (ls.getD 0 []) = some [n, d]) (h2 : readL pTotal (ls.getD (ls.length - 2) []) = some [c, t, y]) (h3 : readPays ((ls.drop 1).take (ls.length - 3)) = some l) : parseL ls = some (⟨n, d, l⟩, ⟨c, t, y⟩) := by
  rw [parseL, if_pos h, h1]; simp only [h2, h3]
/-- where the loop over the payments stands -/
def PyI (ls : List (List UInt8)) (k : Nat) (acc : List Pay) : Prop := readPays ls = (readPays (ls.drop k)).map (acc ++ ·)
theorem pyI_start (ls : List (List UInt8)) : PyI ls 0 [] := by unfold PyI; simp
theorem pyI_no {ls : List (List UInt8)} {k : Nat} {acc : List Pay} (h : PyI ls k acc) (hk : k < ls.length) (hr : readL pPay ls[k] = none) : readPays ls = none := by
  unfold PyI at h
  rw [List.drop_eq_getElem_cons hk, readPays, hr] at h
  exact h
theorem pyI_next {ls : List (List UInt8)} {k : Nat} {acc : List Pay} (h : PyI ls k acc) (hk : k < ls.length) {e a : Int} (hr : readL pPay ls[k] = some [e, a]) : PyI ls (k + 1) (acc ++ [⟨e, a⟩]) := by
  unfold PyI at h ⊢
  rw [List.drop_eq_getElem_cons hk, readPays, hr] at h
  simp only at h
  rw [h]
  cases readPays (ls.drop (k + 1)) with
  | none => rfl
  | some r => simp
theorem pyI_end {ls : List (List UInt8)} {acc : List Pay} (h : PyI ls ls.length acc) : readPays ls = some acc := by
  unfold PyI at h
  rw [h, List.drop_length]
  simp [readPays]
end Go.Proofs.YtlchcfkngjbdjaaGreatDoor
