/- The document's reader of leaves, from a place on. -/
import Derived.Test.YtdlnipimljpmgaaIP2
set_option linter.unusedVariables false
set_option linter.unusedSimpArgs false
set_option linter.unusedSectionVars false
set_option linter.unnecessarySimpa false
namespace Go.Im

theorem num_drop (L : List Int) (p j n : Nat) : num (L.drop p) j n = num L (p + j) n := by
  unfold num
  rw [List.drop_drop]

theorem getD_drop (L : List Int) (p j : Nat) : (L.drop p).getD j 0 = L.getD (p + j) 0 := by
  rw [List.getD_eq_getElem?_getD, List.getD_eq_getElem?_getD, List.getElem?_drop]

theorem refLeaves_end {m : Nat} {L : List Int} {p : Nat} (h : L.length < p + 8) : refLeaves m (L.drop p) = some [] := by
  cases m with
  | zero => rfl
  | succ m =>
    unfold refLeaves
    rw [if_pos (by rw [List.length_drop]; omega)]

theorem refLeaves_stop (L : List Int) (p : Nat) : refLeaves 0 (L.drop p) = some [] := rfl

theorem refLeaves_bad {m : Nat} {L : List Int} {p : Nat} (h8 : p + 8 ≤ L.length) (h : 4096 < num L (p + 6) 2 ∨ (L.length : Int) - ((p + 8 : Nat) : Int) < num L (p + 6) 2) : refLeaves (m + 1) (L.drop p) = none := by
  unfold refLeaves
  rw [if_neg (by rw [List.length_drop]; omega), num_drop, if_pos]
  rw [List.length_drop]
  omega

theorem refLeaves_step {m : Nat} {L : List Int} {p : Nat} (h8 : p + 8 ≤ L.length) (h : ¬ (4096 < num L (p + 6) 2 ∨ (L.length : Int) - ((p + 8 : Nat) : Int) < num L (p + 6) 2)) :
    refLeaves (m + 1) (L.drop p) = (refLeaves m (L.drop (p + 8 + (num L (p + 6) 2).toNat))).map fun r => ⟨num L p 4, L.getD (p + 4) 0, L.getD (p + 5) 0 == 1, fill ((L.drop (p + 8)).take (num L (p + 6) 2).toNat)⟩ :: r := by
  conv => lhs; unfold refLeaves
  rw [if_neg (by rw [List.length_drop]; omega), num_drop, if_neg (by rw [List.length_drop]; omega), num_drop, getD_drop, getD_drop, List.drop_drop, List.drop_drop, Nat.add_zero, Nat.add_assoc]
end Go.Im
