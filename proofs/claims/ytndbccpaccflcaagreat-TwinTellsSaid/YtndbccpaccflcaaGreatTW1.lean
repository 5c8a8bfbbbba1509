import Derived.Test.YtndbccpaccflcaaGreatProg
import Derived.WalkKit
import Derived.WalkSmall
import Derived.Deep.QuietTactic
import Derived.BigQuiet
set_option linter.unusedVariables false
set_option linter.unusedSimpArgs false
set_option linter.unusedSectionVars false
namespace Go.Proofs.YtndbccpaccflcaaGreat
open Go Go.RowKit

theorem eq_len (x y : Option Addr) (n m c d : Nat) (w : World) (h : n ≠ m) :
    Calls Tryz.prog 28 #[.slice x n c, .slice y m d] w fun e w' => e = .returned (.bool false) ∧ w' = w := by
  have h1 : ((n : Int) != (m : Int)) = true := by rw [bne_iff_ne]; omega
  go_enter Tryz.func28, Tryz.ntmps28
  go_wp2
  go_ret
  exact ⟨rfl, rfl⟩

theorem eq_nil (x y : Option Addr) (c d : Nat) (w : World) :
    Calls Tryz.prog 28 #[.slice x 0 c, .slice y 0 d] w fun e w' => e = .returned (.bool true) ∧ w' = w := by
  go_enter Tryz.func28, Tryz.ntmps28
  go_wp2
  go_loopw [13] (fun i wr => i = .int .i64 0 ∧ wr = w)
    (fun i _ => 0)
  case atStart => exact ⟨rfl, rfl⟩
  case round =>
    obtain ⟨rfl, rfl⟩ := hrel
    go_wp2
    go_ret
    exact ⟨rfl, rfl⟩

theorem eq_same (b c o p n cp cq : Nat) (xs ys : Nat → Bool) (w : World) (hbig : n ≤ 9223372036854775807)
    (hx : ∀ j, j < n → w.cell? ⟨b, o + j, none⟩ = some (.bool (xs j))) (hy : ∀ j, j < n → w.cell? ⟨c, p + j, none⟩ = some (.bool (ys j))) :
    Calls Tryz.prog 28 #[.slice (some ⟨b, o, none⟩) n cp, .slice (some ⟨c, p, none⟩) n cq] w fun e w' => (∃ r : Bool, e = .returned (.bool r) ∧ (r = true ↔ ∀ j, j < n → xs j = ys j)) ∧ ∃ q, w' = w.drewN q := by
  go_enter Tryz.func28, Tryz.ntmps28
  go_wp2
  go_loopw [13] (fun i wr => ∃ k : Nat, k ≤ n ∧ i = .int .i64 k ∧ (∀ j, j < k → xs j = ys j) ∧ ∃ q, wr = w.drewN q)
    (fun i _ => n - (intOf i).toNat)
  case atStart => exact ⟨0, Nat.zero_le _, rfl, fun j hj => absurd hj (Nat.not_lt_zero _), 0, rfl⟩
  case round =>
    obtain ⟨k, hk, rfl, hs, q, rfl⟩ := hrel
    by_cases hlt : k < n
    · have cx := hx k hlt
      have cy := hy k hlt
      have hi : (k : Int) < (n : Int) := by omega
      have HX : Hid (∀ j, j < k → xs j = ys j) := hs
      clear hx hy hs
      go_wp2
      go_quiet (fail)
      go_wp2
      · have ht : (!xs k == ys k) = true := by assumption
        go_ret
        exact ⟨⟨false, rfl, by simp at ht ⊢; exact ⟨k, hlt, ht⟩⟩, q + nq, by simp⟩
      · have ht : (!xs k == ys k) = false := by assumption
        go_roundw
        case rel =>
          refine ⟨k + 1, by omega, by go_num, fun j hj => ?_, _, rfl⟩
          by_cases hjk : j < k
          · exact HX.out j hjk
          · have : j = k := by omega
            subst this
            simpa using ht
        case measure => simp [intOf]; omega
    · have : k = n := by omega
      subst this
      clear hx hy
      have HX : Hid (∀ j, j < k → xs j = ys j) := hs
      clear hs
      go_wp2
      go_ret
      exact ⟨⟨true, rfl, by simpa using HX.out⟩, _, rfl⟩
end Go.Proofs.YtndbccpaccflcaaGreat
