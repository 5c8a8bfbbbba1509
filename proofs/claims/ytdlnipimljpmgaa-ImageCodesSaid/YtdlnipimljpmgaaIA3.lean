/- ImageSums: what is compared. -/
import Derived.Test.YtdlnipimljpmgaaIA2
import Derived.Test.YtdlnipimljpmgaaIW19
set_option linter.unusedVariables false
set_option linter.unusedSimpArgs false
set_option linter.unusedSectionVars false
set_option linter.unnecessarySimpa false
namespace Go.Proofs.Ytdlnipimljpmgaa
open Go Go.RowKit Go.Im Go.Lib Go.Fl

theorem ceq (x y u v : Nat) (w : World) : Sem.run Try.prog (binOp .eql 38 (.complex .f64 x y) (.complex .f64 u v)) w = .ok (.bool ((FloatKind.f64.format.order x u == some Ordering.eq) && (FloatKind.f64.format.order y v == some Ordering.eq))) w := by rfl

theorem cne (x y u v : Nat) (w : World) : Sem.run Try.prog (binOp .neq 38 (.complex .f64 x y) (.complex .f64 u v)) w = .ok (.bool (!((FloatKind.f64.format.order x u == some Ordering.eq) && (FloatKind.f64.format.order y v == some Ordering.eq)))) w := by rfl

theorem wrap_small {z : Int} (h : z.natAbs ≤ 4294967296) : wrap64 z = z := by
  unfold wrap64; omega

theorem sums_facts {X1 X2 W1 W2 d : Int} {k r : Nat} (hd : d.natAbs ≤ 255) (hk : k < 4096) (hr : r < 4) (h1 : X1.natAbs ≤ 26388279066624) (h2 : X2.natAbs ≤ 26388279066624)
    (hW1 : rotRe r (rotRe (k / 8 % 4) (dRe k d) (dIm k d)) (rotIm (k / 8 % 4) (dRe k d) (dIm k d)) = W1) (hW2 : rotIm r (rotRe (k / 8 % 4) (dRe k d) (dIm k d)) (rotIm (k / 8 % 4) (dRe k d) (dIm k d)) = W2) (hnz : ¬ (W1 = 0 ∧ W2 = 0)) :
    (∀ z, z = ((k / 8 : Nat) : Int) → ∀ w, Calls Try.prog 21 #[.complex .f64 (fb (dRe k d)) (fb (dIm k d)), .int .i64 z] w fun e w' => e = .returned (.complex .f64 (fb (rotRe (k / 8 % 4) (dRe k d) (dIm k d))) (fb (rotIm (k / 8 % 4) (dRe k d) (dIm k d)))) ∧ w' = w) ∧
    (∀ w, Calls Try.prog 21 #[.complex .f64 (fb (rotRe (k / 8 % 4) (dRe k d) (dIm k d))) (fb (rotIm (k / 8 % 4) (dRe k d) (dIm k d))), .int .i64 (r : Int)] w fun e w' => e = .returned (.complex .f64 (fb W1) (fb W2)) ∧ w' = w) ∧
    (∀ w, Calls Try.prog 22 #[.complex .f64 (fb X1) (fb X2), .complex .f64 (fb W1) (fb W2)] w fun e w' => e = .returned (.tuple #[.complex .f64 (fb (X1 + W1)) (fb (X2 + W2)), .int .i64 0]) ∧ w' = w) ∧
    (∀ w, Sem.run Try.prog (binOp .eql 38 (.complex .f64 (fb (X1 + W1)) (fb (X2 + W2))) (.complex .f64 (fb (X1 + W1)) (fb (X2 + W2)))) w = .ok (.bool true) w) ∧
    (∀ w, Sem.run Try.prog (binOp .neq 38 (.complex .f64 (fb X1) (fb X2)) (.complex .f64 (fb (X1 + W1)) (fb (X2 + W2)))) w = .ok (.bool true) w) ∧
    wrap64 (d * 2 ^ (8 * (k % 4))) = d * 256 ^ (k % 4) := by
  have hdr := d_le k hd
  have hl1 := rot_le (r := k / 8 % 4) hdr.1 hdr.2
  have hl2 := rot_le (r := r) hl1.1 hl1.2
  rw [hW1, hW2] at hl2
  obtain ⟨g1, g2⟩ := hl2
  have b1 : (X1 + W1).natAbs ≤ 26392574033920 := Nat.le_trans (Int.natAbs_add_le _ _) (Nat.add_le_add h1 g1)
  have b2 : (X2 + W2).natAbs ≤ 26392574033920 := Nat.le_trans (Int.natAbs_add_le _ _) (Nat.add_le_add h2 g2)
  have up : ∀ {a : Nat} (M : Nat), a ≤ 26392574033920 → 26392574033920 ≤ M → a ≤ M := fun M h h' => Nat.le_trans h h'
  have ups : ∀ {a : Nat}, a ≤ 4294967296 → a ≤ 26392574033920 := fun h => Nat.le_trans h (by decide)
  have upx : ∀ {a : Nat}, a ≤ 26388279066624 → a ≤ 26392574033920 := fun h => Nat.le_trans h (by decide)
  have lt : ∀ {a : Nat}, a ≤ 26392574033920 → a < 9007199254740992 := fun h => Nat.lt_of_le_of_lt h (by decide)
  refine ⟨fun z hz w => ?_, fun w => ?_, fun w => ?_, fun w => ?_, fun w => ?_, ?_⟩
  · subst hz
    exact Turn_calls (Wh.of _) (Wh.of _) (up _ (ups hdr.1) (by decide)) (up _ (ups hdr.2) (by decide)) _ (k / 8 % 4) (Nat.mod_lt _ (by decide)) (and3_mod (k / 8) (by clear hW1 hW2 hdr hl1 g1 g2 b1 b2; omega)) w
  · have h := and3_mod r (Nat.lt_trans hr (by decide))
    rw [Nat.mod_eq_of_lt hr] at h
    have h' := Turn_calls (Wh.of (rotRe (k / 8 % 4) (dRe k d) (dIm k d))) (Wh.of (rotIm (k / 8 % 4) (dRe k d) (dIm k d))) (up _ (ups hl1.1) (by decide)) (up _ (ups hl1.2) (by decide)) _ r hr h w
    rw [hW1, hW2] at h'
    exact h'
  · exact Add_calls (Wh.of _) (Wh.of _) (Wh.of _) (Wh.of _) (up _ (upx h1) (by decide)) (up _ (upx h2) (by decide)) (up _ (ups g1) (by decide)) (up _ (ups g2) (by decide)) (up _ b1 (by decide)) (up _ b2 (by decide)) w
  · rw [ceq, order_eq (Wh.of (X1 + W1)) (Wh.of (X1 + W1)) (lt b1) (lt b1), order_eq (Wh.of (X2 + W2)) (Wh.of (X2 + W2)) (lt b2) (lt b2)]
    simp
  · rw [cne, order_eq (Wh.of X1) (Wh.of (X1 + W1)) (lt (upx h1)) (lt b1), order_eq (Wh.of X2) (Wh.of (X2 + W2)) (lt (upx h2)) (lt b2)]
    have h : ¬ (X1 = X1 + W1 ∧ X2 = X2 + W2) := fun hh => hnz ⟨by have := hh.1; clear hW1 hW2 hdr hl1 g1 g2 b1 b2 h1 h2 hd hh; omega, by have := hh.2; clear hW1 hW2 hdr hl1 g1 g2 b1 b2 h1 h2 hd hh; omega⟩
    rw [← Bool.decide_and, decide_eq_false h]
    rfl
  · rw [show (2 : Int) ^ (8 * (k % 4)) = 256 ^ (k % 4) by rw [Int.pow_mul]; rfl]
    have h3 : (d * 256 ^ (k % 4)).natAbs ≤ 4294967296 := by
      unfold dRe dIm at hdr
      split at hdr
      · exact hdr.1
      · exact hdr.2
    exact wrap_small h3
end Go.Proofs.Ytdlnipimljpmgaa
