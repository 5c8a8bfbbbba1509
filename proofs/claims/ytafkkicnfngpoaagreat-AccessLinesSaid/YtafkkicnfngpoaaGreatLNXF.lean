import Derived.Test.YtafkkicnfngpoaaGreatRows
import Derived.ProofKit
set_option linter.unusedVariables false
set_option linter.unusedSimpArgs false
set_option linter.unusedSectionVars false
namespace Go.Proofs.YtafkkicnfngpoaaGreat
open Go Go.Proofs.YtafkkicnfngpoaaGreat

theorem lnfc1 : Rows.accessLinesRow.wf (OpenSpec.ofChange Rows.accessLinesSpec) = true := by kernel_rfl
theorem lnfc2 : laidOutB Tryz.prog = true := by kernel_rfl
theorem lnfc3 : mapsRowed Tryz.prog = true := by kernel_rfl
theorem lnfc4 : (Rows.accessLinesRow.stops == []) = true := by kernel_rfl
theorem lnfc5 : (Tryz.prog.stops == []) = true := by kernel_rfl
theorem lnfc6 : (Rows.accessLinesRow.knobs == []) = true := by kernel_rfl
theorem lnfc7 : (Tryz.prog.stopKnobs == []) = true := by kernel_rfl
theorem lnfc8 : (Rows.accessLinesRow.inPlace == Tryz.prog.inPlace 5) = true := by kernel_rfl
theorem lnfc9a : (true == Tryz.prog.unfollowed 5) = true := by kernel_rfl
theorem lnfc9b : Tryz.prog.unfollowed 5 = true := by
  have := lnfc9a
  cases h : Tryz.prog.unfollowed 5 with
  | true => rfl
  | false => rw [h] at this; cases this
theorem lnfc9 : (Rows.accessLinesRow.unfollowed == Tryz.prog.unfollowed 5) = true := lnfc9a
theorem lnfc10 : (Rows.accessLinesRow.recurses == Tryz.prog.recurses 5) = true := by
  unfold Program.recurses
  rw [lnfc9b]; rfl
theorem lnfc11 : (Rows.accessLinesRow.named == Tryz.prog.varsNamed 5) = true := by kernel_rfl
theorem lnfc12 : Tryz.prog.stopsHeard = true := by kernel_rfl
theorem lnfc13 : Tryz.prog.mayEnter = true := by kernel_rfl
theorem lnfc14 : (Rows.accessLinesRow.plainKeys == Tryz.prog.plainKeys) = true := by kernel_rfl
theorem lnfc15 : (Tryz.prog.make == some Rows.accessLinesRow.make) = true := by kernel_rfl
theorem lnfc16 : (Rows.accessLinesRow.lifted == Tryz.prog.liftsFinal) = true := by kernel_rfl

theorem lnclosedFacts : joinedFacts Tryz.prog 5 Tryz.f5 Rows.accessLinesSpec Rows.accessLinesRow = true := by
  unfold joinedFacts
  rw [lnfc1, lnfc2, lnfc3, lnfc4, lnfc5, lnfc6, lnfc7, lnfc8, lnfc9, lnfc10, lnfc11, lnfc12, lnfc13, lnfc14, lnfc15, lnfc16]
  kernel_rfl

end Go.Proofs.YtafkkicnfngpoaaGreat
