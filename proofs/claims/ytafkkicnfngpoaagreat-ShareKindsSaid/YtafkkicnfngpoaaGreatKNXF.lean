import Derived.Test.YtafkkicnfngpoaaGreatRows
import Derived.ProofKit
set_option linter.unusedVariables false
set_option linter.unusedSimpArgs false
set_option linter.unusedSectionVars false
namespace Go.Proofs.YtafkkicnfngpoaaGreat
open Go Go.Proofs.YtafkkicnfngpoaaGreat

theorem knfc1 : Rows.shareKindsRow.wf (OpenSpec.ofChange Rows.shareKindsSpec) = true := by kernel_rfl
theorem knfc2 : laidOutB Tryz.prog = true := by kernel_rfl
theorem knfc3 : mapsRowed Tryz.prog = true := by kernel_rfl
theorem knfc4 : (Rows.shareKindsRow.stops == []) = true := by kernel_rfl
theorem knfc5 : (Tryz.prog.stops == []) = true := by kernel_rfl
theorem knfc6 : (Rows.shareKindsRow.knobs == []) = true := by kernel_rfl
theorem knfc7 : (Tryz.prog.stopKnobs == []) = true := by kernel_rfl
theorem knfc8 : (Rows.shareKindsRow.inPlace == Tryz.prog.inPlace 6) = true := by kernel_rfl
theorem knfc9a : (true == Tryz.prog.unfollowed 6) = true := by kernel_rfl
theorem knfc9b : Tryz.prog.unfollowed 6 = true := by
  have := knfc9a
  cases h : Tryz.prog.unfollowed 6 with
  | true => rfl
  | false => rw [h] at this; cases this
theorem knfc9 : (Rows.shareKindsRow.unfollowed == Tryz.prog.unfollowed 6) = true := knfc9a
theorem knfc10 : (Rows.shareKindsRow.recurses == Tryz.prog.recurses 6) = true := by
  unfold Program.recurses
  rw [knfc9b]; rfl
theorem knfc11 : (Rows.shareKindsRow.named == Tryz.prog.varsNamed 6) = true := by kernel_rfl
theorem knfc12 : Tryz.prog.stopsHeard = true := by kernel_rfl
theorem knfc13 : Tryz.prog.mayEnter = true := by kernel_rfl
theorem knfc14 : (Rows.shareKindsRow.plainKeys == Tryz.prog.plainKeys) = true := by kernel_rfl
theorem knfc15 : (Tryz.prog.make == some Rows.shareKindsRow.make) = true := by kernel_rfl
theorem knfc16 : (Rows.shareKindsRow.lifted == Tryz.prog.liftsFinal) = true := by kernel_rfl

theorem knclosedFacts : joinedFacts Tryz.prog 6 Tryz.f6 Rows.shareKindsSpec Rows.shareKindsRow = true := by
  unfold joinedFacts
  rw [knfc1, knfc2, knfc3, knfc4, knfc5, knfc6, knfc7, knfc8, knfc9, knfc10, knfc11, knfc12, knfc13, knfc14, knfc15, knfc16]
  kernel_rfl

end Go.Proofs.YtafkkicnfngpoaaGreat
