import Derived.Test.YtndbccpaccflcaaGreatRows
import Derived.ProofKit
set_option linter.unusedVariables false
set_option linter.unusedSimpArgs false
set_option linter.unusedSectionVars false
namespace Go.Proofs.YtndbccpaccflcaaGreat
open Go Go.Proofs.YtndbccpaccflcaaGreat

theorem fc1 : Rows.twinAgainRow.wf (OpenSpec.ofChange Rows.twinAgainSpec) = true := by kernel_rfl
theorem fc2 : laidOutB Tryz.prog = true := by kernel_rfl
theorem fc3 : mapsRowed Tryz.prog = true := by kernel_rfl
theorem fc4 : (Rows.twinAgainRow.stops == []) = true := by kernel_rfl
theorem fc5 : (Tryz.prog.stops == []) = true := by kernel_rfl
theorem fc6 : (Rows.twinAgainRow.knobs == []) = true := by kernel_rfl
theorem fc7 : (Tryz.prog.stopKnobs == []) = true := by kernel_rfl
theorem fc8 : (Rows.twinAgainRow.inPlace == Tryz.prog.inPlace 4) = true := by kernel_rfl
theorem fc9a : (true == Tryz.prog.unfollowed 4) = true := by kernel_rfl
theorem fc9b : Tryz.prog.unfollowed 4 = true := by
  have := fc9a
  cases h : Tryz.prog.unfollowed 4 with
  | true => rfl
  | false => rw [h] at this; cases this
theorem fc9 : (Rows.twinAgainRow.unfollowed == Tryz.prog.unfollowed 4) = true := fc9a
theorem fc10 : (Rows.twinAgainRow.recurses == Tryz.prog.recurses 4) = true := by
  unfold Program.recurses
  rw [fc9b]; rfl
theorem fc11 : (Rows.twinAgainRow.named == Tryz.prog.varsNamed 4) = true := by kernel_rfl
theorem fc12 : Tryz.prog.stopsHeard = true := by kernel_rfl
theorem fc13 : Tryz.prog.mayEnter = true := by kernel_rfl
theorem fc14 : (Rows.twinAgainRow.plainKeys == Tryz.prog.plainKeys) = true := by kernel_rfl
theorem fc15 : (Tryz.prog.make == some Rows.twinAgainRow.make) = true := by kernel_rfl
theorem fc16 : (Rows.twinAgainRow.lifted == Tryz.prog.liftsFinal) = true := by kernel_rfl

theorem closedFacts : joinedFacts Tryz.prog 4 Tryz.f4 Rows.twinAgainSpec Rows.twinAgainRow = true := by
  unfold joinedFacts
  rw [fc1, fc2, fc3, fc4, fc5, fc6, fc7, fc8, fc9, fc10, fc11, fc12, fc13, fc14, fc15, fc16]
  kernel_rfl

end Go.Proofs.YtndbccpaccflcaaGreat
