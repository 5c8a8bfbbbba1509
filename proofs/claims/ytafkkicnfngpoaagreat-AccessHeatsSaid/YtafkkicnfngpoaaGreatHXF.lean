import Derived.Test.YtafkkicnfngpoaaGreatRows
import Derived.ProofKit
set_option linter.unusedVariables false
set_option linter.unusedSimpArgs false
set_option linter.unusedSectionVars false
namespace Go.Proofs.YtafkkicnfngpoaaGreat
open Go Go.Proofs.YtafkkicnfngpoaaGreat

theorem htfc1 : Rows.accessHeatsRow.wf (OpenSpec.ofChange Rows.accessHeatsSpec) = true := by kernel_rfl
theorem htfc2 : laidOutB Tryz.prog = true := by kernel_rfl
theorem htfc3 : mapsRowed Tryz.prog = true := by kernel_rfl
theorem htfc4 : (Rows.accessHeatsRow.stops == []) = true := by kernel_rfl
theorem htfc5 : (Tryz.prog.stops == []) = true := by kernel_rfl
theorem htfc6 : (Rows.accessHeatsRow.knobs == []) = true := by kernel_rfl
theorem htfc7 : (Tryz.prog.stopKnobs == []) = true := by kernel_rfl
theorem htfc8 : (Rows.accessHeatsRow.inPlace == Tryz.prog.inPlace 3) = true := by kernel_rfl
theorem htfc9a : (true == Tryz.prog.unfollowed 3) = true := by kernel_rfl
theorem htfc9b : Tryz.prog.unfollowed 3 = true := by
  have := htfc9a
  cases h : Tryz.prog.unfollowed 3 with
  | true => rfl
  | false => rw [h] at this; cases this
theorem htfc9 : (Rows.accessHeatsRow.unfollowed == Tryz.prog.unfollowed 3) = true := htfc9a
theorem htfc10 : (Rows.accessHeatsRow.recurses == Tryz.prog.recurses 3) = true := by
  unfold Program.recurses
  rw [htfc9b]; rfl
theorem htfc11 : (Rows.accessHeatsRow.named == Tryz.prog.varsNamed 3) = true := by kernel_rfl
theorem htfc12 : Tryz.prog.stopsHeard = true := by kernel_rfl
theorem htfc13 : Tryz.prog.mayEnter = true := by kernel_rfl
theorem htfc14 : (Rows.accessHeatsRow.plainKeys == Tryz.prog.plainKeys) = true := by kernel_rfl
theorem htfc15 : (Tryz.prog.make == some Rows.accessHeatsRow.make) = true := by kernel_rfl
theorem htfc16 : (Rows.accessHeatsRow.lifted == Tryz.prog.liftsFinal) = true := by kernel_rfl

theorem htclosedFacts : joinedFacts Tryz.prog 3 Tryz.f3 Rows.accessHeatsSpec Rows.accessHeatsRow = true := by
  unfold joinedFacts
  rw [htfc1, htfc2, htfc3, htfc4, htfc5, htfc6, htfc7, htfc8, htfc9, htfc10, htfc11, htfc12, htfc13, htfc14, htfc15, htfc16]
  kernel_rfl

end Go.Proofs.YtafkkicnfngpoaaGreat
