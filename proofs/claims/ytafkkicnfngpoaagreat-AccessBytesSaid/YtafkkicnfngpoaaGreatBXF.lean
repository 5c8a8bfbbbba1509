import Derived.Test.YtafkkicnfngpoaaGreatRows
import Derived.ProofKit
set_option linter.unusedVariables false
set_option linter.unusedSimpArgs false
set_option linter.unusedSectionVars false
namespace Go.Proofs.YtafkkicnfngpoaaGreat
open Go Go.Proofs.YtafkkicnfngpoaaGreat

theorem btfc1 : Rows.accessBytesRow.wf (OpenSpec.ofChange Rows.accessBytesSpec) = true := by kernel_rfl
theorem btfc2 : laidOutB Tryz.prog = true := by kernel_rfl
theorem btfc3 : mapsRowed Tryz.prog = true := by kernel_rfl
theorem btfc4 : (Rows.accessBytesRow.stops == []) = true := by kernel_rfl
theorem btfc5 : (Tryz.prog.stops == []) = true := by kernel_rfl
theorem btfc6 : (Rows.accessBytesRow.knobs == []) = true := by kernel_rfl
theorem btfc7 : (Tryz.prog.stopKnobs == []) = true := by kernel_rfl
theorem btfc8 : (Rows.accessBytesRow.inPlace == Tryz.prog.inPlace 4) = true := by kernel_rfl
theorem btfc9a : (true == Tryz.prog.unfollowed 4) = true := by kernel_rfl
theorem btfc9b : Tryz.prog.unfollowed 4 = true := by
  have := btfc9a
  cases h : Tryz.prog.unfollowed 4 with
  | true => rfl
  | false => rw [h] at this; cases this
theorem btfc9 : (Rows.accessBytesRow.unfollowed == Tryz.prog.unfollowed 4) = true := btfc9a
theorem btfc10 : (Rows.accessBytesRow.recurses == Tryz.prog.recurses 4) = true := by
  unfold Program.recurses
  rw [btfc9b]; rfl
theorem btfc11 : (Rows.accessBytesRow.named == Tryz.prog.varsNamed 4) = true := by kernel_rfl
theorem btfc12 : Tryz.prog.stopsHeard = true := by kernel_rfl
theorem btfc13 : Tryz.prog.mayEnter = true := by kernel_rfl
theorem btfc14 : (Rows.accessBytesRow.plainKeys == Tryz.prog.plainKeys) = true := by kernel_rfl
theorem btfc15 : (Tryz.prog.make == some Rows.accessBytesRow.make) = true := by kernel_rfl
theorem btfc16 : (Rows.accessBytesRow.lifted == Tryz.prog.liftsFinal) = true := by kernel_rfl

theorem btclosedFacts : joinedFacts Tryz.prog 4 Tryz.f4 Rows.accessBytesSpec Rows.accessBytesRow = true := by
  unfold joinedFacts
  rw [btfc1, btfc2, btfc3, btfc4, btfc5, btfc6, btfc7, btfc8, btfc9, btfc10, btfc11, btfc12, btfc13, btfc14, btfc15, btfc16]
  kernel_rfl

end Go.Proofs.YtafkkicnfngpoaaGreat
