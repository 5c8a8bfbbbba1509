import Derived.Test.YtmjogmpgamlhaaaGreatRows
import Derived.ProofKit
set_option linter.unusedVariables false
set_option linter.unusedSimpArgs false
set_option linter.unusedSectionVars false
namespace Go.Proofs.YtmjogmpgamlhaaaGreat
open Go Go.Proofs.YtmjogmpgamlhaaaGreat

theorem wofc1 : Rows.topWarmRow.wf (OpenSpec.ofChange Rows.topWarmSpec) = true := by kernel_rfl
theorem wofc2 : laidOutB Tryz.prog = true := by kernel_rfl
theorem wofc3 : mapsRowed Tryz.prog = true := by kernel_rfl
theorem wofc4 : (Rows.topWarmRow.stops == []) = true := by kernel_rfl
theorem wofc5 : (Tryz.prog.stops == []) = true := by kernel_rfl
theorem wofc6 : (Rows.topWarmRow.knobs == []) = true := by kernel_rfl
theorem wofc7 : (Tryz.prog.stopKnobs == []) = true := by kernel_rfl
theorem wofc8 : (Rows.topWarmRow.inPlace == Tryz.prog.inPlace 3) = true := by kernel_rfl
theorem wofc9a : (true == Tryz.prog.unfollowed 3) = true := by kernel_rfl
theorem wofc9b : Tryz.prog.unfollowed 3 = true := by
  have := wofc9a
  cases h : Tryz.prog.unfollowed 3 with
  | true => rfl
  | false => rw [h] at this; cases this
theorem wofc9 : (Rows.topWarmRow.unfollowed == Tryz.prog.unfollowed 3) = true := wofc9a
theorem wofc10 : (Rows.topWarmRow.recurses == Tryz.prog.recurses 3) = true := by
  unfold Program.recurses
  rw [wofc9b]; rfl
theorem wofc11 : (Rows.topWarmRow.named == Tryz.prog.varsNamed 3) = true := by kernel_rfl
theorem wofc12 : Tryz.prog.stopsHeard = true := by kernel_rfl
theorem wofc13 : Tryz.prog.mayEnter = true := by kernel_rfl
theorem wofc14 : (Rows.topWarmRow.plainKeys == Tryz.prog.plainKeys) = true := by kernel_rfl
theorem wofc15 : (Tryz.prog.make == some Rows.topWarmRow.make) = true := by kernel_rfl
theorem wofc16 : (Rows.topWarmRow.lifted == Tryz.prog.liftsFinal) = true := by kernel_rfl

theorem woclosedFacts : joinedFacts Tryz.prog 3 Tryz.f3 Rows.topWarmSpec Rows.topWarmRow = true := by
  unfold joinedFacts
  rw [wofc1, wofc2, wofc3, wofc4, wofc5, wofc6, wofc7, wofc8, wofc9, wofc10, wofc11, wofc12, wofc13, wofc14, wofc15, wofc16]
  kernel_rfl

end Go.Proofs.YtmjogmpgamlhaaaGreat
