import Derived.Test.YtcdjgnpjapgoaaaGreatRows
import Derived.ProofKit
set_option linter.unusedVariables false
set_option linter.unusedSimpArgs false
set_option linter.unusedSectionVars false
namespace Go.Proofs.YtcdjgnpjapgoaaaGreat
open Go Go.Proofs.YtcdjgnpjapgoaaaGreat

theorem lofc1 : Rows.reclaimLogsRow.wf (OpenSpec.ofChange Rows.reclaimLogsSpec) = true := by kernel_rfl
theorem lofc2 : laidOutB Tryz.prog = true := by kernel_rfl
theorem lofc3 : mapsRowed Tryz.prog = true := by kernel_rfl
theorem lofc4 : (Rows.reclaimLogsRow.stops == []) = true := by kernel_rfl
theorem lofc5 : (Tryz.prog.stops == []) = true := by kernel_rfl
theorem lofc6 : (Rows.reclaimLogsRow.knobs == []) = true := by kernel_rfl
theorem lofc7 : (Tryz.prog.stopKnobs == []) = true := by kernel_rfl
theorem lofc8 : (Rows.reclaimLogsRow.inPlace == Tryz.prog.inPlace 5) = true := by kernel_rfl
theorem lofc9a : (true == Tryz.prog.unfollowed 5) = true := by kernel_rfl
theorem lofc9b : Tryz.prog.unfollowed 5 = true := by
  have := lofc9a
  cases h : Tryz.prog.unfollowed 5 with
  | true => rfl
  | false => rw [h] at this; cases this
theorem lofc9 : (Rows.reclaimLogsRow.unfollowed == Tryz.prog.unfollowed 5) = true := lofc9a
theorem lofc10 : (Rows.reclaimLogsRow.recurses == Tryz.prog.recurses 5) = true := by
  unfold Program.recurses
  rw [lofc9b]; rfl
theorem lofc11 : (Rows.reclaimLogsRow.named == Tryz.prog.varsNamed 5) = true := by kernel_rfl
theorem lofc12 : Tryz.prog.stopsHeard = true := by kernel_rfl
theorem lofc13 : Tryz.prog.mayEnter = true := by kernel_rfl
theorem lofc14 : (Rows.reclaimLogsRow.plainKeys == Tryz.prog.plainKeys) = true := by kernel_rfl
theorem lofc15 : (Tryz.prog.make == some Rows.reclaimLogsRow.make) = true := by kernel_rfl
theorem lofc16 : (Rows.reclaimLogsRow.lifted == Tryz.prog.liftsFinal) = true := by kernel_rfl

theorem loclosedFacts : joinedFacts Tryz.prog 5 Tryz.f5 Rows.reclaimLogsSpec Rows.reclaimLogsRow = true := by
  unfold joinedFacts
  rw [lofc1, lofc2, lofc3, lofc4, lofc5, lofc6, lofc7, lofc8, lofc9, lofc10, lofc11, lofc12, lofc13, lofc14, lofc15, lofc16]
  kernel_rfl

end Go.Proofs.YtcdjgnpjapgoaaaGreat
