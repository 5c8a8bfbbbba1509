import Derived.Test.YtmjogmpgamlhaaaGreatRows
import Derived.ProofKit
set_option linter.unusedVariables false
set_option linter.unusedSimpArgs false
set_option linter.unusedSectionVars false
namespace Go.Proofs.YtmjogmpgamlhaaaGreat
open Go Go.Proofs.YtmjogmpgamlhaaaGreat

theorem aofc1 : Rows.auditEachRow.wf (OpenSpec.ofChange Rows.auditEachSpec) = true := by kernel_rfl
theorem aofc2 : laidOutB Tryz.prog = true := by kernel_rfl
theorem aofc3 : mapsRowed Tryz.prog = true := by kernel_rfl
theorem aofc4 : (Rows.auditEachRow.stops == []) = true := by kernel_rfl
theorem aofc5 : (Tryz.prog.stops == []) = true := by kernel_rfl
theorem aofc6 : (Rows.auditEachRow.knobs == []) = true := by kernel_rfl
theorem aofc7 : (Tryz.prog.stopKnobs == []) = true := by kernel_rfl
theorem aofc8 : (Rows.auditEachRow.inPlace == Tryz.prog.inPlace 4) = true := by kernel_rfl
theorem aofc9a : (true == Tryz.prog.unfollowed 4) = true := by kernel_rfl
theorem aofc9b : Tryz.prog.unfollowed 4 = true := by
  have := aofc9a
  cases h : Tryz.prog.unfollowed 4 with
  | true => rfl
  | false => rw [h] at this; cases this
theorem aofc9 : (Rows.auditEachRow.unfollowed == Tryz.prog.unfollowed 4) = true := aofc9a
theorem aofc10 : (Rows.auditEachRow.recurses == Tryz.prog.recurses 4) = true := by
  unfold Program.recurses
  rw [aofc9b]; rfl
theorem aofc11 : (Rows.auditEachRow.named == Tryz.prog.varsNamed 4) = true := by kernel_rfl
theorem aofc12 : Tryz.prog.stopsHeard = true := by kernel_rfl
theorem aofc13 : Tryz.prog.mayEnter = true := by kernel_rfl
theorem aofc14 : (Rows.auditEachRow.plainKeys == Tryz.prog.plainKeys) = true := by kernel_rfl
theorem aofc15 : (Tryz.prog.make == some Rows.auditEachRow.make) = true := by kernel_rfl
theorem aofc16 : (Rows.auditEachRow.lifted == Tryz.prog.liftsFinal) = true := by kernel_rfl

theorem aoclosedFacts : joinedFacts Tryz.prog 4 Tryz.f4 Rows.auditEachSpec Rows.auditEachRow = true := by
  unfold joinedFacts
  rw [aofc1, aofc2, aofc3, aofc4, aofc5, aofc6, aofc7, aofc8, aofc9, aofc10, aofc11, aofc12, aofc13, aofc14, aofc15, aofc16]
  kernel_rfl

end Go.Proofs.YtmjogmpgamlhaaaGreat
