import Derived.Test.YtdlnipimljpmgaaRows
import Derived.ProofKit
set_option linter.unusedVariables false
set_option linter.unusedSimpArgs false
set_option linter.unusedSectionVars false
set_option linter.unnecessarySimpa false
namespace Go.Proofs.Ytdlnipimljpmgaa
open Go Go.Proofs.Ytdlnipimljpmgaa

theorem cdc1 : Rows.imageCodesRow.wf (OpenSpec.ofChange Rows.imageCodesSpec) = true := by kernel_rfl
theorem cdc2 : laidOutB Try.prog = true := by kernel_rfl
theorem cdc3 : mapsRowed Try.prog = true := by kernel_rfl
theorem cdc4 : (Rows.imageCodesRow.stops == []) = true := by kernel_rfl
theorem cdc5 : (Try.prog.stops == []) = true := by kernel_rfl
theorem cdc6 : (Rows.imageCodesRow.knobs == []) = true := by kernel_rfl
theorem cdc7 : (Try.prog.stopKnobs == []) = true := by kernel_rfl
theorem cdc8 : (Rows.imageCodesRow.inPlace == Try.prog.inPlace 3) = true := by kernel_rfl
theorem cdc9 : (Rows.imageCodesRow.unfollowed == Try.prog.unfollowed 3) = true := by kernel_rfl
theorem cdc10 : (Rows.imageCodesRow.recurses == Try.prog.recurses 3) = true := by kernel_rfl
theorem cdc11 : (Rows.imageCodesRow.named == Try.prog.varsNamed 3) = true := by kernel_rfl
theorem cdc12 : Try.prog.stopsHeard = true := by kernel_rfl
theorem cdc13 : Try.prog.mayEnter = true := by kernel_rfl
theorem cdc14 : (Rows.imageCodesRow.plainKeys == Try.prog.plainKeys) = true := by kernel_rfl
theorem cdc15 : (Try.prog.make == some Rows.imageCodesRow.make) = true := by kernel_rfl
theorem cdc16 : (Rows.imageCodesRow.lifted == Try.prog.liftsFinal) = true := by kernel_rfl

theorem closedFacts3 : joinedFacts Try.prog 3 Try.f3 Rows.imageCodesSpec Rows.imageCodesRow = true := by
  unfold joinedFacts
  rw [cdc1, cdc2, cdc3, cdc4, cdc5, cdc6, cdc7, cdc8, cdc9, cdc10, cdc11, cdc12, cdc13, cdc14, cdc15, cdc16]
  kernel_rfl

end Go.Proofs.Ytdlnipimljpmgaa
