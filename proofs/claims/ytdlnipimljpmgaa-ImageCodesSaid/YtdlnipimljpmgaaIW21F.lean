import Derived.Test.YtdlnipimljpmgaaRows
import Derived.ProofKit
set_option linter.unusedVariables false
set_option linter.unusedSimpArgs false
set_option linter.unusedSectionVars false
set_option linter.unnecessarySimpa false
namespace Go.Proofs.Ytdlnipimljpmgaa
open Go Go.Proofs.Ytdlnipimljpmgaa

theorem fc1 : Rows.imageBackRow.wf (OpenSpec.ofChange Rows.imageBackSpec) = true := by kernel_rfl
theorem fc2 : laidOutB Try.prog = true := by kernel_rfl
theorem fc3 : mapsRowed Try.prog = true := by kernel_rfl
theorem fc4 : (Rows.imageBackRow.stops == []) = true := by kernel_rfl
theorem fc5 : (Try.prog.stops == []) = true := by kernel_rfl
theorem fc6 : (Rows.imageBackRow.knobs == []) = true := by kernel_rfl
theorem fc7 : (Try.prog.stopKnobs == []) = true := by kernel_rfl
theorem fc8 : (Rows.imageBackRow.inPlace == Try.prog.inPlace 5) = true := by kernel_rfl
theorem fc9 : (Rows.imageBackRow.unfollowed == Try.prog.unfollowed 5) = true := by kernel_rfl
theorem fc10 : (Rows.imageBackRow.recurses == Try.prog.recurses 5) = true := by kernel_rfl
theorem fc11 : (Rows.imageBackRow.named == Try.prog.varsNamed 5) = true := by kernel_rfl
theorem fc12 : Try.prog.stopsHeard = true := by kernel_rfl
theorem fc13 : Try.prog.mayEnter = true := by kernel_rfl
theorem fc14 : (Rows.imageBackRow.plainKeys == Try.prog.plainKeys) = true := by kernel_rfl
theorem fc15 : (Try.prog.make == some Rows.imageBackRow.make) = true := by kernel_rfl
theorem fc16 : (Rows.imageBackRow.lifted == Try.prog.liftsFinal) = true := by kernel_rfl

theorem closedFacts : joinedFacts Try.prog 5 Try.f5 Rows.imageBackSpec Rows.imageBackRow = true := by
  unfold joinedFacts
  rw [fc1, fc2, fc3, fc4, fc5, fc6, fc7, fc8, fc9, fc10, fc11, fc12, fc13, fc14, fc15, fc16]
  kernel_rfl

end Go.Proofs.Ytdlnipimljpmgaa
