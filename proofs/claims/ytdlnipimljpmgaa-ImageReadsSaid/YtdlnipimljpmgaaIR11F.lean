import Derived.Test.YtdlnipimljpmgaaRows
import Derived.ProofKit
set_option linter.unusedVariables false
set_option linter.unusedSimpArgs false
set_option linter.unusedSectionVars false
set_option linter.unnecessarySimpa false
namespace Go.Proofs.Ytdlnipimljpmgaa
open Go Go.Proofs.Ytdlnipimljpmgaa

theorem rdc1 : Rows.imageReadsRow.wf (OpenSpec.ofChange Rows.imageReadsSpec) = true := by kernel_rfl
theorem rdc2 : laidOutB Try.prog = true := by kernel_rfl
theorem rdc3 : mapsRowed Try.prog = true := by kernel_rfl
theorem rdc4 : (Rows.imageReadsRow.stops == []) = true := by kernel_rfl
theorem rdc5 : (Try.prog.stops == []) = true := by kernel_rfl
theorem rdc6 : (Rows.imageReadsRow.knobs == []) = true := by kernel_rfl
theorem rdc7 : (Try.prog.stopKnobs == []) = true := by kernel_rfl
theorem rdc8 : (Rows.imageReadsRow.inPlace == Try.prog.inPlace 4) = true := by kernel_rfl
theorem rdc9 : (Rows.imageReadsRow.unfollowed == Try.prog.unfollowed 4) = true := by kernel_rfl
theorem rdc10 : (Rows.imageReadsRow.recurses == Try.prog.recurses 4) = true := by kernel_rfl
theorem rdc11 : (Rows.imageReadsRow.named == Try.prog.varsNamed 4) = true := by kernel_rfl
theorem rdc12 : Try.prog.stopsHeard = true := by kernel_rfl
theorem rdc13 : Try.prog.mayEnter = true := by kernel_rfl
theorem rdc14 : (Rows.imageReadsRow.plainKeys == Try.prog.plainKeys) = true := by kernel_rfl
theorem rdc15 : (Try.prog.make == some Rows.imageReadsRow.make) = true := by kernel_rfl
theorem rdc16 : (Rows.imageReadsRow.lifted == Try.prog.liftsFinal) = true := by kernel_rfl

theorem closedFacts4 : joinedFacts Try.prog 4 Try.f4 Rows.imageReadsSpec Rows.imageReadsRow = true := by
  unfold joinedFacts
  rw [rdc1, rdc2, rdc3, rdc4, rdc5, rdc6, rdc7, rdc8, rdc9, rdc10, rdc11, rdc12, rdc13, rdc14, rdc15, rdc16]
  kernel_rfl

end Go.Proofs.Ytdlnipimljpmgaa
