import Derived.Test.YtdlnipimljpmgaaRows
import Derived.ProofKit
set_option linter.unusedVariables false
set_option linter.unusedSimpArgs false
set_option linter.unusedSectionVars false
set_option linter.unnecessarySimpa false
namespace Go.Proofs.Ytdlnipimljpmgaa
open Go Go.Proofs.Ytdlnipimljpmgaa

theorem sc1 : Rows.imageSumsRow.wf (OpenSpec.ofChange Rows.imageSumsSpec) = true := by kernel_rfl
theorem sc2 : laidOutB Try.prog = true := by kernel_rfl
theorem sc3 : mapsRowed Try.prog = true := by kernel_rfl
theorem sc4 : (Rows.imageSumsRow.stops == []) = true := by kernel_rfl
theorem sc5 : (Try.prog.stops == []) = true := by kernel_rfl
theorem sc6 : (Rows.imageSumsRow.knobs == []) = true := by kernel_rfl
theorem sc7 : (Try.prog.stopKnobs == []) = true := by kernel_rfl
theorem sc8 : (Rows.imageSumsRow.inPlace == Try.prog.inPlace 6) = true := by kernel_rfl
theorem sc9 : (Rows.imageSumsRow.unfollowed == Try.prog.unfollowed 6) = true := by kernel_rfl
theorem sc10 : (Rows.imageSumsRow.recurses == Try.prog.recurses 6) = true := by kernel_rfl
theorem sc11 : (Rows.imageSumsRow.named == Try.prog.varsNamed 6) = true := by kernel_rfl
theorem sc12 : Try.prog.stopsHeard = true := by kernel_rfl
theorem sc13 : Try.prog.mayEnter = true := by kernel_rfl
theorem sc14 : (Rows.imageSumsRow.plainKeys == Try.prog.plainKeys) = true := by kernel_rfl
theorem sc15 : (Try.prog.make == some Rows.imageSumsRow.make) = true := by kernel_rfl
theorem sc16 : (Rows.imageSumsRow.lifted == Try.prog.liftsFinal) = true := by kernel_rfl

theorem closedFacts6 : joinedFacts Try.prog 6 Try.f6 Rows.imageSumsSpec Rows.imageSumsRow = true := by
  unfold joinedFacts
  rw [sc1, sc2, sc3, sc4, sc5, sc6, sc7, sc8, sc9, sc10, sc11, sc12, sc13, sc14, sc15, sc16]
  kernel_rfl

end Go.Proofs.Ytdlnipimljpmgaa
