/- The blocks of all states. -/
import Derived.Test.YtafkkicnfngpoaaGreatHT4
set_option linter.unusedVariables false
set_option linter.unusedSimpArgs false
set_option linter.unusedSectionVars false
namespace Go.Proofs.YtafkkicnfngpoaaGreat
open Go Go.Proofs.YtafkkicnfngpoaaGreat.Dm
theorem l0 : chkL 0 := by unfold chkL; kernel_rfl
theorem l1 : chkL 1 := by unfold chkL; kernel_rfl
theorem l2 : chkL 2 := by unfold chkL; kernel_rfl
theorem l3 : chkL 3 := by unfold chkL; kernel_rfl
theorem l4 : chkL 4 := by unfold chkL; kernel_rfl
theorem l5 : chkL 5 := by unfold chkL; kernel_rfl
theorem l6 : chkL 6 := by unfold chkL; kernel_rfl
theorem l7 : chkL 7 := by unfold chkL; kernel_rfl
theorem l8 : chkL 8 := by unfold chkL; kernel_rfl
theorem l9 : chkL 9 := by unfold chkL; kernel_rfl
theorem l10 : chkL 10 := by unfold chkL; kernel_rfl
theorem l11 : chkL 11 := by unfold chkL; kernel_rfl
theorem l12 : chkL 12 := by unfold chkL; kernel_rfl
theorem l13 : chkL 13 := by unfold chkL; kernel_rfl
theorem l14 : chkL 14 := by unfold chkL; kernel_rfl
theorem l15 : chkL 15 := by unfold chkL; kernel_rfl
theorem l16 : chkL 16 := by unfold chkL; kernel_rfl
end Go.Proofs.YtafkkicnfngpoaaGreat
