/- The runs: loads, and accesses that are refused. -/
import Derived.Test.YtafkkicnfngpoaaGreatY4
set_option linter.unusedVariables false
set_option linter.unusedSimpArgs false
set_option linter.unusedSectionVars false
namespace Go.Proofs.YtafkkicnfngpoaaGreat
open Go Go.Proofs.YtafkkicnfngpoaaGreat.Dm
theorem d21 : chkLd 2 1 = true := by kernel_rfl
theorem d22 : chkLd 2 2 = true := by kernel_rfl
theorem d24 : chkLd 2 4 = true := by kernel_rfl
theorem d28 : chkLd 2 8 = true := by kernel_rfl
theorem d08 : chkLd 0 8 = true := by kernel_rfl
theorem d18 : chkLd 1 8 = true := by kernel_rfl
theorem m2 : chkM 2 = true := by kernel_rfl
theorem m4 : chkM 4 = true := by kernel_rfl
theorem m8 : chkM 8 = true := by kernel_rfl
theorem f2 : chkF = true := by kernel_rfl
theorem l0 : chkLL 0 := by unfold chkLL; kernel_rfl
theorem l1 : chkLL 1 := by unfold chkLL; kernel_rfl
theorem l2 : chkLL 2 := by unfold chkLL; kernel_rfl
end Go.Proofs.YtafkkicnfngpoaaGreat
