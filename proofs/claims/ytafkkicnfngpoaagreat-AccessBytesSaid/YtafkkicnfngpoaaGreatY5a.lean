/- The runs: stores. -/
import Derived.Test.YtafkkicnfngpoaaGreatY4
set_option linter.unusedVariables false
set_option linter.unusedSimpArgs false
set_option linter.unusedSectionVars false
namespace Go.Proofs.YtafkkicnfngpoaaGreat
open Go Go.Proofs.YtafkkicnfngpoaaGreat.Dm
theorem s01 : chkS 0 1 = true := by kernel_rfl
theorem s02 : chkS 0 2 = true := by kernel_rfl
theorem s04 : chkS 0 4 = true := by kernel_rfl
theorem s08 : chkS 0 8 = true := by kernel_rfl
theorem s11 : chkS 1 1 = true := by kernel_rfl
theorem s12 : chkS 1 2 = true := by kernel_rfl
theorem s14 : chkS 1 4 = true := by kernel_rfl
theorem s18 : chkS 1 8 = true := by kernel_rfl
theorem s21 : chkS 2 1 = true := by kernel_rfl
theorem s22 : chkS 2 2 = true := by kernel_rfl
theorem s24 : chkS 2 4 = true := by kernel_rfl
theorem s28 : chkS 2 8 = true := by kernel_rfl
end Go.Proofs.YtafkkicnfngpoaaGreat
