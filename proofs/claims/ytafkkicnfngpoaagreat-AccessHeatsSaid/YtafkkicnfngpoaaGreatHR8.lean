/- The runs that begin in state 9 of the machine. -/
import Derived.Test.YtafkkicnfngpoaaGreatHT4
set_option linter.unusedVariables false
set_option linter.unusedSimpArgs false
set_option linter.unusedSectionVars false
namespace Go.Proofs.YtafkkicnfngpoaaGreat
open Go Go.Proofs.YtafkkicnfngpoaaGreat.Dm
theorem r8_0 : chkK 8 0 = true := by kernel_rfl
theorem r8_1 : chkK 8 1 = true := by kernel_rfl
theorem r8_2 : chkK 8 2 = true := by kernel_rfl
theorem r8_3 : chkK 8 3 = true := by kernel_rfl
theorem q8 : chkQ 8 = true := by kernel_rfl
end Go.Proofs.YtafkkicnfngpoaaGreat

namespace Go.Proofs.YtafkkicnfngpoaaGreat
open Go Go.Proofs.YtafkkicnfngpoaaGreat.Dm
theorem r9_0 : chkK 9 0 = true := by kernel_rfl
theorem r9_1 : chkK 9 1 = true := by kernel_rfl
theorem r9_2 : chkK 9 2 = true := by kernel_rfl
theorem r9_3 : chkK 9 3 = true := by kernel_rfl
theorem q9 : chkQ 9 = true := by kernel_rfl
end Go.Proofs.YtafkkicnfngpoaaGreat
