/- The runs that begin in state 15 of the machine. -/
import Derived.Test.YtafkkicnfngpoaaGreatHT4
set_option linter.unusedVariables false
set_option linter.unusedSimpArgs false
set_option linter.unusedSectionVars false
namespace Go.Proofs.YtafkkicnfngpoaaGreat
open Go Go.Proofs.YtafkkicnfngpoaaGreat.Dm
theorem r14_0 : chkK 14 0 = true := by kernel_rfl
theorem r14_1 : chkK 14 1 = true := by kernel_rfl
theorem r14_2 : chkK 14 2 = true := by kernel_rfl
theorem r14_3 : chkK 14 3 = true := by kernel_rfl
theorem q14 : chkQ 14 = true := by kernel_rfl
end Go.Proofs.YtafkkicnfngpoaaGreat

namespace Go.Proofs.YtafkkicnfngpoaaGreat
open Go Go.Proofs.YtafkkicnfngpoaaGreat.Dm
theorem r15_0 : chkK 15 0 = true := by kernel_rfl
theorem r15_1 : chkK 15 1 = true := by kernel_rfl
theorem r15_2 : chkK 15 2 = true := by kernel_rfl
theorem r15_3 : chkK 15 3 = true := by kernel_rfl
theorem q15 : chkQ 15 = true := by kernel_rfl
end Go.Proofs.YtafkkicnfngpoaaGreat
