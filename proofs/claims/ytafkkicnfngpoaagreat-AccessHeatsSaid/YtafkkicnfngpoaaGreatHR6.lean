/- The runs that begin in state 7 of the machine. -/
import Derived.Test.YtafkkicnfngpoaaGreatHT4
set_option linter.unusedVariables false
set_option linter.unusedSimpArgs false
set_option linter.unusedSectionVars false
namespace Go.Proofs.YtafkkicnfngpoaaGreat
open Go Go.Proofs.YtafkkicnfngpoaaGreat.Dm
theorem r6_0 : chkK 6 0 = true := by kernel_rfl
theorem r6_1 : chkK 6 1 = true := by kernel_rfl
theorem r6_2 : chkK 6 2 = true := by kernel_rfl
theorem r6_3 : chkK 6 3 = true := by kernel_rfl
theorem q6 : chkQ 6 = true := by kernel_rfl
end Go.Proofs.YtafkkicnfngpoaaGreat

namespace Go.Proofs.YtafkkicnfngpoaaGreat
open Go Go.Proofs.YtafkkicnfngpoaaGreat.Dm
theorem r7_0 : chkK 7 0 = true := by kernel_rfl
theorem r7_1 : chkK 7 1 = true := by kernel_rfl
theorem r7_2 : chkK 7 2 = true := by kernel_rfl
theorem r7_3 : chkK 7 3 = true := by kernel_rfl
theorem q7 : chkQ 7 = true := by kernel_rfl
end Go.Proofs.YtafkkicnfngpoaaGreat
