/- The runs that begin in state 5 of the machine. -/
import Derived.Test.YtafkkicnfngpoaaGreatHT4
set_option linter.unusedVariables false
set_option linter.unusedSimpArgs false
set_option linter.unusedSectionVars false
namespace Go.Proofs.YtafkkicnfngpoaaGreat
open Go Go.Proofs.YtafkkicnfngpoaaGreat.Dm
theorem r4_0 : chkK 4 0 = true := by kernel_rfl
theorem r4_1 : chkK 4 1 = true := by kernel_rfl
theorem r4_2 : chkK 4 2 = true := by kernel_rfl
theorem r4_3 : chkK 4 3 = true := by kernel_rfl
theorem q4 : chkQ 4 = true := by kernel_rfl
end Go.Proofs.YtafkkicnfngpoaaGreat

namespace Go.Proofs.YtafkkicnfngpoaaGreat
open Go Go.Proofs.YtafkkicnfngpoaaGreat.Dm
theorem r5_0 : chkK 5 0 = true := by kernel_rfl
theorem r5_1 : chkK 5 1 = true := by kernel_rfl
theorem r5_2 : chkK 5 2 = true := by kernel_rfl
theorem r5_3 : chkK 5 3 = true := by kernel_rfl
theorem q5 : chkQ 5 = true := by kernel_rfl
end Go.Proofs.YtafkkicnfngpoaaGreat
