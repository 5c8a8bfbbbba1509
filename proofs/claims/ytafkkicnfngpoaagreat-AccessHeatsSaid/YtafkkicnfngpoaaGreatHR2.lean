/- The runs that begin in state 3 of the machine. -/
import Derived.Test.YtafkkicnfngpoaaGreatHT4
set_option linter.unusedVariables false
set_option linter.unusedSimpArgs false
set_option linter.unusedSectionVars false
namespace Go.Proofs.YtafkkicnfngpoaaGreat
open Go Go.Proofs.YtafkkicnfngpoaaGreat.Dm
theorem r2_0 : chkK 2 0 = true := by kernel_rfl
theorem r2_1 : chkK 2 1 = true := by kernel_rfl
theorem r2_2 : chkK 2 2 = true := by kernel_rfl
theorem r2_3 : chkK 2 3 = true := by kernel_rfl
theorem q2 : chkQ 2 = true := by kernel_rfl
end Go.Proofs.YtafkkicnfngpoaaGreat

namespace Go.Proofs.YtafkkicnfngpoaaGreat
open Go Go.Proofs.YtafkkicnfngpoaaGreat.Dm
theorem r3_0 : chkK 3 0 = true := by kernel_rfl
theorem r3_1 : chkK 3 1 = true := by kernel_rfl
theorem r3_2 : chkK 3 2 = true := by kernel_rfl
theorem r3_3 : chkK 3 3 = true := by kernel_rfl
theorem q3 : chkQ 3 = true := by kernel_rfl
end Go.Proofs.YtafkkicnfngpoaaGreat
