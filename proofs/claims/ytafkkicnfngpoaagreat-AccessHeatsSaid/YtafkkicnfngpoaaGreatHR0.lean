/- The runs that begin in state 1 of the machine. -/
import Derived.Test.YtafkkicnfngpoaaGreatHT4
set_option linter.unusedVariables false
set_option linter.unusedSimpArgs false
set_option linter.unusedSectionVars false
namespace Go.Proofs.YtafkkicnfngpoaaGreat
open Go Go.Proofs.YtafkkicnfngpoaaGreat.Dm
theorem r0_0 : chkK 0 0 = true := by kernel_rfl
theorem r0_1 : chkK 0 1 = true := by kernel_rfl
theorem r0_2 : chkK 0 2 = true := by kernel_rfl
theorem r0_3 : chkK 0 3 = true := by kernel_rfl
theorem q0 : chkQ 0 = true := by kernel_rfl
end Go.Proofs.YtafkkicnfngpoaaGreat

namespace Go.Proofs.YtafkkicnfngpoaaGreat
open Go Go.Proofs.YtafkkicnfngpoaaGreat.Dm
theorem r1_0 : chkK 1 0 = true := by kernel_rfl
theorem r1_1 : chkK 1 1 = true := by kernel_rfl
theorem r1_2 : chkK 1 2 = true := by kernel_rfl
theorem r1_3 : chkK 1 3 = true := by kernel_rfl
theorem q1 : chkQ 1 = true := by kernel_rfl
end Go.Proofs.YtafkkicnfngpoaaGreat
