/- The runs that begin in state 16 of the machine. -/
import Derived.Test.YtafkkicnfngpoaaGreatHT4
set_option linter.unusedVariables false
set_option linter.unusedSimpArgs false
set_option linter.unusedSectionVars false
namespace Go.Proofs.YtafkkicnfngpoaaGreat
open Go Go.Proofs.YtafkkicnfngpoaaGreat.Dm
theorem r16_0 : chkK 16 0 = true := by kernel_rfl
theorem r16_1 : chkK 16 1 = true := by kernel_rfl
theorem r16_2 : chkK 16 2 = true := by kernel_rfl
theorem r16_3 : chkK 16 3 = true := by kernel_rfl
theorem q16 : chkQ 16 = true := by kernel_rfl
end Go.Proofs.YtafkkicnfngpoaaGreat
