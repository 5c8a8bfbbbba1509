/- The runs that begin in state 13 of the machine. -/
import Derived.Test.YtafkkicnfngpoaaGreatHT4
set_option linter.unusedVariables false
set_option linter.unusedSimpArgs false
set_option linter.unusedSectionVars false
namespace Go.Proofs.YtafkkicnfngpoaaGreat
open Go Go.Proofs.YtafkkicnfngpoaaGreat.Dm
theorem r12_0 : chkK 12 0 = true := by kernel_rfl
theorem r12_1 : chkK 12 1 = true := by kernel_rfl
theorem r12_2 : chkK 12 2 = true := by kernel_rfl
theorem r12_3 : chkK 12 3 = true := by kernel_rfl
theorem q12 : chkQ 12 = true := by kernel_rfl
end Go.Proofs.YtafkkicnfngpoaaGreat

namespace Go.Proofs.YtafkkicnfngpoaaGreat
open Go Go.Proofs.YtafkkicnfngpoaaGreat.Dm
theorem r13_0 : chkK 13 0 = true := by kernel_rfl
theorem r13_1 : chkK 13 1 = true := by kernel_rfl
theorem r13_2 : chkK 13 2 = true := by kernel_rfl
theorem r13_3 : chkK 13 3 = true := by kernel_rfl
theorem q13 : chkQ 13 = true := by kernel_rfl
end Go.Proofs.YtafkkicnfngpoaaGreat
