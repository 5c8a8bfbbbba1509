/- The runs that begin in state 11 of the machine. -/
import Derived.Test.YtafkkicnfngpoaaGreatHT4
set_option linter.unusedVariables false
set_option linter.unusedSimpArgs false
set_option linter.unusedSectionVars false
namespace Go.Proofs.YtafkkicnfngpoaaGreat
open Go Go.Proofs.YtafkkicnfngpoaaGreat.Dm
theorem r10_0 : chkK 10 0 = true := by kernel_rfl
theorem r10_1 : chkK 10 1 = true := by kernel_rfl
theorem r10_2 : chkK 10 2 = true := by kernel_rfl
theorem r10_3 : chkK 10 3 = true := by kernel_rfl
theorem q10 : chkQ 10 = true := by kernel_rfl
end Go.Proofs.YtafkkicnfngpoaaGreat

namespace Go.Proofs.YtafkkicnfngpoaaGreat
open Go Go.Proofs.YtafkkicnfngpoaaGreat.Dm
theorem r11_0 : chkK 11 0 = true := by kernel_rfl
theorem r11_1 : chkK 11 1 = true := by kernel_rfl
theorem r11_2 : chkK 11 2 = true := by kernel_rfl
theorem r11_3 : chkK 11 3 = true := by kernel_rfl
theorem q11 : chkQ 11 = true := by kernel_rfl
end Go.Proofs.YtafkkicnfngpoaaGreat
