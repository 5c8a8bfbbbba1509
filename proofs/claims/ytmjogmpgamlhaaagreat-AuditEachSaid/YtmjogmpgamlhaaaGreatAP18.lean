import Derived.Test.YtmjogmpgamlhaaaGreatAD0
set_option linter.unusedVariables false
set_option linter.unusedSimpArgs false
set_option linter.unusedSectionVars false
set_option maxRecDepth 100000
set_option maxHeartbeats 0
namespace Go.Proofs.YtmjogmpgamlhaaaGreat
open Go Go.Proofs.YtmjogmpgamlhaaaGreat.Dm Go.RowKit Go.Lib
theorem aq_c7_0 : (cek (kkA (ovTrue 49)) 6 acst_k7_0 acfr_k7_0 ach_k7_0).prune acL_c7_0 acS_c7_0 = .st acst_c7_0 acfr_c7_0 ach_c7_0 := by kernel_rfl
theorem aq_c7_1 : (cek (kkA (ovTrue 49)) 36 acst_c7_0 acfr_c7_0 ach_c7_0).prune acL_c7_1 acS_c7_1 = .st acst_c7_1 acfr_c7_1 ach_c7_1 := by kernel_rfl
end Go.Proofs.YtmjogmpgamlhaaaGreat
