import Derived.Test.YtmjogmpgamlhaaaGreatAD0
set_option linter.unusedVariables false
set_option linter.unusedSimpArgs false
set_option linter.unusedSectionVars false
set_option maxRecDepth 100000
set_option maxHeartbeats 0
namespace Go.Proofs.YtmjogmpgamlhaaaGreat
open Go Go.Proofs.YtmjogmpgamlhaaaGreat.Dm Go.RowKit Go.Lib
theorem aq_c3_0 : (cek (kkA (ovTrue 49)) 6 acst_k3_0 acfr_k3_0 ach_k3_0).prune acL_c3_0 acS_c3_0 = .st acst_c3_0 acfr_c3_0 ach_c3_0 := by kernel_rfl
theorem aq_c3_1 : (cek (kkA (ovTrue 49)) 26 acst_c3_0 acfr_c3_0 ach_c3_0).prune acL_c3_1 acS_c3_1 = .st acst_c3_1 acfr_c3_1 ach_c3_1 := by kernel_rfl
end Go.Proofs.YtmjogmpgamlhaaaGreat
