import Derived.Test.YtmjogmpgamlhaaaGreatAD0
set_option linter.unusedVariables false
set_option linter.unusedSimpArgs false
set_option linter.unusedSectionVars false
set_option maxRecDepth 100000
set_option maxHeartbeats 0
namespace Go.Proofs.YtmjogmpgamlhaaaGreat
open Go Go.Proofs.YtmjogmpgamlhaaaGreat.Dm Go.RowKit Go.Lib
theorem aq_c2_1 : (cek (kkA (ovTrue 49)) 3 acst_c2_0 acfr_c2_0 ach_c2_0).prune acL_c2_1 acS_c2_1 = .st acst_c2_1 acfr_c2_1 ach_c2_1 := by kernel_rfl
theorem aq_c2_2 : (cek (kkA (ovTrue 49)) 24 acst_c2_1 acfr_c2_1 ach_c2_1).prune acL_c2_2 acS_c2_2 = .st acst_c2_2 acfr_c2_2 ach_c2_2 := by kernel_rfl
end Go.Proofs.YtmjogmpgamlhaaaGreat
