import Derived.Test.YtmjogmpgamlhaaaGreatAD0
set_option linter.unusedVariables false
set_option linter.unusedSimpArgs false
set_option linter.unusedSectionVars false
set_option maxRecDepth 100000
set_option maxHeartbeats 0
namespace Go.Proofs.YtmjogmpgamlhaaaGreat
open Go Go.Proofs.YtmjogmpgamlhaaaGreat.Dm Go.RowKit Go.Lib
theorem aq_p_2 (X0 : AV) : (cek (kkA (ovTrue 49)) 15 acst_p_1 (acfr_p_1 X0) ach_p_1).prune acL_p_2 acS_p_2 = .st acst_p_2 (acfr_p_2 X0) ach_p_2 := by kernel_rfl
theorem aq_p_3 (X0 : AV) : (cek (kkA (ovTrue 49)) 12 acst_p_2 (acfr_p_2 X0) ach_p_2).prune acL_p_3 acS_p_3 = .st acst_p_3 (acfr_p_3 X0) ach_p_3 := by kernel_rfl
end Go.Proofs.YtmjogmpgamlhaaaGreat
