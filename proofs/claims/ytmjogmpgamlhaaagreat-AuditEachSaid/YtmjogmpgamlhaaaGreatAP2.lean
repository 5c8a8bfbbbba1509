import Derived.Test.YtmjogmpgamlhaaaGreatAD0
set_option linter.unusedVariables false
set_option linter.unusedSimpArgs false
set_option linter.unusedSectionVars false
set_option maxRecDepth 100000
set_option maxHeartbeats 0
namespace Go.Proofs.YtmjogmpgamlhaaaGreat
open Go Go.Proofs.YtmjogmpgamlhaaaGreat.Dm Go.RowKit Go.Lib
theorem aq_p_4 (X0 : AV) : (cek (kkA (ovTrue 49)) 12 acst_p_3 (acfr_p_3 X0) ach_p_3).prune acL_p_4 acS_p_4 = .st acst_p_4 (acfr_p_4 X0) ach_p_4 := by kernel_rfl
theorem aq_p_5 (X0 : AV) : (cek (kkA (ovTrue 49)) 12 acst_p_4 (acfr_p_4 X0) ach_p_4).prune acL_p_5 acS_p_5 = .st acst_p_5 (acfr_p_5 X0) ach_p_5 := by kernel_rfl
end Go.Proofs.YtmjogmpgamlhaaaGreat
