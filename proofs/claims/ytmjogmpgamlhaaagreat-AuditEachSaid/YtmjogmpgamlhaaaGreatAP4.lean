import Derived.Test.YtmjogmpgamlhaaaGreatAD0
set_option linter.unusedVariables false
set_option linter.unusedSimpArgs false
set_option linter.unusedSectionVars false
set_option maxRecDepth 100000
set_option maxHeartbeats 0
namespace Go.Proofs.YtmjogmpgamlhaaaGreat
open Go Go.Proofs.YtmjogmpgamlhaaaGreat.Dm Go.RowKit Go.Lib
theorem aq_p_8 (X0 : AV) : (cek (kkA (ovTrue 49)) 12 acst_p_7 (acfr_p_7 X0) ach_p_7).prune acL_p_8 acS_p_8 = .st acst_p_8 (acfr_p_8 X0) ach_p_8 := by kernel_rfl
theorem aq_p_9 (X0 : AV) : (cek (kkA (ovTrue 49)) 12 acst_p_8 (acfr_p_8 X0) ach_p_8).prune acL_p_9 acS_p_9 = .st acst_p_9 (acfr_p_9 X0) ach_p_9 := by kernel_rfl
end Go.Proofs.YtmjogmpgamlhaaaGreat
