import Derived.Test.YtmjogmpgamlhaaaGreatAD0
set_option linter.unusedVariables false
set_option linter.unusedSimpArgs false
set_option linter.unusedSectionVars false
set_option maxRecDepth 100000
set_option maxHeartbeats 0
namespace Go.Proofs.YtmjogmpgamlhaaaGreat
open Go Go.Proofs.YtmjogmpgamlhaaaGreat.Dm Go.RowKit Go.Lib
theorem aq_p_10 (X0 : AV) : (cek (kkA (ovTrue 49)) 12 acst_p_9 (acfr_p_9 X0) ach_p_9).prune acL_p_10 acS_p_10 = .st acst_p_10 (acfr_p_10 X0) ach_p_10 := by kernel_rfl
theorem aq_p_11 (X0 : AV) : (cek (kkA (ovTrue 49)) 13 acst_p_10 (acfr_p_10 X0) ach_p_10).prune acL_p_11 acS_p_11 = .st acst_p_11 (acfr_p_11 X0) ach_p_11 := by kernel_rfl
end Go.Proofs.YtmjogmpgamlhaaaGreat
