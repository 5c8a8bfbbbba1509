import Derived.Test.YtmjogmpgamlhaaaGreatAD0
set_option linter.unusedVariables false
set_option linter.unusedSimpArgs false
set_option linter.unusedSectionVars false
set_option maxRecDepth 100000
set_option maxHeartbeats 0
namespace Go.Proofs.YtmjogmpgamlhaaaGreat
open Go Go.Proofs.YtmjogmpgamlhaaaGreat.Dm Go.RowKit Go.Lib
theorem aq_p_6 (X0 : AV) : (cek (kkA (ovTrue 49)) 12 acst_p_5 (acfr_p_5 X0) ach_p_5).prune acL_p_6 acS_p_6 = .st acst_p_6 (acfr_p_6 X0) ach_p_6 := by kernel_rfl
theorem aq_p_7 (X0 : AV) : (cek (kkA (ovTrue 49)) 12 acst_p_6 (acfr_p_6 X0) ach_p_6).prune acL_p_7 acS_p_7 = .st acst_p_7 (acfr_p_7 X0) ach_p_7 := by kernel_rfl
end Go.Proofs.YtmjogmpgamlhaaaGreat
