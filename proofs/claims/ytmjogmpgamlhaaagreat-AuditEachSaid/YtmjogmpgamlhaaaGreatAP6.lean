import Derived.Test.YtmjogmpgamlhaaaGreatAD0
set_option linter.unusedVariables false
set_option linter.unusedSimpArgs false
set_option linter.unusedSectionVars false
set_option maxRecDepth 100000
set_option maxHeartbeats 0
namespace Go.Proofs.YtmjogmpgamlhaaaGreat
open Go Go.Proofs.YtmjogmpgamlhaaaGreat.Dm Go.RowKit Go.Lib
theorem aq_p_12 (X0 : AV) : (cek (kkA (ovTrue 49)) 5 acst_p_11 (acfr_p_11 X0) ach_p_11).prune acL_p_12 acS_p_12 = .st acst_p_12 (acfr_p_12 X0) ach_p_12 := by kernel_rfl
theorem aq_c0_0 : (cek (kkA (ovTrue 49)) 6 acst_k0_0 acfr_k0_0 ach_k0_0).prune acL_c0_0 acS_c0_0 = .st acst_c0_0 acfr_c0_0 ach_c0_0 := by kernel_rfl
end Go.Proofs.YtmjogmpgamlhaaaGreat
