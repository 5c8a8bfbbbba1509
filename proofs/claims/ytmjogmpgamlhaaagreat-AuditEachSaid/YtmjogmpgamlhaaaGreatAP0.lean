import Derived.Test.YtmjogmpgamlhaaaGreatAD0
set_option linter.unusedVariables false
set_option linter.unusedSimpArgs false
set_option linter.unusedSectionVars false
set_option maxRecDepth 100000
set_option maxHeartbeats 0
namespace Go.Proofs.YtmjogmpgamlhaaaGreat
open Go Go.Proofs.YtmjogmpgamlhaaaGreat.Dm Go.RowKit Go.Lib
theorem aq_p_0 (X0 : AV) : (cek (kkA (ovTrue 49)) 3 [.code body4] ⟨175, argsIn 0 [X0] .e⟩ Heap.nil).prune acL_p_0 acS_p_0 = .st acst_p_0 (acfr_p_0 X0) ach_p_0 := by kernel_rfl
theorem aq_p_1 (X0 : AV) : (cek (kkA (ovTrue 49)) 41 acst_p_0 (acfr_p_0 X0) ach_p_0).prune acL_p_1 acS_p_1 = .st acst_p_1 (acfr_p_1 X0) ach_p_1 := by kernel_rfl
end Go.Proofs.YtmjogmpgamlhaaaGreat
