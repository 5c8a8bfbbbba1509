import Derived.Test.YtmjogmpgamlhaaaGreatAD0
set_option linter.unusedVariables false
set_option linter.unusedSimpArgs false
set_option linter.unusedSectionVars false
set_option maxRecDepth 100000
set_option maxHeartbeats 0
namespace Go.Proofs.YtmjogmpgamlhaaaGreat
open Go Go.Proofs.YtmjogmpgamlhaaaGreat.Dm Go.RowKit Go.Lib
theorem ae_1 : (lastK (kkA (ovTrue 49)) 1 acst_c1_1 acfr_c1_1 ach_c1_1).prune [] [2] = .ret ⟨175, (Tr.e).put (some (.cv (.sc (.b true)))) 2⟩ ⟨3812, .e⟩ := by kernel_rfl
theorem aq_c2_0 : (cek (kkA (ovTrue 49)) 3 acst_k2_0 acfr_k2_0 ach_k2_0).prune acL_c2_0 acS_c2_0 = .st acst_c2_0 acfr_c2_0 ach_c2_0 := by kernel_rfl
end Go.Proofs.YtmjogmpgamlhaaaGreat
