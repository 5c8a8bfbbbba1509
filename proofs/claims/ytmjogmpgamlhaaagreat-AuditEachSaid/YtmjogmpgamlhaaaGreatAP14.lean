import Derived.Test.YtmjogmpgamlhaaaGreatAD0
set_option linter.unusedVariables false
set_option linter.unusedSimpArgs false
set_option linter.unusedSectionVars false
set_option maxRecDepth 100000
set_option maxHeartbeats 0
namespace Go.Proofs.YtmjogmpgamlhaaaGreat
open Go Go.Proofs.YtmjogmpgamlhaaaGreat.Dm Go.RowKit Go.Lib
theorem aq_c4_1 : (cek (kkA (ovTrue 49)) 26 acst_c4_0 acfr_c4_0 ach_c4_0).prune acL_c4_1 acS_c4_1 = .st acst_c4_1 acfr_c4_1 ach_c4_1 := by kernel_rfl
theorem ae_4 : (lastK (kkA (ovTrue 49)) 1 acst_c4_1 acfr_c4_1 ach_c4_1).prune [] [2] = .ret ⟨175, (Tr.e).put (some (.cv (.sc (.b true)))) 2⟩ ⟨3821, .e⟩ := by kernel_rfl
end Go.Proofs.YtmjogmpgamlhaaaGreat
