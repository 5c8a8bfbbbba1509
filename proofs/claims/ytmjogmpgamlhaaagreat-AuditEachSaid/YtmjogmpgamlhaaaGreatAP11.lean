import Derived.Test.YtmjogmpgamlhaaaGreatAD0
set_option linter.unusedVariables false
set_option linter.unusedSimpArgs false
set_option linter.unusedSectionVars false
set_option maxRecDepth 100000
set_option maxHeartbeats 0
namespace Go.Proofs.YtmjogmpgamlhaaaGreat
open Go Go.Proofs.YtmjogmpgamlhaaaGreat.Dm Go.RowKit Go.Lib
theorem aq_c2_3 : (cek (kkA (ovTrue 49)) 2 acst_c2_2 acfr_c2_2 ach_c2_2).prune acL_c2_3 acS_c2_3 = .st acst_c2_3 acfr_c2_3 ach_c2_3 := by kernel_rfl
theorem ae_2 : (lastK (kkA (ovTrue 49)) 1 acst_c2_3 acfr_c2_3 ach_c2_3).prune [] [2] = .ret ⟨175, (Tr.e).put (some (.cv (.sc (.b true)))) 2⟩ ⟨3946, .e⟩ := by kernel_rfl
end Go.Proofs.YtmjogmpgamlhaaaGreat
