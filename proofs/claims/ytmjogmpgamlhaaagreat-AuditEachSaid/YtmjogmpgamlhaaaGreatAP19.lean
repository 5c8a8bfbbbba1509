import Derived.Test.YtmjogmpgamlhaaaGreatAD0
set_option linter.unusedVariables false
set_option linter.unusedSimpArgs false
set_option linter.unusedSectionVars false
set_option maxRecDepth 100000
set_option maxHeartbeats 0
namespace Go.Proofs.YtmjogmpgamlhaaaGreat
open Go Go.Proofs.YtmjogmpgamlhaaaGreat.Dm Go.RowKit Go.Lib
theorem ae_7 : (lastK (kkA (ovTrue 49)) 1 acst_c7_1 acfr_c7_1 ach_c7_1).prune [] [2] = .ret ⟨175, (Tr.e).put (some (.cv (.sc (.b true)))) 2⟩ ⟨3804, .e⟩ := by kernel_rfl
end Go.Proofs.YtmjogmpgamlhaaaGreat
