import Derived.Test.YtmjogmpgamlhaaaGreatAD0
import Derived.Test.YtmjogmpgamlhaaaGreatZE
set_option linter.unusedVariables false
set_option linter.unusedSimpArgs false
set_option linter.unusedSectionVars false
set_option maxRecDepth 100000
set_option maxHeartbeats 0
namespace Go.Proofs.YtmjogmpgamlhaaaGreat
open Go Go.Proofs.YtmjogmpgamlhaaaGreat.Dm Go.RowKit Go.Lib
theorem aq_c0_1 : (cek (kkA (ovTrue 49)) 26 acst_c0_0 acfr_c0_0 ach_c0_0).prune acL_c0_1 acS_c0_1 = .st acst_c0_1 acfr_c0_1 ach_c0_1 := by kernel_rfl
theorem ae_0 : (lastK (kkA (fun c => ovClear (ovTrue 49 c))) 1 acst_c0_1 acfr_c0_1 ach_c0_1).prune [] [2] = .ret ⟨175, (Tr.e).put (some (.cv (.sc (.b true)))) 2⟩ ⟨3817, .e⟩ := by kernel_rfl
end Go.Proofs.YtmjogmpgamlhaaaGreat
