import Derived.Test.YtafkkicnfngpoaaGreatLND0
import Derived.Test.YtafkkicnfngpoaaGreatLND1
set_option linter.unusedVariables false
set_option linter.unusedSimpArgs false
set_option linter.unusedSectionVars false
set_option maxRecDepth 100000
set_option maxHeartbeats 0
namespace Go.Proofs.YtafkkicnfngpoaaGreat
open Go Go.Proofs.YtafkkicnfngpoaaGreat.Dm
theorem lnp_c22_0 (F A : Int) : (cek kkL 7 lnst_a11 (lnfr_a11 (.ofNat 2) (.ofNat 2) A) lnh_a11).prune lnL_c22_0 lnS_c22_0 = .st lnst_c22_0 (lnfr_c22_0 (.ofNat 2) (.ofNat 2) A) lnh_c22_0 := by kernel_rfl
theorem lnq_c22_ (F A : Int) : (lastK kkL 7 lnst_c22_0 (lnfr_c22_0 (.ofNat 2) (.ofNat 2) A) lnh_c22_0).prune [] [6] = .ret ⟨282, (Tr.e).put (some (.cv (.sc (.b true)))) 6⟩ ⟨3027, .e⟩ := by kernel_rfl
end Go.Proofs.YtafkkicnfngpoaaGreat
