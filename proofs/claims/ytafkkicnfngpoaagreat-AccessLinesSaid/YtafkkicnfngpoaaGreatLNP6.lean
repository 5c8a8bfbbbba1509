import Derived.Test.YtafkkicnfngpoaaGreatLND0
import Derived.Test.YtafkkicnfngpoaaGreatLND1
set_option linter.unusedVariables false
set_option linter.unusedSimpArgs false
set_option linter.unusedSectionVars false
set_option maxRecDepth 100000
set_option maxHeartbeats 0
namespace Go.Proofs.YtafkkicnfngpoaaGreat
open Go Go.Proofs.YtafkkicnfngpoaaGreat.Dm
theorem lnp_c0_0 (F A : Int) : (cek kkL 7 lnst_a11 (lnfr_a11 (.ofNat 0) F A) lnh_a11).prune lnL_c0_0 lnS_c0_0 = .st lnst_c0_0 (lnfr_c0_0 (.ofNat 0) F A) lnh_c0_0 := by kernel_rfl
theorem lnq_c0_ (F A : Int) : (lastK kkL 7 lnst_c0_0 (lnfr_c0_0 (.ofNat 0) F A) lnh_c0_0).prune [] [6] = .ret ⟨282, (Tr.e).put (some (.cv (.sc (.b true)))) 6⟩ ⟨3266, .e⟩ := by kernel_rfl
end Go.Proofs.YtafkkicnfngpoaaGreat
