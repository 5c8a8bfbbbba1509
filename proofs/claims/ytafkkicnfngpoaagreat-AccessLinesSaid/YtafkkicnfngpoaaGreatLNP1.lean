import Derived.Test.YtafkkicnfngpoaaGreatLND0
import Derived.Test.YtafkkicnfngpoaaGreatLND1
set_option linter.unusedVariables false
set_option linter.unusedSimpArgs false
set_option linter.unusedSectionVars false
set_option maxRecDepth 100000
set_option maxHeartbeats 0
namespace Go.Proofs.YtafkkicnfngpoaaGreat
open Go Go.Proofs.YtafkkicnfngpoaaGreat.Dm
theorem lnp_a2 (J F A : Int) : (cek kkL 12 lnst_a1 (lnfr_a1 J F A) lnh_a1).prune lnL_a2 lnS_a2 = .st lnst_a2 (lnfr_a2 J F A) lnh_a2 := by kernel_rfl
theorem lnp_a3 (J F A : Int) : (cek kkL 12 lnst_a2 (lnfr_a2 J F A) lnh_a2).prune lnL_a3 lnS_a3 = .st lnst_a3 (lnfr_a3 J F A) lnh_a3 := by kernel_rfl
end Go.Proofs.YtafkkicnfngpoaaGreat
