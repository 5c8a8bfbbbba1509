import Derived.Test.YtafkkicnfngpoaaGreatLND0
import Derived.Test.YtafkkicnfngpoaaGreatLND1
set_option linter.unusedVariables false
set_option linter.unusedSimpArgs false
set_option linter.unusedSectionVars false
set_option maxRecDepth 100000
set_option maxHeartbeats 0
namespace Go.Proofs.YtafkkicnfngpoaaGreat
open Go Go.Proofs.YtafkkicnfngpoaaGreat.Dm
theorem lnp_a4 (J F A : Int) : (cek kkL 12 lnst_a3 (lnfr_a3 J F A) lnh_a3).prune lnL_a4 lnS_a4 = .st lnst_a4 (lnfr_a4 J F A) lnh_a4 := by kernel_rfl
theorem lnp_a5 (J F A : Int) : (cek kkL 12 lnst_a4 (lnfr_a4 J F A) lnh_a4).prune lnL_a5 lnS_a5 = .st lnst_a5 (lnfr_a5 J F A) lnh_a5 := by kernel_rfl
end Go.Proofs.YtafkkicnfngpoaaGreat
