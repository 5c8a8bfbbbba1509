import Derived.Test.YtafkkicnfngpoaaGreatLND0
import Derived.Test.YtafkkicnfngpoaaGreatLND1
set_option linter.unusedVariables false
set_option linter.unusedSimpArgs false
set_option linter.unusedSectionVars false
set_option maxRecDepth 100000
set_option maxHeartbeats 0
namespace Go.Proofs.YtafkkicnfngpoaaGreat
open Go Go.Proofs.YtafkkicnfngpoaaGreat.Dm
theorem lnp_a10 (J F A : Int) : (cek kkL 2 lnst_a9 (lnfr_a9 J F A) lnh_a9).prune lnL_a10 lnS_a10 = .st lnst_a10 (lnfr_a10 J F A) lnh_a10 := by kernel_rfl
theorem lnp_a11 (J F A : Int) : (cek kkL 11 lnst_a10 (lnfr_a10 J F A) lnh_a10).prune lnL_a11 lnS_a11 = .st lnst_a11 (lnfr_a11 J F A) lnh_a11 := by kernel_rfl
end Go.Proofs.YtafkkicnfngpoaaGreat
