import Derived.Test.YtafkkicnfngpoaaGreatLND0
import Derived.Test.YtafkkicnfngpoaaGreatLND1
set_option linter.unusedVariables false
set_option linter.unusedSimpArgs false
set_option linter.unusedSectionVars false
set_option maxRecDepth 100000
set_option maxHeartbeats 0
namespace Go.Proofs.YtafkkicnfngpoaaGreat
open Go Go.Proofs.YtafkkicnfngpoaaGreat.Dm
theorem lnp_a8 (J F A : Int) : (cek kkL 72 lnst_a7 (lnfr_a7 J F A) lnh_a7).prune lnL_a8 lnS_a8 = .st lnst_a8 (lnfr_a8 J F A) lnh_a8 := by kernel_rfl
theorem lnp_a9 (J F A : Int) : (cek kkL 56 lnst_a8 (lnfr_a8 J F A) lnh_a8).prune lnL_a9 lnS_a9 = .st lnst_a9 (lnfr_a9 J F A) lnh_a9 := by kernel_rfl
end Go.Proofs.YtafkkicnfngpoaaGreat
