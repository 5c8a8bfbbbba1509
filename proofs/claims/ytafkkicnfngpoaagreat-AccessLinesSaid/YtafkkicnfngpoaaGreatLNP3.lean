import Derived.Test.YtafkkicnfngpoaaGreatLND0
import Derived.Test.YtafkkicnfngpoaaGreatLND1
set_option linter.unusedVariables false
set_option linter.unusedSimpArgs false
set_option linter.unusedSectionVars false
set_option maxRecDepth 100000
set_option maxHeartbeats 0
namespace Go.Proofs.YtafkkicnfngpoaaGreat
open Go Go.Proofs.YtafkkicnfngpoaaGreat.Dm
theorem lnp_a6 (J F A : Int) : (cek kkL 12 lnst_a5 (lnfr_a5 J F A) lnh_a5).prune lnL_a6 lnS_a6 = .st lnst_a6 (lnfr_a6 J F A) lnh_a6 := by kernel_rfl
theorem lnp_a7 (J F A : Int) : (cek kkL 34 lnst_a6 (lnfr_a6 J F A) lnh_a6).prune lnL_a7 lnS_a7 = .st lnst_a7 (lnfr_a7 J F A) lnh_a7 := by kernel_rfl
end Go.Proofs.YtafkkicnfngpoaaGreat
