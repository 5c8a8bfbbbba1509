import Derived.Test.YtafkkicnfngpoaaGreatLND0
import Derived.Test.YtafkkicnfngpoaaGreatLND1
set_option linter.unusedVariables false
set_option linter.unusedSimpArgs false
set_option linter.unusedSectionVars false
set_option maxRecDepth 100000
set_option maxHeartbeats 0
namespace Go.Proofs.YtafkkicnfngpoaaGreat
open Go Go.Proofs.YtafkkicnfngpoaaGreat.Dm
theorem lnp_c21_0 (F A : Int) : (cek kkL 7 lnst_a11 (lnfr_a11 (.ofNat 2) (.ofNat 1) A) lnh_a11).prune lnL_c21_0 lnS_c21_0 = .st lnst_c21_0 (lnfr_c21_0 (.ofNat 2) (.ofNat 1) A) lnh_c21_0 := by kernel_rfl
theorem lnq_c21_ (F A : Int) : (lastK kkL 7 lnst_c21_0 (lnfr_c21_0 (.ofNat 2) (.ofNat 1) A) lnh_c21_0).prune [] [6] = .ret ⟨282, (Tr.e).put (some (.cv (.sc (.b true)))) 6⟩ ⟨3026, .e⟩ := by kernel_rfl
end Go.Proofs.YtafkkicnfngpoaaGreat
