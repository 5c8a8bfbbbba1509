import Derived.Test.YtafkkicnfngpoaaGreatLND0
import Derived.Test.YtafkkicnfngpoaaGreatLND1
set_option linter.unusedVariables false
set_option linter.unusedSimpArgs false
set_option linter.unusedSectionVars false
set_option maxRecDepth 100000
set_option maxHeartbeats 0
namespace Go.Proofs.YtafkkicnfngpoaaGreat
open Go Go.Proofs.YtafkkicnfngpoaaGreat.Dm
theorem lnq_c1_ (F A : Int) : (lastK kkL 11 lnst_a11 (lnfr_a11 (.ofNat 1) F A) lnh_a11).prune [] [6] = .ret ⟨282, (Tr.e).put (some (.cv (.sc (.b true)))) 6⟩ ⟨2692, .e⟩ := by kernel_rfl
theorem lnq_c3_ (F A : Int) : (lastK kkL 11 lnst_a11 (lnfr_a11 (.ofNat 3) F A) lnh_a11).prune [] [6] = .ret ⟨282, (Tr.e).put (some (.cv (.sc (.b true)))) 6⟩ ⟨2671, .e⟩ := by kernel_rfl
end Go.Proofs.YtafkkicnfngpoaaGreat
