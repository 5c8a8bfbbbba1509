import Derived.Test.YtafkkicnfngpoaaGreatLND0
import Derived.Test.YtafkkicnfngpoaaGreatLND1
set_option linter.unusedVariables false
set_option linter.unusedSimpArgs false
set_option linter.unusedSectionVars false
set_option maxRecDepth 100000
set_option maxHeartbeats 0
namespace Go.Proofs.YtafkkicnfngpoaaGreat
open Go Go.Proofs.YtafkkicnfngpoaaGreat.Dm
theorem lnp_a0 (J F A : Int) : (cek kkL 14 [.code lnbody] ⟨282, argsIn 0 [.cv (.sc (.cl .i64 true 3 J)), .cv (.sc (.cl .i64 true 3 F)), .cv (.sc (.cl .i64 true 255 A))] .e⟩ Heap.nil).prune lnL_a0 lnS_a0 = .st lnst_a0 (lnfr_a0 J F A) lnh_a0 := by kernel_rfl
theorem lnp_a1 (J F A : Int) : (cek kkL 23 lnst_a0 ⟨282, (lnfr_a0 J F A).t.put (some (.cv (.sc (.at .i64 0 255 0)))) 2⟩ lnh_a0).prune lnL_a1 lnS_a1 = .st lnst_a1 (lnfr_a1 J F A) lnh_a1 := by kernel_rfl
end Go.Proofs.YtafkkicnfngpoaaGreat
