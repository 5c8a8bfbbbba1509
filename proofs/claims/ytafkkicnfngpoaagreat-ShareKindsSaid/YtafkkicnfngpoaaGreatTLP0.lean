import Derived.Test.YtafkkicnfngpoaaGreatTLE
set_option linter.unusedVariables false
set_option linter.unusedSimpArgs false
set_option linter.unusedSectionVars false
set_option maxRecDepth 100000
set_option maxHeartbeats 0
namespace Go.Proofs.YtafkkicnfngpoaaGreat
open Go Go.Proofs.YtafkkicnfngpoaaGreat.Dm Go.RowKit
theorem tlp_k1_0 : (cek tlkk_k1 30001 [.code tlbody194] ⟨25, argsIn 0 tlargs_k1 .e⟩ tlh0_k1).prune tlL_k1_0 tlS_k1_0 = .st tlst_k1_0 tlfr_k1_0 tlh_k1_0 := by kernel_rfl
theorem tlq_k1 : (lastK tlkk_k1 27361 tlst_k1_0 tlfr_k1_0 tlh_k1_0).prune tlL_k1 tlS_k1 = .ret tlfrT_k1 tlhT_k1 := by kernel_rfl
end Go.Proofs.YtafkkicnfngpoaaGreat

set_option maxRecDepth 100000
set_option maxHeartbeats 0
namespace Go.Proofs.YtafkkicnfngpoaaGreat
open Go Go.Proofs.YtafkkicnfngpoaaGreat.Dm Go.RowKit
theorem tlp_k2_0 : (cek tlkk_k2 30001 [.code tlbody194] ⟨25, argsIn 0 tlargs_k2 .e⟩ tlh0_k2).prune tlL_k2_0 tlS_k2_0 = .st tlst_k2_0 tlfr_k2_0 tlh_k2_0 := by kernel_rfl
theorem tlq_k2 : (lastK tlkk_k2 27361 tlst_k2_0 tlfr_k2_0 tlh_k2_0).prune tlL_k2 tlS_k2 = .ret tlfrT_k2 tlhT_k2 := by kernel_rfl
end Go.Proofs.YtafkkicnfngpoaaGreat

set_option maxRecDepth 100000
set_option maxHeartbeats 0
namespace Go.Proofs.YtafkkicnfngpoaaGreat
open Go Go.Proofs.YtafkkicnfngpoaaGreat.Dm Go.RowKit
theorem tlp_k3_0 : (cek tlkk_k3 30001 [.code tlbody194] ⟨25, argsIn 0 tlargs_k3 .e⟩ tlh0_k3).prune tlL_k3_0 tlS_k3_0 = .st tlst_k3_0 tlfr_k3_0 tlh_k3_0 := by kernel_rfl
theorem tlq_k3 : (lastK tlkk_k3 27361 tlst_k3_0 tlfr_k3_0 tlh_k3_0).prune tlL_k3 tlS_k3 = .ret tlfrT_k3 tlhT_k3 := by kernel_rfl
end Go.Proofs.YtafkkicnfngpoaaGreat

set_option maxRecDepth 100000
set_option maxHeartbeats 0
namespace Go.Proofs.YtafkkicnfngpoaaGreat
open Go Go.Proofs.YtafkkicnfngpoaaGreat.Dm Go.RowKit
theorem tlq_kr : (lastK tlkk_kr 22 [.code tlbody26] ⟨46, argsIn 0 tlargs_kr .e⟩ tlh0_kr).prune tlL_kr tlS_kr = .ret tlfrT_kr tlhT_kr := by kernel_rfl
theorem tlp_t3_0 : (cek tlkk_t3 2701 [.code tlbody269] ⟨67, argsIn 0 tlargs_t3 .e⟩ tlh0_t3).prune tlL_t3_0 tlS_t3_0 = .st tlst_t3_0 tlfr_t3_0 tlh_t3_0 := by kernel_rfl
end Go.Proofs.YtafkkicnfngpoaaGreat
