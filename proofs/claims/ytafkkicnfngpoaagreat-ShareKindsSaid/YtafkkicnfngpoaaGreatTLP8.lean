import Derived.Test.YtafkkicnfngpoaaGreatTLE
set_option linter.unusedVariables false
set_option linter.unusedSimpArgs false
set_option linter.unusedSectionVars false
set_option maxRecDepth 100000
set_option maxHeartbeats 0
namespace Go.Proofs.YtafkkicnfngpoaaGreat
open Go Go.Proofs.YtafkkicnfngpoaaGreat.Dm Go.RowKit
theorem tlq_t2 : (cek tlkk_t2 2110 tlst_t2_4 tlfr_t2_4 tlh_t2_4).prune tlL_t2 tlS_t2 = .st [] tlfrT_t2 tlhT_t2 := by kernel_rfl
theorem tlp_t1_0 : (cek tlkk_t1 29 [.code tlbody269] ⟨67, argsIn 0 tlargs_t1 .e⟩ tlh0_t1).prune tlL_t1_0 tlS_t1_0 = .st tlst_t1_0 tlfr_t1_0 tlh_t1_0 := by kernel_rfl
end Go.Proofs.YtafkkicnfngpoaaGreat

set_option maxRecDepth 100000
set_option maxHeartbeats 0
namespace Go.Proofs.YtafkkicnfngpoaaGreat
open Go Go.Proofs.YtafkkicnfngpoaaGreat.Dm Go.RowKit
theorem tlp_t1_1 : (cek tlkk_t1 15 tlst_t1_0 tlfr_t1_0 tlh_t1_0).prune tlL_t1_1 tlS_t1_1 = .st tlst_t1_1 tlfr_t1_1 tlh_t1_1 := by kernel_rfl
theorem tlp_t1_2 : (cek tlkk_t1 2701 tlst_t1_1 tlfr_t1_1 tlh_t1_1).prune tlL_t1_2 tlS_t1_2 = .st tlst_t1_2 tlfr_t1_2 tlh_t1_2 := by kernel_rfl
end Go.Proofs.YtafkkicnfngpoaaGreat

set_option maxRecDepth 100000
set_option maxHeartbeats 0
namespace Go.Proofs.YtafkkicnfngpoaaGreat
open Go Go.Proofs.YtafkkicnfngpoaaGreat.Dm Go.RowKit
theorem tlp_t1_3 : (cek tlkk_t1 2701 tlst_t1_2 tlfr_t1_2 tlh_t1_2).prune tlL_t1_3 tlS_t1_3 = .st tlst_t1_3 tlfr_t1_3 tlh_t1_3 := by kernel_rfl
theorem tlp_t1_4 : (cek tlkk_t1 2701 tlst_t1_3 tlfr_t1_3 tlh_t1_3).prune tlL_t1_4 tlS_t1_4 = .st tlst_t1_4 tlfr_t1_4 tlh_t1_4 := by kernel_rfl
end Go.Proofs.YtafkkicnfngpoaaGreat

set_option maxRecDepth 100000
set_option maxHeartbeats 0
namespace Go.Proofs.YtafkkicnfngpoaaGreat
open Go Go.Proofs.YtafkkicnfngpoaaGreat.Dm Go.RowKit
theorem tlq_t1 : (cek tlkk_t1 2110 tlst_t1_4 tlfr_t1_4 tlh_t1_4).prune tlL_t1 tlS_t1 = .st [] tlfrT_t1 tlhT_t1 := by kernel_rfl
theorem tlp_t0_0 : (cek tlkk_t0 29 [.code tlbody269] ⟨67, argsIn 0 tlargs_t0 .e⟩ tlh0_t0).prune tlL_t0_0 tlS_t0_0 = .st tlst_t0_0 tlfr_t0_0 tlh_t0_0 := by kernel_rfl
end Go.Proofs.YtafkkicnfngpoaaGreat
