import Derived.Test.YtafkkicnfngpoaaGreatTLE
set_option linter.unusedVariables false
set_option linter.unusedSimpArgs false
set_option linter.unusedSectionVars false
set_option maxRecDepth 100000
set_option maxHeartbeats 0
namespace Go.Proofs.YtafkkicnfngpoaaGreat
open Go Go.Proofs.YtafkkicnfngpoaaGreat.Dm Go.RowKit
theorem tlp_t3_1 : (cek tlkk_t3 2701 tlst_t3_0 tlfr_t3_0 tlh_t3_0).prune tlL_t3_1 tlS_t3_1 = .st tlst_t3_1 tlfr_t3_1 tlh_t3_1 := by kernel_rfl
theorem tlp_t3_2 : (cek tlkk_t3 2701 tlst_t3_1 tlfr_t3_1 tlh_t3_1).prune tlL_t3_2 tlS_t3_2 = .st tlst_t3_2 tlfr_t3_2 tlh_t3_2 := by kernel_rfl
end Go.Proofs.YtafkkicnfngpoaaGreat

set_option maxRecDepth 100000
set_option maxHeartbeats 0
namespace Go.Proofs.YtafkkicnfngpoaaGreat
open Go Go.Proofs.YtafkkicnfngpoaaGreat.Dm Go.RowKit
theorem tlq_t3 : (cek tlkk_t3 2154 tlst_t3_2 tlfr_t3_2 tlh_t3_2).prune tlL_t3 tlS_t3 = .st [] tlfrT_t3 tlhT_t3 := by kernel_rfl
theorem tlp_t2_0 : (cek tlkk_t2 29 [.code tlbody269] ⟨67, argsIn 0 tlargs_t2 .e⟩ tlh0_t2).prune tlL_t2_0 tlS_t2_0 = .st tlst_t2_0 tlfr_t2_0 tlh_t2_0 := by kernel_rfl
end Go.Proofs.YtafkkicnfngpoaaGreat

set_option maxRecDepth 100000
set_option maxHeartbeats 0
namespace Go.Proofs.YtafkkicnfngpoaaGreat
open Go Go.Proofs.YtafkkicnfngpoaaGreat.Dm Go.RowKit
theorem tlp_t2_1 : (cek tlkk_t2 15 tlst_t2_0 tlfr_t2_0 tlh_t2_0).prune tlL_t2_1 tlS_t2_1 = .st tlst_t2_1 tlfr_t2_1 tlh_t2_1 := by kernel_rfl
theorem tlp_t2_2 : (cek tlkk_t2 2701 tlst_t2_1 tlfr_t2_1 tlh_t2_1).prune tlL_t2_2 tlS_t2_2 = .st tlst_t2_2 tlfr_t2_2 tlh_t2_2 := by kernel_rfl
end Go.Proofs.YtafkkicnfngpoaaGreat

set_option maxRecDepth 100000
set_option maxHeartbeats 0
namespace Go.Proofs.YtafkkicnfngpoaaGreat
open Go Go.Proofs.YtafkkicnfngpoaaGreat.Dm Go.RowKit
theorem tlp_t2_3 : (cek tlkk_t2 2701 tlst_t2_2 tlfr_t2_2 tlh_t2_2).prune tlL_t2_3 tlS_t2_3 = .st tlst_t2_3 tlfr_t2_3 tlh_t2_3 := by kernel_rfl
theorem tlp_t2_4 : (cek tlkk_t2 2701 tlst_t2_3 tlfr_t2_3 tlh_t2_3).prune tlL_t2_4 tlS_t2_4 = .st tlst_t2_4 tlfr_t2_4 tlh_t2_4 := by kernel_rfl
end Go.Proofs.YtafkkicnfngpoaaGreat
