import Derived.Test.YtafkkicnfngpoaaGreatTLE
set_option linter.unusedVariables false
set_option linter.unusedSimpArgs false
set_option linter.unusedSectionVars false
set_option maxRecDepth 100000
set_option maxHeartbeats 0
namespace Go.Proofs.YtafkkicnfngpoaaGreat
open Go Go.Proofs.YtafkkicnfngpoaaGreat.Dm Go.RowKit
theorem tlp_t0_1 : (cek tlkk_t0 15 tlst_t0_0 tlfr_t0_0 tlh_t0_0).prune tlL_t0_1 tlS_t0_1 = .st tlst_t0_1 tlfr_t0_1 tlh_t0_1 := by kernel_rfl
theorem tlp_t0_2 : (cek tlkk_t0 2701 tlst_t0_1 tlfr_t0_1 tlh_t0_1).prune tlL_t0_2 tlS_t0_2 = .st tlst_t0_2 tlfr_t0_2 tlh_t0_2 := by kernel_rfl
end Go.Proofs.YtafkkicnfngpoaaGreat

set_option maxRecDepth 100000
set_option maxHeartbeats 0
namespace Go.Proofs.YtafkkicnfngpoaaGreat
open Go Go.Proofs.YtafkkicnfngpoaaGreat.Dm Go.RowKit
theorem tlp_t0_3 : (cek tlkk_t0 2701 tlst_t0_2 tlfr_t0_2 tlh_t0_2).prune tlL_t0_3 tlS_t0_3 = .st tlst_t0_3 tlfr_t0_3 tlh_t0_3 := by kernel_rfl
theorem tlp_t0_4 : (cek tlkk_t0 2701 tlst_t0_3 tlfr_t0_3 tlh_t0_3).prune tlL_t0_4 tlS_t0_4 = .st tlst_t0_4 tlfr_t0_4 tlh_t0_4 := by kernel_rfl
end Go.Proofs.YtafkkicnfngpoaaGreat

set_option maxRecDepth 100000
set_option maxHeartbeats 0
namespace Go.Proofs.YtafkkicnfngpoaaGreat
open Go Go.Proofs.YtafkkicnfngpoaaGreat.Dm Go.RowKit
theorem tlq_t0 : (cek tlkk_t0 2110 tlst_t0_4 tlfr_t0_4 tlh_t0_4).prune tlL_t0 tlS_t0 = .st [] tlfrT_t0 tlhT_t0 := by kernel_rfl
theorem tlp_m_0 : (cek tlkk_m 23 [.code tlbody28] ⟨114, argsIn 0 [] .e⟩ Heap.nil).prune tlL_m_0 tlS_m_0 = .st tlst_m_0 tlfr_m_0 tlh_m_0 := by kernel_rfl
end Go.Proofs.YtafkkicnfngpoaaGreat

set_option maxRecDepth 100000
set_option maxHeartbeats 0
namespace Go.Proofs.YtafkkicnfngpoaaGreat
open Go Go.Proofs.YtafkkicnfngpoaaGreat.Dm Go.RowKit
theorem tlp_m_1 : (cek tlkk_m 2 tlst_m_0 tlfr_m_0 tlh_m_0).prune tlL_m_1 tlS_m_1 = .st tlst_m_1 tlfr_m_1 tlh_m_1 := by kernel_rfl
theorem tlq_m : (lastK tlkk_m 1 tlst_m_1 tlfr_m_1 tlh_m_1).prune [] [0] = .ret ⟨114, (Tr.e).put (some (.cv (.sc (.b true)))) 0⟩ ⟨4999, .e⟩ := by kernel_rfl
end Go.Proofs.YtafkkicnfngpoaaGreat
