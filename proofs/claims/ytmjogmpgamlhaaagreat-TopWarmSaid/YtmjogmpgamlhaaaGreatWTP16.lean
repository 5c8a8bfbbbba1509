import Derived.Test.YtmjogmpgamlhaaaGreatCB
set_option linter.unusedVariables false
set_option linter.unusedSimpArgs false
set_option linter.unusedSectionVars false
set_option maxRecDepth 100000
set_option maxHeartbeats 0
namespace Go.Proofs.YtmjogmpgamlhaaaGreat
open Go Go.Proofs.YtmjogmpgamlhaaaGreat.Dm Go.RowKit
theorem wtp_k3_0 : (cek wtkk_k3 14001 [.code wtbody215] ⟨25, argsIn 0 wtargs_k3 .e⟩ wth0_k3).prune wtL_k3_0 wtS_k3_0 = .st wtst_k3_0 wtfr_k3_0 wth_k3_0 := by kernel_rfl
end Go.Proofs.YtmjogmpgamlhaaaGreat

set_option maxRecDepth 100000
set_option maxHeartbeats 0
namespace Go.Proofs.YtmjogmpgamlhaaaGreat
open Go Go.Proofs.YtmjogmpgamlhaaaGreat.Dm Go.RowKit
theorem wtp_k3_1 : (cek wtkk_k3 14001 wtst_k3_0 wtfr_k3_0 wth_k3_0).prune wtL_k3_1 wtS_k3_1 = .st wtst_k3_1 wtfr_k3_1 wth_k3_1 := by kernel_rfl
end Go.Proofs.YtmjogmpgamlhaaaGreat

set_option maxRecDepth 100000
set_option maxHeartbeats 0
namespace Go.Proofs.YtmjogmpgamlhaaaGreat
open Go Go.Proofs.YtmjogmpgamlhaaaGreat.Dm Go.RowKit
theorem wtp_k3_2 : (cek wtkk_k3 14001 wtst_k3_1 wtfr_k3_1 wth_k3_1).prune wtL_k3_2 wtS_k3_2 = .st wtst_k3_2 wtfr_k3_2 wth_k3_2 := by kernel_rfl
end Go.Proofs.YtmjogmpgamlhaaaGreat

set_option maxRecDepth 100000
set_option maxHeartbeats 0
namespace Go.Proofs.YtmjogmpgamlhaaaGreat
open Go Go.Proofs.YtmjogmpgamlhaaaGreat.Dm Go.RowKit
theorem wtp_k3_3 : (cek wtkk_k3 14001 wtst_k3_2 wtfr_k3_2 wth_k3_2).prune wtL_k3_3 wtS_k3_3 = .st wtst_k3_3 wtfr_k3_3 wth_k3_3 := by kernel_rfl
end Go.Proofs.YtmjogmpgamlhaaaGreat

set_option maxRecDepth 100000
set_option maxHeartbeats 0
namespace Go.Proofs.YtmjogmpgamlhaaaGreat
open Go Go.Proofs.YtmjogmpgamlhaaaGreat.Dm Go.RowKit
theorem wtq_k3 : (lastK wtkk_k3 1358 wtst_k3_3 wtfr_k3_3 wth_k3_3).prune wtL_k3 wtS_k3 = .ret wtfrT_k3 wthT_k3 := by kernel_rfl
end Go.Proofs.YtmjogmpgamlhaaaGreat

set_option maxRecDepth 100000
set_option maxHeartbeats 0
namespace Go.Proofs.YtmjogmpgamlhaaaGreat
open Go Go.Proofs.YtmjogmpgamlhaaaGreat.Dm Go.RowKit
theorem wtp_m_0 : (cek wtkk_m 4 [.code wtbody12] ⟨43, argsIn 0 [] .e⟩ Heap.nil).prune wtL_m_0 wtS_m_0 = .st wtst_m_0 wtfr_m_0 wth_m_0 := by kernel_rfl
end Go.Proofs.YtmjogmpgamlhaaaGreat

set_option maxRecDepth 100000
set_option maxHeartbeats 0
namespace Go.Proofs.YtmjogmpgamlhaaaGreat
open Go Go.Proofs.YtmjogmpgamlhaaaGreat.Dm Go.RowKit
theorem wtp_m_1 : (cek wtkk_m 4 wtst_m_0 wtfr_m_0 wth_m_0).prune wtL_m_1 wtS_m_1 = .st wtst_m_1 wtfr_m_1 wth_m_1 := by kernel_rfl
end Go.Proofs.YtmjogmpgamlhaaaGreat

set_option maxRecDepth 100000
set_option maxHeartbeats 0
namespace Go.Proofs.YtmjogmpgamlhaaaGreat
open Go Go.Proofs.YtmjogmpgamlhaaaGreat.Dm Go.RowKit
theorem wtp_m_2 : (cek wtkk_m 4 wtst_m_1 wtfr_m_1 wth_m_1).prune wtL_m_2 wtS_m_2 = .st wtst_m_2 wtfr_m_2 wth_m_2 := by kernel_rfl
end Go.Proofs.YtmjogmpgamlhaaaGreat
