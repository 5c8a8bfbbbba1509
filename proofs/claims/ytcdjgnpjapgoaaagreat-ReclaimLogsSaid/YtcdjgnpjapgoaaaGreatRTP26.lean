import Derived.Test.YtcdjgnpjapgoaaaGreatRTD1
set_option linter.unusedVariables false
set_option linter.unusedSimpArgs false
set_option linter.unusedSectionVars false
set_option maxRecDepth 100000
set_option maxHeartbeats 0
namespace Go.Proofs.YtcdjgnpjapgoaaaGreat
open Go Go.Proofs.YtcdjgnpjapgoaaaGreat.Dm Go.RowKit
theorem rtp_m_0 : (cek rtkk_m 4 [.code rtbody57] ⟨145, argsIn 0 [] .e⟩ Heap.nil).prune rtL_m_0 rtS_m_0 = .st rtst_m_0 rtfr_m_0 rth_m_0 := by kernel_rfl
end Go.Proofs.YtcdjgnpjapgoaaaGreat

set_option maxRecDepth 100000
set_option maxHeartbeats 0
namespace Go.Proofs.YtcdjgnpjapgoaaaGreat
open Go Go.Proofs.YtcdjgnpjapgoaaaGreat.Dm Go.RowKit
theorem rtp_m_1 : (cek rtkk_m 4 rtst_m_0 rtfr_m_0 rth_m_0).prune rtL_m_1 rtS_m_1 = .st rtst_m_1 rtfr_m_1 rth_m_1 := by kernel_rfl
end Go.Proofs.YtcdjgnpjapgoaaaGreat

set_option maxRecDepth 100000
set_option maxHeartbeats 0
namespace Go.Proofs.YtcdjgnpjapgoaaaGreat
open Go Go.Proofs.YtcdjgnpjapgoaaaGreat.Dm Go.RowKit
theorem rtp_m_2 : (cek rtkk_m 4 rtst_m_1 rtfr_m_1 rth_m_1).prune rtL_m_2 rtS_m_2 = .st rtst_m_2 rtfr_m_2 rth_m_2 := by kernel_rfl
end Go.Proofs.YtcdjgnpjapgoaaaGreat
