import Derived.Test.YtcdjgnpjapgoaaaGreatRTD1
set_option linter.unusedVariables false
set_option linter.unusedSimpArgs false
set_option linter.unusedSectionVars false
set_option maxRecDepth 100000
set_option maxHeartbeats 0
namespace Go.Proofs.YtcdjgnpjapgoaaaGreat
open Go Go.Proofs.YtcdjgnpjapgoaaaGreat.Dm Go.RowKit
theorem rtp_m_3 : (cek rtkk_m 4 rtst_m_2 rtfr_m_2 rth_m_2).prune rtL_m_3 rtS_m_3 = .st rtst_m_3 rtfr_m_3 rth_m_3 := by kernel_rfl
end Go.Proofs.YtcdjgnpjapgoaaaGreat

set_option maxRecDepth 100000
set_option maxHeartbeats 0
namespace Go.Proofs.YtcdjgnpjapgoaaaGreat
open Go Go.Proofs.YtcdjgnpjapgoaaaGreat.Dm Go.RowKit
theorem rtp_m_4 : (cek rtkk_m 4 rtst_m_3 rtfr_m_3 rth_m_3).prune rtL_m_4 rtS_m_4 = .st rtst_m_4 rtfr_m_4 rth_m_4 := by kernel_rfl
end Go.Proofs.YtcdjgnpjapgoaaaGreat

set_option maxRecDepth 100000
set_option maxHeartbeats 0
namespace Go.Proofs.YtcdjgnpjapgoaaaGreat
open Go Go.Proofs.YtcdjgnpjapgoaaaGreat.Dm Go.RowKit
theorem rtq_m : (lastK rtkk_m 2 rtst_m_4 rtfr_m_4 rth_m_4).prune [] [0] = .ret ⟨145, (Tr.e).put (some (.cv (.sc (.b true)))) 0⟩ ⟨948, .e⟩ := by kernel_rfl
end Go.Proofs.YtcdjgnpjapgoaaaGreat
