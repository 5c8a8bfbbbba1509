import Derived.Test.YtcdjgnpjapgoaaaGreatRTD1
set_option linter.unusedVariables false
set_option linter.unusedSimpArgs false
set_option linter.unusedSectionVars false
set_option maxRecDepth 100000
set_option maxHeartbeats 0
namespace Go.Proofs.YtcdjgnpjapgoaaaGreat
open Go Go.Proofs.YtcdjgnpjapgoaaaGreat.Dm Go.RowKit
theorem rtp_k3_9 : (cek rtkk_k3 6001 rtst_k3_8 rtfr_k3_8 rth_k3_8).prune rtL_k3_9 rtS_k3_9 = .st rtst_k3_9 rtfr_k3_9 rth_k3_9 := by kernel_rfl
end Go.Proofs.YtcdjgnpjapgoaaaGreat

set_option maxRecDepth 100000
set_option maxHeartbeats 0
namespace Go.Proofs.YtcdjgnpjapgoaaaGreat
open Go Go.Proofs.YtcdjgnpjapgoaaaGreat.Dm Go.RowKit
theorem rtq_k3 : (lastK rtkk_k3 1450 rtst_k3_9 rtfr_k3_9 rth_k3_9).prune rtL_k3 rtS_k3 = .ret rtfrT_k3 rthT_k3 := by kernel_rfl
end Go.Proofs.YtcdjgnpjapgoaaaGreat
