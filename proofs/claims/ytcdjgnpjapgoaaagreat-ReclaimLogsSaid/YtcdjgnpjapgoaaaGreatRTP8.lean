import Derived.Test.YtcdjgnpjapgoaaaGreatRTD1
set_option linter.unusedVariables false
set_option linter.unusedSimpArgs false
set_option linter.unusedSectionVars false
set_option maxRecDepth 100000
set_option maxHeartbeats 0
namespace Go.Proofs.YtcdjgnpjapgoaaaGreat
open Go Go.Proofs.YtcdjgnpjapgoaaaGreat.Dm Go.RowKit
theorem rtp_k1_3 : (cek rtkk_k1 14001 rtst_k1_2 rtfr_k1_2 rth_k1_2).prune rtL_k1_3 rtS_k1_3 = .st rtst_k1_3 rtfr_k1_3 rth_k1_3 := by kernel_rfl
end Go.Proofs.YtcdjgnpjapgoaaaGreat

set_option maxRecDepth 100000
set_option maxHeartbeats 0
namespace Go.Proofs.YtcdjgnpjapgoaaaGreat
open Go Go.Proofs.YtcdjgnpjapgoaaaGreat.Dm Go.RowKit
theorem rtq_k1 : (lastK rtkk_k1 1358 rtst_k1_3 rtfr_k1_3 rth_k1_3).prune rtL_k1 rtS_k1 = .ret rtfrT_k1 rthT_k1 := by kernel_rfl
end Go.Proofs.YtcdjgnpjapgoaaaGreat

set_option maxRecDepth 100000
set_option maxHeartbeats 0
namespace Go.Proofs.YtcdjgnpjapgoaaaGreat
open Go Go.Proofs.YtcdjgnpjapgoaaaGreat.Dm Go.RowKit
theorem rtp_k2_0 : (cek rtkk_k2 14001 [.code rtbody215] ⟨25, argsIn 0 rtargs_k2 .e⟩ rth0_k2).prune rtL_k2_0 rtS_k2_0 = .st rtst_k2_0 rtfr_k2_0 rth_k2_0 := by kernel_rfl
end Go.Proofs.YtcdjgnpjapgoaaaGreat

set_option maxRecDepth 100000
set_option maxHeartbeats 0
namespace Go.Proofs.YtcdjgnpjapgoaaaGreat
open Go Go.Proofs.YtcdjgnpjapgoaaaGreat.Dm Go.RowKit
theorem rtp_k2_1 : (cek rtkk_k2 14001 rtst_k2_0 rtfr_k2_0 rth_k2_0).prune rtL_k2_1 rtS_k2_1 = .st rtst_k2_1 rtfr_k2_1 rth_k2_1 := by kernel_rfl
end Go.Proofs.YtcdjgnpjapgoaaaGreat

set_option maxRecDepth 100000
set_option maxHeartbeats 0
namespace Go.Proofs.YtcdjgnpjapgoaaaGreat
open Go Go.Proofs.YtcdjgnpjapgoaaaGreat.Dm Go.RowKit
theorem rtp_k2_2 : (cek rtkk_k2 14001 rtst_k2_1 rtfr_k2_1 rth_k2_1).prune rtL_k2_2 rtS_k2_2 = .st rtst_k2_2 rtfr_k2_2 rth_k2_2 := by kernel_rfl
end Go.Proofs.YtcdjgnpjapgoaaaGreat

set_option maxRecDepth 100000
set_option maxHeartbeats 0
namespace Go.Proofs.YtcdjgnpjapgoaaaGreat
open Go Go.Proofs.YtcdjgnpjapgoaaaGreat.Dm Go.RowKit
theorem rtp_k2_3 : (cek rtkk_k2 14001 rtst_k2_2 rtfr_k2_2 rth_k2_2).prune rtL_k2_3 rtS_k2_3 = .st rtst_k2_3 rtfr_k2_3 rth_k2_3 := by kernel_rfl
end Go.Proofs.YtcdjgnpjapgoaaaGreat

set_option maxRecDepth 100000
set_option maxHeartbeats 0
namespace Go.Proofs.YtcdjgnpjapgoaaaGreat
open Go Go.Proofs.YtcdjgnpjapgoaaaGreat.Dm Go.RowKit
theorem rtq_k2 : (lastK rtkk_k2 1358 rtst_k2_3 rtfr_k2_3 rth_k2_3).prune rtL_k2 rtS_k2 = .ret rtfrT_k2 rthT_k2 := by kernel_rfl
end Go.Proofs.YtcdjgnpjapgoaaaGreat

set_option maxRecDepth 100000
set_option maxHeartbeats 0
namespace Go.Proofs.YtcdjgnpjapgoaaaGreat
open Go Go.Proofs.YtcdjgnpjapgoaaaGreat.Dm Go.RowKit
theorem rtp_k3_0 : (cek rtkk_k3 6001 [.code rtbody385] ⟨39, argsIn 0 rtargs_k3 .e⟩ rth0_k3).prune rtL_k3_0 rtS_k3_0 = .st rtst_k3_0 rtfr_k3_0 rth_k3_0 := by kernel_rfl
end Go.Proofs.YtcdjgnpjapgoaaaGreat
