import Derived.Test.YtcdjgnpjapgoaaaGreatRTD1
set_option linter.unusedVariables false
set_option linter.unusedSimpArgs false
set_option linter.unusedSectionVars false
set_option maxRecDepth 100000
set_option maxHeartbeats 0
namespace Go.Proofs.YtcdjgnpjapgoaaaGreat
open Go Go.Proofs.YtcdjgnpjapgoaaaGreat.Dm Go.RowKit
theorem rtp_k0_0 : (cek rtkk_k0 14001 [.code rtbody215] ⟨25, argsIn 0 rtargs_k0 .e⟩ rth0_k0).prune rtL_k0_0 rtS_k0_0 = .st rtst_k0_0 rtfr_k0_0 rth_k0_0 := by kernel_rfl
end Go.Proofs.YtcdjgnpjapgoaaaGreat

set_option maxRecDepth 100000
set_option maxHeartbeats 0
namespace Go.Proofs.YtcdjgnpjapgoaaaGreat
open Go Go.Proofs.YtcdjgnpjapgoaaaGreat.Dm Go.RowKit
theorem rtp_k0_1 : (cek rtkk_k0 14001 rtst_k0_0 rtfr_k0_0 rth_k0_0).prune rtL_k0_1 rtS_k0_1 = .st rtst_k0_1 rtfr_k0_1 rth_k0_1 := by kernel_rfl
end Go.Proofs.YtcdjgnpjapgoaaaGreat

set_option maxRecDepth 100000
set_option maxHeartbeats 0
namespace Go.Proofs.YtcdjgnpjapgoaaaGreat
open Go Go.Proofs.YtcdjgnpjapgoaaaGreat.Dm Go.RowKit
theorem rtp_k0_2 : (cek rtkk_k0 14001 rtst_k0_1 rtfr_k0_1 rth_k0_1).prune rtL_k0_2 rtS_k0_2 = .st rtst_k0_2 rtfr_k0_2 rth_k0_2 := by kernel_rfl
end Go.Proofs.YtcdjgnpjapgoaaaGreat

set_option maxRecDepth 100000
set_option maxHeartbeats 0
namespace Go.Proofs.YtcdjgnpjapgoaaaGreat
open Go Go.Proofs.YtcdjgnpjapgoaaaGreat.Dm Go.RowKit
theorem rtp_k0_3 : (cek rtkk_k0 14001 rtst_k0_2 rtfr_k0_2 rth_k0_2).prune rtL_k0_3 rtS_k0_3 = .st rtst_k0_3 rtfr_k0_3 rth_k0_3 := by kernel_rfl
end Go.Proofs.YtcdjgnpjapgoaaaGreat

set_option maxRecDepth 100000
set_option maxHeartbeats 0
namespace Go.Proofs.YtcdjgnpjapgoaaaGreat
open Go Go.Proofs.YtcdjgnpjapgoaaaGreat.Dm Go.RowKit
theorem rtq_k0 : (lastK rtkk_k0 1358 rtst_k0_3 rtfr_k0_3 rth_k0_3).prune rtL_k0 rtS_k0 = .ret rtfrT_k0 rthT_k0 := by kernel_rfl
end Go.Proofs.YtcdjgnpjapgoaaaGreat

set_option maxRecDepth 100000
set_option maxHeartbeats 0
namespace Go.Proofs.YtcdjgnpjapgoaaaGreat
open Go Go.Proofs.YtcdjgnpjapgoaaaGreat.Dm Go.RowKit
theorem rtp_k1_0 : (cek rtkk_k1 14001 [.code rtbody215] ⟨25, argsIn 0 rtargs_k1 .e⟩ rth0_k1).prune rtL_k1_0 rtS_k1_0 = .st rtst_k1_0 rtfr_k1_0 rth_k1_0 := by kernel_rfl
end Go.Proofs.YtcdjgnpjapgoaaaGreat

set_option maxRecDepth 100000
set_option maxHeartbeats 0
namespace Go.Proofs.YtcdjgnpjapgoaaaGreat
open Go Go.Proofs.YtcdjgnpjapgoaaaGreat.Dm Go.RowKit
theorem rtp_k1_1 : (cek rtkk_k1 14001 rtst_k1_0 rtfr_k1_0 rth_k1_0).prune rtL_k1_1 rtS_k1_1 = .st rtst_k1_1 rtfr_k1_1 rth_k1_1 := by kernel_rfl
end Go.Proofs.YtcdjgnpjapgoaaaGreat

set_option maxRecDepth 100000
set_option maxHeartbeats 0
namespace Go.Proofs.YtcdjgnpjapgoaaaGreat
open Go Go.Proofs.YtcdjgnpjapgoaaaGreat.Dm Go.RowKit
theorem rtp_k1_2 : (cek rtkk_k1 14001 rtst_k1_1 rtfr_k1_1 rth_k1_1).prune rtL_k1_2 rtS_k1_2 = .st rtst_k1_2 rtfr_k1_2 rth_k1_2 := by kernel_rfl
end Go.Proofs.YtcdjgnpjapgoaaaGreat
