import Derived.Test.YtcdjgnpjapgoaaaGreatRTD1
set_option linter.unusedVariables false
set_option linter.unusedSimpArgs false
set_option linter.unusedSectionVars false
set_option maxRecDepth 100000
set_option maxHeartbeats 0
namespace Go.Proofs.YtcdjgnpjapgoaaaGreat
open Go Go.Proofs.YtcdjgnpjapgoaaaGreat.Dm Go.RowKit
theorem rtp_k3_1 : (cek rtkk_k3 6001 rtst_k3_0 rtfr_k3_0 rth_k3_0).prune rtL_k3_1 rtS_k3_1 = .st rtst_k3_1 rtfr_k3_1 rth_k3_1 := by kernel_rfl
end Go.Proofs.YtcdjgnpjapgoaaaGreat

set_option maxRecDepth 100000
set_option maxHeartbeats 0
namespace Go.Proofs.YtcdjgnpjapgoaaaGreat
open Go Go.Proofs.YtcdjgnpjapgoaaaGreat.Dm Go.RowKit
theorem rtp_k3_2 : (cek rtkk_k3 6001 rtst_k3_1 rtfr_k3_1 rth_k3_1).prune rtL_k3_2 rtS_k3_2 = .st rtst_k3_2 rtfr_k3_2 rth_k3_2 := by kernel_rfl
end Go.Proofs.YtcdjgnpjapgoaaaGreat

set_option maxRecDepth 100000
set_option maxHeartbeats 0
namespace Go.Proofs.YtcdjgnpjapgoaaaGreat
open Go Go.Proofs.YtcdjgnpjapgoaaaGreat.Dm Go.RowKit
theorem rtp_k3_3 : (cek rtkk_k3 6001 rtst_k3_2 rtfr_k3_2 rth_k3_2).prune rtL_k3_3 rtS_k3_3 = .st rtst_k3_3 rtfr_k3_3 rth_k3_3 := by kernel_rfl
end Go.Proofs.YtcdjgnpjapgoaaaGreat

set_option maxRecDepth 100000
set_option maxHeartbeats 0
namespace Go.Proofs.YtcdjgnpjapgoaaaGreat
open Go Go.Proofs.YtcdjgnpjapgoaaaGreat.Dm Go.RowKit
theorem rtp_k3_4 : (cek rtkk_k3 6001 rtst_k3_3 rtfr_k3_3 rth_k3_3).prune rtL_k3_4 rtS_k3_4 = .st rtst_k3_4 rtfr_k3_4 rth_k3_4 := by kernel_rfl
end Go.Proofs.YtcdjgnpjapgoaaaGreat

set_option maxRecDepth 100000
set_option maxHeartbeats 0
namespace Go.Proofs.YtcdjgnpjapgoaaaGreat
open Go Go.Proofs.YtcdjgnpjapgoaaaGreat.Dm Go.RowKit
theorem rtp_k3_5 : (cek rtkk_k3 6001 rtst_k3_4 rtfr_k3_4 rth_k3_4).prune rtL_k3_5 rtS_k3_5 = .st rtst_k3_5 rtfr_k3_5 rth_k3_5 := by kernel_rfl
end Go.Proofs.YtcdjgnpjapgoaaaGreat

set_option maxRecDepth 100000
set_option maxHeartbeats 0
namespace Go.Proofs.YtcdjgnpjapgoaaaGreat
open Go Go.Proofs.YtcdjgnpjapgoaaaGreat.Dm Go.RowKit
theorem rtp_k3_6 : (cek rtkk_k3 6001 rtst_k3_5 rtfr_k3_5 rth_k3_5).prune rtL_k3_6 rtS_k3_6 = .st rtst_k3_6 rtfr_k3_6 rth_k3_6 := by kernel_rfl
end Go.Proofs.YtcdjgnpjapgoaaaGreat

set_option maxRecDepth 100000
set_option maxHeartbeats 0
namespace Go.Proofs.YtcdjgnpjapgoaaaGreat
open Go Go.Proofs.YtcdjgnpjapgoaaaGreat.Dm Go.RowKit
theorem rtp_k3_7 : (cek rtkk_k3 6001 rtst_k3_6 rtfr_k3_6 rth_k3_6).prune rtL_k3_7 rtS_k3_7 = .st rtst_k3_7 rtfr_k3_7 rth_k3_7 := by kernel_rfl
end Go.Proofs.YtcdjgnpjapgoaaaGreat

set_option maxRecDepth 100000
set_option maxHeartbeats 0
namespace Go.Proofs.YtcdjgnpjapgoaaaGreat
open Go Go.Proofs.YtcdjgnpjapgoaaaGreat.Dm Go.RowKit
theorem rtp_k3_8 : (cek rtkk_k3 6001 rtst_k3_7 rtfr_k3_7 rth_k3_7).prune rtL_k3_8 rtS_k3_8 = .st rtst_k3_8 rtfr_k3_8 rth_k3_8 := by kernel_rfl
end Go.Proofs.YtcdjgnpjapgoaaaGreat
