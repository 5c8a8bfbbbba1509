import Derived.Test.YtcdjgnpjapgoaaaGreatRGD1
set_option linter.unusedVariables false
set_option linter.unusedSimpArgs false
set_option linter.unusedSectionVars false
set_option maxRecDepth 100000
set_option maxHeartbeats 0
namespace Go.Proofs.YtcdjgnpjapgoaaaGreat
open Go Go.Proofs.YtcdjgnpjapgoaaaGreat.Dm Go.RowKit
theorem rgp_t0_0 : (cek rgkk_t0 2101 [.code rgbody336] ⟨67, argsIn 0 rgargs_t0 .e⟩ rgh0_t0).prune rgL_t0_0 rgS_t0_0 = .st rgst_t0_0 rgfr_t0_0 rgh_t0_0 := by kernel_rfl
end Go.Proofs.YtcdjgnpjapgoaaaGreat

set_option maxRecDepth 100000
set_option maxHeartbeats 0
namespace Go.Proofs.YtcdjgnpjapgoaaaGreat
open Go Go.Proofs.YtcdjgnpjapgoaaaGreat.Dm Go.RowKit
theorem rgp_t0_1 : (cek rgkk_t0 2101 rgst_t0_0 rgfr_t0_0 rgh_t0_0).prune rgL_t0_1 rgS_t0_1 = .st rgst_t0_1 rgfr_t0_1 rgh_t0_1 := by kernel_rfl
end Go.Proofs.YtcdjgnpjapgoaaaGreat

set_option maxRecDepth 100000
set_option maxHeartbeats 0
namespace Go.Proofs.YtcdjgnpjapgoaaaGreat
open Go Go.Proofs.YtcdjgnpjapgoaaaGreat.Dm Go.RowKit
theorem rgp_t0_2 : (cek rgkk_t0 2101 rgst_t0_1 rgfr_t0_1 rgh_t0_1).prune rgL_t0_2 rgS_t0_2 = .st rgst_t0_2 rgfr_t0_2 rgh_t0_2 := by kernel_rfl
end Go.Proofs.YtcdjgnpjapgoaaaGreat

set_option maxRecDepth 100000
set_option maxHeartbeats 0
namespace Go.Proofs.YtcdjgnpjapgoaaaGreat
open Go Go.Proofs.YtcdjgnpjapgoaaaGreat.Dm Go.RowKit
theorem rgp_t0_3 : (cek rgkk_t0 2101 rgst_t0_2 rgfr_t0_2 rgh_t0_2).prune rgL_t0_3 rgS_t0_3 = .st rgst_t0_3 rgfr_t0_3 rgh_t0_3 := by kernel_rfl
end Go.Proofs.YtcdjgnpjapgoaaaGreat

set_option maxRecDepth 100000
set_option maxHeartbeats 0
namespace Go.Proofs.YtcdjgnpjapgoaaaGreat
open Go Go.Proofs.YtcdjgnpjapgoaaaGreat.Dm Go.RowKit
theorem rgq_t0 : (cek rgkk_t0 1853 rgst_t0_3 rgfr_t0_3 rgh_t0_3).prune rgL_t0 rgS_t0 = .st [] rgfrT_t0 rghT_t0 := by kernel_rfl
end Go.Proofs.YtcdjgnpjapgoaaaGreat
