import Derived.Test.YtcdjgnpjapgoaaaGreatRGD1
set_option linter.unusedVariables false
set_option linter.unusedSimpArgs false
set_option linter.unusedSectionVars false
set_option maxRecDepth 100000
set_option maxHeartbeats 0
namespace Go.Proofs.YtcdjgnpjapgoaaaGreat
open Go Go.Proofs.YtcdjgnpjapgoaaaGreat.Dm Go.RowKit
theorem rgp_t2_0 : (cek rgkk_t2 2101 [.code rgbody336] ⟨67, argsIn 0 rgargs_t2 .e⟩ rgh0_t2).prune rgL_t2_0 rgS_t2_0 = .st rgst_t2_0 rgfr_t2_0 rgh_t2_0 := by kernel_rfl
end Go.Proofs.YtcdjgnpjapgoaaaGreat

set_option maxRecDepth 100000
set_option maxHeartbeats 0
namespace Go.Proofs.YtcdjgnpjapgoaaaGreat
open Go Go.Proofs.YtcdjgnpjapgoaaaGreat.Dm Go.RowKit
theorem rgp_t2_1 : (cek rgkk_t2 2101 rgst_t2_0 rgfr_t2_0 rgh_t2_0).prune rgL_t2_1 rgS_t2_1 = .st rgst_t2_1 rgfr_t2_1 rgh_t2_1 := by kernel_rfl
end Go.Proofs.YtcdjgnpjapgoaaaGreat

set_option maxRecDepth 100000
set_option maxHeartbeats 0
namespace Go.Proofs.YtcdjgnpjapgoaaaGreat
open Go Go.Proofs.YtcdjgnpjapgoaaaGreat.Dm Go.RowKit
theorem rgp_t2_2 : (cek rgkk_t2 2101 rgst_t2_1 rgfr_t2_1 rgh_t2_1).prune rgL_t2_2 rgS_t2_2 = .st rgst_t2_2 rgfr_t2_2 rgh_t2_2 := by kernel_rfl
end Go.Proofs.YtcdjgnpjapgoaaaGreat

set_option maxRecDepth 100000
set_option maxHeartbeats 0
namespace Go.Proofs.YtcdjgnpjapgoaaaGreat
open Go Go.Proofs.YtcdjgnpjapgoaaaGreat.Dm Go.RowKit
theorem rgp_t2_3 : (cek rgkk_t2 2101 rgst_t2_2 rgfr_t2_2 rgh_t2_2).prune rgL_t2_3 rgS_t2_3 = .st rgst_t2_3 rgfr_t2_3 rgh_t2_3 := by kernel_rfl
end Go.Proofs.YtcdjgnpjapgoaaaGreat

set_option maxRecDepth 100000
set_option maxHeartbeats 0
namespace Go.Proofs.YtcdjgnpjapgoaaaGreat
open Go Go.Proofs.YtcdjgnpjapgoaaaGreat.Dm Go.RowKit
theorem rgq_t2 : (cek rgkk_t2 1853 rgst_t2_3 rgfr_t2_3 rgh_t2_3).prune rgL_t2 rgS_t2 = .st [] rgfrT_t2 rghT_t2 := by kernel_rfl
end Go.Proofs.YtcdjgnpjapgoaaaGreat
