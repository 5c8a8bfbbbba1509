import Derived.Test.YtcdjgnpjapgoaaaGreatRGD1
set_option linter.unusedVariables false
set_option linter.unusedSimpArgs false
set_option linter.unusedSectionVars false
set_option maxRecDepth 100000
set_option maxHeartbeats 0
namespace Go.Proofs.YtcdjgnpjapgoaaaGreat
open Go Go.Proofs.YtcdjgnpjapgoaaaGreat.Dm Go.RowKit
theorem rgp_t3_0 : (cek rgkk_t3 2101 [.code rgbody336] ⟨67, argsIn 0 rgargs_t3 .e⟩ rgh0_t3).prune rgL_t3_0 rgS_t3_0 = .st rgst_t3_0 rgfr_t3_0 rgh_t3_0 := by kernel_rfl
end Go.Proofs.YtcdjgnpjapgoaaaGreat

set_option maxRecDepth 100000
set_option maxHeartbeats 0
namespace Go.Proofs.YtcdjgnpjapgoaaaGreat
open Go Go.Proofs.YtcdjgnpjapgoaaaGreat.Dm Go.RowKit
theorem rgp_t3_1 : (cek rgkk_t3 2101 rgst_t3_0 rgfr_t3_0 rgh_t3_0).prune rgL_t3_1 rgS_t3_1 = .st rgst_t3_1 rgfr_t3_1 rgh_t3_1 := by kernel_rfl
end Go.Proofs.YtcdjgnpjapgoaaaGreat

set_option maxRecDepth 100000
set_option maxHeartbeats 0
namespace Go.Proofs.YtcdjgnpjapgoaaaGreat
open Go Go.Proofs.YtcdjgnpjapgoaaaGreat.Dm Go.RowKit
theorem rgp_t3_2 : (cek rgkk_t3 2101 rgst_t3_1 rgfr_t3_1 rgh_t3_1).prune rgL_t3_2 rgS_t3_2 = .st rgst_t3_2 rgfr_t3_2 rgh_t3_2 := by kernel_rfl
end Go.Proofs.YtcdjgnpjapgoaaaGreat

set_option maxRecDepth 100000
set_option maxHeartbeats 0
namespace Go.Proofs.YtcdjgnpjapgoaaaGreat
open Go Go.Proofs.YtcdjgnpjapgoaaaGreat.Dm Go.RowKit
theorem rgp_t3_3 : (cek rgkk_t3 2101 rgst_t3_2 rgfr_t3_2 rgh_t3_2).prune rgL_t3_3 rgS_t3_3 = .st rgst_t3_3 rgfr_t3_3 rgh_t3_3 := by kernel_rfl
end Go.Proofs.YtcdjgnpjapgoaaaGreat

set_option maxRecDepth 100000
set_option maxHeartbeats 0
namespace Go.Proofs.YtcdjgnpjapgoaaaGreat
open Go Go.Proofs.YtcdjgnpjapgoaaaGreat.Dm Go.RowKit
theorem rgq_t3 : (cek rgkk_t3 1909 rgst_t3_3 rgfr_t3_3 rgh_t3_3).prune rgL_t3 rgS_t3 = .st [] rgfrT_t3 rghT_t3 := by kernel_rfl
end Go.Proofs.YtcdjgnpjapgoaaaGreat
