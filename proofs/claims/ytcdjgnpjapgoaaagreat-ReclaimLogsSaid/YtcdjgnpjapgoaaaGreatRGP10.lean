import Derived.Test.YtcdjgnpjapgoaaaGreatRGD1
set_option linter.unusedVariables false
set_option linter.unusedSimpArgs false
set_option linter.unusedSectionVars false
set_option maxRecDepth 100000
set_option maxHeartbeats 0
namespace Go.Proofs.YtcdjgnpjapgoaaaGreat
open Go Go.Proofs.YtcdjgnpjapgoaaaGreat.Dm Go.RowKit
theorem rgp_t1_0 : (cek rgkk_t1 2101 [.code rgbody336] ⟨67, argsIn 0 rgargs_t1 .e⟩ rgh0_t1).prune rgL_t1_0 rgS_t1_0 = .st rgst_t1_0 rgfr_t1_0 rgh_t1_0 := by kernel_rfl
end Go.Proofs.YtcdjgnpjapgoaaaGreat

set_option maxRecDepth 100000
set_option maxHeartbeats 0
namespace Go.Proofs.YtcdjgnpjapgoaaaGreat
open Go Go.Proofs.YtcdjgnpjapgoaaaGreat.Dm Go.RowKit
theorem rgp_t1_1 : (cek rgkk_t1 2101 rgst_t1_0 rgfr_t1_0 rgh_t1_0).prune rgL_t1_1 rgS_t1_1 = .st rgst_t1_1 rgfr_t1_1 rgh_t1_1 := by kernel_rfl
end Go.Proofs.YtcdjgnpjapgoaaaGreat

set_option maxRecDepth 100000
set_option maxHeartbeats 0
namespace Go.Proofs.YtcdjgnpjapgoaaaGreat
open Go Go.Proofs.YtcdjgnpjapgoaaaGreat.Dm Go.RowKit
theorem rgp_t1_2 : (cek rgkk_t1 2101 rgst_t1_1 rgfr_t1_1 rgh_t1_1).prune rgL_t1_2 rgS_t1_2 = .st rgst_t1_2 rgfr_t1_2 rgh_t1_2 := by kernel_rfl
end Go.Proofs.YtcdjgnpjapgoaaaGreat

set_option maxRecDepth 100000
set_option maxHeartbeats 0
namespace Go.Proofs.YtcdjgnpjapgoaaaGreat
open Go Go.Proofs.YtcdjgnpjapgoaaaGreat.Dm Go.RowKit
theorem rgp_t1_3 : (cek rgkk_t1 2101 rgst_t1_2 rgfr_t1_2 rgh_t1_2).prune rgL_t1_3 rgS_t1_3 = .st rgst_t1_3 rgfr_t1_3 rgh_t1_3 := by kernel_rfl
end Go.Proofs.YtcdjgnpjapgoaaaGreat

set_option maxRecDepth 100000
set_option maxHeartbeats 0
namespace Go.Proofs.YtcdjgnpjapgoaaaGreat
open Go Go.Proofs.YtcdjgnpjapgoaaaGreat.Dm Go.RowKit
theorem rgq_t1 : (cek rgkk_t1 1853 rgst_t1_3 rgfr_t1_3 rgh_t1_3).prune rgL_t1 rgS_t1 = .st [] rgfrT_t1 rghT_t1 := by kernel_rfl
end Go.Proofs.YtcdjgnpjapgoaaaGreat
