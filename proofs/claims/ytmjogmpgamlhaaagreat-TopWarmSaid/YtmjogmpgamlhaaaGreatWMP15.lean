import Derived.Test.YtmjogmpgamlhaaaGreatWMD0
set_option linter.unusedVariables false
set_option linter.unusedSimpArgs false
set_option linter.unusedSectionVars false
set_option maxRecDepth 100000
set_option maxHeartbeats 0
namespace Go.Proofs.YtmjogmpgamlhaaaGreat
open Go Go.Proofs.YtmjogmpgamlhaaaGreat.Dm Go.RowKit
theorem wmp_m_9 (X0 X1 : AV) : (cek wmkk_m 27 wmst_m_8 (wmfr_m_8 X0 X1) wmh_m_8).prune wmL_m_9 wmS_m_9 = .st wmst_m_9 (wmfr_m_9 X0 X1) wmh_m_9 := by kernel_rfl
end Go.Proofs.YtmjogmpgamlhaaaGreat

set_option maxRecDepth 100000
set_option maxHeartbeats 0
namespace Go.Proofs.YtmjogmpgamlhaaaGreat
open Go Go.Proofs.YtmjogmpgamlhaaaGreat.Dm Go.RowKit
theorem wmp_m_10 (X0 X1 : AV) : (cek wmkk_m 27 wmst_m_9 (wmfr_m_9 X0 X1) wmh_m_9).prune wmL_m_10 wmS_m_10 = .st wmst_m_10 (wmfr_m_10 X0 X1) wmh_m_10 := by kernel_rfl
end Go.Proofs.YtmjogmpgamlhaaaGreat

set_option maxRecDepth 100000
set_option maxHeartbeats 0
namespace Go.Proofs.YtmjogmpgamlhaaaGreat
open Go Go.Proofs.YtmjogmpgamlhaaaGreat.Dm Go.RowKit
theorem wmp_m_11 (X0 X1 : AV) : (cek wmkk_m 27 wmst_m_10 (wmfr_m_10 X0 X1) wmh_m_10).prune wmL_m_11 wmS_m_11 = .st wmst_m_11 (wmfr_m_11 X0 X1) wmh_m_11 := by kernel_rfl
end Go.Proofs.YtmjogmpgamlhaaaGreat

set_option maxRecDepth 100000
set_option maxHeartbeats 0
namespace Go.Proofs.YtmjogmpgamlhaaaGreat
open Go Go.Proofs.YtmjogmpgamlhaaaGreat.Dm Go.RowKit
theorem wmp_m_12 (X0 X1 : AV) : (cek wmkk_m 27 wmst_m_11 (wmfr_m_11 X0 X1) wmh_m_11).prune wmL_m_12 wmS_m_12 = .st wmst_m_12 (wmfr_m_12 X0 X1) wmh_m_12 := by kernel_rfl
end Go.Proofs.YtmjogmpgamlhaaaGreat

set_option maxRecDepth 100000
set_option maxHeartbeats 0
namespace Go.Proofs.YtmjogmpgamlhaaaGreat
open Go Go.Proofs.YtmjogmpgamlhaaaGreat.Dm Go.RowKit
theorem wmp_m_13 (X0 X1 : AV) : (cek wmkk_m 27 wmst_m_12 (wmfr_m_12 X0 X1) wmh_m_12).prune wmL_m_13 wmS_m_13 = .st wmst_m_13 (wmfr_m_13 X0 X1) wmh_m_13 := by kernel_rfl
end Go.Proofs.YtmjogmpgamlhaaaGreat

set_option maxRecDepth 100000
set_option maxHeartbeats 0
namespace Go.Proofs.YtmjogmpgamlhaaaGreat
open Go Go.Proofs.YtmjogmpgamlhaaaGreat.Dm Go.RowKit
theorem wmp_m_14 (X0 X1 : AV) : (cek wmkk_m 27 wmst_m_13 (wmfr_m_13 X0 X1) wmh_m_13).prune wmL_m_14 wmS_m_14 = .st wmst_m_14 (wmfr_m_14 X0 X1) wmh_m_14 := by kernel_rfl
end Go.Proofs.YtmjogmpgamlhaaaGreat

set_option maxRecDepth 100000
set_option maxHeartbeats 0
namespace Go.Proofs.YtmjogmpgamlhaaaGreat
open Go Go.Proofs.YtmjogmpgamlhaaaGreat.Dm Go.RowKit
theorem wmp_m_15 (X0 X1 : AV) : (cek wmkk_m 24 wmst_m_14 (wmfr_m_14 X0 X1) wmh_m_14).prune wmL_m_15 wmS_m_15 = .st wmst_m_15 (wmfr_m_15 X0 X1) wmh_m_15 := by kernel_rfl
end Go.Proofs.YtmjogmpgamlhaaaGreat
