import Derived.Test.YtmjogmpgamlhaaaGreatWMD0
set_option linter.unusedVariables false
set_option linter.unusedSimpArgs false
set_option linter.unusedSectionVars false
set_option maxRecDepth 100000
set_option maxHeartbeats 0
namespace Go.Proofs.YtmjogmpgamlhaaaGreat
open Go Go.Proofs.YtmjogmpgamlhaaaGreat.Dm Go.RowKit
theorem wmp_m_2 (X0 X1 : AV) : (cek wmkk_m 27 wmst_m_1 (wmfr_m_1 X0 X1) wmh_m_1).prune wmL_m_2 wmS_m_2 = .st wmst_m_2 (wmfr_m_2 X0 X1) wmh_m_2 := by kernel_rfl
end Go.Proofs.YtmjogmpgamlhaaaGreat

set_option maxRecDepth 100000
set_option maxHeartbeats 0
namespace Go.Proofs.YtmjogmpgamlhaaaGreat
open Go Go.Proofs.YtmjogmpgamlhaaaGreat.Dm Go.RowKit
theorem wmp_m_3 (X0 X1 : AV) : (cek wmkk_m 27 wmst_m_2 (wmfr_m_2 X0 X1) wmh_m_2).prune wmL_m_3 wmS_m_3 = .st wmst_m_3 (wmfr_m_3 X0 X1) wmh_m_3 := by kernel_rfl
end Go.Proofs.YtmjogmpgamlhaaaGreat

set_option maxRecDepth 100000
set_option maxHeartbeats 0
namespace Go.Proofs.YtmjogmpgamlhaaaGreat
open Go Go.Proofs.YtmjogmpgamlhaaaGreat.Dm Go.RowKit
theorem wmp_m_4 (X0 X1 : AV) : (cek wmkk_m 27 wmst_m_3 (wmfr_m_3 X0 X1) wmh_m_3).prune wmL_m_4 wmS_m_4 = .st wmst_m_4 (wmfr_m_4 X0 X1) wmh_m_4 := by kernel_rfl
end Go.Proofs.YtmjogmpgamlhaaaGreat

set_option maxRecDepth 100000
set_option maxHeartbeats 0
namespace Go.Proofs.YtmjogmpgamlhaaaGreat
open Go Go.Proofs.YtmjogmpgamlhaaaGreat.Dm Go.RowKit
theorem wmp_m_5 (X0 X1 : AV) : (cek wmkk_m 27 wmst_m_4 (wmfr_m_4 X0 X1) wmh_m_4).prune wmL_m_5 wmS_m_5 = .st wmst_m_5 (wmfr_m_5 X0 X1) wmh_m_5 := by kernel_rfl
end Go.Proofs.YtmjogmpgamlhaaaGreat

set_option maxRecDepth 100000
set_option maxHeartbeats 0
namespace Go.Proofs.YtmjogmpgamlhaaaGreat
open Go Go.Proofs.YtmjogmpgamlhaaaGreat.Dm Go.RowKit
theorem wmp_m_6 (X0 X1 : AV) : (cek wmkk_m 27 wmst_m_5 (wmfr_m_5 X0 X1) wmh_m_5).prune wmL_m_6 wmS_m_6 = .st wmst_m_6 (wmfr_m_6 X0 X1) wmh_m_6 := by kernel_rfl
end Go.Proofs.YtmjogmpgamlhaaaGreat

set_option maxRecDepth 100000
set_option maxHeartbeats 0
namespace Go.Proofs.YtmjogmpgamlhaaaGreat
open Go Go.Proofs.YtmjogmpgamlhaaaGreat.Dm Go.RowKit
theorem wmp_m_7 (X0 X1 : AV) : (cek wmkk_m 27 wmst_m_6 (wmfr_m_6 X0 X1) wmh_m_6).prune wmL_m_7 wmS_m_7 = .st wmst_m_7 (wmfr_m_7 X0 X1) wmh_m_7 := by kernel_rfl
end Go.Proofs.YtmjogmpgamlhaaaGreat

set_option maxRecDepth 100000
set_option maxHeartbeats 0
namespace Go.Proofs.YtmjogmpgamlhaaaGreat
open Go Go.Proofs.YtmjogmpgamlhaaaGreat.Dm Go.RowKit
theorem wmp_m_8 (X0 X1 : AV) : (cek wmkk_m 27 wmst_m_7 (wmfr_m_7 X0 X1) wmh_m_7).prune wmL_m_8 wmS_m_8 = .st wmst_m_8 (wmfr_m_8 X0 X1) wmh_m_8 := by kernel_rfl
end Go.Proofs.YtmjogmpgamlhaaaGreat
