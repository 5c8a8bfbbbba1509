import Derived.Test.YtmjogmpgamlhaaaGreatCB
set_option linter.unusedVariables false
set_option linter.unusedSimpArgs false
set_option linter.unusedSectionVars false
set_option maxRecDepth 100000
set_option maxHeartbeats 0
namespace Go.Proofs.YtmjogmpgamlhaaaGreat
open Go Go.Proofs.YtmjogmpgamlhaaaGreat.Dm Go.RowKit
theorem wtp_m_3 : (cek wtkk_m 4 wtst_m_2 wtfr_m_2 wth_m_2).prune wtL_m_3 wtS_m_3 = .st wtst_m_3 wtfr_m_3 wth_m_3 := by kernel_rfl
end Go.Proofs.YtmjogmpgamlhaaaGreat

set_option maxRecDepth 100000
set_option maxHeartbeats 0
namespace Go.Proofs.YtmjogmpgamlhaaaGreat
open Go Go.Proofs.YtmjogmpgamlhaaaGreat.Dm Go.RowKit
theorem wtp_m_4 : (cek wtkk_m 4 wtst_m_3 wtfr_m_3 wth_m_3).prune wtL_m_4 wtS_m_4 = .st wtst_m_4 wtfr_m_4 wth_m_4 := by kernel_rfl
end Go.Proofs.YtmjogmpgamlhaaaGreat

set_option maxRecDepth 100000
set_option maxHeartbeats 0
namespace Go.Proofs.YtmjogmpgamlhaaaGreat
open Go Go.Proofs.YtmjogmpgamlhaaaGreat.Dm Go.RowKit
theorem wtp_m_5 : (cek wtkk_m 4 wtst_m_4 wtfr_m_4 wth_m_4).prune wtL_m_5 wtS_m_5 = .st wtst_m_5 wtfr_m_5 wth_m_5 := by kernel_rfl
end Go.Proofs.YtmjogmpgamlhaaaGreat

set_option maxRecDepth 100000
set_option maxHeartbeats 0
namespace Go.Proofs.YtmjogmpgamlhaaaGreat
open Go Go.Proofs.YtmjogmpgamlhaaaGreat.Dm Go.RowKit
theorem wtp_m_6 : (cek wtkk_m 4 wtst_m_5 wtfr_m_5 wth_m_5).prune wtL_m_6 wtS_m_6 = .st wtst_m_6 wtfr_m_6 wth_m_6 := by kernel_rfl
end Go.Proofs.YtmjogmpgamlhaaaGreat

set_option maxRecDepth 100000
set_option maxHeartbeats 0
namespace Go.Proofs.YtmjogmpgamlhaaaGreat
open Go Go.Proofs.YtmjogmpgamlhaaaGreat.Dm Go.RowKit
theorem wtp_m_7 : (cek wtkk_m 4 wtst_m_6 wtfr_m_6 wth_m_6).prune wtL_m_7 wtS_m_7 = .st wtst_m_7 wtfr_m_7 wth_m_7 := by kernel_rfl
end Go.Proofs.YtmjogmpgamlhaaaGreat

set_option maxRecDepth 100000
set_option maxHeartbeats 0
namespace Go.Proofs.YtmjogmpgamlhaaaGreat
open Go Go.Proofs.YtmjogmpgamlhaaaGreat.Dm Go.RowKit
theorem wtp_m_8 : (cek wtkk_m 4 wtst_m_7 wtfr_m_7 wth_m_7).prune wtL_m_8 wtS_m_8 = .st wtst_m_8 wtfr_m_8 wth_m_8 := by kernel_rfl
end Go.Proofs.YtmjogmpgamlhaaaGreat

set_option maxRecDepth 100000
set_option maxHeartbeats 0
namespace Go.Proofs.YtmjogmpgamlhaaaGreat
open Go Go.Proofs.YtmjogmpgamlhaaaGreat.Dm Go.RowKit
theorem wtp_m_9 : (cek wtkk_m 4 wtst_m_8 wtfr_m_8 wth_m_8).prune wtL_m_9 wtS_m_9 = .st wtst_m_9 wtfr_m_9 wth_m_9 := by kernel_rfl
end Go.Proofs.YtmjogmpgamlhaaaGreat

set_option maxRecDepth 100000
set_option maxHeartbeats 0
namespace Go.Proofs.YtmjogmpgamlhaaaGreat
open Go Go.Proofs.YtmjogmpgamlhaaaGreat.Dm Go.RowKit
theorem wtp_m_10 : (cek wtkk_m 4 wtst_m_9 wtfr_m_9 wth_m_9).prune wtL_m_10 wtS_m_10 = .st wtst_m_10 wtfr_m_10 wth_m_10 := by kernel_rfl
end Go.Proofs.YtmjogmpgamlhaaaGreat
