import Derived.Test.YtmjogmpgamlhaaaGreatCB
set_option linter.unusedVariables false
set_option linter.unusedSimpArgs false
set_option linter.unusedSectionVars false
set_option maxRecDepth 100000
set_option maxHeartbeats 0
namespace Go.Proofs.YtmjogmpgamlhaaaGreat
open Go Go.Proofs.YtmjogmpgamlhaaaGreat.Dm Go.RowKit
theorem wtp_m_11 : (cek wtkk_m 4 wtst_m_10 wtfr_m_10 wth_m_10).prune wtL_m_11 wtS_m_11 = .st wtst_m_11 wtfr_m_11 wth_m_11 := by kernel_rfl
end Go.Proofs.YtmjogmpgamlhaaaGreat

set_option maxRecDepth 100000
set_option maxHeartbeats 0
namespace Go.Proofs.YtmjogmpgamlhaaaGreat
open Go Go.Proofs.YtmjogmpgamlhaaaGreat.Dm Go.RowKit
theorem wtp_m_12 : (cek wtkk_m 4 wtst_m_11 wtfr_m_11 wth_m_11).prune wtL_m_12 wtS_m_12 = .st wtst_m_12 wtfr_m_12 wth_m_12 := by kernel_rfl
end Go.Proofs.YtmjogmpgamlhaaaGreat

set_option maxRecDepth 100000
set_option maxHeartbeats 0
namespace Go.Proofs.YtmjogmpgamlhaaaGreat
open Go Go.Proofs.YtmjogmpgamlhaaaGreat.Dm Go.RowKit
theorem wtp_m_13 : (cek wtkk_m 4 wtst_m_12 wtfr_m_12 wth_m_12).prune wtL_m_13 wtS_m_13 = .st wtst_m_13 wtfr_m_13 wth_m_13 := by kernel_rfl
end Go.Proofs.YtmjogmpgamlhaaaGreat

set_option maxRecDepth 100000
set_option maxHeartbeats 0
namespace Go.Proofs.YtmjogmpgamlhaaaGreat
open Go Go.Proofs.YtmjogmpgamlhaaaGreat.Dm Go.RowKit
theorem wtp_m_14 : (cek wtkk_m 4 wtst_m_13 wtfr_m_13 wth_m_13).prune wtL_m_14 wtS_m_14 = .st wtst_m_14 wtfr_m_14 wth_m_14 := by kernel_rfl
end Go.Proofs.YtmjogmpgamlhaaaGreat

set_option maxRecDepth 100000
set_option maxHeartbeats 0
namespace Go.Proofs.YtmjogmpgamlhaaaGreat
open Go Go.Proofs.YtmjogmpgamlhaaaGreat.Dm Go.RowKit
theorem wtp_m_15 : (cek wtkk_m 4 wtst_m_14 wtfr_m_14 wth_m_14).prune wtL_m_15 wtS_m_15 = .st wtst_m_15 wtfr_m_15 wth_m_15 := by kernel_rfl
end Go.Proofs.YtmjogmpgamlhaaaGreat

set_option maxRecDepth 100000
set_option maxHeartbeats 0
namespace Go.Proofs.YtmjogmpgamlhaaaGreat
open Go Go.Proofs.YtmjogmpgamlhaaaGreat.Dm Go.RowKit
theorem wtp_m_16 : (cek wtkk_m 4 wtst_m_15 wtfr_m_15 wth_m_15).prune wtL_m_16 wtS_m_16 = .st wtst_m_16 wtfr_m_16 wth_m_16 := by kernel_rfl
end Go.Proofs.YtmjogmpgamlhaaaGreat

set_option maxRecDepth 100000
set_option maxHeartbeats 0
namespace Go.Proofs.YtmjogmpgamlhaaaGreat
open Go Go.Proofs.YtmjogmpgamlhaaaGreat.Dm Go.RowKit
theorem wtq_m : (lastK wtkk_m 4 wtst_m_16 wtfr_m_16 wth_m_16).prune [] [0] = .ret ⟨43, (Tr.e).put (some (.cv (.sc (.b true)))) 0⟩ ⟨4946, .e⟩ := by kernel_rfl
end Go.Proofs.YtmjogmpgamlhaaaGreat
