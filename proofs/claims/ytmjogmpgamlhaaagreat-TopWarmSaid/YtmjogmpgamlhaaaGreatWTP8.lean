import Derived.Test.YtmjogmpgamlhaaaGreatCB
set_option linter.unusedVariables false
set_option linter.unusedSimpArgs false
set_option linter.unusedSectionVars false
set_option maxRecDepth 100000
set_option maxHeartbeats 0
namespace Go.Proofs.YtmjogmpgamlhaaaGreat
open Go Go.Proofs.YtmjogmpgamlhaaaGreat.Dm Go.RowKit
theorem wtp_k1_2 : (cek wtkk_k1 14001 wtst_k1_1 wtfr_k1_1 wth_k1_1).prune wtL_k1_2 wtS_k1_2 = .st wtst_k1_2 wtfr_k1_2 wth_k1_2 := by kernel_rfl
end Go.Proofs.YtmjogmpgamlhaaaGreat

set_option maxRecDepth 100000
set_option maxHeartbeats 0
namespace Go.Proofs.YtmjogmpgamlhaaaGreat
open Go Go.Proofs.YtmjogmpgamlhaaaGreat.Dm Go.RowKit
theorem wtp_k1_3 : (cek wtkk_k1 14001 wtst_k1_2 wtfr_k1_2 wth_k1_2).prune wtL_k1_3 wtS_k1_3 = .st wtst_k1_3 wtfr_k1_3 wth_k1_3 := by kernel_rfl
end Go.Proofs.YtmjogmpgamlhaaaGreat

set_option maxRecDepth 100000
set_option maxHeartbeats 0
namespace Go.Proofs.YtmjogmpgamlhaaaGreat
open Go Go.Proofs.YtmjogmpgamlhaaaGreat.Dm Go.RowKit
theorem wtq_k1 : (lastK wtkk_k1 1358 wtst_k1_3 wtfr_k1_3 wth_k1_3).prune wtL_k1 wtS_k1 = .ret wtfrT_k1 wthT_k1 := by kernel_rfl
end Go.Proofs.YtmjogmpgamlhaaaGreat

set_option maxRecDepth 100000
set_option maxHeartbeats 0
namespace Go.Proofs.YtmjogmpgamlhaaaGreat
open Go Go.Proofs.YtmjogmpgamlhaaaGreat.Dm Go.RowKit
theorem wtp_k2_0 : (cek wtkk_k2 14001 [.code wtbody215] ⟨25, argsIn 0 wtargs_k2 .e⟩ wth0_k2).prune wtL_k2_0 wtS_k2_0 = .st wtst_k2_0 wtfr_k2_0 wth_k2_0 := by kernel_rfl
end Go.Proofs.YtmjogmpgamlhaaaGreat

set_option maxRecDepth 100000
set_option maxHeartbeats 0
namespace Go.Proofs.YtmjogmpgamlhaaaGreat
open Go Go.Proofs.YtmjogmpgamlhaaaGreat.Dm Go.RowKit
theorem wtp_k2_1 : (cek wtkk_k2 14001 wtst_k2_0 wtfr_k2_0 wth_k2_0).prune wtL_k2_1 wtS_k2_1 = .st wtst_k2_1 wtfr_k2_1 wth_k2_1 := by kernel_rfl
end Go.Proofs.YtmjogmpgamlhaaaGreat

set_option maxRecDepth 100000
set_option maxHeartbeats 0
namespace Go.Proofs.YtmjogmpgamlhaaaGreat
open Go Go.Proofs.YtmjogmpgamlhaaaGreat.Dm Go.RowKit
theorem wtp_k2_2 : (cek wtkk_k2 14001 wtst_k2_1 wtfr_k2_1 wth_k2_1).prune wtL_k2_2 wtS_k2_2 = .st wtst_k2_2 wtfr_k2_2 wth_k2_2 := by kernel_rfl
end Go.Proofs.YtmjogmpgamlhaaaGreat

set_option maxRecDepth 100000
set_option maxHeartbeats 0
namespace Go.Proofs.YtmjogmpgamlhaaaGreat
open Go Go.Proofs.YtmjogmpgamlhaaaGreat.Dm Go.RowKit
theorem wtp_k2_3 : (cek wtkk_k2 14001 wtst_k2_2 wtfr_k2_2 wth_k2_2).prune wtL_k2_3 wtS_k2_3 = .st wtst_k2_3 wtfr_k2_3 wth_k2_3 := by kernel_rfl
end Go.Proofs.YtmjogmpgamlhaaaGreat

set_option maxRecDepth 100000
set_option maxHeartbeats 0
namespace Go.Proofs.YtmjogmpgamlhaaaGreat
open Go Go.Proofs.YtmjogmpgamlhaaaGreat.Dm Go.RowKit
theorem wtq_k2 : (lastK wtkk_k2 1358 wtst_k2_3 wtfr_k2_3 wth_k2_3).prune wtL_k2 wtS_k2 = .ret wtfrT_k2 wthT_k2 := by kernel_rfl
end Go.Proofs.YtmjogmpgamlhaaaGreat
