import Derived.Test.YtmjogmpgamlhaaaGreatCB
set_option linter.unusedVariables false
set_option linter.unusedSimpArgs false
set_option linter.unusedSectionVars false
set_option maxRecDepth 100000
set_option maxHeartbeats 0
namespace Go.Proofs.YtmjogmpgamlhaaaGreat
open Go Go.Proofs.YtmjogmpgamlhaaaGreat.Dm Go.RowKit
theorem wtp_k0_0 : (cek wtkk_k0 901 [.code wtbody70] ⟨87, argsIn 0 wtargs_k0 .e⟩ wth0_k0).prune wtL_k0_0 wtS_k0_0 = .st wtst_k0_0 wtfr_k0_0 wth_k0_0 := by kernel_rfl
end Go.Proofs.YtmjogmpgamlhaaaGreat

set_option maxRecDepth 100000
set_option maxHeartbeats 0
namespace Go.Proofs.YtmjogmpgamlhaaaGreat
open Go Go.Proofs.YtmjogmpgamlhaaaGreat.Dm Go.RowKit
theorem wtp_k0_1 : (cek wtkk_k0 901 wtst_k0_0 wtfr_k0_0 wth_k0_0).prune wtL_k0_1 wtS_k0_1 = .st wtst_k0_1 wtfr_k0_1 wth_k0_1 := by kernel_rfl
end Go.Proofs.YtmjogmpgamlhaaaGreat

set_option maxRecDepth 100000
set_option maxHeartbeats 0
namespace Go.Proofs.YtmjogmpgamlhaaaGreat
open Go Go.Proofs.YtmjogmpgamlhaaaGreat.Dm Go.RowKit
theorem wtp_k0_2 : (cek wtkk_k0 901 wtst_k0_1 wtfr_k0_1 wth_k0_1).prune wtL_k0_2 wtS_k0_2 = .st wtst_k0_2 wtfr_k0_2 wth_k0_2 := by kernel_rfl
end Go.Proofs.YtmjogmpgamlhaaaGreat

set_option maxRecDepth 100000
set_option maxHeartbeats 0
namespace Go.Proofs.YtmjogmpgamlhaaaGreat
open Go Go.Proofs.YtmjogmpgamlhaaaGreat.Dm Go.RowKit
theorem wtp_k0_3 : (cek wtkk_k0 901 wtst_k0_2 wtfr_k0_2 wth_k0_2).prune wtL_k0_3 wtS_k0_3 = .st wtst_k0_3 wtfr_k0_3 wth_k0_3 := by kernel_rfl
end Go.Proofs.YtmjogmpgamlhaaaGreat

set_option maxRecDepth 100000
set_option maxHeartbeats 0
namespace Go.Proofs.YtmjogmpgamlhaaaGreat
open Go Go.Proofs.YtmjogmpgamlhaaaGreat.Dm Go.RowKit
theorem wtp_k0_4 : (cek wtkk_k0 901 wtst_k0_3 wtfr_k0_3 wth_k0_3).prune wtL_k0_4 wtS_k0_4 = .st wtst_k0_4 wtfr_k0_4 wth_k0_4 := by kernel_rfl
end Go.Proofs.YtmjogmpgamlhaaaGreat

set_option maxRecDepth 100000
set_option maxHeartbeats 0
namespace Go.Proofs.YtmjogmpgamlhaaaGreat
open Go Go.Proofs.YtmjogmpgamlhaaaGreat.Dm Go.RowKit
theorem wtq_k0 : (lastK wtkk_k0 329 wtst_k0_4 wtfr_k0_4 wth_k0_4).prune wtL_k0 wtS_k0 = .ret wtfrT_k0 wthT_k0 := by kernel_rfl
end Go.Proofs.YtmjogmpgamlhaaaGreat

set_option maxRecDepth 100000
set_option maxHeartbeats 0
namespace Go.Proofs.YtmjogmpgamlhaaaGreat
open Go Go.Proofs.YtmjogmpgamlhaaaGreat.Dm Go.RowKit
theorem wtp_k1_0 : (cek wtkk_k1 14001 [.code wtbody215] ⟨25, argsIn 0 wtargs_k1 .e⟩ wth0_k1).prune wtL_k1_0 wtS_k1_0 = .st wtst_k1_0 wtfr_k1_0 wth_k1_0 := by kernel_rfl
end Go.Proofs.YtmjogmpgamlhaaaGreat

set_option maxRecDepth 100000
set_option maxHeartbeats 0
namespace Go.Proofs.YtmjogmpgamlhaaaGreat
open Go Go.Proofs.YtmjogmpgamlhaaaGreat.Dm Go.RowKit
theorem wtp_k1_1 : (cek wtkk_k1 14001 wtst_k1_0 wtfr_k1_0 wth_k1_0).prune wtL_k1_1 wtS_k1_1 = .st wtst_k1_1 wtfr_k1_1 wth_k1_1 := by kernel_rfl
end Go.Proofs.YtmjogmpgamlhaaaGreat
