import Derived.Test.YtmjogmpgamlhaaaGreatCB
set_option linter.unusedVariables false
set_option linter.unusedSimpArgs false
set_option linter.unusedSectionVars false
set_option maxRecDepth 100000
set_option maxHeartbeats 0
namespace Go.Proofs.YtmjogmpgamlhaaaGreat
open Go Go.Proofs.YtmjogmpgamlhaaaGreat.Dm Go.RowKit
theorem dgp_d0_4 : (cek dgkk_d0 8001 dgst_d0_3 dgfr_d0_3 dgh_d0_3).prune dgL_d0_4 dgS_d0_4 = .st dgst_d0_4 dgfr_d0_4 dgh_d0_4 := by kernel_rfl
theorem dgp_d0_5 : (cek dgkk_d0 8001 dgst_d0_4 dgfr_d0_4 dgh_d0_4).prune dgL_d0_5 dgS_d0_5 = .st dgst_d0_5 dgfr_d0_5 dgh_d0_5 := by kernel_rfl
end Go.Proofs.YtmjogmpgamlhaaaGreat

set_option maxRecDepth 100000
set_option maxHeartbeats 0
namespace Go.Proofs.YtmjogmpgamlhaaaGreat
open Go Go.Proofs.YtmjogmpgamlhaaaGreat.Dm Go.RowKit
theorem dgp_d0_6 : (cek dgkk_d0 8001 dgst_d0_5 dgfr_d0_5 dgh_d0_5).prune dgL_d0_6 dgS_d0_6 = .st dgst_d0_6 dgfr_d0_6 dgh_d0_6 := by kernel_rfl
theorem dgq_d0 : (lastK dgkk_d0 5453 dgst_d0_6 dgfr_d0_6 dgh_d0_6).prune dgL_d0 dgS_d0 = .ret dgfrT_d0 dghT_d0 := by kernel_rfl
end Go.Proofs.YtmjogmpgamlhaaaGreat
