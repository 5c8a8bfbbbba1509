import Derived.Test.YtmjogmpgamlhaaaGreatCB
set_option linter.unusedVariables false
set_option linter.unusedSimpArgs false
set_option linter.unusedSectionVars false
set_option maxRecDepth 100000
set_option maxHeartbeats 0
namespace Go.Proofs.YtmjogmpgamlhaaaGreat
open Go Go.Proofs.YtmjogmpgamlhaaaGreat.Dm Go.RowKit
theorem dgp_d0_0 : (cek dgkk_d0 8001 [.code dgbody385] ⟨39, argsIn 0 dgargs_d0 .e⟩ dgh0_d0).prune dgL_d0_0 dgS_d0_0 = .st dgst_d0_0 dgfr_d0_0 dgh_d0_0 := by kernel_rfl
theorem dgp_d0_1 : (cek dgkk_d0 8001 dgst_d0_0 dgfr_d0_0 dgh_d0_0).prune dgL_d0_1 dgS_d0_1 = .st dgst_d0_1 dgfr_d0_1 dgh_d0_1 := by kernel_rfl
end Go.Proofs.YtmjogmpgamlhaaaGreat

set_option maxRecDepth 100000
set_option maxHeartbeats 0
namespace Go.Proofs.YtmjogmpgamlhaaaGreat
open Go Go.Proofs.YtmjogmpgamlhaaaGreat.Dm Go.RowKit
theorem dgp_d0_2 : (cek dgkk_d0 8001 dgst_d0_1 dgfr_d0_1 dgh_d0_1).prune dgL_d0_2 dgS_d0_2 = .st dgst_d0_2 dgfr_d0_2 dgh_d0_2 := by kernel_rfl
theorem dgp_d0_3 : (cek dgkk_d0 8001 dgst_d0_2 dgfr_d0_2 dgh_d0_2).prune dgL_d0_3 dgS_d0_3 = .st dgst_d0_3 dgfr_d0_3 dgh_d0_3 := by kernel_rfl
end Go.Proofs.YtmjogmpgamlhaaaGreat
