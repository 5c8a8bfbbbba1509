import Derived.Test.YtmjogmpgamlhaaaGreatWMD0
set_option linter.unusedVariables false
set_option linter.unusedSimpArgs false
set_option linter.unusedSectionVars false
set_option maxRecDepth 100000
set_option maxHeartbeats 0
namespace Go.Proofs.YtmjogmpgamlhaaaGreat
open Go Go.Proofs.YtmjogmpgamlhaaaGreat.Dm Go.RowKit
theorem wmp_k0_0 : (cek wmkk_k0 901 [.code wmbody70] ⟨87, argsIn 0 wmargs_k0 .e⟩ wmh0_k0).prune wmL_k0_0 wmS_k0_0 = .st wmst_k0_0 wmfr_k0_0 wmh_k0_0 := by kernel_rfl
end Go.Proofs.YtmjogmpgamlhaaaGreat

set_option maxRecDepth 100000
set_option maxHeartbeats 0
namespace Go.Proofs.YtmjogmpgamlhaaaGreat
open Go Go.Proofs.YtmjogmpgamlhaaaGreat.Dm Go.RowKit
theorem wmp_k0_1 : (cek wmkk_k0 901 wmst_k0_0 wmfr_k0_0 wmh_k0_0).prune wmL_k0_1 wmS_k0_1 = .st wmst_k0_1 wmfr_k0_1 wmh_k0_1 := by kernel_rfl
end Go.Proofs.YtmjogmpgamlhaaaGreat

set_option maxRecDepth 100000
set_option maxHeartbeats 0
namespace Go.Proofs.YtmjogmpgamlhaaaGreat
open Go Go.Proofs.YtmjogmpgamlhaaaGreat.Dm Go.RowKit
theorem wmp_k0_2 : (cek wmkk_k0 901 wmst_k0_1 wmfr_k0_1 wmh_k0_1).prune wmL_k0_2 wmS_k0_2 = .st wmst_k0_2 wmfr_k0_2 wmh_k0_2 := by kernel_rfl
end Go.Proofs.YtmjogmpgamlhaaaGreat

set_option maxRecDepth 100000
set_option maxHeartbeats 0
namespace Go.Proofs.YtmjogmpgamlhaaaGreat
open Go Go.Proofs.YtmjogmpgamlhaaaGreat.Dm Go.RowKit
theorem wmp_k0_3 : (cek wmkk_k0 901 wmst_k0_2 wmfr_k0_2 wmh_k0_2).prune wmL_k0_3 wmS_k0_3 = .st wmst_k0_3 wmfr_k0_3 wmh_k0_3 := by kernel_rfl
end Go.Proofs.YtmjogmpgamlhaaaGreat

set_option maxRecDepth 100000
set_option maxHeartbeats 0
namespace Go.Proofs.YtmjogmpgamlhaaaGreat
open Go Go.Proofs.YtmjogmpgamlhaaaGreat.Dm Go.RowKit
theorem wmp_k0_4 : (cek wmkk_k0 901 wmst_k0_3 wmfr_k0_3 wmh_k0_3).prune wmL_k0_4 wmS_k0_4 = .st wmst_k0_4 wmfr_k0_4 wmh_k0_4 := by kernel_rfl
end Go.Proofs.YtmjogmpgamlhaaaGreat

set_option maxRecDepth 100000
set_option maxHeartbeats 0
namespace Go.Proofs.YtmjogmpgamlhaaaGreat
open Go Go.Proofs.YtmjogmpgamlhaaaGreat.Dm Go.RowKit
theorem wmq_k0 : (lastK wmkk_k0 329 wmst_k0_4 wmfr_k0_4 wmh_k0_4).prune wmL_k0 wmS_k0 = .ret wmfrT_k0 wmhT_k0 := by kernel_rfl
end Go.Proofs.YtmjogmpgamlhaaaGreat

set_option maxRecDepth 100000
set_option maxHeartbeats 0
namespace Go.Proofs.YtmjogmpgamlhaaaGreat
open Go Go.Proofs.YtmjogmpgamlhaaaGreat.Dm Go.RowKit
theorem wmp_m_0 (X0 X1 : AV) : (cek wmkk_m 27 [.code wmbody3] ⟨167, argsIn 0 [X0, X1] .e⟩ Heap.nil).prune wmL_m_0 wmS_m_0 = .st wmst_m_0 (wmfr_m_0 X0 X1) wmh_m_0 := by kernel_rfl
end Go.Proofs.YtmjogmpgamlhaaaGreat

set_option maxRecDepth 100000
set_option maxHeartbeats 0
namespace Go.Proofs.YtmjogmpgamlhaaaGreat
open Go Go.Proofs.YtmjogmpgamlhaaaGreat.Dm Go.RowKit
theorem wmp_m_1 (X0 X1 : AV) : (cek wmkk_m 27 wmst_m_0 (wmfr_m_0 X0 X1) wmh_m_0).prune wmL_m_1 wmS_m_1 = .st wmst_m_1 (wmfr_m_1 X0 X1) wmh_m_1 := by kernel_rfl
end Go.Proofs.YtmjogmpgamlhaaaGreat
