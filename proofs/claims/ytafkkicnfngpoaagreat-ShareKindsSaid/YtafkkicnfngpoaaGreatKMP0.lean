import Derived.Test.YtafkkicnfngpoaaGreatKM0
set_option linter.unusedVariables false
set_option linter.unusedSimpArgs false
set_option linter.unusedSectionVars false
set_option maxRecDepth 100000
set_option maxHeartbeats 0
namespace Go.Proofs.YtafkkicnfngpoaaGreat
open Go Go.Proofs.YtafkkicnfngpoaaGreat.Dm Go.RowKit
theorem kmp_b2_0 (F : Int) : (cek kkM 3 knst_a0 (knfr_a0 (.ofNat 2) F) knh_a0).prune kmL_b2_0 kmS_b2_0 = .st kmst_b2_0 (kmfr_b2_0 0 F) kmh_b2_0 := by kernel_rfl
theorem kmp_b2_1 (F : Int) : (cek kkM 8 kmst_b2_0 (kmfr_b2_0 0 F) kmh_b2_0).prune kmL_b2_1 kmS_b2_1 = .st kmst_b2_1 (kmfr_b2_1 0 F) kmh_b2_1 := by kernel_rfl
end Go.Proofs.YtafkkicnfngpoaaGreat

set_option maxRecDepth 100000
set_option maxHeartbeats 0
namespace Go.Proofs.YtafkkicnfngpoaaGreat
open Go Go.Proofs.YtafkkicnfngpoaaGreat.Dm Go.RowKit
theorem kmp_b2_2 (F : Int) : (cek kkM 4 kmst_b2_1 (kmfr_b2_1 0 F) kmh_b2_1).prune kmL_b2_2 kmS_b2_2 = .st kmst_b2_2 (kmfr_b2_2 0 F) kmh_b2_2 := by kernel_rfl
theorem kmp_b2_3 (F : Int) : (cek kkM 12 kmst_b2_2 (kmfr_b2_2 0 F) kmh_b2_2).prune kmL_b2_3 kmS_b2_3 = .st kmst_b2_3 (kmfr_b2_3 0 (kOf F)) kmh_b2_3 := by kernel_rfl
end Go.Proofs.YtafkkicnfngpoaaGreat

set_option maxRecDepth 100000
set_option maxHeartbeats 0
namespace Go.Proofs.YtafkkicnfngpoaaGreat
open Go Go.Proofs.YtafkkicnfngpoaaGreat.Dm Go.RowKit
theorem kmp_c20_0 : (cek kkM 4 kmst_b2_3 (kmfr_b2_3 0 (.ofNat 0)) kmh_b2_3).prune kmL_c20_0 kmS_c20_0 = .st kmst_c20_0 (kmfr_c20_0 0 (.ofNat 0)) kmh_c20_0 := by kernel_rfl
theorem kmp_c20_1 : (cek kkM 3 kmst_c20_0 (kmfr_c20_0 0 (.ofNat 0)) kmh_c20_0).prune kmL_c20_1 kmS_c20_1 = .st kmst_c20_1 (kmfr_c20_1 0 (.ofNat 0)) kmh_c20_1 := by kernel_rfl
end Go.Proofs.YtafkkicnfngpoaaGreat

set_option maxRecDepth 100000
set_option maxHeartbeats 0
namespace Go.Proofs.YtafkkicnfngpoaaGreat
open Go Go.Proofs.YtafkkicnfngpoaaGreat.Dm Go.RowKit
theorem kmq_c20_ : (lastK kkM 1 kmst_c20_1 (kmfr_c20_1 0 (.ofNat 0)) kmh_c20_1).prune [] [4] = .ret ⟨157, (Tr.e).put (some (.cv (.sc (.b true)))) 4⟩ ⟨1848, .e⟩ := by kernel_rfl
theorem kmq_c21_ : (lastK kkM 8 kmst_b2_3 (kmfr_b2_3 0 (.ofNat 1)) kmh_b2_3).prune [] [4] = .ret ⟨157, (Tr.e).put (some (.cv (.sc (.b true)))) 4⟩ ⟨1403, .e⟩ := by kernel_rfl
end Go.Proofs.YtafkkicnfngpoaaGreat

set_option maxRecDepth 100000
set_option maxHeartbeats 0
namespace Go.Proofs.YtafkkicnfngpoaaGreat
open Go Go.Proofs.YtafkkicnfngpoaaGreat.Dm Go.RowKit
theorem kmq_c22_ : (lastK kkM 8 kmst_b2_3 (kmfr_b2_3 0 (.ofNat 2)) kmh_b2_3).prune [] [4] = .ret ⟨157, (Tr.e).put (some (.cv (.sc (.b true)))) 4⟩ ⟨1626, .e⟩ := by kernel_rfl
theorem kmq_c23_ : (lastK kkM 8 kmst_b2_3 (kmfr_b2_3 0 (.ofNat 3)) kmh_b2_3).prune [] [4] = .ret ⟨157, (Tr.e).put (some (.cv (.sc (.b true)))) 4⟩ ⟨1403, .e⟩ := by kernel_rfl
end Go.Proofs.YtafkkicnfngpoaaGreat

set_option maxRecDepth 100000
set_option maxHeartbeats 0
namespace Go.Proofs.YtafkkicnfngpoaaGreat
open Go Go.Proofs.YtafkkicnfngpoaaGreat.Dm Go.RowKit
theorem kmq_c24_ : (lastK kkM 8 kmst_b2_3 (kmfr_b2_3 0 (.ofNat 4)) kmh_b2_3).prune [] [4] = .ret ⟨157, (Tr.e).put (some (.cv (.sc (.b true)))) 4⟩ ⟨1403, .e⟩ := by kernel_rfl
theorem kmq_c25_ : (lastK kkM 8 kmst_b2_3 (kmfr_b2_3 0 (.ofNat 5)) kmh_b2_3).prune [] [4] = .ret ⟨157, (Tr.e).put (some (.cv (.sc (.b true)))) 4⟩ ⟨1400, .e⟩ := by kernel_rfl
end Go.Proofs.YtafkkicnfngpoaaGreat
