import Derived.Test.YtafkkicnfngpoaaGreatKND0
set_option linter.unusedVariables false
set_option linter.unusedSimpArgs false
set_option linter.unusedSectionVars false
set_option maxRecDepth 100000
set_option maxHeartbeats 0
namespace Go.Proofs.YtafkkicnfngpoaaGreat
open Go Go.Proofs.YtafkkicnfngpoaaGreat.Dm Go.RowKit
theorem knq_c13_ : (lastK kkS 8 knst_b1_2 (knfr_b1_2 0 (.ofNat 3)) knh_b1_2).prune [] [4] = .ret ⟨157, (Tr.e).put (some (.cv (.sc (.b true)))) 4⟩ ⟨626, .e⟩ := by kernel_rfl
theorem knq_c14_ : (lastK kkS 8 knst_b1_2 (knfr_b1_2 0 (.ofNat 4)) knh_b1_2).prune [] [4] = .ret ⟨157, (Tr.e).put (some (.cv (.sc (.b true)))) 4⟩ ⟨636, .e⟩ := by kernel_rfl
theorem knq_c15_ : (lastK kkS 8 knst_b1_2 (knfr_b1_2 0 (.ofNat 5)) knh_b1_2).prune [] [4] = .ret ⟨157, (Tr.e).put (some (.cv (.sc (.b true)))) 4⟩ ⟨623, .e⟩ := by kernel_rfl
theorem knp_b3_0 (F : Int) : (cek kkS 3 knst_a0 (knfr_a0 (.ofNat 3) F) knh_a0).prune knL_b3_0 knS_b3_0 = .st knst_b3_0 (knfr_b3_0 0 F) knh_b3_0 := by kernel_rfl
end Go.Proofs.YtafkkicnfngpoaaGreat

set_option maxRecDepth 100000
set_option maxHeartbeats 0
namespace Go.Proofs.YtafkkicnfngpoaaGreat
open Go Go.Proofs.YtafkkicnfngpoaaGreat.Dm Go.RowKit
theorem knp_b3_1 (F : Int) : (cek kkS 8 knst_b3_0 (knfr_b3_0 0 F) knh_b3_0).prune knL_b3_1 knS_b3_1 = .st knst_b3_1 (knfr_b3_1 0 F) knh_b3_1 := by kernel_rfl
theorem knp_b3_2 (F : Int) : (cek kkS 16 knst_b3_1 (knfr_b3_1 0 F) knh_b3_1).prune knL_b3_2 knS_b3_2 = .st knst_b3_2 (knfr_b3_2 0 (kOf F)) knh_b3_2 := by kernel_rfl
theorem knp_c30_0 : (cek kkS 4 knst_b3_2 (knfr_b3_2 0 (.ofNat 0)) knh_b3_2).prune knL_c30_0 knS_c30_0 = .st knst_c30_0 (knfr_c30_0 0 (.ofNat 0)) knh_c30_0 := by kernel_rfl
theorem knp_c30_1 : (cek kkS 3 knst_c30_0 (knfr_c30_0 0 (.ofNat 0)) knh_c30_0).prune knL_c30_1 knS_c30_1 = .st knst_c30_1 (knfr_c30_1 0 (.ofNat 0)) knh_c30_1 := by kernel_rfl
end Go.Proofs.YtafkkicnfngpoaaGreat

set_option maxRecDepth 100000
set_option maxHeartbeats 0
namespace Go.Proofs.YtafkkicnfngpoaaGreat
open Go Go.Proofs.YtafkkicnfngpoaaGreat.Dm Go.RowKit
theorem knq_c30_ : (lastK kkS 1 knst_c30_1 (knfr_c30_1 0 (.ofNat 0)) knh_c30_1).prune [] [4] = .ret ⟨157, (Tr.e).put (some (.cv (.sc (.b true)))) 4⟩ ⟨1163, .e⟩ := by kernel_rfl
theorem knq_c31_ : (lastK kkS 8 knst_b3_2 (knfr_b3_2 0 (.ofNat 1)) knh_b3_2).prune [] [4] = .ret ⟨157, (Tr.e).put (some (.cv (.sc (.b true)))) 4⟩ ⟨846, .e⟩ := by kernel_rfl
theorem knq_c32_ : (lastK kkS 8 knst_b3_2 (knfr_b3_2 0 (.ofNat 2)) knh_b3_2).prune [] [4] = .ret ⟨157, (Tr.e).put (some (.cv (.sc (.b true)))) 4⟩ ⟨898, .e⟩ := by kernel_rfl
theorem knq_c33_ : (lastK kkS 8 knst_b3_2 (knfr_b3_2 0 (.ofNat 3)) knh_b3_2).prune [] [4] = .ret ⟨157, (Tr.e).put (some (.cv (.sc (.b true)))) 4⟩ ⟨846, .e⟩ := by kernel_rfl
end Go.Proofs.YtafkkicnfngpoaaGreat

set_option maxRecDepth 100000
set_option maxHeartbeats 0
namespace Go.Proofs.YtafkkicnfngpoaaGreat
open Go Go.Proofs.YtafkkicnfngpoaaGreat.Dm Go.RowKit
theorem knq_c34_ : (lastK kkS 8 knst_b3_2 (knfr_b3_2 0 (.ofNat 4)) knh_b3_2).prune [] [4] = .ret ⟨157, (Tr.e).put (some (.cv (.sc (.b true)))) 4⟩ ⟨846, .e⟩ := by kernel_rfl
theorem knq_c35_ : (lastK kkS 8 knst_b3_2 (knfr_b3_2 0 (.ofNat 5)) knh_b3_2).prune [] [4] = .ret ⟨157, (Tr.e).put (some (.cv (.sc (.b true)))) 4⟩ ⟨843, .e⟩ := by kernel_rfl
theorem knp_b4_0 (F : Int) : (cek kkS 11 knst_a0 (knfr_a0 (.ofNat 4) F) knh_a0).prune knL_b4_0 knS_b4_0 = .st knst_b4_0 (knfr_b4_0 0 F) knh_b4_0 := by kernel_rfl
theorem knp_b4_1 (F : Int) : (cek kkS 16 knst_b4_0 (knfr_b4_0 0 F) knh_b4_0).prune knL_b4_1 knS_b4_1 = .st knst_b4_1 (knfr_b4_1 0 (kOf F)) knh_b4_1 := by kernel_rfl
end Go.Proofs.YtafkkicnfngpoaaGreat
