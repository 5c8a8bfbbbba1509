import Derived.Test.YtafkkicnfngpoaaGreatKND0
set_option linter.unusedVariables false
set_option linter.unusedSimpArgs false
set_option linter.unusedSectionVars false
set_option maxRecDepth 100000
set_option maxHeartbeats 0
namespace Go.Proofs.YtafkkicnfngpoaaGreat
open Go Go.Proofs.YtafkkicnfngpoaaGreat.Dm Go.RowKit
theorem knq_c40_ : (lastK kkS 8 knst_b4_1 (knfr_b4_1 0 (.ofNat 0)) knh_b4_1).prune [] [4] = .ret ⟨157, (Tr.e).put (some (.cv (.sc (.b true)))) 4⟩ ⟨611, .e⟩ := by kernel_rfl
theorem knq_c41_ : (lastK kkS 8 knst_b4_1 (knfr_b4_1 0 (.ofNat 1)) knh_b4_1).prune [] [4] = .ret ⟨157, (Tr.e).put (some (.cv (.sc (.b true)))) 4⟩ ⟨607, .e⟩ := by kernel_rfl
theorem knq_c42_ : (lastK kkS 8 knst_b4_1 (knfr_b4_1 0 (.ofNat 2)) knh_b4_1).prune [] [4] = .ret ⟨157, (Tr.e).put (some (.cv (.sc (.b true)))) 4⟩ ⟨607, .e⟩ := by kernel_rfl
theorem knq_c43_ : (lastK kkS 8 knst_b4_1 (knfr_b4_1 0 (.ofNat 3)) knh_b4_1).prune [] [4] = .ret ⟨157, (Tr.e).put (some (.cv (.sc (.b true)))) 4⟩ ⟨843, .e⟩ := by kernel_rfl
end Go.Proofs.YtafkkicnfngpoaaGreat

set_option maxRecDepth 100000
set_option maxHeartbeats 0
namespace Go.Proofs.YtafkkicnfngpoaaGreat
open Go Go.Proofs.YtafkkicnfngpoaaGreat.Dm Go.RowKit
theorem knq_c44_ : (lastK kkS 8 knst_b4_1 (knfr_b4_1 0 (.ofNat 4)) knh_b4_1).prune [] [4] = .ret ⟨157, (Tr.e).put (some (.cv (.sc (.b true)))) 4⟩ ⟨607, .e⟩ := by kernel_rfl
theorem knq_c45_ : (lastK kkS 8 knst_b4_1 (knfr_b4_1 0 (.ofNat 5)) knh_b4_1).prune [] [4] = .ret ⟨157, (Tr.e).put (some (.cv (.sc (.b true)))) 4⟩ ⟨604, .e⟩ := by kernel_rfl
theorem knp_b5_0 (F : Int) : (cek kkS 27 knst_a0 (knfr_a0 (.ofNat 5) F) knh_a0).prune knL_b5_0 knS_b5_0 = .st knst_b5_0 (knfr_b5_0 0 (kOf F)) knh_b5_0 := by kernel_rfl
theorem knq_c50_ : (lastK kkS 8 knst_b5_0 (knfr_b5_0 0 (.ofNat 0)) knh_b5_0).prune [] [4] = .ret ⟨157, (Tr.e).put (some (.cv (.sc (.b true)))) 4⟩ ⟨359, .e⟩ := by kernel_rfl
end Go.Proofs.YtafkkicnfngpoaaGreat

set_option maxRecDepth 100000
set_option maxHeartbeats 0
namespace Go.Proofs.YtafkkicnfngpoaaGreat
open Go Go.Proofs.YtafkkicnfngpoaaGreat.Dm Go.RowKit
theorem knq_c51_ : (lastK kkS 8 knst_b5_0 (knfr_b5_0 0 (.ofNat 1)) knh_b5_0).prune [] [4] = .ret ⟨157, (Tr.e).put (some (.cv (.sc (.b true)))) 4⟩ ⟨359, .e⟩ := by kernel_rfl
theorem knq_c52_ : (lastK kkS 8 knst_b5_0 (knfr_b5_0 0 (.ofNat 2)) knh_b5_0).prune [] [4] = .ret ⟨157, (Tr.e).put (some (.cv (.sc (.b true)))) 4⟩ ⟨358, .e⟩ := by kernel_rfl
theorem knq_c53_ : (lastK kkS 8 knst_b5_0 (knfr_b5_0 0 (.ofNat 3)) knh_b5_0).prune [] [4] = .ret ⟨157, (Tr.e).put (some (.cv (.sc (.b true)))) 4⟩ ⟨359, .e⟩ := by kernel_rfl
theorem knq_c54_ : (lastK kkS 8 knst_b5_0 (knfr_b5_0 0 (.ofNat 4)) knh_b5_0).prune [] [4] = .ret ⟨157, (Tr.e).put (some (.cv (.sc (.b true)))) 4⟩ ⟨359, .e⟩ := by kernel_rfl
end Go.Proofs.YtafkkicnfngpoaaGreat

set_option maxRecDepth 100000
set_option maxHeartbeats 0
namespace Go.Proofs.YtafkkicnfngpoaaGreat
open Go Go.Proofs.YtafkkicnfngpoaaGreat.Dm Go.RowKit
theorem knq_c55_ : (lastK kkS 8 knst_b5_0 (knfr_b5_0 0 (.ofNat 5)) knh_b5_0).prune [] [4] = .ret ⟨157, (Tr.e).put (some (.cv (.sc (.b true)))) 4⟩ ⟨601, .e⟩ := by kernel_rfl
end Go.Proofs.YtafkkicnfngpoaaGreat
