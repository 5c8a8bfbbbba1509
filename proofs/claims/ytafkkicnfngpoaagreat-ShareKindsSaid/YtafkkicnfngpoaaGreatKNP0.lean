import Derived.Test.YtafkkicnfngpoaaGreatKND0
set_option linter.unusedVariables false
set_option linter.unusedSimpArgs false
set_option linter.unusedSectionVars false
set_option maxRecDepth 100000
set_option maxHeartbeats 0
namespace Go.Proofs.YtafkkicnfngpoaaGreat
open Go Go.Proofs.YtafkkicnfngpoaaGreat.Dm Go.RowKit
theorem knp_a0 (J F : Int) : (cek kkS 13 [.code knbody] ⟨157, argsIn 0 [.cv (.sc (.cl .i64 false 6 J)), .cv (.sc (.cl .i64 false 6 F))] .e⟩ Heap.nil).prune knL_a0 knS_a0 = .st knst_a0 (knfr_a0 (kOf J) F) knh_a0 := by kernel_rfl
theorem knp_b0_0 (F : Int) : (cek kkS 3 knst_a0 (knfr_a0 (.ofNat 0) F) knh_a0).prune knL_b0_0 knS_b0_0 = .st knst_b0_0 (knfr_b0_0 0 F) knh_b0_0 := by kernel_rfl
theorem knp_b0_1 (F : Int) : (cek kkS 12 knst_b0_0 (knfr_b0_0 0 F) knh_b0_0).prune knL_b0_1 knS_b0_1 = .st knst_b0_1 (knfr_b0_1 0 F) knh_b0_1 := by kernel_rfl
theorem knp_b0_2 (F : Int) : (cek kkS 12 knst_b0_1 (knfr_b0_1 0 F) knh_b0_1).prune knL_b0_2 knS_b0_2 = .st knst_b0_2 (knfr_b0_2 0 (kOf F)) knh_b0_2 := by kernel_rfl
end Go.Proofs.YtafkkicnfngpoaaGreat

set_option maxRecDepth 100000
set_option maxHeartbeats 0
namespace Go.Proofs.YtafkkicnfngpoaaGreat
open Go Go.Proofs.YtafkkicnfngpoaaGreat.Dm Go.RowKit
theorem knq_c00_ : (lastK kkS 8 knst_b0_2 (knfr_b0_2 0 (.ofNat 0)) knh_b0_2).prune [] [4] = .ret ⟨157, (Tr.e).put (some (.cv (.sc (.b true)))) 4⟩ ⟨622, .e⟩ := by kernel_rfl
theorem knq_c01_ : (lastK kkS 8 knst_b0_2 (knfr_b0_2 0 (.ofNat 1)) knh_b0_2).prune [] [4] = .ret ⟨157, (Tr.e).put (some (.cv (.sc (.b true)))) 4⟩ ⟨605, .e⟩ := by kernel_rfl
theorem knq_c02_ : (lastK kkS 8 knst_b0_2 (knfr_b0_2 0 (.ofNat 2)) knh_b0_2).prune [] [4] = .ret ⟨157, (Tr.e).put (some (.cv (.sc (.b true)))) 4⟩ ⟨836, .e⟩ := by kernel_rfl
theorem knq_c03_ : (lastK kkS 8 knst_b0_2 (knfr_b0_2 0 (.ofNat 3)) knh_b0_2).prune [] [4] = .ret ⟨157, (Tr.e).put (some (.cv (.sc (.b true)))) 4⟩ ⟨605, .e⟩ := by kernel_rfl
end Go.Proofs.YtafkkicnfngpoaaGreat

set_option maxRecDepth 100000
set_option maxHeartbeats 0
namespace Go.Proofs.YtafkkicnfngpoaaGreat
open Go Go.Proofs.YtafkkicnfngpoaaGreat.Dm Go.RowKit
theorem knq_c04_ : (lastK kkS 8 knst_b0_2 (knfr_b0_2 0 (.ofNat 4)) knh_b0_2).prune [] [4] = .ret ⟨157, (Tr.e).put (some (.cv (.sc (.b true)))) 4⟩ ⟨605, .e⟩ := by kernel_rfl
theorem knq_c05_ : (lastK kkS 8 knst_b0_2 (knfr_b0_2 0 (.ofNat 5)) knh_b0_2).prune [] [4] = .ret ⟨157, (Tr.e).put (some (.cv (.sc (.b true)))) 4⟩ ⟨602, .e⟩ := by kernel_rfl
theorem knp_b1_0 (F : Int) : (cek kkS 3 knst_a0 (knfr_a0 (.ofNat 1) F) knh_a0).prune knL_b1_0 knS_b1_0 = .st knst_b1_0 (knfr_b1_0 0 F) knh_b1_0 := by kernel_rfl
theorem knp_b1_1 (F : Int) : (cek kkS 8 knst_b1_0 (knfr_b1_0 0 F) knh_b1_0).prune knL_b1_1 knS_b1_1 = .st knst_b1_1 (knfr_b1_1 0 F) knh_b1_1 := by kernel_rfl
end Go.Proofs.YtafkkicnfngpoaaGreat

set_option maxRecDepth 100000
set_option maxHeartbeats 0
namespace Go.Proofs.YtafkkicnfngpoaaGreat
open Go Go.Proofs.YtafkkicnfngpoaaGreat.Dm Go.RowKit
theorem knp_b1_2 (F : Int) : (cek kkS 16 knst_b1_1 (knfr_b1_1 0 F) knh_b1_1).prune knL_b1_2 knS_b1_2 = .st knst_b1_2 (knfr_b1_2 0 (kOf F)) knh_b1_2 := by kernel_rfl
theorem knq_c10_ : (lastK kkS 8 knst_b1_2 (knfr_b1_2 0 (.ofNat 0)) knh_b1_2).prune [] [4] = .ret ⟨157, (Tr.e).put (some (.cv (.sc (.b true)))) 4⟩ ⟨630, .e⟩ := by kernel_rfl
theorem knq_c11_ : (lastK kkS 8 knst_b1_2 (knfr_b1_2 0 (.ofNat 1)) knh_b1_2).prune [] [4] = .ret ⟨157, (Tr.e).put (some (.cv (.sc (.b true)))) 4⟩ ⟨639, .e⟩ := by kernel_rfl
theorem knq_c12_ : (lastK kkS 8 knst_b1_2 (knfr_b1_2 0 (.ofNat 2)) knh_b1_2).prune [] [4] = .ret ⟨157, (Tr.e).put (some (.cv (.sc (.b true)))) 4⟩ ⟨626, .e⟩ := by kernel_rfl
end Go.Proofs.YtafkkicnfngpoaaGreat
