import Derived.Test.YtafkkicnfngpoaaGreatKNP0
import Derived.Test.YtafkkicnfngpoaaGreatKNP4
import Derived.Test.YtafkkicnfngpoaaGreatKNP8
set_option linter.unusedVariables false
set_option linter.unusedSimpArgs false
set_option linter.unusedSectionVars false
set_option maxRecDepth 100000
set_option maxHeartbeats 0
namespace Go.Proofs.YtafkkicnfngpoaaGreat
open Go Go.Proofs.YtafkkicnfngpoaaGreat.Dm Go.RowKit
theorem kne_a (J F : Int) (k : Dm.Ends Tryz.prog false ⟨157, (Tr.e).put (some (.cv (.sc (.b true)))) 4⟩ knst_a0 (knfr_a0 (kOf J) F) knh_a0) : Dm.Ends Tryz.prog false ⟨157, (Tr.e).put (some (.cv (.sc (.b true)))) 4⟩ [.code knbody] ⟨157, argsIn 0 [.cv (.sc (.cl .i64 false 6 J)), .cv (.sc (.cl .i64 false 6 F))] .e⟩ Heap.nil := Dm.Ends.piece kkS_ok (knp_a0 J F) rfl (k)
theorem kne_c00_ : Dm.Ends Tryz.prog false ⟨157, (Tr.e).put (some (.cv (.sc (.b true)))) 4⟩ knst_b0_2 (knfr_b0_2 0 (.ofNat 0)) knh_b0_2 := Dm.Ends.end_ kkS_ok knq_c00_ rfl
theorem kne_c01_ : Dm.Ends Tryz.prog false ⟨157, (Tr.e).put (some (.cv (.sc (.b true)))) 4⟩ knst_b0_2 (knfr_b0_2 0 (.ofNat 1)) knh_b0_2 := Dm.Ends.end_ kkS_ok knq_c01_ rfl
theorem kne_c02_ : Dm.Ends Tryz.prog false ⟨157, (Tr.e).put (some (.cv (.sc (.b true)))) 4⟩ knst_b0_2 (knfr_b0_2 0 (.ofNat 2)) knh_b0_2 := Dm.Ends.end_ kkS_ok knq_c02_ rfl
theorem kne_c03_ : Dm.Ends Tryz.prog false ⟨157, (Tr.e).put (some (.cv (.sc (.b true)))) 4⟩ knst_b0_2 (knfr_b0_2 0 (.ofNat 3)) knh_b0_2 := Dm.Ends.end_ kkS_ok knq_c03_ rfl
theorem kne_c04_ : Dm.Ends Tryz.prog false ⟨157, (Tr.e).put (some (.cv (.sc (.b true)))) 4⟩ knst_b0_2 (knfr_b0_2 0 (.ofNat 4)) knh_b0_2 := Dm.Ends.end_ kkS_ok knq_c04_ rfl
theorem kne_c05_ : Dm.Ends Tryz.prog false ⟨157, (Tr.e).put (some (.cv (.sc (.b true)))) 4⟩ knst_b0_2 (knfr_b0_2 0 (.ofNat 5)) knh_b0_2 := Dm.Ends.end_ kkS_ok knq_c05_ rfl
theorem kne_b0_ (F : Int) (hF : KOf F) : Dm.Ends Tryz.prog false ⟨157, (Tr.e).put (some (.cv (.sc (.b true)))) 4⟩ knst_a0 (knfr_a0 (.ofNat 0) F) knh_a0 := by
  have k : Dm.Ends Tryz.prog false ⟨157, (Tr.e).put (some (.cv (.sc (.b true)))) 4⟩ knst_b0_2 (knfr_b0_2 0 (kOf F)) knh_b0_2 := by
    rcases hF with h | h | h | h | h | h
    · rw [h]; exact kne_c00_
    · rw [h]; exact kne_c01_
    · rw [h]; exact kne_c02_
    · rw [h]; exact kne_c03_
    · rw [h]; exact kne_c04_
    · rw [h]; exact kne_c05_
  exact Dm.Ends.piece kkS_ok (knp_b0_0 F) rfl (Dm.Ends.piece kkS_ok (knp_b0_1 F) rfl (Dm.Ends.piece kkS_ok (knp_b0_2 F) rfl (k)))
theorem kne_c10_ : Dm.Ends Tryz.prog false ⟨157, (Tr.e).put (some (.cv (.sc (.b true)))) 4⟩ knst_b1_2 (knfr_b1_2 0 (.ofNat 0)) knh_b1_2 := Dm.Ends.end_ kkS_ok knq_c10_ rfl
theorem kne_c11_ : Dm.Ends Tryz.prog false ⟨157, (Tr.e).put (some (.cv (.sc (.b true)))) 4⟩ knst_b1_2 (knfr_b1_2 0 (.ofNat 1)) knh_b1_2 := Dm.Ends.end_ kkS_ok knq_c11_ rfl
theorem kne_c12_ : Dm.Ends Tryz.prog false ⟨157, (Tr.e).put (some (.cv (.sc (.b true)))) 4⟩ knst_b1_2 (knfr_b1_2 0 (.ofNat 2)) knh_b1_2 := Dm.Ends.end_ kkS_ok knq_c12_ rfl
theorem kne_c13_ : Dm.Ends Tryz.prog false ⟨157, (Tr.e).put (some (.cv (.sc (.b true)))) 4⟩ knst_b1_2 (knfr_b1_2 0 (.ofNat 3)) knh_b1_2 := Dm.Ends.end_ kkS_ok knq_c13_ rfl
theorem kne_c14_ : Dm.Ends Tryz.prog false ⟨157, (Tr.e).put (some (.cv (.sc (.b true)))) 4⟩ knst_b1_2 (knfr_b1_2 0 (.ofNat 4)) knh_b1_2 := Dm.Ends.end_ kkS_ok knq_c14_ rfl
theorem kne_c15_ : Dm.Ends Tryz.prog false ⟨157, (Tr.e).put (some (.cv (.sc (.b true)))) 4⟩ knst_b1_2 (knfr_b1_2 0 (.ofNat 5)) knh_b1_2 := Dm.Ends.end_ kkS_ok knq_c15_ rfl
theorem kne_b1_ (F : Int) (hF : KOf F) : Dm.Ends Tryz.prog false ⟨157, (Tr.e).put (some (.cv (.sc (.b true)))) 4⟩ knst_a0 (knfr_a0 (.ofNat 1) F) knh_a0 := by
  have k : Dm.Ends Tryz.prog false ⟨157, (Tr.e).put (some (.cv (.sc (.b true)))) 4⟩ knst_b1_2 (knfr_b1_2 0 (kOf F)) knh_b1_2 := by
    rcases hF with h | h | h | h | h | h
    · rw [h]; exact kne_c10_
    · rw [h]; exact kne_c11_
    · rw [h]; exact kne_c12_
    · rw [h]; exact kne_c13_
    · rw [h]; exact kne_c14_
    · rw [h]; exact kne_c15_
  exact Dm.Ends.piece kkS_ok (knp_b1_0 F) rfl (Dm.Ends.piece kkS_ok (knp_b1_1 F) rfl (Dm.Ends.piece kkS_ok (knp_b1_2 F) rfl (k)))
theorem kne_c30_ : Dm.Ends Tryz.prog false ⟨157, (Tr.e).put (some (.cv (.sc (.b true)))) 4⟩ knst_b3_2 (knfr_b3_2 0 (.ofNat 0)) knh_b3_2 := Dm.Ends.piece kkS_ok knp_c30_0 rfl (Dm.Ends.piece kkS_ok knp_c30_1 rfl (Dm.Ends.end_ kkS_ok knq_c30_ rfl))
theorem kne_c31_ : Dm.Ends Tryz.prog false ⟨157, (Tr.e).put (some (.cv (.sc (.b true)))) 4⟩ knst_b3_2 (knfr_b3_2 0 (.ofNat 1)) knh_b3_2 := Dm.Ends.end_ kkS_ok knq_c31_ rfl
theorem kne_c32_ : Dm.Ends Tryz.prog false ⟨157, (Tr.e).put (some (.cv (.sc (.b true)))) 4⟩ knst_b3_2 (knfr_b3_2 0 (.ofNat 2)) knh_b3_2 := Dm.Ends.end_ kkS_ok knq_c32_ rfl
theorem kne_c33_ : Dm.Ends Tryz.prog false ⟨157, (Tr.e).put (some (.cv (.sc (.b true)))) 4⟩ knst_b3_2 (knfr_b3_2 0 (.ofNat 3)) knh_b3_2 := Dm.Ends.end_ kkS_ok knq_c33_ rfl
theorem kne_c34_ : Dm.Ends Tryz.prog false ⟨157, (Tr.e).put (some (.cv (.sc (.b true)))) 4⟩ knst_b3_2 (knfr_b3_2 0 (.ofNat 4)) knh_b3_2 := Dm.Ends.end_ kkS_ok knq_c34_ rfl
theorem kne_c35_ : Dm.Ends Tryz.prog false ⟨157, (Tr.e).put (some (.cv (.sc (.b true)))) 4⟩ knst_b3_2 (knfr_b3_2 0 (.ofNat 5)) knh_b3_2 := Dm.Ends.end_ kkS_ok knq_c35_ rfl
theorem kne_b3_ (F : Int) (hF : KOf F) : Dm.Ends Tryz.prog false ⟨157, (Tr.e).put (some (.cv (.sc (.b true)))) 4⟩ knst_a0 (knfr_a0 (.ofNat 3) F) knh_a0 := by
  have k : Dm.Ends Tryz.prog false ⟨157, (Tr.e).put (some (.cv (.sc (.b true)))) 4⟩ knst_b3_2 (knfr_b3_2 0 (kOf F)) knh_b3_2 := by
    rcases hF with h | h | h | h | h | h
    · rw [h]; exact kne_c30_
    · rw [h]; exact kne_c31_
    · rw [h]; exact kne_c32_
    · rw [h]; exact kne_c33_
    · rw [h]; exact kne_c34_
    · rw [h]; exact kne_c35_
  exact Dm.Ends.piece kkS_ok (knp_b3_0 F) rfl (Dm.Ends.piece kkS_ok (knp_b3_1 F) rfl (Dm.Ends.piece kkS_ok (knp_b3_2 F) rfl (k)))
theorem kne_c40_ : Dm.Ends Tryz.prog false ⟨157, (Tr.e).put (some (.cv (.sc (.b true)))) 4⟩ knst_b4_1 (knfr_b4_1 0 (.ofNat 0)) knh_b4_1 := Dm.Ends.end_ kkS_ok knq_c40_ rfl
theorem kne_c41_ : Dm.Ends Tryz.prog false ⟨157, (Tr.e).put (some (.cv (.sc (.b true)))) 4⟩ knst_b4_1 (knfr_b4_1 0 (.ofNat 1)) knh_b4_1 := Dm.Ends.end_ kkS_ok knq_c41_ rfl
theorem kne_c42_ : Dm.Ends Tryz.prog false ⟨157, (Tr.e).put (some (.cv (.sc (.b true)))) 4⟩ knst_b4_1 (knfr_b4_1 0 (.ofNat 2)) knh_b4_1 := Dm.Ends.end_ kkS_ok knq_c42_ rfl
theorem kne_c43_ : Dm.Ends Tryz.prog false ⟨157, (Tr.e).put (some (.cv (.sc (.b true)))) 4⟩ knst_b4_1 (knfr_b4_1 0 (.ofNat 3)) knh_b4_1 := Dm.Ends.end_ kkS_ok knq_c43_ rfl
theorem kne_c44_ : Dm.Ends Tryz.prog false ⟨157, (Tr.e).put (some (.cv (.sc (.b true)))) 4⟩ knst_b4_1 (knfr_b4_1 0 (.ofNat 4)) knh_b4_1 := Dm.Ends.end_ kkS_ok knq_c44_ rfl
theorem kne_c45_ : Dm.Ends Tryz.prog false ⟨157, (Tr.e).put (some (.cv (.sc (.b true)))) 4⟩ knst_b4_1 (knfr_b4_1 0 (.ofNat 5)) knh_b4_1 := Dm.Ends.end_ kkS_ok knq_c45_ rfl
theorem kne_b4_ (F : Int) (hF : KOf F) : Dm.Ends Tryz.prog false ⟨157, (Tr.e).put (some (.cv (.sc (.b true)))) 4⟩ knst_a0 (knfr_a0 (.ofNat 4) F) knh_a0 := by
  have k : Dm.Ends Tryz.prog false ⟨157, (Tr.e).put (some (.cv (.sc (.b true)))) 4⟩ knst_b4_1 (knfr_b4_1 0 (kOf F)) knh_b4_1 := by
    rcases hF with h | h | h | h | h | h
    · rw [h]; exact kne_c40_
    · rw [h]; exact kne_c41_
    · rw [h]; exact kne_c42_
    · rw [h]; exact kne_c43_
    · rw [h]; exact kne_c44_
    · rw [h]; exact kne_c45_
  exact Dm.Ends.piece kkS_ok (knp_b4_0 F) rfl (Dm.Ends.piece kkS_ok (knp_b4_1 F) rfl (k))
theorem kne_c50_ : Dm.Ends Tryz.prog false ⟨157, (Tr.e).put (some (.cv (.sc (.b true)))) 4⟩ knst_b5_0 (knfr_b5_0 0 (.ofNat 0)) knh_b5_0 := Dm.Ends.end_ kkS_ok knq_c50_ rfl
theorem kne_c51_ : Dm.Ends Tryz.prog false ⟨157, (Tr.e).put (some (.cv (.sc (.b true)))) 4⟩ knst_b5_0 (knfr_b5_0 0 (.ofNat 1)) knh_b5_0 := Dm.Ends.end_ kkS_ok knq_c51_ rfl
theorem kne_c52_ : Dm.Ends Tryz.prog false ⟨157, (Tr.e).put (some (.cv (.sc (.b true)))) 4⟩ knst_b5_0 (knfr_b5_0 0 (.ofNat 2)) knh_b5_0 := Dm.Ends.end_ kkS_ok knq_c52_ rfl
theorem kne_c53_ : Dm.Ends Tryz.prog false ⟨157, (Tr.e).put (some (.cv (.sc (.b true)))) 4⟩ knst_b5_0 (knfr_b5_0 0 (.ofNat 3)) knh_b5_0 := Dm.Ends.end_ kkS_ok knq_c53_ rfl
theorem kne_c54_ : Dm.Ends Tryz.prog false ⟨157, (Tr.e).put (some (.cv (.sc (.b true)))) 4⟩ knst_b5_0 (knfr_b5_0 0 (.ofNat 4)) knh_b5_0 := Dm.Ends.end_ kkS_ok knq_c54_ rfl
theorem kne_c55_ : Dm.Ends Tryz.prog false ⟨157, (Tr.e).put (some (.cv (.sc (.b true)))) 4⟩ knst_b5_0 (knfr_b5_0 0 (.ofNat 5)) knh_b5_0 := Dm.Ends.end_ kkS_ok knq_c55_ rfl
theorem kne_b5_ (F : Int) (hF : KOf F) : Dm.Ends Tryz.prog false ⟨157, (Tr.e).put (some (.cv (.sc (.b true)))) 4⟩ knst_a0 (knfr_a0 (.ofNat 5) F) knh_a0 := by
  have k : Dm.Ends Tryz.prog false ⟨157, (Tr.e).put (some (.cv (.sc (.b true)))) 4⟩ knst_b5_0 (knfr_b5_0 0 (kOf F)) knh_b5_0 := by
    rcases hF with h | h | h | h | h | h
    · rw [h]; exact kne_c50_
    · rw [h]; exact kne_c51_
    · rw [h]; exact kne_c52_
    · rw [h]; exact kne_c53_
    · rw [h]; exact kne_c54_
    · rw [h]; exact kne_c55_
  exact Dm.Ends.piece kkS_ok (knp_b5_0 F) rfl (k)
end Go.Proofs.YtafkkicnfngpoaaGreat
