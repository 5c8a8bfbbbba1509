/- ShareKinds says true, whatever its arguments. -/
import Derived.Test.YtafkkicnfngpoaaGreatKMP0
set_option linter.unusedVariables false
set_option linter.unusedSimpArgs false
set_option linter.unusedSectionVars false
set_option maxRecDepth 100000
set_option maxHeartbeats 0
namespace Go.Proofs.YtafkkicnfngpoaaGreat
open Go Go.Proofs.YtafkkicnfngpoaaGreat.Dm Go.RowKit
theorem kme_c20_ : Dm.Ends Tryz.prog false ⟨157, (Tr.e).put (some (.cv (.sc (.b true)))) 4⟩ kmst_b2_3 (kmfr_b2_3 0 (.ofNat 0)) kmh_b2_3 := Dm.Ends.piece kkM_ok kmp_c20_0 rfl (Dm.Ends.piece kkM_ok kmp_c20_1 rfl (Dm.Ends.end_ kkM_ok kmq_c20_ rfl))
theorem kme_c21_ : Dm.Ends Tryz.prog false ⟨157, (Tr.e).put (some (.cv (.sc (.b true)))) 4⟩ kmst_b2_3 (kmfr_b2_3 0 (.ofNat 1)) kmh_b2_3 := Dm.Ends.end_ kkM_ok kmq_c21_ rfl
theorem kme_c22_ : Dm.Ends Tryz.prog false ⟨157, (Tr.e).put (some (.cv (.sc (.b true)))) 4⟩ kmst_b2_3 (kmfr_b2_3 0 (.ofNat 2)) kmh_b2_3 := Dm.Ends.end_ kkM_ok kmq_c22_ rfl
theorem kme_c23_ : Dm.Ends Tryz.prog false ⟨157, (Tr.e).put (some (.cv (.sc (.b true)))) 4⟩ kmst_b2_3 (kmfr_b2_3 0 (.ofNat 3)) kmh_b2_3 := Dm.Ends.end_ kkM_ok kmq_c23_ rfl
theorem kme_c24_ : Dm.Ends Tryz.prog false ⟨157, (Tr.e).put (some (.cv (.sc (.b true)))) 4⟩ kmst_b2_3 (kmfr_b2_3 0 (.ofNat 4)) kmh_b2_3 := Dm.Ends.end_ kkM_ok kmq_c24_ rfl
theorem kme_c25_ : Dm.Ends Tryz.prog false ⟨157, (Tr.e).put (some (.cv (.sc (.b true)))) 4⟩ kmst_b2_3 (kmfr_b2_3 0 (.ofNat 5)) kmh_b2_3 := Dm.Ends.end_ kkM_ok kmq_c25_ rfl
theorem kme_b2_ (F : Int) (hF : KOf F) : Dm.Ends Tryz.prog false ⟨157, (Tr.e).put (some (.cv (.sc (.b true)))) 4⟩ knst_a0 (knfr_a0 (.ofNat 2) F) knh_a0 := by
  have k : Dm.Ends Tryz.prog false ⟨157, (Tr.e).put (some (.cv (.sc (.b true)))) 4⟩ kmst_b2_3 (kmfr_b2_3 0 (kOf F)) kmh_b2_3 := by
    rcases hF with h | h | h | h | h | h
    · rw [h]; exact kme_c20_
    · rw [h]; exact kme_c21_
    · rw [h]; exact kme_c22_
    · rw [h]; exact kme_c23_
    · rw [h]; exact kme_c24_
    · rw [h]; exact kme_c25_
  exact Dm.Ends.piece kkM_ok (kmp_b2_0 F) rfl (Dm.Ends.piece kkM_ok (kmp_b2_1 F) rfl (Dm.Ends.piece kkM_ok (kmp_b2_2 F) rfl (Dm.Ends.piece kkM_ok (kmp_b2_3 F) rfl (k))))
end Go.Proofs.YtafkkicnfngpoaaGreat

namespace Go.Proofs.YtafkkicnfngpoaaGreat
open Go Go.Proofs.YtafkkicnfngpoaaGreat.Dm Go.RowKit

theorem kn_ends (J F : Int) (hJ : KOf J) (hF : KOf F) : Dm.Ends Tryz.prog false ⟨157, (Tr.e).put (some (.cv (.sc (.b true)))) 4⟩ knst_a0 (knfr_a0 (kOf J) F) knh_a0 := by
  rcases hJ with h | h | h | h | h | h
  · rw [h]; exact kne_b0_ F hF
  · rw [h]; exact kne_b1_ F hF
  · rw [h]; exact kme_b2_ F hF
  · rw [h]; exact kne_b3_ F hF
  · rw [h]; exact kne_b4_ F hF
  · rw [h]; exact kne_b5_ F hF

theorem kinds_any (kind act : Int) (w : World) :
    Calls Tryz.prog 6 #[.int .i64 kind, .int .i64 act] w fun e w' => e = .returned (.bool true) ∧ Below w.heap.size w w' := by
  have k := kne_a (Int.tmod kind 6) (Int.tmod act 6) (kn_ends _ _ (kOf_any kind) (kOf_any act))
  have hargs : ARs (fun _ => none) [.cv (.sc (.cl .i64 false 6 (Int.tmod kind 6))), .cv (.sc (.cl .i64 false 6 (Int.tmod act 6)))] [.int .i64 kind, .int .i64 act] :=
    ⟨⟨kind, rfl, rfl⟩, ⟨act, rfl, rfl⟩, trivial⟩
  exact calls_of_ends (fn := Tryz.f6) Tryz.func6 knbody_eq (by show 2 ≤ 157; decide) («as» := #[.int .i64 kind, .int .i64 act]) hargs k (by kernel_rfl) w
end Go.Proofs.YtafkkicnfngpoaaGreat
