/- AccessLines says true, whatever its arguments. -/
import Derived.Test.YtafkkicnfngpoaaGreatLNP0
import Derived.Test.YtafkkicnfngpoaaGreatLNP1
import Derived.Test.YtafkkicnfngpoaaGreatLNP2
import Derived.Test.YtafkkicnfngpoaaGreatLNP3
import Derived.Test.YtafkkicnfngpoaaGreatLNP4
import Derived.Test.YtafkkicnfngpoaaGreatLNP5
import Derived.Test.YtafkkicnfngpoaaGreatLNP6
import Derived.Test.YtafkkicnfngpoaaGreatLNP7
import Derived.Test.YtafkkicnfngpoaaGreatLNP8
import Derived.Test.YtafkkicnfngpoaaGreatLNP9
import Derived.Test.YtafkkicnfngpoaaGreatLNP10
import Derived.Test.YtafkkicnfngpoaaGreatLNP11
import Derived.Lib.Walk
set_option linter.unusedVariables false
set_option linter.unusedSimpArgs false
set_option linter.unusedSectionVars false
set_option maxRecDepth 100000
set_option maxHeartbeats 0
namespace Go.Proofs.YtafkkicnfngpoaaGreat
open Go Go.Proofs.YtafkkicnfngpoaaGreat.Dm
theorem lne_c0_ (F A : Int) : Dm.Ends Tryz.prog false ⟨282, (Tr.e).put (some (.cv (.sc (.b true)))) 6⟩ lnst_a11 (lnfr_a11 (.ofNat 0) F A) lnh_a11 := Dm.Ends.piece kkL_ok (lnp_c0_0 F A) rfl (Dm.Ends.end_ kkL_ok (lnq_c0_ F A) rfl)
theorem lne_c1_ (F A : Int) : Dm.Ends Tryz.prog false ⟨282, (Tr.e).put (some (.cv (.sc (.b true)))) 6⟩ lnst_a11 (lnfr_a11 (.ofNat 1) F A) lnh_a11 := Dm.Ends.end_ kkL_ok (lnq_c1_ F A) rfl
theorem lne_c3_ (F A : Int) : Dm.Ends Tryz.prog false ⟨282, (Tr.e).put (some (.cv (.sc (.b true)))) 6⟩ lnst_a11 (lnfr_a11 (.ofNat 3) F A) lnh_a11 := Dm.Ends.end_ kkL_ok (lnq_c3_ F A) rfl
theorem lne_c20_ (F A : Int) : Dm.Ends Tryz.prog false ⟨282, (Tr.e).put (some (.cv (.sc (.b true)))) 6⟩ lnst_a11 (lnfr_a11 (.ofNat 2) (.ofNat 0) A) lnh_a11 := Dm.Ends.piece kkL_ok (lnp_c20_0 F A) rfl (Dm.Ends.end_ kkL_ok (lnq_c20_ F A) rfl)
theorem lne_c21_ (F A : Int) : Dm.Ends Tryz.prog false ⟨282, (Tr.e).put (some (.cv (.sc (.b true)))) 6⟩ lnst_a11 (lnfr_a11 (.ofNat 2) (.ofNat 1) A) lnh_a11 := Dm.Ends.piece kkL_ok (lnp_c21_0 F A) rfl (Dm.Ends.end_ kkL_ok (lnq_c21_ F A) rfl)
theorem lne_c22_ (F A : Int) : Dm.Ends Tryz.prog false ⟨282, (Tr.e).put (some (.cv (.sc (.b true)))) 6⟩ lnst_a11 (lnfr_a11 (.ofNat 2) (.ofNat 2) A) lnh_a11 := Dm.Ends.piece kkL_ok (lnp_c22_0 F A) rfl (Dm.Ends.end_ kkL_ok (lnq_c22_ F A) rfl)
theorem lne_c23_ (F A : Int) : Dm.Ends Tryz.prog false ⟨282, (Tr.e).put (some (.cv (.sc (.b true)))) 6⟩ lnst_a11 (lnfr_a11 (.ofNat 2) (.ofNat 3) A) lnh_a11 := Dm.Ends.piece kkL_ok (lnp_c23_0 F A) rfl (Dm.Ends.end_ kkL_ok (lnq_c23_ F A) rfl)
theorem lne_pre (J F A : Int) (h0 : 0 ≤ A) (h1 : A ≤ (255 : Nat)) (k : Dm.Ends Tryz.prog false ⟨282, (Tr.e).put (some (.cv (.sc (.b true)))) 6⟩ lnst_a11 (lnfr_a11 J F A) lnh_a11) :
    Dm.Ends Tryz.prog true ⟨282, (Tr.e).put (some (.cv (.sc (.b true)))) 6⟩ [.code lnbody] ⟨282, argsIn 0 [.cv (.sc (.cl .i64 true 3 J)), .cv (.sc (.cl .i64 true 3 F)), .cv (.sc (.cl .i64 true 255 A))] .e⟩ Heap.nil := Dm.Ends.piece kkL_ok (lnp_a0 J F A) rfl (Dm.Ends.atom (X := A) (hi := 255) (by kernel_rfl) h0 h1 (b0 := 12) (o0 := ((Heap.get lnh_a0 12).getD (.map [] 0))) (by kernel_rfl) rfl (Dm.Ends.piece kkL_ok (lnp_a1 J F A) rfl (Dm.Ends.piece kkL_ok (lnp_a2 J F A) rfl (Dm.Ends.piece kkL_ok (lnp_a3 J F A) rfl (Dm.Ends.piece kkL_ok (lnp_a4 J F A) rfl (Dm.Ends.piece kkL_ok (lnp_a5 J F A) rfl (Dm.Ends.piece kkL_ok (lnp_a6 J F A) rfl (Dm.Ends.piece kkL_ok (lnp_a7 J F A) rfl (Dm.Ends.piece kkL_ok (lnp_a8 J F A) rfl (Dm.Ends.piece kkL_ok (lnp_a9 J F A) rfl (Dm.Ends.piece kkL_ok (lnp_a10 J F A) rfl (Dm.Ends.piece kkL_ok (lnp_a11 J F A) rfl (k)))))))))))))
end Go.Proofs.YtafkkicnfngpoaaGreat

namespace Go.Proofs.YtafkkicnfngpoaaGreat
open Go Go.Proofs.YtafkkicnfngpoaaGreat.Dm Go.RowKit Go.Lib

noncomputable def mask (n y : Int) : Int := IntKind.wrap .i64 ((BitVec.ofInt 64 n &&& BitVec.ofInt 64 y).toNat)
theorem mask_le (n : Int) (y : Nat) (hy : y < 2 ^ 62) : 0 ≤ mask n y ∧ mask n y ≤ y := by
  unfold mask
  have h : (BitVec.ofInt 64 n &&& BitVec.ofInt 64 (y : Int)).toNat ≤ y := by
    rw [BitVec.toNat_and]
    have e : (BitVec.ofInt 64 (y : Int)).toNat = y := by
      rw [BitVec.toNat_ofInt]; omega
    rw [e]
    exact Nat.and_le_right
  generalize (BitVec.ofInt 64 n &&& BitVec.ofInt 64 (y : Int)).toNat = x at h
  rw [IntWalk.i64_in _ (by omega)]
  omega
theorem mask3 (n : Int) : mask n 3 = .ofNat 0 ∨ mask n 3 = .ofNat 1 ∨ mask n 3 = .ofNat 2 ∨ mask n 3 = .ofNat 3 := by
  have := mask_le n 3 (by decide)
  have e : mask n ((3 : Nat) : Int) = mask n 3 := rfl
  rw [e] at this
  show mask n 3 = 0 ∨ mask n 3 = 1 ∨ mask n 3 = 2 ∨ mask n 3 = 3
  omega

noncomputable def lnT : Fr := ⟨282, (Tr.e).put (some (.cv (.sc (.b true)))) 6⟩

theorem ln_ends (how flush A : Int) : Dm.Ends Tryz.prog false lnT lnst_a11 (lnfr_a11 (mask how 3) (mask flush 3) A) lnh_a11 := by
  rcases mask3 how with h | h | h | h
  · rw [h]; exact lne_c0_ _ A
  · rw [h]; exact lne_c1_ _ A
  · rw [h]
    rcases mask3 flush with g | g | g | g
    · rw [g]; exact lne_c20_ 0 A
    · rw [g]; exact lne_c21_ 0 A
    · rw [g]; exact lne_c22_ 0 A
    · rw [g]; exact lne_c23_ 0 A
  · rw [h]; exact lne_c3_ _ A

theorem lines_any (how flush asid : Int) (w : World) :
    Calls Tryz.prog 5 #[.int .i64 how, .int .i64 flush, .int .i64 asid] w fun e w' => e = .returned (.bool true) ∧ Below w.heap.size w w' := by
  have ha := mask_le asid 255 (by decide)
  have k := lne_pre (mask how 3) (mask flush 3) (mask asid 255) ha.1 ha.2 (ln_ends how flush (mask asid 255))
  have hargs : ARs (fun _ => none) [.cv (.sc (.cl .i64 true 3 (mask how 3))), .cv (.sc (.cl .i64 true 3 (mask flush 3))), .cv (.sc (.cl .i64 true 255 (mask asid 255)))] [.int .i64 how, .int .i64 flush, .int .i64 asid] :=
    ⟨⟨how, rfl, rfl⟩, ⟨flush, rfl, rfl⟩, ⟨asid, rfl, rfl⟩, trivial⟩
  exact calls_of_ends (fn := Tryz.f5) Tryz.func5 lnbody_eq (by show 3 ≤ 282; decide) («as» := #[.int .i64 how, .int .i64 flush, .int .i64 asid]) hargs k (by kernel_rfl) w
end Go.Proofs.YtafkkicnfngpoaaGreat
