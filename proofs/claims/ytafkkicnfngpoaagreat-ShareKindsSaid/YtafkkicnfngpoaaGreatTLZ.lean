/- The evaluator for ShareKinds: told() is known to say true. -/
import Derived.Test.YtafkkicnfngpoaaGreatTLP0
import Derived.Test.YtafkkicnfngpoaaGreatTLP4
import Derived.Test.YtafkkicnfngpoaaGreatTLP8
import Derived.Test.YtafkkicnfngpoaaGreatTLP12
set_option linter.unusedVariables false
set_option linter.unusedSimpArgs false
set_option linter.unusedSectionVars false
set_option maxRecDepth 100000
set_option maxHeartbeats 0
namespace Go.Proofs.YtafkkicnfngpoaaGreat
open Go Go.Proofs.YtafkkicnfngpoaaGreat.Dm Go.RowKit
theorem tlok_k1 : tlkc_k1.ok Tryz.prog := ⟨knownH_of (fn := Tryz.f194) tlenters194 Tryz.func194 tlbody194_eq (args := tlargs_k1) (frT := tlfrT_k1) (Nat.le_of_ble_eq_true (by kernel_rfl)) (.inl (EndsR.piece rfl (tlkk_k1_ok ) tlp_k1_0 (EndsR.end_ (tlkk_k1_ok ) tlq_k1))) (by kernel_rfl), by kernel_rfl, by kernel_rfl⟩
theorem tlok_k2 : tlkc_k2.ok Tryz.prog := ⟨knownH_of (fn := Tryz.f194) tlenters194 Tryz.func194 tlbody194_eq (args := tlargs_k2) (frT := tlfrT_k2) (Nat.le_of_ble_eq_true (by kernel_rfl)) (.inl (EndsR.piece rfl (tlkk_k2_ok ) tlp_k2_0 (EndsR.end_ (tlkk_k2_ok ) tlq_k2))) (by kernel_rfl), by kernel_rfl, by kernel_rfl⟩
theorem tlok_k3 : tlkc_k3.ok Tryz.prog := ⟨knownH_of (fn := Tryz.f194) tlenters194 Tryz.func194 tlbody194_eq (args := tlargs_k3) (frT := tlfrT_k3) (Nat.le_of_ble_eq_true (by kernel_rfl)) (.inl (EndsR.piece rfl (tlkk_k3_ok ) tlp_k3_0 (EndsR.end_ (tlkk_k3_ok ) tlq_k3))) (by kernel_rfl), by kernel_rfl, by kernel_rfl⟩
theorem tlok_kr : tlkc_kr.ok Tryz.prog := ⟨knownH_of (fn := Tryz.f26) tlenters26 Tryz.func26 tlbody26_eq (args := tlargs_kr) (frT := tlfrT_kr) (Nat.le_of_ble_eq_true (by kernel_rfl)) (.inl (EndsR.end_ (tlkk_kr_ok tlok_k1 tlok_k2 tlok_k3) tlq_kr)) (by kernel_rfl), by kernel_rfl, by kernel_rfl⟩
theorem tlok_t3 : tlkc_t3.ok Tryz.prog := ⟨knownH_of (fn := Tryz.f269) tlenters269 Tryz.func269 tlbody269_eq (args := tlargs_t3) (frT := tlfrT_t3) (Nat.le_of_ble_eq_true (by kernel_rfl)) (.inr (EndsR.piece rfl (tlkk_t3_ok ) tlp_t3_0 (EndsR.piece rfl (tlkk_t3_ok ) tlp_t3_1 (EndsR.piece rfl (tlkk_t3_ok ) tlp_t3_2 (EndsR.piece rfl (tlkk_t3_ok ) tlq_t3 EndsR.done))))) (by kernel_rfl), by kernel_rfl, by kernel_rfl⟩
theorem tlok_t2 : tlkc_t2.ok Tryz.prog := ⟨knownH_of (fn := Tryz.f269) tlenters269 Tryz.func269 tlbody269_eq (args := tlargs_t2) (frT := tlfrT_t2) (Nat.le_of_ble_eq_true (by kernel_rfl)) (.inr (EndsR.piece rfl (tlkk_t2_ok tlok_t3) tlp_t2_0 (EndsR.piece rfl (tlkk_t2_ok tlok_t3) tlp_t2_1 (EndsR.piece rfl (tlkk_t2_ok tlok_t3) tlp_t2_2 (EndsR.piece rfl (tlkk_t2_ok tlok_t3) tlp_t2_3 (EndsR.piece rfl (tlkk_t2_ok tlok_t3) tlp_t2_4 (EndsR.piece rfl (tlkk_t2_ok tlok_t3) tlq_t2 EndsR.done))))))) (by kernel_rfl), by kernel_rfl, by kernel_rfl⟩
theorem tlok_t1 : tlkc_t1.ok Tryz.prog := ⟨knownH_of (fn := Tryz.f269) tlenters269 Tryz.func269 tlbody269_eq (args := tlargs_t1) (frT := tlfrT_t1) (Nat.le_of_ble_eq_true (by kernel_rfl)) (.inr (EndsR.piece rfl (tlkk_t1_ok tlok_t2) tlp_t1_0 (EndsR.piece rfl (tlkk_t1_ok tlok_t2) tlp_t1_1 (EndsR.piece rfl (tlkk_t1_ok tlok_t2) tlp_t1_2 (EndsR.piece rfl (tlkk_t1_ok tlok_t2) tlp_t1_3 (EndsR.piece rfl (tlkk_t1_ok tlok_t2) tlp_t1_4 (EndsR.piece rfl (tlkk_t1_ok tlok_t2) tlq_t1 EndsR.done))))))) (by kernel_rfl), by kernel_rfl, by kernel_rfl⟩
theorem tlok_t0 : tlkc_t0.ok Tryz.prog := ⟨knownH_of (fn := Tryz.f269) tlenters269 Tryz.func269 tlbody269_eq (args := tlargs_t0) (frT := tlfrT_t0) (Nat.le_of_ble_eq_true (by kernel_rfl)) (.inr (EndsR.piece rfl (tlkk_t0_ok tlok_t1) tlp_t0_0 (EndsR.piece rfl (tlkk_t0_ok tlok_t1) tlp_t0_1 (EndsR.piece rfl (tlkk_t0_ok tlok_t1) tlp_t0_2 (EndsR.piece rfl (tlkk_t0_ok tlok_t1) tlp_t0_3 (EndsR.piece rfl (tlkk_t0_ok tlok_t1) tlp_t0_4 (EndsR.piece rfl (tlkk_t0_ok tlok_t1) tlq_t0 EndsR.done))))))) (by kernel_rfl), by kernel_rfl, by kernel_rfl⟩
theorem tlends : Dm.Ends Tryz.prog false ⟨114, (Tr.e).put (some (.cv (.sc (.b true)))) 0⟩ [.code tlbody28] ⟨114, argsIn 0 [] .e⟩ Heap.nil := Dm.Ends.piece (tlkk_m_ok tlok_kr tlok_t0) tlp_m_0 rfl (Dm.Ends.piece (tlkk_m_ok tlok_kr tlok_t0) tlp_m_1 rfl (Dm.Ends.end_ (tlkk_m_ok tlok_kr tlok_t0) tlq_m rfl))
theorem tlcalls (w : World) : Calls Tryz.prog 28 #[] w fun e w' => e = .returned (.bool true) ∧ Below w.heap.size w w' :=
  calls_of_ends (fn := Tryz.f28) Tryz.func28 tlbody28_eq (args := []) («as» := #[]) (by show 0 ≤ 114; decide) trivial tlends (by kernel_rfl) w
end Go.Proofs.YtafkkicnfngpoaaGreat

namespace Go.Proofs.YtafkkicnfngpoaaGreat
open Go Go.Proofs.YtafkkicnfngpoaaGreat.Dm Go.RowKit
noncomputable def ovS : CallK → CallK := fun call => ovTrue 28 (ovA call)
theorem ovS_ok : OvOk Tryz.prog ovS := fun c hc => ovTrue_ok tlenters28 tlcalls _ (ovA_ok c hc)
noncomputable def kkS : K := (runsK Tryz.prog ovS 100000).k
theorem kkS_ok : KOk Tryz.prog kkS := (runsK_ok mixedP noGor ovS_ok 100000).1
noncomputable def knbody : Code := match Tryz.f6.body with
  | some b => b
  | none => .skip
theorem knbody_eq : Tryz.f6.body = some knbody := by kernel_rfl
noncomputable def kOf (n : Int) : Int := Int.tmod (wr .i64 (Int.add n 6)) 6
noncomputable def KOf (n : Int) : Prop := kOf n = .ofNat 0 ∨ kOf n = .ofNat 1 ∨ kOf n = .ofNat 2 ∨ kOf n = .ofNat 3 ∨ kOf n = .ofNat 4 ∨ kOf n = .ofNat 5
theorem kOf_any (n : Int) : KOf (Int.tmod n 6) := by
  have h1 : -6 < Int.tmod n 6 ∧ Int.tmod n 6 < 6 := by
    by_cases h : 0 ≤ n
    · rw [Int.tmod_eq_emod_of_nonneg h]; omega
    · obtain ⟨m, rfl⟩ : ∃ m : Int, n = -m := ⟨-n, by omega⟩
      rw [Int.neg_tmod, Int.tmod_eq_emod_of_nonneg (by omega)]; omega
  unfold KOf kOf
  rw [wr_eq, show Int.add (Int.tmod n 6) 6 = Int.tmod n 6 + 6 from rfl]
  generalize Int.tmod n 6 = r at h1
  have : IntKind.i64.wrap (r + 6) = r + 6 := IntWalk.i64_in _ (by omega)
  rw [this, Int.tmod_eq_emod_of_nonneg (by omega)]
  show (r + 6) % 6 = 0 ∨ (r + 6) % 6 = 1 ∨ (r + 6) % 6 = 2 ∨ (r + 6) % 6 = 3 ∨ (r + 6) % 6 = 4 ∨ (r + 6) % 6 = 5
  omega
end Go.Proofs.YtafkkicnfngpoaaGreat
