import Derived.Test.YtcdjgnpjapgoaaaGreatRGD1
import Derived.Test.YtcdjgnpjapgoaaaGreatRGP0
import Derived.Test.YtcdjgnpjapgoaaaGreatRGP5
import Derived.Test.YtcdjgnpjapgoaaaGreatRGP10
import Derived.Test.YtcdjgnpjapgoaaaGreatRGP15
set_option linter.unusedVariables false
set_option linter.unusedSimpArgs false
set_option linter.unusedSectionVars false
set_option maxRecDepth 100000
set_option maxHeartbeats 0
namespace Go.Proofs.YtcdjgnpjapgoaaaGreat
open Go Go.Proofs.YtcdjgnpjapgoaaaGreat.Dm Go.RowKit
theorem rgq_lg : (lastK rgkk_lg 36 [.code rgbody52] ⟨58, argsIn 0 rgargs_lg .e⟩ rgh0_lg).prune rgL_lg rgS_lg = .ret rgfrT_lg rghT_lg := by kernel_rfl
end Go.Proofs.YtcdjgnpjapgoaaaGreat

set_option maxRecDepth 100000
set_option maxHeartbeats 0
namespace Go.Proofs.YtcdjgnpjapgoaaaGreat
open Go Go.Proofs.YtcdjgnpjapgoaaaGreat.Dm Go.RowKit
theorem rgok_t3 : rgkc_t3.ok Tryz.prog := ⟨knownH_of (fn := Tryz.f336) rgenters336 Tryz.func336 rgbody336_eq (args := rgargs_t3) (frT := rgfrT_t3) (Nat.le_of_ble_eq_true (by kernel_rfl)) (.inr (EndsR.piece rfl (rgkk_t3_ok ) rgp_t3_0 (EndsR.piece rfl (rgkk_t3_ok ) rgp_t3_1 (EndsR.piece rfl (rgkk_t3_ok ) rgp_t3_2 (EndsR.piece rfl (rgkk_t3_ok ) rgp_t3_3 (EndsR.piece rfl (rgkk_t3_ok ) rgq_t3 EndsR.done)))))) (by kernel_rfl), by kernel_rfl, by kernel_rfl⟩
theorem rgok_t2 : rgkc_t2.ok Tryz.prog := ⟨knownH_of (fn := Tryz.f336) rgenters336 Tryz.func336 rgbody336_eq (args := rgargs_t2) (frT := rgfrT_t2) (Nat.le_of_ble_eq_true (by kernel_rfl)) (.inr (EndsR.piece rfl (rgkk_t2_ok rgok_t3) rgp_t2_0 (EndsR.piece rfl (rgkk_t2_ok rgok_t3) rgp_t2_1 (EndsR.piece rfl (rgkk_t2_ok rgok_t3) rgp_t2_2 (EndsR.piece rfl (rgkk_t2_ok rgok_t3) rgp_t2_3 (EndsR.piece rfl (rgkk_t2_ok rgok_t3) rgq_t2 EndsR.done)))))) (by kernel_rfl), by kernel_rfl, by kernel_rfl⟩
theorem rgok_t1 : rgkc_t1.ok Tryz.prog := ⟨knownH_of (fn := Tryz.f336) rgenters336 Tryz.func336 rgbody336_eq (args := rgargs_t1) (frT := rgfrT_t1) (Nat.le_of_ble_eq_true (by kernel_rfl)) (.inr (EndsR.piece rfl (rgkk_t1_ok rgok_t2) rgp_t1_0 (EndsR.piece rfl (rgkk_t1_ok rgok_t2) rgp_t1_1 (EndsR.piece rfl (rgkk_t1_ok rgok_t2) rgp_t1_2 (EndsR.piece rfl (rgkk_t1_ok rgok_t2) rgp_t1_3 (EndsR.piece rfl (rgkk_t1_ok rgok_t2) rgq_t1 EndsR.done)))))) (by kernel_rfl), by kernel_rfl, by kernel_rfl⟩
theorem rgok_t0 : rgkc_t0.ok Tryz.prog := ⟨knownH_of (fn := Tryz.f336) rgenters336 Tryz.func336 rgbody336_eq (args := rgargs_t0) (frT := rgfrT_t0) (Nat.le_of_ble_eq_true (by kernel_rfl)) (.inr (EndsR.piece rfl (rgkk_t0_ok rgok_t1) rgp_t0_0 (EndsR.piece rfl (rgkk_t0_ok rgok_t1) rgp_t0_1 (EndsR.piece rfl (rgkk_t0_ok rgok_t1) rgp_t0_2 (EndsR.piece rfl (rgkk_t0_ok rgok_t1) rgp_t0_3 (EndsR.piece rfl (rgkk_t0_ok rgok_t1) rgq_t0 EndsR.done)))))) (by kernel_rfl), by kernel_rfl, by kernel_rfl⟩
theorem rgok_lg : rgkc_lg.ok Tryz.prog := ⟨knownH_of (fn := Tryz.f52) rgenters52 Tryz.func52 rgbody52_eq (args := rgargs_lg) (frT := rgfrT_lg) (Nat.le_of_ble_eq_true (by kernel_rfl)) (.inl (EndsR.end_ (rgkk_lg_ok rgok_t0) rgq_lg)) (by kernel_rfl), by kernel_rfl, by kernel_rfl⟩
end Go.Proofs.YtcdjgnpjapgoaaaGreat
