import Derived.Test.YtcdjgnpjapgoaaaGreatRTP0
import Derived.Test.YtcdjgnpjapgoaaaGreatRTP8
import Derived.Test.YtcdjgnpjapgoaaaGreatRTP16
import Derived.Test.YtcdjgnpjapgoaaaGreatRTP24
import Derived.Test.YtcdjgnpjapgoaaaGreatRTP26
import Derived.Test.YtcdjgnpjapgoaaaGreatRTP29
set_option linter.unusedVariables false
set_option linter.unusedSimpArgs false
set_option linter.unusedSectionVars false
set_option maxRecDepth 100000
set_option maxHeartbeats 0
namespace Go.Proofs.YtcdjgnpjapgoaaaGreat
open Go Go.Proofs.YtcdjgnpjapgoaaaGreat.Dm Go.RowKit
theorem rtok_k0 : rtkc_k0.ok Tryz.prog := ⟨knownH_of (fn := Tryz.f215) rtenters215 Tryz.func215 rtbody215_eq (args := rtargs_k0) (frT := rtfrT_k0) (Nat.le_of_ble_eq_true (by kernel_rfl)) (.inl (EndsR.piece rfl (rtkk_k0_ok ) rtp_k0_0 (EndsR.piece rfl (rtkk_k0_ok ) rtp_k0_1 (EndsR.piece rfl (rtkk_k0_ok ) rtp_k0_2 (EndsR.piece rfl (rtkk_k0_ok ) rtp_k0_3 (EndsR.end_ (rtkk_k0_ok ) rtq_k0)))))) (by kernel_rfl), by kernel_rfl, by kernel_rfl⟩
theorem rtok_k1 : rtkc_k1.ok Tryz.prog := ⟨knownH_of (fn := Tryz.f215) rtenters215 Tryz.func215 rtbody215_eq (args := rtargs_k1) (frT := rtfrT_k1) (Nat.le_of_ble_eq_true (by kernel_rfl)) (.inl (EndsR.piece rfl (rtkk_k1_ok ) rtp_k1_0 (EndsR.piece rfl (rtkk_k1_ok ) rtp_k1_1 (EndsR.piece rfl (rtkk_k1_ok ) rtp_k1_2 (EndsR.piece rfl (rtkk_k1_ok ) rtp_k1_3 (EndsR.end_ (rtkk_k1_ok ) rtq_k1)))))) (by kernel_rfl), by kernel_rfl, by kernel_rfl⟩
theorem rtok_k2 : rtkc_k2.ok Tryz.prog := ⟨knownH_of (fn := Tryz.f215) rtenters215 Tryz.func215 rtbody215_eq (args := rtargs_k2) (frT := rtfrT_k2) (Nat.le_of_ble_eq_true (by kernel_rfl)) (.inl (EndsR.piece rfl (rtkk_k2_ok ) rtp_k2_0 (EndsR.piece rfl (rtkk_k2_ok ) rtp_k2_1 (EndsR.piece rfl (rtkk_k2_ok ) rtp_k2_2 (EndsR.piece rfl (rtkk_k2_ok ) rtp_k2_3 (EndsR.end_ (rtkk_k2_ok ) rtq_k2)))))) (by kernel_rfl), by kernel_rfl, by kernel_rfl⟩
theorem rtok_k3 : rtkc_k3.ok Tryz.prog := ⟨knownH_of (fn := Tryz.f385) rtenters385 Tryz.func385 rtbody385_eq (args := rtargs_k3) (frT := rtfrT_k3) (Nat.le_of_ble_eq_true (by kernel_rfl)) (.inl (EndsR.piece rfl (rtkk_k3_ok ) rtp_k3_0 (EndsR.piece rfl (rtkk_k3_ok ) rtp_k3_1 (EndsR.piece rfl (rtkk_k3_ok ) rtp_k3_2 (EndsR.piece rfl (rtkk_k3_ok ) rtp_k3_3 (EndsR.piece rfl (rtkk_k3_ok ) rtp_k3_4 (EndsR.piece rfl (rtkk_k3_ok ) rtp_k3_5 (EndsR.piece rfl (rtkk_k3_ok ) rtp_k3_6 (EndsR.piece rfl (rtkk_k3_ok ) rtp_k3_7 (EndsR.piece rfl (rtkk_k3_ok ) rtp_k3_8 (EndsR.piece rfl (rtkk_k3_ok ) rtp_k3_9 (EndsR.end_ (rtkk_k3_ok ) rtq_k3)))))))))))) (by kernel_rfl), by kernel_rfl, by kernel_rfl⟩
theorem rtends : Dm.Ends Tryz.prog false ⟨145, (Tr.e).put (some (.cv (.sc (.b true)))) 0⟩ [.code rtbody57] ⟨145, argsIn 0 [] .e⟩ Heap.nil := Dm.Ends.piece (rtkk_m_ok rtok_k0 rtok_k1 rtok_k2 rtok_k3) rtp_m_0 rfl (Dm.Ends.piece (rtkk_m_ok rtok_k0 rtok_k1 rtok_k2 rtok_k3) rtp_m_1 rfl (Dm.Ends.piece (rtkk_m_ok rtok_k0 rtok_k1 rtok_k2 rtok_k3) rtp_m_2 rfl (Dm.Ends.piece (rtkk_m_ok rtok_k0 rtok_k1 rtok_k2 rtok_k3) rtp_m_3 rfl (Dm.Ends.piece (rtkk_m_ok rtok_k0 rtok_k1 rtok_k2 rtok_k3) rtp_m_4 rfl (Dm.Ends.end_ (rtkk_m_ok rtok_k0 rtok_k1 rtok_k2 rtok_k3) rtq_m rfl)))))
theorem rtcalls (w : World) : Calls Tryz.prog 57 #[] w fun e w' => e = .returned (.bool true) ∧ Below w.heap.size w w' :=
  calls_of_ends (fn := Tryz.f57) Tryz.func57 rtbody57_eq (args := []) («as» := #[]) (by show 0 ≤ 145; decide) trivial rtends (by kernel_rfl) w
end Go.Proofs.YtcdjgnpjapgoaaaGreat
