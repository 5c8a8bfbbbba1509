import Derived.Test.YtmjogmpgamlhaaaGreatWL0
set_option linter.unusedVariables false
set_option linter.unusedSimpArgs false
set_option linter.unusedSectionVars false
set_option maxRecDepth 100000
set_option maxHeartbeats 0
namespace Go.Proofs.YtmjogmpgamlhaaaGreat
open Go Go.Proofs.YtmjogmpgamlhaaaGreat.Dm Go.RowKit Go.Lib
theorem rz0_9_fvvv_fvvv (w1 w2 w3 p1 p2 p3 : Bool) : rZ 0 (SS false w1 w2 w3 false p1 p2 p3) Lz0_9_fvvv_fvvv (Hz0_9_fvvv_fvvv w1 w2 w3 p1 p2 p3) := by intro _ _ _; kernel_rfl
theorem rz0_9_fvvv_tvvv (w1 w2 w3 p1 p2 p3 : Bool) : rZ 0 (SS false w1 w2 w3 true p1 p2 p3) Lz0_9_fvvv_tvvv (Hz0_9_fvvv_tvvv w1 w2 w3 p1 p2 p3) := by intro _ _ _; kernel_rfl
theorem rz0_9_tvvv_fvvv (w1 w2 w3 p1 p2 p3 : Bool) : rZ 0 (SS true w1 w2 w3 false p1 p2 p3) Lz0_9_tvvv_fvvv (Hz0_9_tvvv_fvvv w1 w2 w3 p1 p2 p3) := by intro _ _ _; kernel_rfl
theorem rz0_9_tvvv_tvvv (w1 w2 w3 p1 p2 p3 : Bool) : rZ 0 (SS true w1 w2 w3 true p1 p2 p3) Lz0_9_tvvv_tvvv (Hz0_9_tvvv_tvvv w1 w2 w3 p1 p2 p3) := by intro _ _ _; kernel_rfl
theorem ro0_9_fvvv_fvvv (w1 w2 w3 p1 p2 p3 : Bool) : rZ 0 (OS0 false w1 w2 w3 false p1 p2 p3) Lo0_9_fvvv_fvvv (Ho0_9_fvvv_fvvv w1 w2 w3 p1 p2 p3) := by intro _ _ _; kernel_rfl
theorem rz1_9_vfvv_vfvv (w0 w2 w3 p0 p2 p3 : Bool) : rZ 1 (SS w0 false w2 w3 p0 false p2 p3) Lz1_9_vfvv_vfvv (Hz1_9_vfvv_vfvv w0 w2 w3 p0 p2 p3) := by intro _ _ _; kernel_rfl
theorem rz1_9_vfvv_vtvv (w0 w2 w3 p0 p2 p3 : Bool) : rZ 1 (SS w0 false w2 w3 p0 true p2 p3) Lz1_9_vfvv_vtvv (Hz1_9_vfvv_vtvv w0 w2 w3 p0 p2 p3) := by intro _ _ _; kernel_rfl
theorem rz1_9_vtvv_vfvv (w0 w2 w3 p0 p2 p3 : Bool) : rZ 1 (SS w0 true w2 w3 p0 false p2 p3) Lz1_9_vtvv_vfvv (Hz1_9_vtvv_vfvv w0 w2 w3 p0 p2 p3) := by intro _ _ _; kernel_rfl
theorem rz1_9_vtvv_vtvv (w0 w2 w3 p0 p2 p3 : Bool) : rZ 1 (SS w0 true w2 w3 p0 true p2 p3) Lz1_9_vtvv_vtvv (Hz1_9_vtvv_vtvv w0 w2 w3 p0 p2 p3) := by intro _ _ _; kernel_rfl
theorem ro1_9_vfvv_vfvv (w0 w2 w3 p0 p2 p3 : Bool) : rZ 1 (OS1 w0 false w2 w3 p0 false p2 p3) Lo1_9_vfvv_vfvv (Ho1_9_vfvv_vfvv w0 w2 w3 p0 p2 p3) := by intro _ _ _; kernel_rfl
theorem rz2_9_vvfv_vvfv (w0 w1 w3 p0 p1 p3 : Bool) : rZ 2 (SS w0 w1 false w3 p0 p1 false p3) Lz2_9_vvfv_vvfv (Hz2_9_vvfv_vvfv w0 w1 w3 p0 p1 p3) := by intro _ _ _; kernel_rfl
theorem rz2_9_vvfv_vvtv (w0 w1 w3 p0 p1 p3 : Bool) : rZ 2 (SS w0 w1 false w3 p0 p1 true p3) Lz2_9_vvfv_vvtv (Hz2_9_vvfv_vvtv w0 w1 w3 p0 p1 p3) := by intro _ _ _; kernel_rfl
theorem rz2_9_vvtv_vvfv (w0 w1 w3 p0 p1 p3 : Bool) : rZ 2 (SS w0 w1 true w3 p0 p1 false p3) Lz2_9_vvtv_vvfv (Hz2_9_vvtv_vvfv w0 w1 w3 p0 p1 p3) := by intro _ _ _; kernel_rfl
theorem rz2_9_vvtv_vvtv (w0 w1 w3 p0 p1 p3 : Bool) : rZ 2 (SS w0 w1 true w3 p0 p1 true p3) Lz2_9_vvtv_vvtv (Hz2_9_vvtv_vvtv w0 w1 w3 p0 p1 p3) := by intro _ _ _; kernel_rfl
theorem ro2_9_vvfv_vvfv (w0 w1 w3 p0 p1 p3 : Bool) : rZ 2 (OS2 w0 w1 false w3 p0 p1 false p3) Lo2_9_vvfv_vvfv (Ho2_9_vvfv_vvfv w0 w1 w3 p0 p1 p3) := by intro _ _ _; kernel_rfl
theorem rz3_9_vvvf_vvvf (w0 w1 w2 p0 p1 p2 : Bool) : rZ 3 (SS w0 w1 w2 false p0 p1 p2 false) Lz3_9_vvvf_vvvf (Hz3_9_vvvf_vvvf w0 w1 w2 p0 p1 p2) := by intro _ _ _; kernel_rfl
theorem rz3_9_vvvf_vvvt (w0 w1 w2 p0 p1 p2 : Bool) : rZ 3 (SS w0 w1 w2 false p0 p1 p2 true) Lz3_9_vvvf_vvvt (Hz3_9_vvvf_vvvt w0 w1 w2 p0 p1 p2) := by intro _ _ _; kernel_rfl
theorem rz3_9_vvvt_vvvf (w0 w1 w2 p0 p1 p2 : Bool) : rZ 3 (SS w0 w1 w2 true p0 p1 p2 false) Lz3_9_vvvt_vvvf (Hz3_9_vvvt_vvvf w0 w1 w2 p0 p1 p2) := by intro _ _ _; kernel_rfl
theorem rz3_9_vvvt_vvvt (w0 w1 w2 p0 p1 p2 : Bool) : rZ 3 (SS w0 w1 w2 true p0 p1 p2 true) Lz3_9_vvvt_vvvt (Hz3_9_vvvt_vvvt w0 w1 w2 p0 p1 p2) := by intro _ _ _; kernel_rfl
theorem ro3_9_vvvf_vvvf (w0 w1 w2 p0 p1 p2 : Bool) : rZ 3 (OS3 w0 w1 w2 false p0 p1 p2 false) Lo3_9_vvvf_vvvf (Ho3_9_vvvf_vvvf w0 w1 w2 p0 p1 p2) := by intro _ _ _; kernel_rfl
end Go.Proofs.YtmjogmpgamlhaaaGreat
