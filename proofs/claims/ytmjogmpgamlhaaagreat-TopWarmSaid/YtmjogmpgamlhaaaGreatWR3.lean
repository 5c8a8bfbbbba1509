import Derived.Test.YtmjogmpgamlhaaaGreatWL0
set_option linter.unusedVariables false
set_option linter.unusedSimpArgs false
set_option linter.unusedSectionVars false
set_option maxRecDepth 100000
set_option maxHeartbeats 0
namespace Go.Proofs.YtmjogmpgamlhaaaGreat
open Go Go.Proofs.YtmjogmpgamlhaaaGreat.Dm Go.RowKit Go.Lib
theorem ry2_2_ffff_vvtv (p0 p1 p3 : Bool) : rY 2 (kA 2) (SS false false false false p0 p1 true p3) Ly2_2_ffff_vvtv (Hy2_2_ffff_vvtv p0 p1 p3) := by intro _ _ _; kernel_rfl
theorem ry2_2_ffff_vvfv (p0 p1 p3 : Bool) : rY 2 (kA 2) (SS false false false false p0 p1 false p3) Ly2_2_ffff_vvfv (Hy2_2_ffff_vvfv p0 p1 p3) := by intro _ _ _; kernel_rfl
theorem ry2_2_tfff_vvtv (p0 p1 p3 : Bool) : rY 2 (kA 2) (SS true false false false p0 p1 true p3) Ly2_2_tfff_vvtv (Hy2_2_tfff_vvtv p0 p1 p3) := by intro _ _ _; kernel_rfl
theorem ry2_2_tfff_vvfv (p0 p1 p3 : Bool) : rY 2 (kA 2) (SS true false false false p0 p1 false p3) Ly2_2_tfff_vvfv (Hy2_2_tfff_vvfv p0 p1 p3) := by intro _ _ _; kernel_rfl
theorem ry2_2_ftff_vvtv (p0 p1 p3 : Bool) : rY 2 (kA 2) (SS false true false false p0 p1 true p3) Ly2_2_ftff_vvtv (Hy2_2_ftff_vvtv p0 p1 p3) := by intro _ _ _; kernel_rfl
theorem ry2_2_ftff_vvfv (p0 p1 p3 : Bool) : rY 2 (kA 2) (SS false true false false p0 p1 false p3) Ly2_2_ftff_vvfv (Hy2_2_ftff_vvfv p0 p1 p3) := by intro _ _ _; kernel_rfl
theorem ry2_2_ttff_vvtv (p0 p1 p3 : Bool) : rY 2 (kA 2) (SS true true false false p0 p1 true p3) Ly2_2_ttff_vvtv (Hy2_2_ttff_vvtv p0 p1 p3) := by intro _ _ _; kernel_rfl
theorem ry2_2_ttff_vvfv (p0 p1 p3 : Bool) : rY 2 (kA 2) (SS true true false false p0 p1 false p3) Ly2_2_ttff_vvfv (Hy2_2_ttff_vvfv p0 p1 p3) := by intro _ _ _; kernel_rfl
theorem ry2_2_fftf_vvtv (p0 p1 p3 : Bool) : rY 2 (kA 2) (SS false false true false p0 p1 true p3) Ly2_2_fftf_vvtv (Hy2_2_fftf_vvtv p0 p1 p3) := by intro _ _ _; kernel_rfl
theorem ry2_2_fftf_vvfv (p0 p1 p3 : Bool) : rY 2 (kA 2) (SS false false true false p0 p1 false p3) Ly2_2_fftf_vvfv (Hy2_2_fftf_vvfv p0 p1 p3) := by intro _ _ _; kernel_rfl
theorem ry2_2_tftf_vvtv (p0 p1 p3 : Bool) : rY 2 (kA 2) (SS true false true false p0 p1 true p3) Ly2_2_tftf_vvtv (Hy2_2_tftf_vvtv p0 p1 p3) := by intro _ _ _; kernel_rfl
theorem ry2_2_tftf_vvfv (p0 p1 p3 : Bool) : rY 2 (kA 2) (SS true false true false p0 p1 false p3) Ly2_2_tftf_vvfv (Hy2_2_tftf_vvfv p0 p1 p3) := by intro _ _ _; kernel_rfl
theorem ry2_2_fttf_vvtv (p0 p1 p3 : Bool) : rY 2 (kA 2) (SS false true true false p0 p1 true p3) Ly2_2_fttf_vvtv (Hy2_2_fttf_vvtv p0 p1 p3) := by intro _ _ _; kernel_rfl
theorem ry2_2_fttf_vvfv (p0 p1 p3 : Bool) : rY 2 (kA 2) (SS false true true false p0 p1 false p3) Ly2_2_fttf_vvfv (Hy2_2_fttf_vvfv p0 p1 p3) := by intro _ _ _; kernel_rfl
theorem ry2_2_tttf_vvtv (p0 p1 p3 : Bool) : rY 2 (kA 2) (SS true true true false p0 p1 true p3) Ly2_2_tttf_vvtv (Hy2_2_tttf_vvtv p0 p1 p3) := by intro _ _ _; kernel_rfl
theorem ry2_2_tttf_vvfv (p0 p1 p3 : Bool) : rY 2 (kA 2) (SS true true true false p0 p1 false p3) Ly2_2_tttf_vvfv (Hy2_2_tttf_vvfv p0 p1 p3) := by intro _ _ _; kernel_rfl
end Go.Proofs.YtmjogmpgamlhaaaGreat
