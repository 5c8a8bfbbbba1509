import Derived.Test.YtmjogmpgamlhaaaGreatWL0
set_option linter.unusedVariables false
set_option linter.unusedSimpArgs false
set_option linter.unusedSectionVars false
set_option maxRecDepth 100000
set_option maxHeartbeats 0
namespace Go.Proofs.YtmjogmpgamlhaaaGreat
open Go Go.Proofs.YtmjogmpgamlhaaaGreat.Dm Go.RowKit Go.Lib
theorem ry2_2_ffft_vvtv (p0 p1 p3 : Bool) : rY 2 (kA 2) (SS false false false true p0 p1 true p3) Ly2_2_ffft_vvtv (Hy2_2_ffft_vvtv p0 p1 p3) := by intro _ _ _; kernel_rfl
theorem ry2_2_ffft_vvfv (p0 p1 p3 : Bool) : rY 2 (kA 2) (SS false false false true p0 p1 false p3) Ly2_2_ffft_vvfv (Hy2_2_ffft_vvfv p0 p1 p3) := by intro _ _ _; kernel_rfl
theorem ry2_2_tfft_vvtv (p0 p1 p3 : Bool) : rY 2 (kA 2) (SS true false false true p0 p1 true p3) Ly2_2_tfft_vvtv (Hy2_2_tfft_vvtv p0 p1 p3) := by intro _ _ _; kernel_rfl
theorem ry2_2_tfft_vvfv (p0 p1 p3 : Bool) : rY 2 (kA 2) (SS true false false true p0 p1 false p3) Ly2_2_tfft_vvfv (Hy2_2_tfft_vvfv p0 p1 p3) := by intro _ _ _; kernel_rfl
theorem ry2_2_ftft_vvtv (p0 p1 p3 : Bool) : rY 2 (kA 2) (SS false true false true p0 p1 true p3) Ly2_2_ftft_vvtv (Hy2_2_ftft_vvtv p0 p1 p3) := by intro _ _ _; kernel_rfl
theorem ry2_2_ftft_vvfv (p0 p1 p3 : Bool) : rY 2 (kA 2) (SS false true false true p0 p1 false p3) Ly2_2_ftft_vvfv (Hy2_2_ftft_vvfv p0 p1 p3) := by intro _ _ _; kernel_rfl
theorem ry2_2_ttft_vvtv (p0 p1 p3 : Bool) : rY 2 (kA 2) (SS true true false true p0 p1 true p3) Ly2_2_ttft_vvtv (Hy2_2_ttft_vvtv p0 p1 p3) := by intro _ _ _; kernel_rfl
theorem ry2_2_ttft_vvfv (p0 p1 p3 : Bool) : rY 2 (kA 2) (SS true true false true p0 p1 false p3) Ly2_2_ttft_vvfv (Hy2_2_ttft_vvfv p0 p1 p3) := by intro _ _ _; kernel_rfl
theorem ry2_2_fftt_vvtv (p0 p1 p3 : Bool) : rY 2 (kA 2) (SS false false true true p0 p1 true p3) Ly2_2_fftt_vvtv (Hy2_2_fftt_vvtv p0 p1 p3) := by intro _ _ _; kernel_rfl
theorem ry2_2_fftt_vvfv (p0 p1 p3 : Bool) : rY 2 (kA 2) (SS false false true true p0 p1 false p3) Ly2_2_fftt_vvfv (Hy2_2_fftt_vvfv p0 p1 p3) := by intro _ _ _; kernel_rfl
theorem ry2_2_tftt_vvtv (p0 p1 p3 : Bool) : rY 2 (kA 2) (SS true false true true p0 p1 true p3) Ly2_2_tftt_vvtv (Hy2_2_tftt_vvtv p0 p1 p3) := by intro _ _ _; kernel_rfl
theorem ry2_2_tftt_vvfv (p0 p1 p3 : Bool) : rY 2 (kA 2) (SS true false true true p0 p1 false p3) Ly2_2_tftt_vvfv (Hy2_2_tftt_vvfv p0 p1 p3) := by intro _ _ _; kernel_rfl
theorem ry2_2_fttt_vvtv (p0 p1 p3 : Bool) : rY 2 (kA 2) (SS false true true true p0 p1 true p3) Ly2_2_fttt_vvtv (Hy2_2_fttt_vvtv p0 p1 p3) := by intro _ _ _; kernel_rfl
theorem ry2_2_fttt_vvfv (p0 p1 p3 : Bool) : rY 2 (kA 2) (SS false true true true p0 p1 false p3) Ly2_2_fttt_vvfv (Hy2_2_fttt_vvfv p0 p1 p3) := by intro _ _ _; kernel_rfl
theorem ry2_2_tttt_vvtv (p0 p1 p3 : Bool) : rY 2 (kA 2) (SS true true true true p0 p1 true p3) Ly2_2_tttt_vvtv (Hy2_2_tttt_vvtv p0 p1 p3) := by intro _ _ _; kernel_rfl
theorem ry2_2_tttt_vvfv (p0 p1 p3 : Bool) : rY 2 (kA 2) (SS true true true true p0 p1 false p3) Ly2_2_tttt_vvfv (Hy2_2_tttt_vvfv p0 p1 p3) := by intro _ _ _; kernel_rfl
end Go.Proofs.YtmjogmpgamlhaaaGreat
