import Derived.Test.YtmjogmpgamlhaaaGreatWL0
set_option linter.unusedVariables false
set_option linter.unusedSimpArgs false
set_option linter.unusedSectionVars false
set_option maxRecDepth 100000
set_option maxHeartbeats 0
namespace Go.Proofs.YtmjogmpgamlhaaaGreat
open Go Go.Proofs.YtmjogmpgamlhaaaGreat.Dm Go.RowKit Go.Lib
theorem ry3_2_ffff_vvvt (p0 p1 p2 : Bool) : rY 2 (kA 3) (SS false false false false p0 p1 p2 true) Ly3_2_ffff_vvvt (Hy3_2_ffff_vvvt p0 p1 p2) := by intro _ _ _; kernel_rfl
theorem ry3_2_ffff_vvvf (p0 p1 p2 : Bool) : rY 2 (kA 3) (SS false false false false p0 p1 p2 false) Ly3_2_ffff_vvvf (Hy3_2_ffff_vvvf p0 p1 p2) := by intro _ _ _; kernel_rfl
theorem ry3_2_tfff_vvvt (p0 p1 p2 : Bool) : rY 2 (kA 3) (SS true false false false p0 p1 p2 true) Ly3_2_tfff_vvvt (Hy3_2_tfff_vvvt p0 p1 p2) := by intro _ _ _; kernel_rfl
theorem ry3_2_tfff_vvvf (p0 p1 p2 : Bool) : rY 2 (kA 3) (SS true false false false p0 p1 p2 false) Ly3_2_tfff_vvvf (Hy3_2_tfff_vvvf p0 p1 p2) := by intro _ _ _; kernel_rfl
theorem ry3_2_ftff_vvvt (p0 p1 p2 : Bool) : rY 2 (kA 3) (SS false true false false p0 p1 p2 true) Ly3_2_ftff_vvvt (Hy3_2_ftff_vvvt p0 p1 p2) := by intro _ _ _; kernel_rfl
theorem ry3_2_ftff_vvvf (p0 p1 p2 : Bool) : rY 2 (kA 3) (SS false true false false p0 p1 p2 false) Ly3_2_ftff_vvvf (Hy3_2_ftff_vvvf p0 p1 p2) := by intro _ _ _; kernel_rfl
theorem ry3_2_ttff_vvvt (p0 p1 p2 : Bool) : rY 2 (kA 3) (SS true true false false p0 p1 p2 true) Ly3_2_ttff_vvvt (Hy3_2_ttff_vvvt p0 p1 p2) := by intro _ _ _; kernel_rfl
theorem ry3_2_ttff_vvvf (p0 p1 p2 : Bool) : rY 2 (kA 3) (SS true true false false p0 p1 p2 false) Ly3_2_ttff_vvvf (Hy3_2_ttff_vvvf p0 p1 p2) := by intro _ _ _; kernel_rfl
theorem ry3_2_fftf_vvvt (p0 p1 p2 : Bool) : rY 2 (kA 3) (SS false false true false p0 p1 p2 true) Ly3_2_fftf_vvvt (Hy3_2_fftf_vvvt p0 p1 p2) := by intro _ _ _; kernel_rfl
theorem ry3_2_fftf_vvvf (p0 p1 p2 : Bool) : rY 2 (kA 3) (SS false false true false p0 p1 p2 false) Ly3_2_fftf_vvvf (Hy3_2_fftf_vvvf p0 p1 p2) := by intro _ _ _; kernel_rfl
theorem ry3_2_tftf_vvvt (p0 p1 p2 : Bool) : rY 2 (kA 3) (SS true false true false p0 p1 p2 true) Ly3_2_tftf_vvvt (Hy3_2_tftf_vvvt p0 p1 p2) := by intro _ _ _; kernel_rfl
theorem ry3_2_tftf_vvvf (p0 p1 p2 : Bool) : rY 2 (kA 3) (SS true false true false p0 p1 p2 false) Ly3_2_tftf_vvvf (Hy3_2_tftf_vvvf p0 p1 p2) := by intro _ _ _; kernel_rfl
theorem ry3_2_fttf_vvvt (p0 p1 p2 : Bool) : rY 2 (kA 3) (SS false true true false p0 p1 p2 true) Ly3_2_fttf_vvvt (Hy3_2_fttf_vvvt p0 p1 p2) := by intro _ _ _; kernel_rfl
theorem ry3_2_fttf_vvvf (p0 p1 p2 : Bool) : rY 2 (kA 3) (SS false true true false p0 p1 p2 false) Ly3_2_fttf_vvvf (Hy3_2_fttf_vvvf p0 p1 p2) := by intro _ _ _; kernel_rfl
theorem ry3_2_tttf_vvvt (p0 p1 p2 : Bool) : rY 2 (kA 3) (SS true true true false p0 p1 p2 true) Ly3_2_tttf_vvvt (Hy3_2_tttf_vvvt p0 p1 p2) := by intro _ _ _; kernel_rfl
theorem ry3_2_tttf_vvvf (p0 p1 p2 : Bool) : rY 2 (kA 3) (SS true true true false p0 p1 p2 false) Ly3_2_tttf_vvvf (Hy3_2_tttf_vvvf p0 p1 p2) := by intro _ _ _; kernel_rfl
end Go.Proofs.YtmjogmpgamlhaaaGreat
