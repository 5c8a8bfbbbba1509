import Derived.Test.YtmjogmpgamlhaaaGreatWL0
set_option linter.unusedVariables false
set_option linter.unusedSimpArgs false
set_option linter.unusedSectionVars false
set_option maxRecDepth 100000
set_option maxHeartbeats 0
namespace Go.Proofs.YtmjogmpgamlhaaaGreat
open Go Go.Proofs.YtmjogmpgamlhaaaGreat.Dm Go.RowKit Go.Lib
theorem ry1_2_ffff_vtvv (p0 p2 p3 : Bool) : rY 2 (kA 1) (SS false false false false p0 true p2 p3) Ly1_2_ffff_vtvv (Hy1_2_ffff_vtvv p0 p2 p3) := by intro _ _ _; kernel_rfl
theorem ry1_2_ffff_vfvv (p0 p2 p3 : Bool) : rY 2 (kA 1) (SS false false false false p0 false p2 p3) Ly1_2_ffff_vfvv (Hy1_2_ffff_vfvv p0 p2 p3) := by intro _ _ _; kernel_rfl
theorem ry1_2_tfff_vtvv (p0 p2 p3 : Bool) : rY 2 (kA 1) (SS true false false false p0 true p2 p3) Ly1_2_tfff_vtvv (Hy1_2_tfff_vtvv p0 p2 p3) := by intro _ _ _; kernel_rfl
theorem ry1_2_tfff_vfvv (p0 p2 p3 : Bool) : rY 2 (kA 1) (SS true false false false p0 false p2 p3) Ly1_2_tfff_vfvv (Hy1_2_tfff_vfvv p0 p2 p3) := by intro _ _ _; kernel_rfl
theorem ry1_2_ftff_vtvv (p0 p2 p3 : Bool) : rY 2 (kA 1) (SS false true false false p0 true p2 p3) Ly1_2_ftff_vtvv (Hy1_2_ftff_vtvv p0 p2 p3) := by intro _ _ _; kernel_rfl
theorem ry1_2_ftff_vfvv (p0 p2 p3 : Bool) : rY 2 (kA 1) (SS false true false false p0 false p2 p3) Ly1_2_ftff_vfvv (Hy1_2_ftff_vfvv p0 p2 p3) := by intro _ _ _; kernel_rfl
theorem ry1_2_ttff_vtvv (p0 p2 p3 : Bool) : rY 2 (kA 1) (SS true true false false p0 true p2 p3) Ly1_2_ttff_vtvv (Hy1_2_ttff_vtvv p0 p2 p3) := by intro _ _ _; kernel_rfl
theorem ry1_2_ttff_vfvv (p0 p2 p3 : Bool) : rY 2 (kA 1) (SS true true false false p0 false p2 p3) Ly1_2_ttff_vfvv (Hy1_2_ttff_vfvv p0 p2 p3) := by intro _ _ _; kernel_rfl
theorem ry1_2_fftf_vtvv (p0 p2 p3 : Bool) : rY 2 (kA 1) (SS false false true false p0 true p2 p3) Ly1_2_fftf_vtvv (Hy1_2_fftf_vtvv p0 p2 p3) := by intro _ _ _; kernel_rfl
theorem ry1_2_fftf_vfvv (p0 p2 p3 : Bool) : rY 2 (kA 1) (SS false false true false p0 false p2 p3) Ly1_2_fftf_vfvv (Hy1_2_fftf_vfvv p0 p2 p3) := by intro _ _ _; kernel_rfl
theorem ry1_2_tftf_vtvv (p0 p2 p3 : Bool) : rY 2 (kA 1) (SS true false true false p0 true p2 p3) Ly1_2_tftf_vtvv (Hy1_2_tftf_vtvv p0 p2 p3) := by intro _ _ _; kernel_rfl
theorem ry1_2_tftf_vfvv (p0 p2 p3 : Bool) : rY 2 (kA 1) (SS true false true false p0 false p2 p3) Ly1_2_tftf_vfvv (Hy1_2_tftf_vfvv p0 p2 p3) := by intro _ _ _; kernel_rfl
theorem ry1_2_fttf_vtvv (p0 p2 p3 : Bool) : rY 2 (kA 1) (SS false true true false p0 true p2 p3) Ly1_2_fttf_vtvv (Hy1_2_fttf_vtvv p0 p2 p3) := by intro _ _ _; kernel_rfl
theorem ry1_2_fttf_vfvv (p0 p2 p3 : Bool) : rY 2 (kA 1) (SS false true true false p0 false p2 p3) Ly1_2_fttf_vfvv (Hy1_2_fttf_vfvv p0 p2 p3) := by intro _ _ _; kernel_rfl
theorem ry1_2_tttf_vtvv (p0 p2 p3 : Bool) : rY 2 (kA 1) (SS true true true false p0 true p2 p3) Ly1_2_tttf_vtvv (Hy1_2_tttf_vtvv p0 p2 p3) := by intro _ _ _; kernel_rfl
theorem ry1_2_tttf_vfvv (p0 p2 p3 : Bool) : rY 2 (kA 1) (SS true true true false p0 false p2 p3) Ly1_2_tttf_vfvv (Hy1_2_tttf_vfvv p0 p2 p3) := by intro _ _ _; kernel_rfl
end Go.Proofs.YtmjogmpgamlhaaaGreat
