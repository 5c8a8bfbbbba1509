import Derived.Test.YtmjogmpgamlhaaaGreatWL0
set_option linter.unusedVariables false
set_option linter.unusedSimpArgs false
set_option linter.unusedSectionVars false
set_option maxRecDepth 100000
set_option maxHeartbeats 0
namespace Go.Proofs.YtmjogmpgamlhaaaGreat
open Go Go.Proofs.YtmjogmpgamlhaaaGreat.Dm Go.RowKit Go.Lib
theorem ry1_2_ffft_vtvv (p0 p2 p3 : Bool) : rY 2 (kA 1) (SS false false false true p0 true p2 p3) Ly1_2_ffft_vtvv (Hy1_2_ffft_vtvv p0 p2 p3) := by intro _ _ _; kernel_rfl
theorem ry1_2_ffft_vfvv (p0 p2 p3 : Bool) : rY 2 (kA 1) (SS false false false true p0 false p2 p3) Ly1_2_ffft_vfvv (Hy1_2_ffft_vfvv p0 p2 p3) := by intro _ _ _; kernel_rfl
theorem ry1_2_tfft_vtvv (p0 p2 p3 : Bool) : rY 2 (kA 1) (SS true false false true p0 true p2 p3) Ly1_2_tfft_vtvv (Hy1_2_tfft_vtvv p0 p2 p3) := by intro _ _ _; kernel_rfl
theorem ry1_2_tfft_vfvv (p0 p2 p3 : Bool) : rY 2 (kA 1) (SS true false false true p0 false p2 p3) Ly1_2_tfft_vfvv (Hy1_2_tfft_vfvv p0 p2 p3) := by intro _ _ _; kernel_rfl
theorem ry1_2_ftft_vtvv (p0 p2 p3 : Bool) : rY 2 (kA 1) (SS false true false true p0 true p2 p3) Ly1_2_ftft_vtvv (Hy1_2_ftft_vtvv p0 p2 p3) := by intro _ _ _; kernel_rfl
theorem ry1_2_ftft_vfvv (p0 p2 p3 : Bool) : rY 2 (kA 1) (SS false true false true p0 false p2 p3) Ly1_2_ftft_vfvv (Hy1_2_ftft_vfvv p0 p2 p3) := by intro _ _ _; kernel_rfl
theorem ry1_2_ttft_vtvv (p0 p2 p3 : Bool) : rY 2 (kA 1) (SS true true false true p0 true p2 p3) Ly1_2_ttft_vtvv (Hy1_2_ttft_vtvv p0 p2 p3) := by intro _ _ _; kernel_rfl
theorem ry1_2_ttft_vfvv (p0 p2 p3 : Bool) : rY 2 (kA 1) (SS true true false true p0 false p2 p3) Ly1_2_ttft_vfvv (Hy1_2_ttft_vfvv p0 p2 p3) := by intro _ _ _; kernel_rfl
theorem ry1_2_fftt_vtvv (p0 p2 p3 : Bool) : rY 2 (kA 1) (SS false false true true p0 true p2 p3) Ly1_2_fftt_vtvv (Hy1_2_fftt_vtvv p0 p2 p3) := by intro _ _ _; kernel_rfl
theorem ry1_2_fftt_vfvv (p0 p2 p3 : Bool) : rY 2 (kA 1) (SS false false true true p0 false p2 p3) Ly1_2_fftt_vfvv (Hy1_2_fftt_vfvv p0 p2 p3) := by intro _ _ _; kernel_rfl
theorem ry1_2_tftt_vtvv (p0 p2 p3 : Bool) : rY 2 (kA 1) (SS true false true true p0 true p2 p3) Ly1_2_tftt_vtvv (Hy1_2_tftt_vtvv p0 p2 p3) := by intro _ _ _; kernel_rfl
theorem ry1_2_tftt_vfvv (p0 p2 p3 : Bool) : rY 2 (kA 1) (SS true false true true p0 false p2 p3) Ly1_2_tftt_vfvv (Hy1_2_tftt_vfvv p0 p2 p3) := by intro _ _ _; kernel_rfl
theorem ry1_2_fttt_vtvv (p0 p2 p3 : Bool) : rY 2 (kA 1) (SS false true true true p0 true p2 p3) Ly1_2_fttt_vtvv (Hy1_2_fttt_vtvv p0 p2 p3) := by intro _ _ _; kernel_rfl
theorem ry1_2_fttt_vfvv (p0 p2 p3 : Bool) : rY 2 (kA 1) (SS false true true true p0 false p2 p3) Ly1_2_fttt_vfvv (Hy1_2_fttt_vfvv p0 p2 p3) := by intro _ _ _; kernel_rfl
theorem ry1_2_tttt_vtvv (p0 p2 p3 : Bool) : rY 2 (kA 1) (SS true true true true p0 true p2 p3) Ly1_2_tttt_vtvv (Hy1_2_tttt_vtvv p0 p2 p3) := by intro _ _ _; kernel_rfl
theorem ry1_2_tttt_vfvv (p0 p2 p3 : Bool) : rY 2 (kA 1) (SS true true true true p0 false p2 p3) Ly1_2_tttt_vfvv (Hy1_2_tttt_vfvv p0 p2 p3) := by intro _ _ _; kernel_rfl
end Go.Proofs.YtmjogmpgamlhaaaGreat
