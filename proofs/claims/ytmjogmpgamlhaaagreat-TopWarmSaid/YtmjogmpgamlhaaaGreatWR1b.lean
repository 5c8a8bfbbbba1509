import Derived.Test.YtmjogmpgamlhaaaGreatWL0
set_option linter.unusedVariables false
set_option linter.unusedSimpArgs false
set_option linter.unusedSectionVars false
set_option maxRecDepth 100000
set_option maxHeartbeats 0
namespace Go.Proofs.YtmjogmpgamlhaaaGreat
open Go Go.Proofs.YtmjogmpgamlhaaaGreat.Dm Go.RowKit Go.Lib
theorem ry0_2_ffft_tvvv (p1 p2 p3 : Bool) : rY 2 (kA 0) (SS false false false true true p1 p2 p3) Ly0_2_ffft_tvvv (Hy0_2_ffft_tvvv p1 p2 p3) := by intro _ _ _; kernel_rfl
theorem ry0_2_ffft_fvvv (p1 p2 p3 : Bool) : rY 2 (kA 0) (SS false false false true false p1 p2 p3) Ly0_2_ffft_fvvv (Hy0_2_ffft_fvvv p1 p2 p3) := by intro _ _ _; kernel_rfl
theorem ry0_2_tfft_tvvv (p1 p2 p3 : Bool) : rY 2 (kA 0) (SS true false false true true p1 p2 p3) Ly0_2_tfft_tvvv (Hy0_2_tfft_tvvv p1 p2 p3) := by intro _ _ _; kernel_rfl
theorem ry0_2_tfft_fvvv (p1 p2 p3 : Bool) : rY 2 (kA 0) (SS true false false true false p1 p2 p3) Ly0_2_tfft_fvvv (Hy0_2_tfft_fvvv p1 p2 p3) := by intro _ _ _; kernel_rfl
theorem ry0_2_ftft_tvvv (p1 p2 p3 : Bool) : rY 2 (kA 0) (SS false true false true true p1 p2 p3) Ly0_2_ftft_tvvv (Hy0_2_ftft_tvvv p1 p2 p3) := by intro _ _ _; kernel_rfl
theorem ry0_2_ftft_fvvv (p1 p2 p3 : Bool) : rY 2 (kA 0) (SS false true false true false p1 p2 p3) Ly0_2_ftft_fvvv (Hy0_2_ftft_fvvv p1 p2 p3) := by intro _ _ _; kernel_rfl
theorem ry0_2_ttft_tvvv (p1 p2 p3 : Bool) : rY 2 (kA 0) (SS true true false true true p1 p2 p3) Ly0_2_ttft_tvvv (Hy0_2_ttft_tvvv p1 p2 p3) := by intro _ _ _; kernel_rfl
theorem ry0_2_ttft_fvvv (p1 p2 p3 : Bool) : rY 2 (kA 0) (SS true true false true false p1 p2 p3) Ly0_2_ttft_fvvv (Hy0_2_ttft_fvvv p1 p2 p3) := by intro _ _ _; kernel_rfl
theorem ry0_2_fftt_tvvv (p1 p2 p3 : Bool) : rY 2 (kA 0) (SS false false true true true p1 p2 p3) Ly0_2_fftt_tvvv (Hy0_2_fftt_tvvv p1 p2 p3) := by intro _ _ _; kernel_rfl
theorem ry0_2_fftt_fvvv (p1 p2 p3 : Bool) : rY 2 (kA 0) (SS false false true true false p1 p2 p3) Ly0_2_fftt_fvvv (Hy0_2_fftt_fvvv p1 p2 p3) := by intro _ _ _; kernel_rfl
theorem ry0_2_tftt_tvvv (p1 p2 p3 : Bool) : rY 2 (kA 0) (SS true false true true true p1 p2 p3) Ly0_2_tftt_tvvv (Hy0_2_tftt_tvvv p1 p2 p3) := by intro _ _ _; kernel_rfl
theorem ry0_2_tftt_fvvv (p1 p2 p3 : Bool) : rY 2 (kA 0) (SS true false true true false p1 p2 p3) Ly0_2_tftt_fvvv (Hy0_2_tftt_fvvv p1 p2 p3) := by intro _ _ _; kernel_rfl
theorem ry0_2_fttt_tvvv (p1 p2 p3 : Bool) : rY 2 (kA 0) (SS false true true true true p1 p2 p3) Ly0_2_fttt_tvvv (Hy0_2_fttt_tvvv p1 p2 p3) := by intro _ _ _; kernel_rfl
theorem ry0_2_fttt_fvvv (p1 p2 p3 : Bool) : rY 2 (kA 0) (SS false true true true false p1 p2 p3) Ly0_2_fttt_fvvv (Hy0_2_fttt_fvvv p1 p2 p3) := by intro _ _ _; kernel_rfl
theorem ry0_2_tttt_tvvv (p1 p2 p3 : Bool) : rY 2 (kA 0) (SS true true true true true p1 p2 p3) Ly0_2_tttt_tvvv (Hy0_2_tttt_tvvv p1 p2 p3) := by intro _ _ _; kernel_rfl
theorem ry0_2_tttt_fvvv (p1 p2 p3 : Bool) : rY 2 (kA 0) (SS true true true true false p1 p2 p3) Ly0_2_tttt_fvvv (Hy0_2_tttt_fvvv p1 p2 p3) := by intro _ _ _; kernel_rfl
end Go.Proofs.YtmjogmpgamlhaaaGreat
