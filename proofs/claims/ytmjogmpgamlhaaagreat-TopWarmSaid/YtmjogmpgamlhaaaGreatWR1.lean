import Derived.Test.YtmjogmpgamlhaaaGreatWL0
set_option linter.unusedVariables false
set_option linter.unusedSimpArgs false
set_option linter.unusedSectionVars false
set_option maxRecDepth 100000
set_option maxHeartbeats 0
namespace Go.Proofs.YtmjogmpgamlhaaaGreat
open Go Go.Proofs.YtmjogmpgamlhaaaGreat.Dm Go.RowKit Go.Lib
theorem ry0_2_ffff_tvvv (p1 p2 p3 : Bool) : rY 2 (kA 0) (SS false false false false true p1 p2 p3) Ly0_2_ffff_tvvv (Hy0_2_ffff_tvvv p1 p2 p3) := by intro _ _ _; kernel_rfl
theorem ry0_2_ffff_fvvv (p1 p2 p3 : Bool) : rY 2 (kA 0) (SS false false false false false p1 p2 p3) Ly0_2_ffff_fvvv (Hy0_2_ffff_fvvv p1 p2 p3) := by intro _ _ _; kernel_rfl
theorem ry0_2_tfff_tvvv (p1 p2 p3 : Bool) : rY 2 (kA 0) (SS true false false false true p1 p2 p3) Ly0_2_tfff_tvvv (Hy0_2_tfff_tvvv p1 p2 p3) := by intro _ _ _; kernel_rfl
theorem ry0_2_tfff_fvvv (p1 p2 p3 : Bool) : rY 2 (kA 0) (SS true false false false false p1 p2 p3) Ly0_2_tfff_fvvv (Hy0_2_tfff_fvvv p1 p2 p3) := by intro _ _ _; kernel_rfl
theorem ry0_2_ftff_tvvv (p1 p2 p3 : Bool) : rY 2 (kA 0) (SS false true false false true p1 p2 p3) Ly0_2_ftff_tvvv (Hy0_2_ftff_tvvv p1 p2 p3) := by intro _ _ _; kernel_rfl
theorem ry0_2_ftff_fvvv (p1 p2 p3 : Bool) : rY 2 (kA 0) (SS false true false false false p1 p2 p3) Ly0_2_ftff_fvvv (Hy0_2_ftff_fvvv p1 p2 p3) := by intro _ _ _; kernel_rfl
theorem ry0_2_ttff_tvvv (p1 p2 p3 : Bool) : rY 2 (kA 0) (SS true true false false true p1 p2 p3) Ly0_2_ttff_tvvv (Hy0_2_ttff_tvvv p1 p2 p3) := by intro _ _ _; kernel_rfl
theorem ry0_2_ttff_fvvv (p1 p2 p3 : Bool) : rY 2 (kA 0) (SS true true false false false p1 p2 p3) Ly0_2_ttff_fvvv (Hy0_2_ttff_fvvv p1 p2 p3) := by intro _ _ _; kernel_rfl
theorem ry0_2_fftf_tvvv (p1 p2 p3 : Bool) : rY 2 (kA 0) (SS false false true false true p1 p2 p3) Ly0_2_fftf_tvvv (Hy0_2_fftf_tvvv p1 p2 p3) := by intro _ _ _; kernel_rfl
theorem ry0_2_fftf_fvvv (p1 p2 p3 : Bool) : rY 2 (kA 0) (SS false false true false false p1 p2 p3) Ly0_2_fftf_fvvv (Hy0_2_fftf_fvvv p1 p2 p3) := by intro _ _ _; kernel_rfl
theorem ry0_2_tftf_tvvv (p1 p2 p3 : Bool) : rY 2 (kA 0) (SS true false true false true p1 p2 p3) Ly0_2_tftf_tvvv (Hy0_2_tftf_tvvv p1 p2 p3) := by intro _ _ _; kernel_rfl
theorem ry0_2_tftf_fvvv (p1 p2 p3 : Bool) : rY 2 (kA 0) (SS true false true false false p1 p2 p3) Ly0_2_tftf_fvvv (Hy0_2_tftf_fvvv p1 p2 p3) := by intro _ _ _; kernel_rfl
theorem ry0_2_fttf_tvvv (p1 p2 p3 : Bool) : rY 2 (kA 0) (SS false true true false true p1 p2 p3) Ly0_2_fttf_tvvv (Hy0_2_fttf_tvvv p1 p2 p3) := by intro _ _ _; kernel_rfl
theorem ry0_2_fttf_fvvv (p1 p2 p3 : Bool) : rY 2 (kA 0) (SS false true true false false p1 p2 p3) Ly0_2_fttf_fvvv (Hy0_2_fttf_fvvv p1 p2 p3) := by intro _ _ _; kernel_rfl
theorem ry0_2_tttf_tvvv (p1 p2 p3 : Bool) : rY 2 (kA 0) (SS true true true false true p1 p2 p3) Ly0_2_tttf_tvvv (Hy0_2_tttf_tvvv p1 p2 p3) := by intro _ _ _; kernel_rfl
theorem ry0_2_tttf_fvvv (p1 p2 p3 : Bool) : rY 2 (kA 0) (SS true true true false false p1 p2 p3) Ly0_2_tttf_fvvv (Hy0_2_tttf_fvvv p1 p2 p3) := by intro _ _ _; kernel_rfl
end Go.Proofs.YtmjogmpgamlhaaaGreat
