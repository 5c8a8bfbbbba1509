import Derived.Test.YtmjogmpgamlhaaaGreatWL0
set_option linter.unusedVariables false
set_option linter.unusedSimpArgs false
set_option linter.unusedSectionVars false
set_option maxRecDepth 100000
set_option maxHeartbeats 0
namespace Go.Proofs.YtmjogmpgamlhaaaGreat
open Go Go.Proofs.YtmjogmpgamlhaaaGreat.Dm Go.RowKit Go.Lib
theorem ry3_2_ffft_vvvt (p0 p1 p2 : Bool) : rY 2 (kA 3) (SS false false false true p0 p1 p2 true) Ly3_2_ffft_vvvt (Hy3_2_ffft_vvvt p0 p1 p2) := by intro _ _ _; kernel_rfl
theorem ry3_2_ffft_vvvf (p0 p1 p2 : Bool) : rY 2 (kA 3) (SS false false false true p0 p1 p2 false) Ly3_2_ffft_vvvf (Hy3_2_ffft_vvvf p0 p1 p2) := by intro _ _ _; kernel_rfl
theorem ry3_2_tfft_vvvt (p0 p1 p2 : Bool) : rY 2 (kA 3) (SS true false false true p0 p1 p2 true) Ly3_2_tfft_vvvt (Hy3_2_tfft_vvvt p0 p1 p2) := by intro _ _ _; kernel_rfl
theorem ry3_2_tfft_vvvf (p0 p1 p2 : Bool) : rY 2 (kA 3) (SS true false false true p0 p1 p2 false) Ly3_2_tfft_vvvf (Hy3_2_tfft_vvvf p0 p1 p2) := by intro _ _ _; kernel_rfl
theorem ry3_2_ftft_vvvt (p0 p1 p2 : Bool) : rY 2 (kA 3) (SS false true false true p0 p1 p2 true) Ly3_2_ftft_vvvt (Hy3_2_ftft_vvvt p0 p1 p2) := by intro _ _ _; kernel_rfl
theorem ry3_2_ftft_vvvf (p0 p1 p2 : Bool) : rY 2 (kA 3) (SS false true false true p0 p1 p2 false) Ly3_2_ftft_vvvf (Hy3_2_ftft_vvvf p0 p1 p2) := by intro _ _ _; kernel_rfl
theorem ry3_2_ttft_vvvt (p0 p1 p2 : Bool) : rY 2 (kA 3) (SS true true false true p0 p1 p2 true) Ly3_2_ttft_vvvt (Hy3_2_ttft_vvvt p0 p1 p2) := by intro _ _ _; kernel_rfl
theorem ry3_2_ttft_vvvf (p0 p1 p2 : Bool) : rY 2 (kA 3) (SS true true false true p0 p1 p2 false) Ly3_2_ttft_vvvf (Hy3_2_ttft_vvvf p0 p1 p2) := by intro _ _ _; kernel_rfl
theorem ry3_2_fftt_vvvt (p0 p1 p2 : Bool) : rY 2 (kA 3) (SS false false true true p0 p1 p2 true) Ly3_2_fftt_vvvt (Hy3_2_fftt_vvvt p0 p1 p2) := by intro _ _ _; kernel_rfl
theorem ry3_2_fftt_vvvf (p0 p1 p2 : Bool) : rY 2 (kA 3) (SS false false true true p0 p1 p2 false) Ly3_2_fftt_vvvf (Hy3_2_fftt_vvvf p0 p1 p2) := by intro _ _ _; kernel_rfl
theorem ry3_2_tftt_vvvt (p0 p1 p2 : Bool) : rY 2 (kA 3) (SS true false true true p0 p1 p2 true) Ly3_2_tftt_vvvt (Hy3_2_tftt_vvvt p0 p1 p2) := by intro _ _ _; kernel_rfl
theorem ry3_2_tftt_vvvf (p0 p1 p2 : Bool) : rY 2 (kA 3) (SS true false true true p0 p1 p2 false) Ly3_2_tftt_vvvf (Hy3_2_tftt_vvvf p0 p1 p2) := by intro _ _ _; kernel_rfl
theorem ry3_2_fttt_vvvt (p0 p1 p2 : Bool) : rY 2 (kA 3) (SS false true true true p0 p1 p2 true) Ly3_2_fttt_vvvt (Hy3_2_fttt_vvvt p0 p1 p2) := by intro _ _ _; kernel_rfl
theorem ry3_2_fttt_vvvf (p0 p1 p2 : Bool) : rY 2 (kA 3) (SS false true true true p0 p1 p2 false) Ly3_2_fttt_vvvf (Hy3_2_fttt_vvvf p0 p1 p2) := by intro _ _ _; kernel_rfl
theorem ry3_2_tttt_vvvt (p0 p1 p2 : Bool) : rY 2 (kA 3) (SS true true true true p0 p1 p2 true) Ly3_2_tttt_vvvt (Hy3_2_tttt_vvvt p0 p1 p2) := by intro _ _ _; kernel_rfl
theorem ry3_2_tttt_vvvf (p0 p1 p2 : Bool) : rY 2 (kA 3) (SS true true true true p0 p1 p2 false) Ly3_2_tttt_vvvf (Hy3_2_tttt_vvvf p0 p1 p2) := by intro _ _ _; kernel_rfl
end Go.Proofs.YtmjogmpgamlhaaaGreat
