import Derived.Test.YtcdjgnpjapgoaaaGreatRLD
set_option linter.unusedVariables false
set_option linter.unusedSimpArgs false
set_option linter.unusedSectionVars false
set_option maxRecDepth 100000
namespace Go.Proofs.YtcdjgnpjapgoaaaGreat
open Go Go.RowKit Go.Lib Go.Proofs.YtcdjgnpjapgoaaaGreat.Dm
theorem dM2 : pruneC DL3 ((evR 600).c 51 [pN, mI 1, mU 2] D2) = .ok yes D3 := by kernel_rfl
theorem dM3 : pruneC DL4 ((evR 600).c 51 [pN, mI 1, mU 3] D3) = .ok yes D4 := by kernel_rfl
theorem dM4 : pruneC DL5 ((evR 600).c 51 [pN, mI 1, mU 4] D4) = .ok yes D5 := by kernel_rfl
end Go.Proofs.YtcdjgnpjapgoaaaGreat
