import Derived.Test.YtcdjgnpjapgoaaaGreatRLD
set_option linter.unusedVariables false
set_option linter.unusedSimpArgs false
set_option linter.unusedSectionVars false
set_option maxRecDepth 100000
namespace Go.Proofs.YtcdjgnpjapgoaaaGreat
open Go Go.RowKit Go.Lib Go.Proofs.YtcdjgnpjapgoaaaGreat.Dm
theorem dM5 : pruneC DL6 ((evR 600).c 51 [pN, mI 1, mU 5] D5) = .ok yes D6 := by kernel_rfl
theorem dM6 : pruneC DL7 ((evR 600).c 51 [pN, mI 1, mU 6] D6) = .ok yes D7 := by kernel_rfl
theorem dM7 : pruneC DL8 ((evR 600).c 51 [pN, mI 1, mU 7] D7) = .ok yes D8 := by kernel_rfl
end Go.Proofs.YtcdjgnpjapgoaaaGreat
