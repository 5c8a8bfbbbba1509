import Derived.Test.YtcdjgnpjapgoaaaGreatRLD
set_option linter.unusedVariables false
set_option linter.unusedSimpArgs false
set_option linter.unusedSectionVars false
set_option maxRecDepth 100000
namespace Go.Proofs.YtcdjgnpjapgoaaaGreat
open Go Go.RowKit Go.Lib Go.Proofs.YtcdjgnpjapgoaaaGreat.Dm
theorem dB : pruneC DL0 ((evR 600).c 50 [cfgA] Heap.nil) = .ok (.tu [.sc (.p 220 0), .sc (.b true)]) D0 := by kernel_rfl
theorem dM0 : pruneC DL1 ((evR 600).c 51 [pN, mI 1, mU 0] D0) = .ok yes D1 := by kernel_rfl
theorem dM1 : pruneC DL2 ((evR 600).c 51 [pN, mI 1, mU 1] D1) = .ok yes D2 := by kernel_rfl
end Go.Proofs.YtcdjgnpjapgoaaaGreat
