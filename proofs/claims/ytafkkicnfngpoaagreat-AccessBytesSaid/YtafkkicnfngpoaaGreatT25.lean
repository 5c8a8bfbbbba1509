import Derived.Test.YtafkkicnfngpoaaGreatAL1
set_option linter.unusedVariables false
set_option linter.unusedSimpArgs false
set_option linter.unusedSectionVars false
set_option maxRecDepth 100000
set_option maxHeartbeats 0
namespace Go.Proofs.YtafkkicnfngpoaaGreat
open Go Go.Proofs.YtafkkicnfngpoaaGreat.Dm
theorem told25_run : saysTrue ((evA 100000).c 12 [] Heap.nil) = true := by kernel_rfl
end Go.Proofs.YtafkkicnfngpoaaGreat
