/- The runs of page 3. -/
import Derived.Test.YtcdjgnpjapgoaaaGreatRK
set_option linter.unusedVariables false
set_option linter.unusedSimpArgs false
set_option linter.unusedSectionVars false
namespace Go.Proofs.YtcdjgnpjapgoaaaGreat
open Go Go.Proofs.YtcdjgnpjapgoaaaGreat.Dm
theorem cp0 : chkPg 0 = true := by kernel_rfl
end Go.Proofs.YtcdjgnpjapgoaaaGreat

namespace Go.Proofs.YtcdjgnpjapgoaaaGreat
open Go Go.Proofs.YtcdjgnpjapgoaaaGreat.Dm
theorem cp1 : chkPg 1 = true := by kernel_rfl
end Go.Proofs.YtcdjgnpjapgoaaaGreat

namespace Go.Proofs.YtcdjgnpjapgoaaaGreat
open Go Go.Proofs.YtcdjgnpjapgoaaaGreat.Dm
theorem cp2 : chkPg 2 = true := by kernel_rfl
end Go.Proofs.YtcdjgnpjapgoaaaGreat

namespace Go.Proofs.YtcdjgnpjapgoaaaGreat
open Go Go.Proofs.YtcdjgnpjapgoaaaGreat.Dm
theorem cp3 : chkPg 3 = true := by kernel_rfl
end Go.Proofs.YtcdjgnpjapgoaaaGreat
