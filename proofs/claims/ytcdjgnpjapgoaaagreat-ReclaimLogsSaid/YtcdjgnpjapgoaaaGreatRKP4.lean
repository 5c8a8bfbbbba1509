/- The runs of page 7. -/
import Derived.Test.YtcdjgnpjapgoaaaGreatRK
set_option linter.unusedVariables false
set_option linter.unusedSimpArgs false
set_option linter.unusedSectionVars false
namespace Go.Proofs.YtcdjgnpjapgoaaaGreat
open Go Go.Proofs.YtcdjgnpjapgoaaaGreat.Dm
theorem cp4 : chkPg 4 = true := by kernel_rfl
end Go.Proofs.YtcdjgnpjapgoaaaGreat

namespace Go.Proofs.YtcdjgnpjapgoaaaGreat
open Go Go.Proofs.YtcdjgnpjapgoaaaGreat.Dm
theorem cp5 : chkPg 5 = true := by kernel_rfl
end Go.Proofs.YtcdjgnpjapgoaaaGreat

namespace Go.Proofs.YtcdjgnpjapgoaaaGreat
open Go Go.Proofs.YtcdjgnpjapgoaaaGreat.Dm
theorem cp6 : chkPg 6 = true := by kernel_rfl
end Go.Proofs.YtcdjgnpjapgoaaaGreat

namespace Go.Proofs.YtcdjgnpjapgoaaaGreat
open Go Go.Proofs.YtcdjgnpjapgoaaaGreat.Dm
theorem cp7 : chkPg 7 = true := by kernel_rfl
end Go.Proofs.YtcdjgnpjapgoaaaGreat
