/- The log's pages are taken out: words from 96 on. -/
import Derived.Test.YtcdjgnpjapgoaaaGreatRK
set_option linter.unusedVariables false
set_option linter.unusedSimpArgs false
set_option linter.unusedSectionVars false
namespace Go.Proofs.YtcdjgnpjapgoaaaGreat
open Go Go.Proofs.YtcdjgnpjapgoaaaGreat.Dm
theorem cc0 : chkCols 0 = true := by kernel_rfl
end Go.Proofs.YtcdjgnpjapgoaaaGreat

namespace Go.Proofs.YtcdjgnpjapgoaaaGreat
open Go Go.Proofs.YtcdjgnpjapgoaaaGreat.Dm
theorem cc1 : chkCols 1 = true := by kernel_rfl
end Go.Proofs.YtcdjgnpjapgoaaaGreat

namespace Go.Proofs.YtcdjgnpjapgoaaaGreat
open Go Go.Proofs.YtcdjgnpjapgoaaaGreat.Dm
theorem cc2 : chkCols 2 = true := by kernel_rfl
end Go.Proofs.YtcdjgnpjapgoaaaGreat

namespace Go.Proofs.YtcdjgnpjapgoaaaGreat
open Go Go.Proofs.YtcdjgnpjapgoaaaGreat.Dm
theorem cc3 : chkCols 3 = true := by kernel_rfl
end Go.Proofs.YtcdjgnpjapgoaaaGreat
