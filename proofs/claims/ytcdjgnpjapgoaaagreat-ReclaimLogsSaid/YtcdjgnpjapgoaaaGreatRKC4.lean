/- The log's pages are taken out: words from 224 on. -/
import Derived.Test.YtcdjgnpjapgoaaaGreatRK
set_option linter.unusedVariables false
set_option linter.unusedSimpArgs false
set_option linter.unusedSectionVars false
namespace Go.Proofs.YtcdjgnpjapgoaaaGreat
open Go Go.Proofs.YtcdjgnpjapgoaaaGreat.Dm
theorem cc4 : chkCols 4 = true := by kernel_rfl
end Go.Proofs.YtcdjgnpjapgoaaaGreat

namespace Go.Proofs.YtcdjgnpjapgoaaaGreat
open Go Go.Proofs.YtcdjgnpjapgoaaaGreat.Dm
theorem cc5 : chkCols 5 = true := by kernel_rfl
end Go.Proofs.YtcdjgnpjapgoaaaGreat

namespace Go.Proofs.YtcdjgnpjapgoaaaGreat
open Go Go.Proofs.YtcdjgnpjapgoaaaGreat.Dm
theorem cc6 : chkCols 6 = true := by kernel_rfl
end Go.Proofs.YtcdjgnpjapgoaaaGreat

namespace Go.Proofs.YtcdjgnpjapgoaaaGreat
open Go Go.Proofs.YtcdjgnpjapgoaaaGreat.Dm
theorem cc7 : chkCols 7 = true := by kernel_rfl
end Go.Proofs.YtcdjgnpjapgoaaaGreat
