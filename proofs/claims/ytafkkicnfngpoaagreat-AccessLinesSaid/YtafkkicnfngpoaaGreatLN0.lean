/- The evaluator for AccessLines: told() is known to say true. -/
import Derived.Test.YtafkkicnfngpoaaGreatT25
import Derived.Test.YtafkkicnfngpoaaGreatDmEnds
set_option linter.unusedVariables false
set_option linter.unusedSimpArgs false
set_option linter.unusedSectionVars false
namespace Go.Proofs.YtafkkicnfngpoaaGreat
open Go Go.Proofs.YtafkkicnfngpoaaGreat.Dm Go.RowKit
theorem enters12 : Dm.Enters Tryz.prog 12 := ⟨Tryz.f12, Tryz.func12, by kernel_rfl, by kernel_rfl⟩
theorem told25_calls (w : World) : Calls Tryz.prog 12 #[] w fun e w' => e = .returned (.bool true) ∧ Below w.heap.size w w' :=
  calls_true (args := []) («as» := #[]) (evA_ok 100000).2 trivial told25_run w
noncomputable def ovL : CallK → CallK := fun call => ovTrue 12 (ovA call)
theorem ovL_ok : OvOk Tryz.prog ovL := fun c hc => ovTrue_ok enters12 told25_calls _ (ovA_ok c hc)
noncomputable def kkL : K := (runsK Tryz.prog ovL 100000).k
theorem kkL_ok : KOk Tryz.prog kkL := (runsK_ok mixedP noGor ovL_ok 100000).1
noncomputable def lnbody : Code := match Tryz.f5.body with
  | some b => b
  | none => .skip
theorem lnbody_eq : Tryz.f5.body = some lnbody := by kernel_rfl
end Go.Proofs.YtafkkicnfngpoaaGreat
