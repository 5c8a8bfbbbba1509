import Derived.Test.YtmgffmdinoeaiaaGreatH1
set_option linter.unusedVariables false
set_option linter.unusedSimpArgs false
set_option linter.unusedSectionVars false
set_option maxRecDepth 100000
set_option maxHeartbeats 0
namespace Go.Proofs.YtmgffmdinoeaiaaGreat
open Go Go.Proofs.YtmgffmdinoeaiaaGreat.Dm
theorem mixed : Tryz.prog.follows .mixedOrders = true := by kernel_rfl
theorem names : Tryz.prog.funcs.toList.all (fun fn => !(fn.name == "runtime.NumGoroutine")) = true := by kernel_rfl
theorem told_run : saysTrue (runs Tryz.prog 100000 6 [] Heap.nil) = true := by kernel_rfl
noncomputable def pre0 : Code := match Tryz.f3.body with
  | some (.seq a _) => a
  | _ => .skip
noncomputable def pre1 : Code := match Tryz.f3.body with
  | some (.seq _ (.seq b _)) => b
  | _ => .skip
noncomputable def rest : Code := match Tryz.f3.body with
  | some (.seq _ (.seq _ r)) => r
  | _ => .skip
theorem body_eq : Tryz.f3.body = some (pre0.seq (pre1.seq rest)) := by kernel_rfl
noncomputable def ov : CallK → CallK := fun c => ovTrue 6 (ovKnown 4 [cfg] v1 h1 c)
noncomputable def kk : Ks := runsK Tryz.prog ov 100000
noncomputable def num (n : Int) : AV := .cv (.sc (.i .i64 n))
noncomputable def fr2 (n : Int) (k : Nat) : Fr := ⟨93, ((Tr.e.put (some (num n)) 0).put (some (.cv (.sc (.b false)))) 2).put (some (num (.ofNat k))) 3⟩
noncomputable def good (r : Res) : Bool := match r with
  | .ret fr _ => match fr.t.get 2 with
    | some (.cv (.sc (.b x))) => x
    | _ => false
  | _ => false
end Go.Proofs.YtmgffmdinoeaiaaGreat
