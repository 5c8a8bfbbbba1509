/- The machine is made: what is checked of it. -/
import Derived.Test.YtafkkicnfngpoaaGreatY5b
import Derived.Test.YtafkkicnfngpoaaGreatY3d
set_option linter.unusedVariables false
set_option linter.unusedSimpArgs false
set_option linter.unusedSectionVars false
namespace Go.Proofs.YtafkkicnfngpoaaGreat
open Go Go.RowKit Go.Lib Go.Proofs.YtafkkicnfngpoaaGreat.Dm

noncomputable def cfgA : AV := .cv (.ag [.i .i64 30, .i .i64 10, .i .i64 0, .i .i64 2, .i .i64 1, .i .i64 1])
noncomputable def okB : AV → Bool
  | .tu [.sc (.p 222 0), .sc (.b true)] => true
  | _ => false
noncomputable def okC (t : Tr AO) : Bool := match t.get 222 with
  | some (.cells r _) => match r.get 0 with
    | some (.p 11 0) => true
    | _ => false
  | _ => false
noncomputable def okN : AV → Bool
  | .cv (.sc (.i .i64 (.ofNat 0))) => true
  | _ => false
noncomputable def noS (b : Nat) : Nat := b
noncomputable def nz : Nat → Option (Nat × Nat) := fun _ => some (0, 0)
noncomputable def nn : Nat → Option (Nat × Nat) := fun k => cnd (Nat.blt k 1) none (some (0, 0))
noncomputable def chkB : Bool := match (evH 600).c 7 [cfgA] Heap.nil with
  | .ok v h => okB v && (okC h.t && (Nat.ble h.next (atomKey 0) && (injL (mapN noS DL0) && (mtAll (false, []) noS nn D0.next h.t D0.t DL0 && !(DL0.any fun b => Nat.beq b 222)))))
  | _ => false
noncomputable def chkD (m : Nat) (g g' : Heap) (L : List Nat) (δ : Nat → Option (Nat × Nat)) : Bool := match (evH 600).c 8 [pN, nI 1, nU m] g with
  | .ok v h => okN v && (Nat.ble h.next (atomKey 0) && (injL (mapN noS L) && mtAll (false, []) noS δ g'.next h.t g'.t L))
  | _ => false
theorem cB : chkB = true := by kernel_rfl
theorem cD6 : chkD 6 D0 S0 L0 nn = true := by kernel_rfl
theorem pD0 : pick D0.t DL0 = D0.t := by kernel_rfl
end Go.Proofs.YtafkkicnfngpoaaGreat
