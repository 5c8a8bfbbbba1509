/- demesnelaw28.told says true, whatever the world. -/
import Derived.Test.YtmjogmpgamlhaaaGreatAB0
set_option linter.unusedVariables false
set_option linter.unusedSimpArgs false
set_option linter.unusedSectionVars false
set_option maxRecDepth 100000
set_option maxHeartbeats 0
namespace Go.Proofs.YtmjogmpgamlhaaaGreat
open Go Go.Proofs.YtmjogmpgamlhaaaGreat.Dm Go.RowKit Go.Lib
/-- A call that is known to say true, from the empty heap on. -/
theorem knownH_true {P : Program} {f : FuncId} {args : List AV} {h' : Heap} (k : KnownH P f args Heap.nil (.cv (.sc (.b true))) h') {aa : Array Value} (has : ARs (fun _ => none) args aa.toList) (w : World) :
    Calls P f aa w fun e w' => e = .returned (.bool true) ∧ Below w.heap.size w w' := by
  refine (k.2.2 (fun _ => none) w aa ⟨fun b o h => (by cases h), fun b o h => (by cases h), fun b b' o o' c N N' h => (by cases h), fun b c N h => (by cases h)⟩ has (fun _ _ _ => rfl)).mono ?_
  rintro e w' ⟨V, ι', rfl, h1, h2⟩
  have h1 : V = .bool true := h1
  subst h1
  exact ⟨rfl, h2.os, h2.tape, h2.output, h2.size, fun k hk => h2.frame k hk (fun b o N h => by cases h)⟩
noncomputable def body49 : Code := bodyOf Tryz.f49.body
theorem body49_eq : Tryz.f49.body = some body49 := by kernel_rfl
theorem enters49 : Dm.Enters Tryz.prog 49 := ⟨Tryz.f49, Tryz.func49, by kernel_rfl, by kernel_rfl⟩
theorem told49_run : (lastK (kkX ovX0) 12 [.code body49] ⟨45, argsIn 0 [] .e⟩ Heap.nil).prune [] [0] = .ret ⟨45, (Tr.e).put (some (.cv (.sc (.b true)))) 0⟩ ⟨273, .e⟩ := by kernel_rfl
theorem told49_known : KnownH Tryz.prog 49 [] Heap.nil (.cv (.sc (.b true))) ⟨273, .e⟩ :=
  knownH_of (fn := Tryz.f49) enters49 Tryz.func49 body49_eq (args := []) (frT := ⟨45, (Tr.e).put (some (.cv (.sc (.b true)))) 0⟩) (Nat.le_of_ble_eq_true (by kernel_rfl)) (.inl (EndsR.end_ (kkX_ok ovX0_ok) told49_run)) (by kernel_rfl)
theorem told49 : OvOk Tryz.prog (ovTrue 49) := ovTrue_ok enters49 (fun w => knownH_true told49_known (aa := #[]) trivial w)
end Go.Proofs.YtmjogmpgamlhaaaGreat
