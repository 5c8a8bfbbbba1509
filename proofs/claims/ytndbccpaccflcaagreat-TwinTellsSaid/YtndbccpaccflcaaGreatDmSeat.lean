/- The evaluator over a program's own tables. -/
import Derived.Test.YtndbccpaccflcaaGreatDmFast
set_option linter.unusedVariables false
set_option linter.unusedSimpArgs false
set_option linter.unusedSectionVars false
namespace Go.Proofs.YtndbccpaccflcaaGreat.Dm
open Go Go.RowKit

noncomputable def fsOf (P : Program) : Fns := fun f => match P.funcs[f]? with
  | some fn => match fn.body with
    | some b => some ⟨fn.ntmps, fn.results.toList, b⟩
    | none => none
  | none => none

theorem tiOf_ok (P : Program) : TyOk P (tiOf P) := fun _ _ h => h

theorem fsOf_ok {P : Program} (h : P.funcs.toList.all (fun fn => !(fn.name == "runtime.NumGoroutine")) = true) : FnsOk P (fsOf P) := by
  intro f x hx
  unfold fsOf at hx
  split at hx
  · rename_i fn hf
    split at hx
    · rename_i b hb
      simp only [Option.some.injEq] at hx; subst hx
      refine ⟨fn, hf, hb, rfl, rfl, ?_⟩
      rw [List.all_eq_true] at h
      have := h fn (by rw [← Array.getElem?_toList] at hf; exact List.mem_of_getElem? hf)
      simpa using this
    · cases hx
  · cases hx

/-- The calls that the evaluator runs, over a program. -/
noncomputable def runs (P : Program) (n : Nat) : CallK := (ksF (tiOf P) (fsOf P) (drawA (tiOf P)) (fun c => c) n).c

theorem runs_ok {P : Program} (hm : P.follows .mixedOrders = true) (h : P.funcs.toList.all (fun fn => !(fn.name == "runtime.NumGoroutine")) = true) (n : Nat) : CallOk P (runs P n) := by
  unfold runs
  rw [ksF_eq]
  exact calls_ok (tiOf_ok P) hm (fsOf_ok h) (fun call hc => hc) n

/-- A call that says true. -/
noncomputable def saysTrue : CRes → Bool
  | .ok (.cv (.sc (.b x))) _ => x
  | _ => false

noncomputable def argOf : Value → AV
  | .int k n => .cv (.sc (.i k n))
  | .bool b => .cv (.sc (.b b))
  | _ => .tu []

/-- A run on no memory at all: it says so whatever the world holds, and leaves what was there. -/
theorem calls_true {P : Program} {call : CallK} (hc : CallOk P call) {f : FuncId} {args : List AV} {as : Array Value} (hargs : ARs (fun _ => none) args as.toList) (ht : saysTrue (call f args Heap.nil) = true) (w : World) :
    Calls P f as w fun e w' => e = .returned (.bool true) ∧ Below w.heap.size w w' := by
  cases hr : call f args Heap.nil with
  | bad n => rw [hr] at ht; cases ht
  | ok v h' =>
    rw [hr] at ht
    obtain ⟨_, _, hx⟩ := hc f args Heap.nil v h' hr
    have hv : v = .cv (.sc (.b true)) := by
      unfold saysTrue at ht
      split at ht
      · rename_i x _ he
        simp only [CRes.ok.injEq] at he
        rw [he.1, ht]
      · cases ht
    subst hv
    refine (hx (fun _ => none) w as ⟨fun b o h => (by cases h), fun b o h => (by cases h), fun b b' o o' c N N' h => (by cases h), fun b c N h => (by cases h)⟩ hargs (fun _ _ _ => rfl)).mono ?_
    rintro e w' ⟨V, ι', rfl, h1, h2⟩
    have h1 : V = .bool true := h1
    subst h1
    exact ⟨rfl, h2.os, h2.tape, h2.output, h2.size, fun k hk => h2.frame k hk (fun b o N h => by cases h)⟩

end Go.Proofs.YtndbccpaccflcaaGreat.Dm
