/- append. -/
import Derived.Test.YtndbccpaccflcaaGreatDmAp
set_option linter.unusedVariables false
set_option linter.unusedSimpArgs false
set_option linter.unusedSectionVars false
namespace Go.Proofs.YtndbccpaccflcaaGreat.Dm
open Go

noncomputable def isInt (d : TypeDesc) : Bool := d matches .int _

section
variable {P : Program} {st xt e : TypeId} {dx : TypeDesc} {ie : TypeInfo} {z n len cap : Nat} {ats : Array TypeId} {q : TypeId} {base : Option Addr} {X : Value} {w : World}
  (hst : ats[0]? = some st) (hxt : ats[1]? = some xt) (hu : P.underlying st = some (.slice e)) (hxu : P.underlying xt = some dx) (hni : isInt dx = false)
  (hi : P.info? e = some ie) (hz : ie.size = z) (hl : ∀ w' : World, (Builtin.lenOf X).run P w' = .ok n w')
include hst hxt hu hxu hni hi hz hl

set_option maxHeartbeats 2000000 in
theorem append_room {us : Array Value} {w' : World} (hc : len + n ≤ cap) (hf : (Builtin.firstCells z n X).run P w = .ok us w)
    (hs : (base = none ∧ w' = w) ∨ ∃ a, base = some a ∧ (storeCells (a.add (len * z)) us.toList).run P w = .ok () w') :
    (Builtin.append_ ats q #[.slice base len cap, X]).run P w = .ok (.slice base (len + n) cap) w' := by
  have hzz : ie.size = z := hz
  rcases hs with ⟨rfl, rfl⟩ | ⟨a, rfl, hs⟩
  · cases dx <;> first | (simp [isInt] at hni; done) | simp only [Builtin.append_, hst, hxt, underlying, hu, hxu, sizeOf, typeInfo, hi, hzz, hl, hc, hf, Sem.run_bind, run_program, Result.andThen_ok, Sem.run_pure, Bool.false_eq_true, if_false, if_true, Bool.not_false,
      List.getElem?_toArray, List.getElem?_cons_zero, List.getElem?_cons_succ]
  · cases dx <;> first | (simp [isInt] at hni; done) | simp only [Builtin.append_, hst, hxt, underlying, hu, hxu, sizeOf, typeInfo, hi, hzz, hl, hc, hf, hs, Sem.run_bind, run_program, Result.andThen_ok, Sem.run_pure, Bool.false_eq_true, if_false, if_true, Bool.not_false,
      List.getElem?_toArray, List.getElem?_cons_zero, List.getElem?_cons_succ]

set_option maxHeartbeats 2000000 in
theorem append_grow {us os : Array Value} {zv : Value} (hzv : ie.zero = some zv) (hc : cap < len + n) (hr : roomy (len + n) cap ie.bytes = true)
    (ho : (Builtin.firstCells z len (.slice base len cap)).run P { w with drawn := w.drawn + 1 } = .ok os { w with drawn := w.drawn + 1 })
    (hf : (Builtin.firstCells z n X).run P { w with drawn := w.drawn + 1 } = .ok us { w with drawn := w.drawn + 1 }) :
    ∃ C, len + n ≤ C ∧ (Builtin.append_ ats q #[.slice base len cap, X]).run P w =
      .ok (.slice (some ⟨w.heap.size, 0, none⟩) (len + n) C) { w with drawn := w.drawn + 1, heap := w.heap.push (.cells (os ++ us ++ Builtin.zeroCells zv.cells (C - (len + n))) e) } := by
  have hzz : ie.size = z := hz
  unfold roomy at hr
  rw [Bool.and_eq_true] at hr
  have r1 : Builtin.nextslicecap (len + n) cap * ie.bytes ≤ 281474976710656 := Nat.le_of_ble_eq_true hr.1
  have r2 : len + n < 4611686018427387904 := Nat.le_of_ble_eq_true hr.2
  refine ⟨(Question.appendCap (len + n) cap e).cut (w.tape w.drawn (.appendCap (len + n) cap e)), by simp [Question.cut], ?_⟩
  have hnc : ¬ len + n ≤ cap := by omega
  have hmx : ¬ (((len + n : Nat) : Int) > IntKind.i64.max) := by
    have : IntKind.i64.max = 9223372036854775807 := by decide
    rw [this]; omega
  have hrm : ¬ (Builtin.nextslicecap (len + n) cap * ie.bytes > 2 ^ 48) := by
    have : (2 : Nat) ^ 48 = 281474976710656 := by decide
    rw [this]; omega
  have hfo : (Question.appendCap (len + n) cap e).forced = false := rfl
  cases dx <;> first | (simp [isInt] at hni; done) | simp only [Builtin.append_, hst, hxt, underlying, hu, hxu, sizeOf, typeInfo, hi, hzz, hl, hnc, hmx, hrm, Sem.run_bind, run_program, Result.andThen_ok, Sem.run_pure, zeroValue, hzv, run_choose, hfo,
        Bool.false_eq_true, if_false, if_true, Bool.not_false, run_askRoom, ho, hf, newRow, run_newObj, false_and, List.getElem?_toArray, List.getElem?_cons_zero, List.getElem?_cons_succ]

end
end Go.Proofs.YtndbccpaccflcaaGreat.Dm
