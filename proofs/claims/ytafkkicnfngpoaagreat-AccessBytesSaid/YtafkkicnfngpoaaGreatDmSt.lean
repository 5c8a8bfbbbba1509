/- Stores. -/
import Derived.Test.YtafkkicnfngpoaaGreatDmAl
set_option linter.unusedVariables false
set_option linter.unusedSimpArgs false
set_option linter.unusedSectionVars false
namespace Go.Proofs.YtafkkicnfngpoaaGreat.Dm
open Go

/-- Worlds that part in one block alone. -/
structure But (c : Nat) (w w' : World) : Prop where
  size : w'.heap.size = w.heap.size
  tape : w'.tape = w.tape
  os : w'.os = w.os
  output : w'.output = w.output
  other : ∀ x, x ≠ c → w'.heap[x]? = w.heap[x]?

theorem But.refl (c : Nat) (w : World) : But c w w := ⟨rfl, rfl, rfl, rfl, fun _ _ => rfl⟩
theorem But.trans {c : Nat} {a b d : World} (h : But c a b) (k : But c b d) : But c a d :=
  ⟨k.size.trans h.size, k.tape.trans h.tape, k.os.trans h.os, k.output.trans h.output, fun x hx => (k.other x hx).trans (h.other x hx)⟩

theorem But.set (w : World) (a : Addr) (v : Value) : But a.block w (w.setCell a v) :=
  ⟨by simp [World.setCell], rfl, rfl, rfl, fun x hx => by simp only [World.setCell, Array.getElem?_modify]; rw [if_neg (by omega)]⟩

theorem store_run {P : Program} {cb o : Nat} {el : TypeId} {fr : Nat × Nat} : ∀ (vs : List Value) (i : Nat) (w : World) (cs : Array Value),
    w.heap[cb]? = some (.cells cs el fr) → o + i + vs.length ≤ cs.size → (fr.1 = fr.2 ∨ cs.size ≤ fr.1) → (∀ v ∈ vs, v.oneCell' = true) →
    ∃ w' cs', (storeCells ⟨cb, o, none⟩ vs i).run P w = .ok () w' ∧ But cb w w' ∧ w'.heap[cb]? = some (.cells cs' el fr) ∧ cs'.size = cs.size ∧
      ∀ j, cs'[j]? = if o + i ≤ j ∧ j < o + i + vs.length then vs[j - (o + i)]? else cs[j]?
  | [], i, w, cs, hc, hl, hf, h1 => ⟨w, cs, by simp [storeCells], But.refl _ _, hc, rfl, fun j => by rw [if_neg]; simp⟩
  | v :: vs, i, w, cs, hc, hl, hf, h1 => by
    simp only [List.length_cons] at hl
    have hcell : w.cell? ⟨cb, o + i, none⟩ = some (cs[o + i]'(by omega)) := by
      simp only [World.cell?, hc]; simp
    have hfz : w.frozen? ⟨cb, o + i, none⟩ = false := by
      obtain ⟨lo, hi⟩ := fr
      simp only [World.frozen?, hc]
      simp only [] at hf
      simp; omega
    have hrun := run_store P w ⟨cb, o + i, none⟩ v .plain (h1 v (by simp))
    rw [hcell] at hrun
    simp only [hfz, Bool.false_eq_true, if_false] at hrun
    have hset : (w.setCell ⟨cb, o + i, none⟩ v).heap[cb]? = some (.cells (cs.setIfInBounds (o + i) v) el fr) := by
      simp only [World.setCell, Array.getElem?_modify, if_true, hc, Option.map_some]
      simp
    obtain ⟨w', cs', e1, e2, e3, e4, e5⟩ := store_run (P := P) (o := o) vs (i + 1) (w.setCell ⟨cb, o + i, none⟩ v) (cs.setIfInBounds (o + i) v) hset (by simp; omega) (by simpa using hf) (fun u hu => h1 u (by simp [hu]))
    refine ⟨w', cs', ?_, (But.set w ⟨cb, o + i, none⟩ v).trans e2, e3, by simpa using e4, ?_⟩
    · simp only [storeCells, Sem.run_bind, Addr_add, hrun, Result.andThen_ok, e1]
    · intro j
      rw [e5 j]
      by_cases h2 : o + (i + 1) ≤ j ∧ j < o + (i + 1) + vs.length
      · rw [if_pos h2, if_pos (by simp; omega), show j - (o + i) = (j - (o + (i + 1))) + 1 by omega, List.getElem?_cons_succ]
      · rw [if_neg h2, Array.getElem?_setIfInBounds]
        by_cases h3 : o + i = j
        · subst h3
          rw [if_pos rfl, if_pos (by omega), if_pos ⟨Nat.le_refl _, by simp⟩]; simp
        · rw [if_neg h3, if_neg (by simp; omega)]

/-- A piece of a row is written. -/
theorem write_of {P : Program} {ι : Io} {w : World} {h : Heap} (rep : Rep ι w h) {b : Nat} {r r' : Row} (hb : h.get b = some (.cells r false)) {cb N : Nat} (hi : ι b = some (cb, N))
    {o : Nat} {l : List SV} (hl : r.write o l = some r') {vs : List Value} (hv : Rs ι l vs) :
    ∃ w', (storeCells ⟨cb, o, none⟩ vs).run P w = .ok () w' ∧ Post ι h (h.put b (.cells r' false)) w w' ι := by
  obtain ⟨cb', N', g1, cs, el, fr, g2, g3, g4, g5, g6⟩ := rep.obj b _ hb
  rw [hi] at g1; simp only [Option.some.injEq, Prod.mk.injEq] at g1
  obtain ⟨rfl, rfl⟩ := g1
  obtain ⟨w1, w2, w3⟩ := Row.get_write hl
  have hlen := hv.length
  obtain ⟨w', cs', e1, e2, e3, e4, e5⟩ := store_run (P := P) (cb := cb) (o := o) vs 0 w cs g2 (by omega) (.inl (g6 rfl)) (fun v hv' => hv.one v hv')
  refine ⟨w', e1, Post.put rep hb hi e2.other e2.size e2.tape e2.os e2.output ⟨cs', el, fr, e3, by omega, by omega, ?_, fun _ => by exact g6 rfl⟩⟩
  intro j x hj
  rw [w3 j] at hj
  rw [e5 j]
  by_cases hin : o ≤ j ∧ j < o + l.length
  · rw [if_pos hin] at hj
    rw [if_pos (by omega)]
    obtain ⟨V, f1, f2⟩ := hv.get hj
    exact ⟨V, by simpa using f1, f2⟩
  · rw [if_neg hin] at hj
    rw [if_neg (by omega)]
    exact g5 j x hj

/-- What an operation that changes memory does in the model. -/
noncomputable def EOk (P : Program) (ι : Io) (h h' : Heap) (w : World) (R : Operand → Value) (o : Oper) (v : AV) : Prop :=
  ∃ N V w' ι', (execOp R o).run P w = .ok N w' ∧ (N = .value V ∨ N = .skip ∧ V = undef) ∧ AVR ι' v V ∧ Post ι h h' w w' ι'

section
variable {P : Program} {ty : Ty} (hty : TyOk P ty) {ι : Io} {ρ : Env} {R : Operand → Value} (he : ER ι ρ R) {w : World} {h h' : Heap} (rep : Rep ι w h) {o : Oper} {v : AV}
include hty he rep

theorem e_store {t : TypeId} {a x : Operand} (ho : o.op = .store t a x) (hq : eop ty ρ h (.store t a x) = some (v, h')) : EOk P ι h h' w R o v := by
  simp only [eop] at hq
  split at hq
  · rename_i ti ht
    obtain ⟨i, d, s⟩ := hty.get ht
    split at hq
    · rename_i b off c ha hc
      cases hb : Nat.beq c.cells.length ti.size with
      | false => rw [hb] at hq; cases hq
      | true =>
        rw [hb] at hq; simp only [cnd_true] at hq
        have hlen : c.cells.length = ti.size := Nat.eq_of_beq_eq_true hb
        split at hq
        · rename_i r hg
          split at hq
          · rename_i r' hw
            simp only [Option.some.injEq, Prod.mk.injEq] at hq
            obtain ⟨rfl, rfl⟩ := hq
            obtain ⟨cb, N, h1, h2⟩ := evS_rel he ha
            have hr := CVR.cells (evC_rel he hc)
            obtain ⟨w', e1, e2⟩ := write_of (P := P) rep hg h1 hw hr
            have hsz : (R x).cells.size = ti.size := by have := hr.length; simp only [Array.length_toList] at this; omega
            refine ⟨.skip, undef, w', ι, ?_, .inr ⟨rfl, rfl⟩, ⟨#[], rfl, trivial⟩, e2⟩
            simp [execOp, ho, Instr.storeAt, Instr.sureAddr, h2, storeVar, s.r_size, hsz, e1]
          · cases hq
        · cases hq
    · cases hq
  · cases hq

theorem e_range {t : TypeId} {x : Operand} (ho : o.op = .range t x) (hq : eop ty ρ h (.range t x) = some (v, h')) (hf : Free ι h.next h'.next) : EOk P ι h h' w R o v := by
  simp only [eop] at hq
  split at hq
  · rename_i ti ht
    obtain ⟨i, d, s⟩ := hty.get ht
    split at hq
    · rename_i kt et hk hx
      have hd := tk_map (s.k ▸ hk); subst hd
      simp only [Option.some.injEq, Prod.mk.injEq] at hq
      obtain ⟨rfl, rfl⟩ := hq
      have hr : R x = .map none := evS_rel he hx
      have hp := Post.push (w' := w.alloc (.mapIter none 0 #[] 0)) (.it none 0 [] 0) 0 rep hf (fun c hc => by show (w.heap.push _)[c]? = _; rw [Array.getElem?_push, if_neg (by omega)]) (by show (w.heap.push _).size = _; simp) rfl rfl rfl
        ⟨none, by show (w.heap.push _)[w.heap.size]? = _; simp, trivial⟩
      refine ⟨_, .pointer (some ⟨w.heap.size, 0, none⟩), _, _, ?_, .inl rfl, ⟨w.heap.size, 0, by simp, rfl⟩, hp⟩
      simp [execOp, ho, Instr.range, s.r_und, hr]
    · rename_i kt et r hk hx
      have hd := tk_map (s.k ▸ hk); subst hd
      split at hq
      · rename_i es ck hg
        simp only [Option.some.injEq, Prod.mk.injEq] at hq
        obtain ⟨rfl, rfl⟩ := hq
        obtain ⟨cb, N, h1, h2⟩ := evS_rel he hx
        obtain ⟨cb', N', g1, ces, g2, g3⟩ := rep.obj r _ hg
        rw [h1] at g1; simp only [Option.some.injEq, Prod.mk.injEq] at g1
        obtain ⟨rfl, rfl⟩ := g1
        have hrn : r ≠ h.next := by have := rep.lt r _ hg; omega
        have hp := Post.push (w' := w.alloc (.mapIter (some cb) ck #[] ck)) (.it (some r) ck [] ck) 0 rep hf (fun c hc => by show (w.heap.push _)[c]? = _; rw [Array.getElem?_push, if_neg (by omega)]) (by show (w.heap.push _).size = _; simp) rfl rfl rfl
          ⟨some cb, by show (w.heap.push _)[w.heap.size]? = _; simp, N, by simp only [if_neg hrn]; exact h1⟩
        refine ⟨_, .pointer (some ⟨w.heap.size, 0, none⟩), _, _, ?_, .inl rfl, ⟨w.heap.size, 0, by simp, rfl⟩, hp⟩
        simp [execOp, ho, Instr.range, s.r_und, h2, getObj, Sem.run, g2]
      · cases hq
    · cases hq
  · cases hq

end
end Go.Proofs.YtafkkicnfngpoaaGreat.Dm
