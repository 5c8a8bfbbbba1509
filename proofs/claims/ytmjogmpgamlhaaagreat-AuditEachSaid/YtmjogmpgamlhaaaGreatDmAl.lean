/- Maps that are changed. -/
import Derived.Test.YtmjogmpgamlhaaaGreatDmQ4
set_option linter.unusedVariables false
set_option linter.unusedSimpArgs false
set_option linter.unusedSectionVars false
namespace Go.Proofs.YtmjogmpgamlhaaaGreat.Dm
open Go

/-- What an operation that makes one block does in the model, whatever name the block is given. -/
noncomputable def AlOk (P : Program) (ι : Io) (w : World) (R : Operand → Value) (o : Oper) (ob : AO) (f : Nat → AV) : Prop :=
  ∃ V N O, (execOp R o).run P w = .ok (.value V) { w with heap := w.heap.push O } ∧
    ∀ (ι' : Io) (id : Nat) (w' : World), ι' id = some (w.heap.size, N) → Sub ι ι' → w'.heap[w.heap.size]? = some O → AVR ι' (f id) V ∧ OR ι' ob w.heap.size N w'

theorem or_list {ι : Io} {l : List SV} {cs : Array Value} {e : TypeId} {c : Nat} {w' : World} (h : Rs ι l cs.toList) (hw : w'.heap[c]? = some (.cells cs e)) :
    OR ι (.cells (Row.ofList l) false) c cs.size w' := by
  refine ⟨cs, e, (0, 0), hw, rfl, ?_, ?_, fun _ => rfl⟩
  · have := h.length; simp only [Array.length_toList] at this; show l.length ≤ _; omega
  · intro i v hi
    rw [Row.get_ofList] at hi
    obtain ⟨V, h1, h2⟩ := h.get hi
    exact ⟨V, by rw [← Array.getElem?_toList]; exact h1, h2⟩

theorem rep_rel {ι : Io} {l : List SV} {a : Array Value} (h : Rs ι l a.toList) : ∀ m, Rs ι (repList l m) ((Array.range (m * a.size)).map (fun i => a[i % a.size]!)).toList
  | 0 => by simp [repList, Rs]
  | m + 1 => by
    have ih := rep_rel h m
    have e : ((Array.range ((m + 1) * a.size)).map (fun i => a[i % a.size]!)).toList = a.toList ++ ((Array.range (m * a.size)).map (fun i => a[i % a.size]!)).toList := by
      simp only [Array.toList_map, Array.toList_range]
      rw [show (m + 1) * a.size = a.size + m * a.size by rw [Nat.add_mul]; omega, List.range_add, List.map_append]
      congr 1
      · apply List.ext_getElem (by simp)
        intro i h1 h2
        simp at h1
        simp [Nat.mod_eq_of_lt h1, h1]
      · simp
    rw [e]
    exact h.append ih

section
variable {P : Program} {ty : Ty} (hty : TyOk P ty) {ι : Io} {ρ : Env} {R : Operand → Value} (he : ER ι ρ R) {w : World} {o : Oper} {ob : AO} {f : Nat → AV}
include hty he

theorem al_alloc {e : TypeId} (ho : o.op = .alloc e) (h : alop ty ρ (.alloc e) = some (ob, f)) : AlOk P ι w R o ob f := by
  simp only [alop] at h
  split at h
  · rename_i ti ht
    obtain ⟨i, d, s⟩ := hty.get ht
    split at h
    · rename_i z hz
      obtain ⟨zv, z1, z2⟩ := s.r_zero w hz
      simp only [Option.some.injEq, Prod.mk.injEq] at h
      obtain ⟨rfl, rfl⟩ := h
      refine ⟨.pointer (some ⟨w.heap.size, 0, none⟩), zv.cells.size, .cells zv.cells e, by simp [execOp, ho, Instr.alloc, z1, newVar, newRow], ?_⟩
      intro ι' id w' hid hs hw
      exact ⟨⟨_, _, hid, rfl⟩, or_list (CVR.cells (cvOf_rel ι' z2)) hw⟩
    · cases h
  · cases h

theorem al_box {e : TypeId} {x : Operand} (ho : o.op = .box e x) (h : alop ty ρ (.box e x) = some (ob, f)) : AlOk P ι w R o ob f := by
  simp only [alop] at h
  split at h
  · rename_i v hv
    simp only [Option.some.injEq, Prod.mk.injEq] at h
    obtain ⟨rfl, rfl⟩ := h
    refine ⟨.pointer (some ⟨w.heap.size, 0, none⟩), (R x).cells.size, .cells (R x).cells e, by simp [execOp, ho, Instr.box, newVar, newRow], ?_⟩
    intro ι' id w' hid hs hw
    exact ⟨⟨_, _, hid, rfl⟩, or_list (CVR.cells (CVR.mono hs (evC_rel he hv))) hw⟩
  · cases h

theorem al_makeMap {t : TypeId} {r : Option Operand} (ho : o.op = .makeMap t r) (h : alop ty ρ (.makeMap t r) = some (ob, f)) : AlOk P ι w R o ob f := by
  simp only [alop] at h
  split at h
  · simp only [Option.some.injEq, Prod.mk.injEq] at h
    obtain ⟨rfl, rfl⟩ := h
    refine ⟨.map (some w.heap.size), 0, .map #[] 0, by simp [execOp, ho, Instr.makeMap], ?_⟩
    intro ι' id w' hid hs hw
    exact ⟨⟨_, _, hid, rfl⟩, #[], hw, trivial⟩
  · cases h

theorem PtR.mono {ι ι' : Io} (hs : Sub ι ι') : ∀ {l : List (Nat × CV)} {r : List (Nat × Value)}, PtR ι l r → PtR ι' l r
  | [], [], _ => trivial
  | [], _ :: _, h => h.elim
  | _ :: _, [], h => h.elim
  | (i, x) :: l, (j, v) :: r, ⟨⟨a, b⟩, c⟩ => ⟨⟨a, CVR.mono hs b⟩, PtR.mono hs c⟩

theorem al_buildSlice {t : TypeId} {n : Nat} {ps : Array (Nat × Operand)} (ho : o.op = .buildSlice t n ps) (h : alop ty ρ (.buildSlice t n ps) = some (ob, f)) : AlOk P ι w R o ob f := by
  simp only [alop] at h
  split at h
  · rename_i ti ht
    obtain ⟨i, d, s⟩ := hty.get ht
    split at h
    · rename_i e hk
      have hd := tk_sl (s.k ▸ hk); subst hd
      split at h
      · rename_i te hte
        obtain ⟨i', d', se⟩ := hty.get hte
        split at h
        · rename_i z qs hz hqs
          obtain ⟨zv, z1, z2⟩ := se.r_zero w hz
          cases hb : (Nat.beq z.cells.length te.size && Nat.ble (Nat.mul n te.size) 16777216) with
          | false => rw [hb] at h; cases h
          | true =>
            rw [hb] at h; simp only [cnd_true] at h
            rw [Bool.and_eq_true] at hb
            have b1 : z.cells.length = te.size := Nat.eq_of_beq_eq_true hb.1
            have b2 : n * te.size ≤ 16777216 := Nat.le_of_ble_eq_true hb.2
            split at h
            · rename_i l hl
              simp only [Option.some.injEq, Prod.mk.injEq] at h
              obtain ⟨rfl, rfl⟩ := h
              have hzr := CVR.cells (cvOf_rel ι z2)
              have hsz : zv.cells.size = te.size := by have := hzr.length; simp only [Array.length_toList] at this; omega
              have hpr := evParts_rel he hqs
              have hrr := rep_rel hzr n
              obtain ⟨cs', f1, f2⟩ := fill_sound hpr hrr hl
              have hnot : ¬ (n * te.size > 2 ^ 24) := by omega
              refine ⟨.slice (some ⟨w.heap.size, 0, none⟩) n n, cs'.size, .cells cs' e, ?_, ?_⟩
              · simp only [execOp, ho, Instr.buildSlice, Sem.run_bind, s.r_und, Result.andThen_ok, se.r_size, hnot, if_false, Array.toList_map]
                by_cases h0 : n * te.size = 0
                · rw [if_pos h0]
                  have f1' : Instr.fill (fun i => some (i * te.size, te.size)) ((Array.range (n * te.size)).map (fun i => (#[] : Array Value)[i % (#[] : Array Value).size]!)) (ps.toList.map fun (i, x) => (i, R x)) = some cs' := by
                    have r0 : Array.range 0 = #[] := by simp
                    rw [← f1, hsz, h0, r0, Array.map_empty, Array.map_empty]; rfl
                  simp only [Sem.run_bind, Sem.run_pure, Result.andThen_ok]
                  rw [f1']
                  simp [newRow]
                · rw [if_neg h0]
                  have f1' : Instr.fill (fun i => some (i * te.size, te.size)) ((Array.range (n * te.size)).map (fun i => zv.cells[i % zv.cells.size]!)) (ps.toList.map fun (i, x) => (i, R x)) = some cs' := by
                    rw [← f1, hsz]; rfl
                  simp only [Sem.run_bind, Sem.run_pure, Result.andThen_ok, z1]
                  rw [f1']
                  simp [newRow]
              · intro ι' id w' hid hs hw
                obtain ⟨cs2, g1, g2⟩ := fill_sound (PtR.mono hty he hs hpr) (rep_rel (CVR.cells (cvOf_rel ι' z2)) n) hl
                have : cs2 = cs' := by
                  have : some cs2 = some cs' := by rw [← g1, ← f1]
                  exact Option.some.inj this
                subst this
                refine ⟨⟨_, _, 0, n, hid, rfl, Nat.le_refl _, fun _ => ⟨rfl, rfl⟩, fun hf => by cases hf⟩, or_list g2 hw⟩
            · cases h
        · cases h
      · cases h
    · cases h
  · cases h

theorem al_makeSlice {t : TypeId} {l c : Operand} (ho : o.op = .makeSlice t l c) (h : alop ty ρ (.makeSlice t l c) = some (ob, f)) : AlOk P ι w R o ob f := by
  simp only [alop] at h
  split at h
  · rename_i ti ht
    obtain ⟨i, d, s⟩ := hty.get ht
    split at h
    · rename_i e hk
      have hd := tk_sl (s.k ▸ hk); subst hd
      split at h
      · rename_i te hte
        obtain ⟨i', d', se⟩ := hty.get hte
        split at h
        · rename_i z n m hz hn hm
          obtain ⟨zv, z1, z2⟩ := se.r_zero w hz
          obtain ⟨k1, hl⟩ := evI_rel he hn
          obtain ⟨k2, hc⟩ := evI_rel he hm
          cases hb : (Nat.ble n m && Nat.ble (Nat.mul te.bytes m) 281474976710656 && Nat.blt m 9223372036854775808) with
          | false => rw [hb] at h; cases h
          | true =>
            rw [hb] at h; simp only [cnd_true] at h
            rw [Bool.and_eq_true, Bool.and_eq_true] at hb
            have b1 : n ≤ m := Nat.le_of_ble_eq_true hb.1.1
            have b2 : te.bytes * m ≤ 281474976710656 := Nat.le_of_ble_eq_true hb.1.2
            have b3 : m < 9223372036854775808 := Nat.le_of_ble_eq_true hb.2
            have hwr : ∀ a : Nat, a < 9223372036854775808 → IntKind.i64.wrap (a : Int) = a := by
              intro a ha
              rw [← wr_eq]
              show wr .i64 (Int.ofNat a) = Int.ofNat a
              simp only [wr]
              rw [show Nat.blt a 9223372036854775808 = true from Nat.ble_eq_true_of_le ha]; rfl
            have hwn := hwr n (Nat.lt_of_le_of_lt b1 b3)
            have hwm := hwr m b3
            have hbm : ¬ (((te.bytes : Nat) : Int) * (m : Int) > 2 ^ 48) := by
              have h1 : ((te.bytes * m : Nat) : Int) ≤ 281474976710656 := by omega
              rw [Int.natCast_mul] at h1
              have h2 : (2 : Int) ^ 48 = 281474976710656 := by decide
              rw [h2]; omega
            -- what the model lays
            have run : ∀ cells : Array Value, (cells = (Array.range (m * te.size)).map (fun i => zv.cells[i % zv.cells.size]!)) →
                (execOp R o).run P w = .ok (.value (.slice (some ⟨w.heap.size, 0, none⟩) n m)) { w with heap := w.heap.push (.cells cells e) } := by
              intro cells hcells
              have hl' : R l = .int k1 (n : Int) := hl
              have hc' : R c = .int k2 (m : Int) := hc
              have hle : ¬ ((n : Int) > (m : Int)) := by omega
              have hb0 : ¬ ((m : Int) < 0) := by omega
              have hn0 : ¬ ((n : Int) < 0) := by omega
              have hbytes : ((i'.bytes : Nat) : Int) = ((te.bytes : Nat) : Int) := by rw [se.bytes]
              simp only [execOp, ho, Instr.makeSlice, Sem.run_bind, s.r_und, Result.andThen_ok, asInt, asIntOf, hl', hc', Sem.run_pure, se.r_info, hwn, hwm, hbytes, hb0, hn0, hle, hbm, decide_false, Bool.or_false, Bool.false_eq_true, if_false, run_askRoom, se.r_size, Int.toNat_natCast]
              by_cases h0 : m * te.size = 0
              · have r0 : Array.range 0 = #[] := by simp
                simp [h0, hcells, newRow, r0]
              · simp [h0, z1, hcells, newRow]
            have hzr : ∀ ι', Rs ι' z.cells zv.cells.toList := fun ι' => CVR.cells (cvOf_rel ι' z2)
            split at h
            · rename_i v
              cases hs1 : Nat.beq te.size 1 with
              | false => rw [hs1] at h; cases h
              | true =>
                rw [hs1] at h; simp only [cnd_true, Option.some.injEq, Prod.mk.injEq] at h
                obtain ⟨rfl, rfl⟩ := h
                have hs1' : te.size = 1 := Nat.eq_of_beq_eq_true hs1
                refine ⟨_, m, _, run _ rfl, ?_⟩
                intro ι' id w' hid hs hw
                refine ⟨⟨_, _, 0, m, hid, rfl, b1, fun _ => ⟨rfl, rfl⟩, fun hf => by cases hf⟩, ?_⟩
                have hv : VR ι' v zv := cvOf_rel ι' z2
                have hvc := VR.cells hv
                refine ⟨_, e, (0, 0), hw, by simp [hs1'], Nat.le_refl _, ?_, fun _ => rfl⟩
                intro j x hj
                rw [Row.get_rep] at hj
                by_cases hjm : j < m
                · rw [if_pos hjm] at hj; simp only [Option.some.injEq] at hj; subst hj
                  refine ⟨zv, ?_, hv⟩
                  rw [hvc, hs1']
                  simp [hjm, Nat.mod_one]
                · rw [if_neg hjm] at hj; cases hj
            · rename_i l'
              cases hs1 : Nat.beq te.size l'.length with
              | false => rw [hs1] at h; cases h
              | true =>
                rw [hs1] at h; simp only [cnd_true, Option.some.injEq, Prod.mk.injEq] at h
                obtain ⟨rfl, rfl⟩ := h
                have hs1' : te.size = l'.length := Nat.eq_of_beq_eq_true hs1
                have hsz : zv.cells.size = te.size := by have := (hzr ι).length; simp only [Array.length_toList] at this; rw [hs1', ← this]; rfl
                refine ⟨_, ((Array.range (m * te.size)).map (fun i => zv.cells[i % zv.cells.size]!)).size, _, run _ rfl, ?_⟩
                intro ι' id w' hid hs hw
                refine ⟨⟨_, _, 0, m, hid, rfl, b1, fun _ => ⟨rfl, rfl⟩, fun hf => by cases hf⟩, ?_⟩
                have := rep_rel (hzr ι') m
                rw [hsz] at this
                rw [hsz] at hw ⊢
                exact or_list this hw
        · cases h
      · cases h
    · cases h
  · cases h

theorem alop_sound (h : alop ty ρ o.op = some (ob, f)) : AlOk P ι w R o ob f := by
  cases ho : o.op <;> rw [ho] at h
  case alloc => exact al_alloc hty he ho h
  case box => exact al_box hty he ho h
  case buildSlice => exact al_buildSlice hty he ho h
  case makeSlice => exact al_makeSlice hty he ho h
  case makeMap => exact al_makeMap hty he ho h
  all_goals (simp only [alop] at h; cases h)

end
end Go.Proofs.YtmjogmpgamlhaaaGreat.Dm

namespace Go.Proofs.YtmjogmpgamlhaaaGreat.Dm
open Go

/-- Worlds that part in one block alone. -/
structure But (c : Nat) (w w' : World) : Prop where
  size : w'.heap.size = w.heap.size
  tape : w'.tape = w.tape
  os : w'.os = w.os
  output : w'.output = w.output
  other : ∀ x, x ≠ c → w'.heap[x]? = w.heap[x]?

theorem But.refl (c : Nat) (w : World) : But c w w := ⟨rfl, rfl, rfl, rfl, fun _ _ => rfl⟩
theorem But.trans {c : Nat} {a b d : World} (h : But c a b) (k : But c b d) : But c a d :=
  ⟨k.size.trans h.size, k.tape.trans h.tape, k.os.trans h.os, k.output.trans h.output, fun x hx => (k.other x hx).trans (h.other x hx)⟩

theorem But.set (w : World) (a : Addr) (v : Value) : But a.block w (w.setCell a v) :=
  ⟨by simp [World.setCell], rfl, rfl, rfl, fun x hx => by simp only [World.setCell, Array.getElem?_modify]; rw [if_neg (by omega)]⟩

theorem store_run {P : Program} {cb o : Nat} {el : TypeId} {fr : Nat × Nat} : ∀ (vs : List Value) (i : Nat) (w : World) (cs : Array Value),
    w.heap[cb]? = some (.cells cs el fr) → o + i + vs.length ≤ cs.size → (fr.1 = fr.2 ∨ cs.size ≤ fr.1) → (∀ v ∈ vs, v.oneCell' = true) →
    ∃ w' cs', (storeCells ⟨cb, o, none⟩ vs i).run P w = .ok () w' ∧ But cb w w' ∧ w'.heap[cb]? = some (.cells cs' el fr) ∧ cs'.size = cs.size ∧
      ∀ j, cs'[j]? = if o + i ≤ j ∧ j < o + i + vs.length then vs[j - (o + i)]? else cs[j]?
  | [], i, w, cs, hc, hl, hf, h1 => ⟨w, cs, by simp [storeCells], But.refl _ _, hc, rfl, fun j => by rw [if_neg]; simp⟩
  | v :: vs, i, w, cs, hc, hl, hf, h1 => by
    simp only [List.length_cons] at hl
    have hcell : w.cell? ⟨cb, o + i, none⟩ = some (cs[o + i]'(by omega)) := by
      simp only [World.cell?, hc]; simp
    have hfz : w.frozen? ⟨cb, o + i, none⟩ = false := by
      obtain ⟨lo, hi⟩ := fr
      simp only [World.frozen?, hc]
      simp only [] at hf
      simp; omega
    have hrun := run_store P w ⟨cb, o + i, none⟩ v .plain (h1 v (by simp))
    rw [hcell] at hrun
    simp only [hfz, Bool.false_eq_true, if_false] at hrun
    have hset : (w.setCell ⟨cb, o + i, none⟩ v).heap[cb]? = some (.cells (cs.setIfInBounds (o + i) v) el fr) := by
      simp only [World.setCell, Array.getElem?_modify, if_true, hc, Option.map_some]
      simp
    obtain ⟨w', cs', e1, e2, e3, e4, e5⟩ := store_run (P := P) (o := o) vs (i + 1) (w.setCell ⟨cb, o + i, none⟩ v) (cs.setIfInBounds (o + i) v) hset (by simp; omega) (by simpa using hf) (fun u hu => h1 u (by simp [hu]))
    refine ⟨w', cs', ?_, (But.set w ⟨cb, o + i, none⟩ v).trans e2, e3, by simpa using e4, ?_⟩
    · simp only [storeCells, Sem.run_bind, Addr_add, hrun, Result.andThen_ok, e1]
    · intro j
      rw [e5 j]
      by_cases h2 : o + (i + 1) ≤ j ∧ j < o + (i + 1) + vs.length
      · rw [if_pos h2, if_pos (by simp; omega), show j - (o + i) = (j - (o + (i + 1))) + 1 by omega, List.getElem?_cons_succ]
      · rw [if_neg h2, Array.getElem?_setIfInBounds]
        by_cases h3 : o + i = j
        · subst h3
          rw [if_pos rfl, if_pos (by omega), if_pos ⟨Nat.le_refl _, by simp⟩]; simp
        · rw [if_neg h3, if_neg (by simp; omega)]

/-- A piece of a row is written. -/
theorem write_of {P : Program} {ι : Io} {w : World} {h : Heap} (rep : Rep ι w h) {b : Nat} {r r' : Row} (hb : h.get b = some (.cells r false)) {cb N : Nat} (hi : ι b = some (cb, N))
    {o : Nat} {l : List SV} (hl : r.write o l = some r') {vs : List Value} (hv : Rs ι l vs) :
    ∃ w', (storeCells ⟨cb, o, none⟩ vs).run P w = .ok () w' ∧ Post ι h (h.put b (.cells r' false)) w w' ι := by
  obtain ⟨cb', N', g1, cs, el, fr, g2, g3, g4, g5, g6⟩ := rep.obj b _ hb
  rw [hi] at g1; simp only [Option.some.injEq, Prod.mk.injEq] at g1
  obtain ⟨rfl, rfl⟩ := g1
  obtain ⟨w1, w2, w3⟩ := Row.get_write hl
  have hlen := hv.length
  obtain ⟨w', cs', e1, e2, e3, e4, e5⟩ := store_run (P := P) (cb := cb) (o := o) vs 0 w cs g2 (by omega) (.inl (g6 rfl)) (fun v hv' => hv.one v hv')
  refine ⟨w', e1, Post.put rep hb hi e2.other e2.size e2.tape e2.os e2.output ⟨cs', el, fr, e3, by omega, by omega, ?_, fun _ => by exact g6 rfl⟩⟩
  intro j x hj
  rw [w3 j] at hj
  rw [e5 j]
  by_cases hin : o ≤ j ∧ j < o + l.length
  · rw [if_pos hin] at hj
    rw [if_pos (by omega)]
    obtain ⟨V, f1, f2⟩ := hv.get hj
    exact ⟨V, by simpa using f1, f2⟩
  · rw [if_neg hin] at hj
    rw [if_neg (by omega)]
    exact g5 j x hj

/-- What an operation that changes memory does in the model. -/
noncomputable def EOk (P : Program) (ι : Io) (h h' : Heap) (w : World) (R : Operand → Value) (o : Oper) (v : AV) : Prop :=
  ∃ N V w' ι', (execOp R o).run P w = .ok N w' ∧ (N = .value V ∨ N = .skip ∧ V = undef) ∧ AVR ι' v V ∧ Post ι h h' w w' ι'

section
variable {P : Program} {ty : Ty} (hty : TyOk P ty) {ι : Io} {ρ : Env} {R : Operand → Value} (he : ER ι ρ R) {w : World} {h h' : Heap} (rep : Rep ι w h) {o : Oper} {v : AV}
include hty he rep

theorem e_store {t : TypeId} {a x : Operand} (ho : o.op = .store t a x) (hq : eop ty ρ h (.store t a x) = some (v, h')) : EOk P ι h h' w R o v := by
  simp only [eop] at hq
  split at hq
  · rename_i ti ht
    obtain ⟨i, d, s⟩ := hty.get ht
    split at hq
    · rename_i b off c ha hc
      cases hb : Nat.beq c.cells.length ti.size with
      | false => rw [hb] at hq; cases hq
      | true =>
        rw [hb] at hq; simp only [cnd_true] at hq
        have hlen : c.cells.length = ti.size := Nat.eq_of_beq_eq_true hb
        split at hq
        · rename_i r hg
          split at hq
          · rename_i r' hw
            simp only [Option.some.injEq, Prod.mk.injEq] at hq
            obtain ⟨rfl, rfl⟩ := hq
            obtain ⟨cb, N, h1, h2⟩ := evS_rel he ha
            have hr := CVR.cells (evC_rel he hc)
            obtain ⟨w', e1, e2⟩ := write_of (P := P) rep hg h1 hw hr
            have hsz : (R x).cells.size = ti.size := by have := hr.length; simp only [Array.length_toList] at this; omega
            refine ⟨.skip, undef, w', ι, ?_, .inr ⟨rfl, rfl⟩, ⟨#[], rfl, trivial⟩, e2⟩
            simp [execOp, ho, Instr.storeAt, Instr.sureAddr, h2, storeVar, s.r_size, hsz, e1]
          · cases hq
        · cases hq
    · cases hq
  · cases hq

theorem e_range {t : TypeId} {x : Operand} (ho : o.op = .range t x) (hq : eop ty ρ h (.range t x) = some (v, h')) (hf : Free ι h.next h'.next) : EOk P ι h h' w R o v := by
  simp only [eop] at hq
  split at hq
  · rename_i ti ht
    obtain ⟨i, d, s⟩ := hty.get ht
    split at hq
    · rename_i kt et hk hx
      have hd := tk_map (s.k ▸ hk); subst hd
      simp only [Option.some.injEq, Prod.mk.injEq] at hq
      obtain ⟨rfl, rfl⟩ := hq
      have hr : R x = .map none := evS_rel he hx
      have hp := Post.push (w' := w.alloc (.mapIter none 0 #[] 0)) (.it none 0 [] 0) 0 rep hf (fun c hc => by show (w.heap.push _)[c]? = _; rw [Array.getElem?_push, if_neg (by omega)]) (by show (w.heap.push _).size = _; simp) rfl rfl rfl
        ⟨none, by show (w.heap.push _)[w.heap.size]? = _; simp, trivial⟩
      refine ⟨_, .pointer (some ⟨w.heap.size, 0, none⟩), _, _, ?_, .inl rfl, ⟨w.heap.size, 0, by simp, rfl⟩, hp⟩
      simp [execOp, ho, Instr.range, s.r_und, hr]
    · rename_i kt et r hk hx
      have hd := tk_map (s.k ▸ hk); subst hd
      split at hq
      · rename_i es ck hg
        simp only [Option.some.injEq, Prod.mk.injEq] at hq
        obtain ⟨rfl, rfl⟩ := hq
        obtain ⟨cb, N, h1, h2⟩ := evS_rel he hx
        obtain ⟨cb', N', g1, ces, g2, g3⟩ := rep.obj r _ hg
        rw [h1] at g1; simp only [Option.some.injEq, Prod.mk.injEq] at g1
        obtain ⟨rfl, rfl⟩ := g1
        have hrn : r ≠ h.next := by have := rep.lt r _ hg; omega
        have hp := Post.push (w' := w.alloc (.mapIter (some cb) ck #[] ck)) (.it (some r) ck [] ck) 0 rep hf (fun c hc => by show (w.heap.push _)[c]? = _; rw [Array.getElem?_push, if_neg (by omega)]) (by show (w.heap.push _).size = _; simp) rfl rfl rfl
          ⟨some cb, by show (w.heap.push _)[w.heap.size]? = _; simp, N, by simp only [if_neg hrn]; exact h1⟩
        refine ⟨_, .pointer (some ⟨w.heap.size, 0, none⟩), _, _, ?_, .inl rfl, ⟨w.heap.size, 0, by simp, rfl⟩, hp⟩
        simp [execOp, ho, Instr.range, s.r_und, h2, getObj, Sem.run, g2]
      · cases hq
    · cases hq
  · cases hq

end
end Go.Proofs.YtmjogmpgamlhaaaGreat.Dm

namespace Go.Proofs.YtmjogmpgamlhaaaGreat.Dm
open Go

section
variable {ι : Io} {k : IntKind} {es : List PE} {l : Option Nat} {ces : Array MapEntry} {ck : Nat} {n : Int} {V : Value} {v : CV} {c : MapEntry} {j : Nat}

theorem mod_get (i : Nat) : (ces.modify j fun e => { e with key := .int k n, val := V }).toList[i]? = if j = i then (ces.toList[i]?).map (fun e => { e with key := .int k n, val := V }) else ces.toList[i]? := by
  rw [Array.toList_modify, List.getElem?_modify]
  by_cases h : j = i
  · subst h; simp
  · simp [h]

theorem mod_key (hj : ces[j]? = some c) (hc : c.key = .int k n) : (ces.modify j fun e => { e with key := .int k n, val := V }).toList.map (·.key) = ces.toList.map (·.key) := by
  apply List.ext_getElem?
  intro i
  rw [List.getElem?_map, List.getElem?_map, mod_get]
  by_cases h : j = i
  · subst h
    rw [if_pos rfl, Array.getElem?_toList, hj]
    simp [hc]
  · rw [if_neg h]
theorem mod_born (hj : ces[j]? = some c) : (ces.modify j fun e => { e with key := .int k n, val := V }).toList.map (·.born) = ces.toList.map (·.born) := by
  apply List.ext_getElem?
  intro i
  rw [List.getElem?_map, List.getElem?_map, mod_get]
  by_cases h : j = i
  · subst h
    rw [if_pos rfl, Array.getElem?_toList, hj]
    simp
  · rw [if_neg h]
theorem of_map {α : Type} {f : MapEntry → α} {L L' : List MapEntry} (h : L.map f = L'.map f) {x : MapEntry} (hx : x ∈ L) : ∃ y ∈ L', f y = f x := by
  have : f x ∈ L'.map f := by rw [← h]; exact List.mem_map.2 ⟨x, hx, rfl⟩
  obtain ⟨y, h1, h2⟩ := List.mem_map.1 this
  exact ⟨y, h1, h2⟩
theorem mod_new (hj : ces[j]? = some c) : { c with key := .int k n, val := V } ∈ (ces.modify j fun e => { e with key := .int k n, val := V }).toList := by
  refine List.mem_of_getElem? (i := j) ?_
  rw [mod_get, if_pos rfl, Array.getElem?_toList, hj]; rfl
theorem mod_old {x : MapEntry} (hj : ces[j]? = some c) (hx : x ∈ ces.toList) (hk : x.key ≠ c.key) : x ∈ (ces.modify j fun e => { e with key := .int k n, val := V }).toList := by
  obtain ⟨i, hi⟩ := List.mem_iff_getElem?.1 hx
  refine List.mem_of_getElem? (i := i) ?_
  rw [mod_get]
  by_cases h : j = i
  · subst h
    rw [Array.getElem?_toList, hj] at hi
    obtain rfl := Option.some.inj hi
    exact absurd rfl hk
  · rw [if_neg h]; exact hi
theorem mod_back {x : MapEntry} (hj : ces[j]? = some c) (hx : x ∈ (ces.modify j fun e => { e with key := .int k n, val := V }).toList) (hk : x.key ≠ .int k n) : x ∈ ces.toList := by
  obtain ⟨i, hi⟩ := List.mem_iff_getElem?.1 hx
  rw [mod_get] at hi
  by_cases h : j = i
  · subst h
    rw [if_pos rfl, Array.getElem?_toList, hj] at hi
    obtain rfl := Option.some.inj hi
    exact absurd rfl hk
  · rw [if_neg h] at hi; exact List.mem_of_getElem? hi

theorem PM.set (m : PM ι k es l ces ck) (hj : ces[j]? = some c) (hc : c.key = .int k n) (hv : CVR ι v V) : PM ι k (pset n (some v) es) l (ces.modify j fun e => { e with key := .int k n, val := V }) ck where
  int x hx := by
    obtain ⟨y, h1, h2⟩ := of_map (mod_key hj hc) hx
    obtain ⟨q, hq⟩ := m.int y h1
    exact ⟨q, by rw [← h2]; exact hq⟩
  nodup := by rw [mod_key hj hc]; exact m.nodup
  born x hx := by
    obtain ⟨y, h1, h2⟩ := of_map (mod_born hj) hx
    rw [← h2]; exact m.born y h1
  bnodup := by rw [mod_born hj]; exact m.bnodup
  size q hq := by rw [Array.size_modify]; exact m.size q hq
  told e he := by
    unfold PEr
    rcases pset_mem he with ⟨h1, h2⟩ | ⟨h1, h2⟩
    · rw [h2, h1]
      exact ⟨_, mod_new hj, rfl, hv⟩
    · have := m.told e h2
      unfold PEr at this
      cases hu : e.val with
      | some u =>
        rw [hu] at this
        obtain ⟨x, g1, g2, g3⟩ := this
        exact ⟨x, mod_old hj g1 (by rw [g2, hc]; simpa using h1), g2, g3⟩
      | none =>
        rw [hu] at this
        intro x hx
        obtain ⟨y, g1, g2⟩ := of_map (mod_key hj hc) hx
        rw [← g2]; exact this y g1

theorem PM.add (m : PM ι k es l ces ck) (hno : ∀ c ∈ ces.toList, c.key ≠ .int k n) (hv : CVR ι v V) : PM ι k (pset n (some v) es) (sucO l) (ces.push { key := .int k n, val := V, born := ck }) (ck + 1) where
  int x hx := by
    rw [Array.toList_push] at hx
    rcases List.mem_append.1 hx with hx | hx
    · exact m.int x hx
    · rw [List.mem_singleton.1 hx]; exact ⟨n, rfl⟩
  nodup := by
    rw [Array.toList_push, List.map_append]
    refine List.nodup_append.2 ⟨m.nodup, by simp, fun a ha b hb => ?_⟩
    obtain ⟨y, h1, rfl⟩ := List.mem_map.1 ha
    simp only [List.map_cons, List.map_nil, List.mem_singleton] at hb
    rw [hb]; exact hno y h1
  born x hx := by
    rw [Array.toList_push] at hx
    rcases List.mem_append.1 hx with hx | hx
    · have := m.born x hx; omega
    · rw [List.mem_singleton.1 hx]; exact Nat.lt_succ_self _
  bnodup := by
    rw [Array.toList_push, List.map_append]
    refine List.nodup_append.2 ⟨m.bnodup, by simp, fun a ha b hb => ?_⟩
    obtain ⟨y, h1, rfl⟩ := List.mem_map.1 ha
    simp only [List.map_cons, List.map_nil, List.mem_singleton] at hb
    have := m.born y h1
    omega
  size q hq := by
    cases hl : l with
    | none => rw [hl] at hq; cases hq
    | some p =>
      rw [hl] at hq
      obtain rfl := Option.some.inj hq
      rw [Array.size_push, m.size p hl]
  told e he := by
    unfold PEr
    rw [Array.toList_push]
    rcases pset_mem he with ⟨h1, h2⟩ | ⟨h1, h2⟩
    · rw [h2, h1]
      exact ⟨_, List.mem_append_right _ (List.mem_singleton.2 rfl), rfl, hv⟩
    · have := m.told e h2
      unfold PEr at this
      cases hu : e.val with
      | some u =>
        rw [hu] at this
        obtain ⟨x, g1, g2, g3⟩ := this
        exact ⟨x, List.mem_append_left _ g1, g2, g3⟩
      | none =>
        rw [hu] at this
        intro x hx
        rcases List.mem_append.1 hx with hx | hx
        · exact this x hx
        · rw [List.mem_singleton.1 hx]
          intro hh
          simp only [Value.int.injEq, true_and] at hh
          exact h1 hh.symm

omit ι k es l ces ck n V v c j in
theorem nodup_inj {α : Type} {l : List α} (h : l.Nodup) {i j : Nat} (hi : i < l.length) (hj : j < l.length) : l[i] = l[j] ↔ i = j := by
  constructor
  · intro e
    rw [List.Nodup, List.pairwise_iff_getElem] at h
    rcases Nat.lt_trichotomy i j with hl | hl | hl
    · exact absurd e (h i j hi hj hl)
    · exact hl
    · exact absurd e.symm (h j i hj hi hl)
  · rintro rfl; rfl
theorem er_get {x : MapEntry} : x ∈ (ces.eraseIdxIfInBounds j).toList ↔ ∃ i, i ≠ j ∧ ces.toList[i]? = some x := by
  rw [Array.toList_eraseIdxIfInBounds]
  exact List.mem_eraseIdx_iff_getElem?
theorem er_sub : (ces.eraseIdxIfInBounds j).toList.Sublist ces.toList := by
  rw [Array.toList_eraseIdxIfInBounds]
  exact List.eraseIdx_sublist _ _

theorem PM.del (m : PM ι k es l ces ck) (hj : ces[j]? = some c) (hc : c.key = .int k n) : PM ι k (pset n none es) (preO l) (ces.eraseIdxIfInBounds j) ck where
  int x hx := m.int x (er_sub.mem hx)
  nodup := m.nodup.sublist (er_sub.map _)
  born x hx := m.born x (er_sub.mem hx)
  bnodup := m.bnodup.sublist (er_sub.map _)
  size q hq := by
    cases hl : l with
    | none => rw [hl] at hq; cases hq
    | some p =>
      rw [hl] at hq
      obtain rfl := Option.some.inj hq
      have hlt : j < ces.size := (Array.getElem?_eq_some_iff.1 hj).1
      have := m.size p hl
      rw [← Array.length_toList, Array.toList_eraseIdxIfInBounds, List.length_eraseIdx_of_lt (by simpa using hlt), Array.length_toList, this]
      rfl
  told e he := by
    unfold PEr
    have hcm : c ∈ ces.toList := List.mem_of_getElem? (by rw [Array.getElem?_toList]; exact hj)
    rcases pset_mem he with ⟨h1, h2⟩ | ⟨h1, h2⟩
    · rw [h2, h1]
      intro x hx hxk
      obtain ⟨i, i1, i2⟩ := er_get.1 hx
      have hxm := List.mem_of_getElem? i2
      obtain rfl := key_uniq m.nodup hxm hcm hxk hc
      -- two places with one key
      have hnd := m.nodup
      have hlt : i < (ces.toList.map (·.key)).length := by
        rw [List.length_map]; exact (List.getElem?_eq_some_iff.1 i2).1
      have hj' : ces.toList[j]? = some x := by rw [Array.getElem?_toList]; exact hj
      have hlt' : j < (ces.toList.map (·.key)).length := by
        rw [List.length_map]; exact (List.getElem?_eq_some_iff.1 hj').1
      refine i1 ((nodup_inj hnd hlt hlt').1 ?_)
      have e1 : (ces.toList.map (·.key))[i]? = some x.key := by rw [List.getElem?_map, i2]; rfl
      have e2 : (ces.toList.map (·.key))[j]? = some x.key := by rw [List.getElem?_map, hj']; rfl
      rw [List.getElem?_eq_getElem hlt] at e1
      rw [List.getElem?_eq_getElem hlt'] at e2
      rw [Option.some.inj e1, Option.some.inj e2]
    · have := m.told e h2
      unfold PEr at this
      cases hu : e.val with
      | some u =>
        rw [hu] at this
        obtain ⟨x, g1, g2, g3⟩ := this
        refine ⟨x, er_get.2 ?_, g2, g3⟩
        obtain ⟨i, hi⟩ := List.mem_iff_getElem?.1 g1
        refine ⟨i, fun e => ?_, hi⟩
        subst e
        rw [Array.getElem?_toList, hj] at hi
        obtain rfl := Option.some.inj hi
        rw [hc] at g2
        simp only [Value.int.injEq, true_and] at g2
        exact h1 g2.symm
      | none =>
        rw [hu] at this
        exact fun x hx => this x (er_sub.mem hx)

theorem PM.not (m : PM ι k es l ces ck) (hno : ∀ c ∈ ces.toList, c.key ≠ .int k n) : PM ι k (pset n none es) l ces ck where
  int := m.int
  nodup := m.nodup
  born := m.born
  bnodup := m.bnodup
  size := m.size
  told e he := by
    unfold PEr
    rcases pset_mem he with ⟨h1, h2⟩ | ⟨h1, h2⟩
    · rw [h2, h1]; exact hno
    · exact m.told e h2

theorem er_old {x : MapEntry} (hj : ces[j]? = some c) (hx : x ∈ ces.toList) (hk : x.key ≠ c.key) : x ∈ (ces.eraseIdxIfInBounds j).toList := by
  obtain ⟨i, hi⟩ := List.mem_iff_getElem?.1 hx
  refine er_get.2 ⟨i, fun e => ?_, hi⟩
  subst e
  rw [Array.getElem?_toList, hj] at hi
  obtain rfl := Option.some.inj hi
  exact hk rfl
end

/-- A partial map is laid anew. -/
theorem pm_put {P : Program} {ι : Io} {w : World} {h : Heap} (rep : Rep ι w h) {r : Nat} {k : IntKind} {n : Int} {es : List PE} {l l' : Option Nat} {v' : Option CV} (hg : h.get r = some (.pm k es l)) {cb N : Nat} (hi : ι r = some (cb, N))
    {ces ces' : Array MapEntry} {ck ck' : Nat} (hb : w.heap[cb]? = some (.map ces ck)) (hin : ∃ e ∈ es, e.key = n) (hm : PM ι k (pset n v' es) l' ces' ck') (hsame : ∀ x, x.key ≠ .int k n → (x ∈ ces.toList ↔ x ∈ ces'.toList)) :
    ∃ w', (setObj cb (.map ces' ck')).run P w = .ok () w' ∧ Post ι h (h.put r (.pm k (pset n v' es) l')) w w' ι := by
  have hlt : cb < w.heap.size := rep.dom r cb N hi
  refine ⟨{ w with heap := w.heap.setIfInBounds cb (.map ces' ck') }, by simp [setObj, Sem.run, hb], Post.put rep hg hi ?_ (by simp) rfl rfl rfl ⟨ces', ck', by simp [hlt], hm⟩ ⟨_, _, rfl, pset_keys es⟩ ?_⟩
  · intro c hc
    simp [Array.getElem?_setIfInBounds, Ne.symm hc]
  · intro k' es' l0 he n' hn' V
    simp only [AO.pm.injEq] at he
    obtain ⟨rfl, rfl, rfl⟩ := he
    have hne : n' ≠ n := by
      rintro rfl
      obtain ⟨e, h1, h2⟩ := hin
      exact hn' e h1 h2
    have hk : ∀ x : MapEntry, x.key = .int k n' → x.key ≠ .int k n := by
      intro x hx hh
      rw [hx] at hh
      simp only [Value.int.injEq, true_and] at hh
      exact hne hh
    constructor
    · rintro ⟨ces0, ck0, g1, x, g2, g3, g4⟩
      rw [hb] at g1
      simp only [Option.some.injEq, Obj.map.injEq] at g1
      obtain ⟨rfl, rfl⟩ := g1
      exact ⟨ces', ck', by simp [hlt], x, (hsame x (hk x g3)).1 g2, g3, g4⟩
    · rintro ⟨ces0, ck0, g1, x, g2, g3, g4⟩
      have g1 : (w.heap.setIfInBounds cb (.map ces' ck'))[cb]? = some (.map ces0 ck0) := g1
      simp only [Array.getElem?_setIfInBounds, if_true, hlt, Option.some.injEq, Obj.map.injEq] at g1
      obtain ⟨rfl, rfl⟩ := g1
      exact ⟨ces, ck, hb, x, (hsame x (hk x g3)).2 g2, g3, g4⟩
end Go.Proofs.YtmjogmpgamlhaaaGreat.Dm

namespace Go.Proofs.YtmjogmpgamlhaaaGreat.Dm
open Go

theorem sbits_sound {ι : Io} {x y : SV} {V W : Value} (n : Nat) (hx : VR ι x V) (hy : VR ι y W) (h : sbits x y = true) : Instr.sameBits n V W = true := by
  cases x <;> cases y <;> simp only [sbits, Bool.false_eq_true] at h <;> simp only [VR] at hx hy
  case b.b => subst hx; subst hy; rw [beqB_eq] at h; cases n <;> simpa [Instr.sameBits] using h
  case i.i =>
    subst hx; subst hy
    rw [Bool.and_eq_true, keq_iff, ieq_eq] at h
    cases n <;> simp [Instr.sameBits, h.1] <;> simpa using h.2
  case c.c =>
    subst hx; subst hy
    rw [Bool.and_eq_true] at h
    have h1 := Nat.eq_of_beq_eq_true h.1; have h2 := Nat.eq_of_beq_eq_true h.2
    subst h1; subst h2
    cases n <;> simp [Instr.sameBits]
  case s.s =>
    obtain ⟨a, rfl, ha⟩ := hx; obtain ⟨b, rfl, hb⟩ := hy
    have := str_beq ha hb
    rw [h] at this
    cases n <;> simpa [Instr.sameBits] using this

theorem bitsAll_sound {ι : Io} (n : Nat) : ∀ {l r : List SV} {a b : List Value}, Rs ι l a → Rs ι r b → cbits.bitsAll l r = true →
    a.length = b.length ∧ ((a.zip b).all fun (x, y) => Instr.sameBits n x y) = true
  | [], [], [], [], _, _, _ => ⟨rfl, rfl⟩
  | [], [], _ :: _, _, h, _, _ => h.elim
  | [], [], [], _ :: _, _, h, _ => h.elim
  | [], _ :: _, _, _, _, _, h => by simp [cbits.bitsAll] at h
  | _ :: _, [], _, _, _, _, h => by simp [cbits.bitsAll] at h
  | _ :: _, _ :: _, [], _, h, _, _ => h.elim
  | _ :: _, _ :: _, _ :: _, [], _, h, _ => h.elim
  | x :: l, y :: r, v :: a, u :: b, ⟨h1, h2⟩, ⟨h3, h4⟩, h => by
    simp only [cbits.bitsAll, Bool.and_eq_true] at h
    obtain ⟨e1, e2⟩ := bitsAll_sound n h2 h4 h.2
    refine ⟨by simp [e1], ?_⟩
    simp only [List.zip_cons_cons, List.all_cons, Bool.and_eq_true]
    exact ⟨sbits_sound n h1 h3 h.1, e2⟩

theorem cbits_sound {ι : Io} {x y : CV} {V W : Value} (hx : CVR ι x V) (hy : CVR ι y W) (h : cbits x y = true) : Instr.sameBits 10000 V W = true := by
  cases x with
  | sc a => cases y with
    | sc b => exact sbits_sound 10000 hx hy h
    | ag r => simp [cbits] at h
  | ag l => cases y with
    | sc b => simp [cbits] at h
    | ag r =>
      obtain ⟨a, rfl, ha⟩ := hx; obtain ⟨b, rfl, hb⟩ := hy
      obtain ⟨e1, e2⟩ := bitsAll_sound 9999 ha hb h
      simp only [Array.length_toList] at e1
      show (a.size == b.size && (a.toList.zip b.toList).all fun (x, y) => Instr.sameBits 9999 x y) = true
      rw [Bool.and_eq_true]; exact ⟨beq_iff_eq.2 e1, e2⟩

theorem stays_run {ι : Io} {x y : CV} {V W : Value} (hx : CVR ι x V) (hy : CVR ι y W) (h : cbits x y = true) (P : Program) (w : World) : (Instr.keyThatStays V W).run P w = .ok W w := by
  simp [Instr.keyThatStays, cbits_sound hx hy h]

theorem MRs.setAt {ι : Io} {f : ME → ME} {g : MapEntry → MapEntry} (hfg : ∀ e c, MR ι e c → MR ι (f e) (g c)) : ∀ {l : List ME} {r : List MapEntry} (i : Nat), MRs ι l r → MRs ι (setAt l i f) (r.modify i g)
  | [], [], i, _ => by cases i <;> simp [Dm.setAt, MRs, List.modify_nil]
  | [], _ :: _, _, h => h.elim
  | _ :: _, [], _, h => h.elim
  | x :: l, v :: r, 0, ⟨a, b⟩ => by simpa [Dm.setAt, MRs] using ⟨hfg x v a, b⟩
  | x :: l, v :: r, i + 1, ⟨a, b⟩ => by simpa [Dm.setAt, MRs] using ⟨a, MRs.setAt hfg i b⟩

theorem MRs.snoc {ι : Io} {x : ME} {v : MapEntry} (hx : MR ι x v) : ∀ {l : List ME} {r : List MapEntry}, MRs ι l r → MRs ι (l ++ [x]) (r ++ [v])
  | [], [], _ => ⟨hx, trivial⟩
  | [], _ :: _, h => h.elim
  | _ :: _, [], h => h.elim
  | _ :: _, _ :: _, ⟨a, b⟩ => ⟨a, MRs.snoc hx b⟩

theorem MRs.erase {ι : Io} : ∀ {l : List ME} {r : List MapEntry} (i : Nat), MRs ι l r → MRs ι (l.eraseIdx i) (r.eraseIdx i)
  | [], [], i, _ => by simp [MRs]
  | [], _ :: _, _, h => h.elim
  | _ :: _, [], _, h => h.elim
  | x :: l, v :: r, 0, ⟨a, b⟩ => by simpa using b
  | x :: l, v :: r, i + 1, ⟨a, b⟩ => by simpa [MRs] using ⟨a, MRs.erase i b⟩

/-- A map is laid anew. -/
theorem map_put {P : Program} {ι : Io} {w : World} {h : Heap} (rep : Rep ι w h) {r : Nat} {es es' : List ME} {ck ck' : Nat} (hg : h.get r = some (.map es ck)) {cb N : Nat} (hi : ι r = some (cb, N))
    {ces' : Array MapEntry} (hm : MRs ι es' ces'.toList) :
    ∃ w', (setObj cb (.map ces' ck')).run P w = .ok () w' ∧ Post ι h (h.put r (.map es' ck')) w w' ι := by
  obtain ⟨cb', N', g1, ces, g2, g3⟩ := rep.obj r _ hg
  rw [hi] at g1; simp only [Option.some.injEq, Prod.mk.injEq] at g1
  obtain ⟨rfl, rfl⟩ := g1
  have hlt : cb < w.heap.size := rep.dom r cb N hi
  refine ⟨{ w with heap := w.heap.setIfInBounds cb (.map ces' ck') }, by simp [setObj, Sem.run, g2], Post.put rep hg hi ?_ (by simp) rfl rfl rfl ⟨ces', by simp [hlt], hm⟩⟩
  intro c hc
  simp [Array.getElem?_setIfInBounds, Ne.symm hc]

theorem getmap {P : Program} {ι : Io} {w : World} {h : Heap} (rep : Rep ι w h) {r : Nat} {es : List ME} {ck : Nat} (hg : h.get r = some (.map es ck)) {cb N : Nat} (hi : ι r = some (cb, N)) :
    ∃ ces : Array MapEntry, w.heap[cb]? = some (.map ces ck) ∧ (getObj cb).run P w = .ok (.map ces ck) w ∧ MRs ι es ces.toList := by
  obtain ⟨cb', N', g1, ces, g2, g3⟩ := rep.obj r _ hg
  rw [hi] at g1; simp only [Option.some.injEq, Prod.mk.injEq] at g1
  obtain ⟨rfl, rfl⟩ := g1
  exact ⟨ces, g2, by simp [getObj, Sem.run, g2], g3⟩

section
variable {P : Program} {ty : Ty} (hty : TyOk P ty) {ι : Io} {ρ : Env} {R : Operand → Value} (he : ER ι ρ R) {w : World} {h h' : Heap} (rep : Rep ι w h) {o : Oper} {v : AV}
include hty he rep

omit he rep in
theorem key_type {n : Nat} {kt : TypeId} {kv : CV} (hk : keyV ty n kt kv = true) : ∃ d, P.underlying kt = some d := by
  cases n with
  | zero => simp [keyV] at hk
  | succ n =>
    simp only [keyV] at hk
    split at hk
    · rename_i tk htk
      obtain ⟨i, d, s⟩ := hty.get htk
      exact ⟨d, s.und⟩
    · cases hk

theorem e_mapUpdate {t : TypeId} {x k y : Operand} (ho : o.op = .mapUpdate t x k y) (hq : eop ty ρ h (.mapUpdate t x k y) = some (v, h')) : EOk P ι h h' w R o v := by
  simp only [eop] at hq
  split at hq
  · rename_i ti ht
    obtain ⟨i, d, s⟩ := hty.get ht
    split at hq
    · rename_i kt et hk
      have hd := tk_map (s.k ▸ hk); subst hd
      split at hq
      · rename_i r kv vv hx hkv hvv
        cases hkey : keyV ty 12 kt kv with
        | false => rw [hkey] at hq; cases hq
        | true =>
          rw [hkey] at hq; simp only [cnd_true] at hq
          obtain ⟨cb, N, h1, h2⟩ := evS_rel he hx
          have hK := evC_rel he hkv
          have hV := evC_rel he hvv
          obtain ⟨dk, hdk⟩ := key_type hty hkey
          have hck := keyV_sound hty 12 kt kv (R k) 10000 false w hK hkey (by omega)
          split at hq
          · rename_i q hpa
            obtain ⟨e1, e2, e3, e4, e5, cb', N', ces, ck, i1, i2, g2, g3, hor⟩ := pm_found hty rep hpa (evS_rel he hx) hK
            obtain rfl : r = q.r := by simpa using e1
            rw [h1] at i1; simp only [Option.some.injEq, Prod.mk.injEq] at i1
            obtain ⟨rfl, rfl⟩ := i1
            have g2' : (getObj cb).run P w = .ok (.map ces ck) w := by simp [getObj, Sem.run, g2]
            have hin : ∃ e ∈ q.es, e.key = q.n := by
              obtain ⟨e, a1, a2, a3⟩ := pfind_mem e4
              exact ⟨e, a1, a2⟩
            simp only [Option.some.injEq, Prod.mk.injEq] at hq
            obtain ⟨rfl, rfl⟩ := hq
            rcases hor with ⟨u, j, c, hv, hf, hj, hc, hcv⟩ | ⟨hv, hf, hno⟩
            · simp only [hv]
              obtain ⟨w', p1, p2⟩ := pm_put (P := P) rep e2 h1 g2 hin (g3.set hj hc hV) (fun x hne => ⟨fun hx => mod_old hj hx (by rw [hc]; exact hne), fun hx => mod_back hj hx hne⟩)
              rw [← e3] at p1
              have hst : (Instr.keyThatStays c.key (R k)).run P w = .ok (R k) w := by
                simp [Instr.keyThatStays, hc, e3, Instr.sameBits]
              refine ⟨.skip, undef, w', ι, ?_, .inr ⟨rfl, rfl⟩, ⟨#[], rfl, trivial⟩, p2⟩
              simp [execOp, ho, Instr.mapUpdate, s.r_und, h2, g2', hck, hf w, hj, hst, p1]
            · simp only [hv]
              obtain ⟨w', p1, p2⟩ := pm_put (P := P) rep e2 h1 g2 hin (g3.add hno hV) (fun x hne => by
                rw [Array.toList_push, List.mem_append, List.mem_singleton]
                exact ⟨fun hx => .inl hx, fun hx => hx.elim id fun e => absurd (by rw [e]) hne⟩)
              rw [← e3] at p1
              refine ⟨.skip, undef, w', ι, ?_, .inr ⟨rfl, rfl⟩, ⟨#[], rfl, trivial⟩, p2⟩
              simp [execOp, ho, Instr.mapUpdate, s.r_und, h2, g2', hck, hf w, p1]
          · rename_i hpa
            split at hq
            · rename_i es ck hg
              obtain ⟨ces, g2, g2', g3⟩ := getmap (P := P) rep hg h1
              split at hq
              · rename_i j hpl
                obtain ⟨r', f1, f2⟩ := find_sound hty hdk hK g3 hpl (w := w)
                split at hq
                · rename_i e hej
                  cases hcb : cbits e.key kv with
                  | false => rw [hcb] at hq; cases hq
                  | true =>
                    rw [hcb] at hq; simp only [cnd_true, Option.some.injEq, Prod.mk.injEq] at hq
                    obtain ⟨rfl, rfl⟩ := hq
                    obtain ⟨c, d1, d2, d3, d4⟩ := g3.get hej
                    have d1' : ces[j]? = some c := by rw [← Array.getElem?_toList]; exact d1
                    cases r' with
                    | none => exact f2.elim
                    | some q =>
                      obtain ⟨j', vv'⟩ := q
                      obtain ⟨rfl, _, _⟩ := f2
                      have hst := stays_run d2 hK hcb P w
                      have hm : MRs ι (setAt es j' fun e => ⟨kv, vv, e.born⟩) (ces.modify j' fun e => { e with key := R k, val := R y }).toList := by
                        rw [Array.toList_modify]
                        exact g3.setAt (f := fun e => ⟨kv, vv, e.born⟩) (g := fun e => { e with key := R k, val := R y }) (fun e c hec => ⟨hK, hV, hec.2.2⟩) j'
                      obtain ⟨w', p1, p2⟩ := map_put (P := P) rep hg h1 hm
                      refine ⟨.skip, undef, w', ι, ?_, .inr ⟨rfl, rfl⟩, ⟨#[], rfl, trivial⟩, p2⟩
                      simp [execOp, ho, Instr.mapUpdate, s.r_und, h2, g2', hck, f1, d1', hst, p1]
                · cases hq
              · rename_i hpl
                obtain ⟨r', f1, f2⟩ := find_sound hty hdk hK g3 hpl (w := w)
                simp only [Option.some.injEq, Prod.mk.injEq] at hq
                obtain ⟨rfl, rfl⟩ := hq
                cases r' with
                | some q => exact f2.elim
                | none =>
                  have hm : MRs ι (es ++ [⟨kv, vv, ck⟩]) (ces.push { key := R k, val := R y, born := ck }).toList := by
                    rw [Array.toList_push]; exact g3.snoc ⟨hK, hV, rfl⟩
                  obtain ⟨w', p1, p2⟩ := map_put (P := P) (ck' := ck + 1) rep hg h1 hm
                  refine ⟨.skip, undef, w', ι, ?_, .inr ⟨rfl, rfl⟩, ⟨#[], rfl, trivial⟩, p2⟩
                  simp [execOp, ho, Instr.mapUpdate, s.r_und, h2, g2', hck, f1, p1]
              · cases hq
            · cases hq
      · cases hq
    · cases hq
  · cases hq

theorem e_mapEntry {t : TypeId} {x k : Operand} (ho : o.op = .mapEntry t x k) (hq : eop ty ρ h (.mapEntry t x k) = some (v, h')) : EOk P ι h h' w R o v := by
  simp only [eop] at hq
  split at hq
  · rename_i ti ht
    obtain ⟨i, d, s⟩ := hty.get ht
    split at hq
    · rename_i kt et hk
      have hd := tk_map (s.k ▸ hk); subst hd
      split at hq
      · rename_i r kv te hx hkv hte
        obtain ⟨ie, de, se⟩ := hty.get hte
        cases hkey : keyV ty 12 kt kv with
        | false => rw [hkey] at hq; cases hq
        | true =>
          rw [hkey] at hq; simp only [cnd_true] at hq
          obtain ⟨cb, N, h1, h2⟩ := evS_rel he hx
          have hK := evC_rel he hkv
          obtain ⟨dk, hdk⟩ := key_type hty hkey
          have hck := keyV_sound hty 12 kt kv (R k) 10000 false w hK hkey (by omega)
          split at hq
          · rename_i es ck hg
            obtain ⟨ces, g2, g2', g3⟩ := getmap (P := P) rep hg h1
            split at hq
            · rename_i j hpl
              obtain ⟨r', f1, f2⟩ := find_sound hty hdk hK g3 hpl (w := w)
              split at hq
              · rename_i e hej
                cases hcb : cbits e.key kv with
                | false => rw [hcb] at hq; cases hq
                | true =>
                  rw [hcb] at hq; simp only [cnd_true, Option.some.injEq, Prod.mk.injEq] at hq
                  obtain ⟨rfl, rfl⟩ := hq
                  obtain ⟨c, d1, d2, d3, d4⟩ := g3.get hej
                  have d1' : ces[j]? = some c := by rw [← Array.getElem?_toList]; exact d1
                  cases r' with
                  | none => exact f2.elim
                  | some q =>
                    obtain ⟨j', vv'⟩ := q
                    obtain ⟨rfl, _, c', e1, e2⟩ := f2
                    simp only [Nat.sub_zero] at e1
                    rw [d1] at e1; simp only [Option.some.injEq] at e1; subst e1
                    have hst := stays_run d2 hK hcb P w
                    have hm : MRs ι (setAt es j' fun e => ⟨kv, e.val, e.born⟩) (ces.modify j' fun e => { e with key := R k }).toList := by
                      rw [Array.toList_modify]
                      exact g3.setAt (f := fun e => ⟨kv, e.val, e.born⟩) (g := fun e => { e with key := R k }) (fun e c hec => ⟨hK, hec.2.1, hec.2.2⟩) j'
                    obtain ⟨w', p1, p2⟩ := map_put (P := P) rep hg h1 hm
                    refine ⟨_, .tuple #[c.val, goInt c.born], w', ι, ?_, .inl rfl, ⟨_, rfl, d3, by rw [d4]; rfl, trivial⟩, p2⟩
                    simp [execOp, ho, Instr.mapEntry, s.r_und, h2, g2', hck, f1, d1', hst, p1, e2]
              · cases hq
            · rename_i hpl
              obtain ⟨r', f1, f2⟩ := find_sound hty hdk hK g3 hpl (w := w)
              split at hq
              · rename_i z hz
                obtain ⟨zv, z1, z2⟩ := se.r_zero w hz
                simp only [Option.some.injEq, Prod.mk.injEq] at hq
                obtain ⟨rfl, rfl⟩ := hq
                cases r' with
                | some q => exact f2.elim
                | none =>
                  have hm : MRs ι (es ++ [⟨kv, z, ck⟩]) (ces.push { key := R k, val := zv, born := ck }).toList := by
                    rw [Array.toList_push]; exact g3.snoc ⟨hK, cvOf_rel ι z2, rfl⟩
                  obtain ⟨w', p1, p2⟩ := map_put (P := P) (ck' := ck + 1) rep hg h1 hm
                  refine ⟨_, .tuple #[zv, goInt ck], w', ι, ?_, .inl rfl, ⟨_, rfl, cvOf_rel ι z2, rfl, trivial⟩, p2⟩
                  simp [execOp, ho, Instr.mapEntry, s.r_und, h2, g2', hck, f1, z1, p1]
              · cases hq
            · cases hq
          · cases hq
      · cases hq
    · cases hq
  · cases hq

omit hty he rep in
theorem MRs.findIdx {b : Nat} : ∀ {l : List ME} {r : List MapEntry} {i : Nat}, MRs ι l r → (l.findIdx? fun e => Nat.beq e.born b) = some i → (r.findIdx? fun e => (e.born : Int) == (b : Int)) = some i
  | [], [], _, _, h => by simp at h
  | [], _ :: _, _, h, _ => h.elim
  | _ :: _, [], _, h, _ => h.elim
  | x :: l, v :: r, i, ⟨a, c⟩, h => by
    rw [List.findIdx?_cons] at h ⊢
    cases hb : Nat.beq x.born b with
    | true =>
      rw [hb] at h
      have hv : ((v.born : Int) == (b : Int)) = true := by rw [a.2.2, Nat.eq_of_beq_eq_true hb]; simp
      rw [hv]; exact h
    | false =>
      rw [hb] at h
      have hv : ((v.born : Int) == (b : Int)) = false := by
        have := Nat.ne_of_beq_eq_false hb
        rw [a.2.2]; simp; omega
      rw [hv]
      simp only [Bool.false_eq_true, if_false, Option.map_eq_some_iff] at h ⊢
      obtain ⟨k, h1, h2⟩ := h
      exact ⟨k, MRs.findIdx c h1, h2⟩

theorem e_entryStore {t : TypeId} {x st y : Operand} (ho : o.op = .entryStore t x st y) (hq : eop ty ρ h (.entryStore t x st y) = some (v, h')) : EOk P ι h h' w R o v := by
  simp only [eop] at hq
  split at hq
  · rename_i r born vv hx hst hvv
    obtain ⟨cb, N, h1, h2⟩ := evS_rel he hx
    obtain ⟨kk, hs⟩ := evI_rel he hst
    have hV := evC_rel he hvv
    split at hq
    · rename_i es ck hg
      obtain ⟨ces, g2, g2', g3⟩ := getmap (P := P) rep hg h1
      split at hq
      · rename_i i hi
        simp only [Option.some.injEq, Prod.mk.injEq] at hq
        obtain ⟨rfl, rfl⟩ := hq
        have hfi : ces.findIdx? (fun e => (e.born : Int) == (born : Int)) = some i := by
          have hl := MRs.findIdx g3 hi
          rw [← List.findIdx?_toArray] at hl
          simpa using hl
        have hm : MRs ι (setAt es i fun e => ⟨e.key, vv, e.born⟩) (ces.modify i fun e => { e with val := R y }).toList := by
          rw [Array.toList_modify]
          exact g3.setAt (f := fun e => ⟨e.key, vv, e.born⟩) (g := fun e => { e with val := R y }) (fun e c hec => ⟨hec.1, hV, hec.2.2⟩) i
        obtain ⟨w', p1, p2⟩ := map_put (P := P) rep hg h1 hm
        refine ⟨.skip, undef, w', ι, ?_, .inr ⟨rfl, rfl⟩, ⟨#[], rfl, trivial⟩, p2⟩
        have hs' : R st = .int kk (born : Int) := hs
        simp [execOp, ho, Instr.entryStore, h2, g2', asInt, asIntOf, hs', hfi, p1]
      · cases hq
    · cases hq
  · cases hq

end
end Go.Proofs.YtmjogmpgamlhaaaGreat.Dm
