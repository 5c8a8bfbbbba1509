/- Operations that make one block. -/
import Derived.Test.YtafkkicnfngpoaaGreatDmQ6
set_option linter.unusedVariables false
set_option linter.unusedSimpArgs false
set_option linter.unusedSectionVars false
namespace Go.Proofs.YtafkkicnfngpoaaGreat.Dm
open Go

/-- What an operation that makes one block does in the model, whatever name the block is given. -/
noncomputable def AlOk (P : Program) (ι : Io) (w : World) (R : Operand → Value) (o : Oper) (ob : AO) (f : Nat → AV) : Prop :=
  ∃ V N O, (execOp R o).run P w = .ok (.value V) { w with heap := w.heap.push O } ∧
    ∀ (ι' : Io) (id : Nat) (w' : World), ι' id = some (w.heap.size, N) → Sub ι ι' → w'.heap[w.heap.size]? = some O → AVR ι' (f id) V ∧ OR ι' ob w.heap.size N w'

theorem or_list {ι : Io} {l : List SV} {cs : Array Value} {e : TypeId} {c : Nat} {w' : World} (h : Rs ι l cs.toList) (hw : w'.heap[c]? = some (.cells cs e)) :
    OR ι (.cells (Row.ofList l) false) c cs.size w' := by
  refine ⟨cs, e, (0, 0), hw, rfl, ?_, ?_, fun _ => rfl⟩
  · have := h.length; simp only [Array.length_toList] at this; show l.length ≤ _; omega
  · intro i v hi
    rw [Row.get_ofList] at hi
    obtain ⟨V, h1, h2⟩ := h.get hi
    exact ⟨V, by rw [← Array.getElem?_toList]; exact h1, h2⟩

theorem rep_rel {ι : Io} {l : List SV} {a : Array Value} (h : Rs ι l a.toList) : ∀ m, Rs ι (repList l m) ((Array.range (m * a.size)).map (fun i => a[i % a.size]!)).toList
  | 0 => by simp [repList, Rs]
  | m + 1 => by
    have ih := rep_rel h m
    have e : ((Array.range ((m + 1) * a.size)).map (fun i => a[i % a.size]!)).toList = a.toList ++ ((Array.range (m * a.size)).map (fun i => a[i % a.size]!)).toList := by
      simp only [Array.toList_map, Array.toList_range]
      rw [show (m + 1) * a.size = a.size + m * a.size by rw [Nat.add_mul]; omega, List.range_add, List.map_append]
      congr 1
      · apply List.ext_getElem (by simp)
        intro i h1 h2
        simp at h1
        simp [Nat.mod_eq_of_lt h1, h1]
      · simp
    rw [e]
    exact h.append ih

section
variable {P : Program} {ty : Ty} (hty : TyOk P ty) {ι : Io} {ρ : Env} {R : Operand → Value} (he : ER ι ρ R) {w : World} {o : Oper} {ob : AO} {f : Nat → AV}
include hty he

theorem al_alloc {e : TypeId} (ho : o.op = .alloc e) (h : alop ty ρ (.alloc e) = some (ob, f)) : AlOk P ι w R o ob f := by
  simp only [alop] at h
  split at h
  · rename_i ti ht
    obtain ⟨i, d, s⟩ := hty.get ht
    split at h
    · rename_i z hz
      obtain ⟨zv, z1, z2⟩ := s.r_zero w hz
      simp only [Option.some.injEq, Prod.mk.injEq] at h
      obtain ⟨rfl, rfl⟩ := h
      refine ⟨.pointer (some ⟨w.heap.size, 0, none⟩), zv.cells.size, .cells zv.cells e, by simp [execOp, ho, Instr.alloc, z1, newVar, newRow], ?_⟩
      intro ι' id w' hid hs hw
      exact ⟨⟨_, _, hid, rfl⟩, or_list (CVR.cells (cvOf_rel ι' z2)) hw⟩
    · cases h
  · cases h

theorem al_box {e : TypeId} {x : Operand} (ho : o.op = .box e x) (h : alop ty ρ (.box e x) = some (ob, f)) : AlOk P ι w R o ob f := by
  simp only [alop] at h
  split at h
  · rename_i v hv
    simp only [Option.some.injEq, Prod.mk.injEq] at h
    obtain ⟨rfl, rfl⟩ := h
    refine ⟨.pointer (some ⟨w.heap.size, 0, none⟩), (R x).cells.size, .cells (R x).cells e, by simp [execOp, ho, Instr.box, newVar, newRow], ?_⟩
    intro ι' id w' hid hs hw
    exact ⟨⟨_, _, hid, rfl⟩, or_list (CVR.cells (CVR.mono hs (evC_rel he hv))) hw⟩
  · cases h

theorem al_makeMap {t : TypeId} {r : Option Operand} (ho : o.op = .makeMap t r) (h : alop ty ρ (.makeMap t r) = some (ob, f)) : AlOk P ι w R o ob f := by
  simp only [alop] at h
  split at h
  · simp only [Option.some.injEq, Prod.mk.injEq] at h
    obtain ⟨rfl, rfl⟩ := h
    refine ⟨.map (some w.heap.size), 0, .map #[] 0, by simp [execOp, ho, Instr.makeMap], ?_⟩
    intro ι' id w' hid hs hw
    exact ⟨⟨_, _, hid, rfl⟩, #[], hw, trivial⟩
  · cases h

theorem PtR.mono {ι ι' : Io} (hs : Sub ι ι') : ∀ {l : List (Nat × CV)} {r : List (Nat × Value)}, PtR ι l r → PtR ι' l r
  | [], [], _ => trivial
  | [], _ :: _, h => h.elim
  | _ :: _, [], h => h.elim
  | (i, x) :: l, (j, v) :: r, ⟨⟨a, b⟩, c⟩ => ⟨⟨a, CVR.mono hs b⟩, PtR.mono hs c⟩

theorem al_buildSlice {t : TypeId} {n : Nat} {ps : Array (Nat × Operand)} (ho : o.op = .buildSlice t n ps) (h : alop ty ρ (.buildSlice t n ps) = some (ob, f)) : AlOk P ι w R o ob f := by
  simp only [alop] at h
  split at h
  · rename_i ti ht
    obtain ⟨i, d, s⟩ := hty.get ht
    split at h
    · rename_i e hk
      have hd := tk_sl (s.k ▸ hk); subst hd
      split at h
      · rename_i te hte
        obtain ⟨i', d', se⟩ := hty.get hte
        split at h
        · rename_i z qs hz hqs
          obtain ⟨zv, z1, z2⟩ := se.r_zero w hz
          cases hb : (Nat.beq z.cells.length te.size && Nat.ble (Nat.mul n te.size) 16777216) with
          | false => rw [hb] at h; cases h
          | true =>
            rw [hb] at h; simp only [cnd_true] at h
            rw [Bool.and_eq_true] at hb
            have b1 : z.cells.length = te.size := Nat.eq_of_beq_eq_true hb.1
            have b2 : n * te.size ≤ 16777216 := Nat.le_of_ble_eq_true hb.2
            split at h
            · rename_i l hl
              simp only [Option.some.injEq, Prod.mk.injEq] at h
              obtain ⟨rfl, rfl⟩ := h
              have hzr := CVR.cells (cvOf_rel ι z2)
              have hsz : zv.cells.size = te.size := by have := hzr.length; simp only [Array.length_toList] at this; omega
              have hpr := evParts_rel he hqs
              have hrr := rep_rel hzr n
              obtain ⟨cs', f1, f2⟩ := fill_sound hpr hrr hl
              have hnot : ¬ (n * te.size > 2 ^ 24) := by omega
              refine ⟨.slice (some ⟨w.heap.size, 0, none⟩) n n, cs'.size, .cells cs' e, ?_, ?_⟩
              · simp only [execOp, ho, Instr.buildSlice, Sem.run_bind, s.r_und, Result.andThen_ok, se.r_size, hnot, if_false, Array.toList_map]
                by_cases h0 : n * te.size = 0
                · rw [if_pos h0]
                  have f1' : Instr.fill (fun i => some (i * te.size, te.size)) ((Array.range (n * te.size)).map (fun i => (#[] : Array Value)[i % (#[] : Array Value).size]!)) (ps.toList.map fun (i, x) => (i, R x)) = some cs' := by
                    have r0 : Array.range 0 = #[] := by simp
                    rw [← f1, hsz, h0, r0, Array.map_empty, Array.map_empty]; rfl
                  simp only [Sem.run_bind, Sem.run_pure, Result.andThen_ok]
                  rw [f1']
                  simp [newRow]
                · rw [if_neg h0]
                  have f1' : Instr.fill (fun i => some (i * te.size, te.size)) ((Array.range (n * te.size)).map (fun i => zv.cells[i % zv.cells.size]!)) (ps.toList.map fun (i, x) => (i, R x)) = some cs' := by
                    rw [← f1, hsz]; rfl
                  simp only [Sem.run_bind, Sem.run_pure, Result.andThen_ok, z1]
                  rw [f1']
                  simp [newRow]
              · intro ι' id w' hid hs hw
                obtain ⟨cs2, g1, g2⟩ := fill_sound (PtR.mono hty he hs hpr) (rep_rel (CVR.cells (cvOf_rel ι' z2)) n) hl
                have : cs2 = cs' := by
                  have : some cs2 = some cs' := by rw [← g1, ← f1]
                  exact Option.some.inj this
                subst this
                refine ⟨⟨_, _, 0, n, hid, rfl, Nat.le_refl _, fun _ => ⟨rfl, rfl⟩, fun hf => by cases hf⟩, or_list g2 hw⟩
            · cases h
        · cases h
      · cases h
    · cases h
  · cases h

theorem al_makeSlice {t : TypeId} {l c : Operand} (ho : o.op = .makeSlice t l c) (h : alop ty ρ (.makeSlice t l c) = some (ob, f)) : AlOk P ι w R o ob f := by
  simp only [alop] at h
  split at h
  · rename_i ti ht
    obtain ⟨i, d, s⟩ := hty.get ht
    split at h
    · rename_i e hk
      have hd := tk_sl (s.k ▸ hk); subst hd
      split at h
      · rename_i te hte
        obtain ⟨i', d', se⟩ := hty.get hte
        split at h
        · rename_i z n m hz hn hm
          obtain ⟨zv, z1, z2⟩ := se.r_zero w hz
          obtain ⟨k1, hl⟩ := evI_rel he hn
          obtain ⟨k2, hc⟩ := evI_rel he hm
          cases hb : (Nat.ble n m && Nat.ble (Nat.mul te.bytes m) 281474976710656 && Nat.blt m 9223372036854775808) with
          | false => rw [hb] at h; cases h
          | true =>
            rw [hb] at h; simp only [cnd_true] at h
            rw [Bool.and_eq_true, Bool.and_eq_true] at hb
            have b1 : n ≤ m := Nat.le_of_ble_eq_true hb.1.1
            have b2 : te.bytes * m ≤ 281474976710656 := Nat.le_of_ble_eq_true hb.1.2
            have b3 : m < 9223372036854775808 := Nat.le_of_ble_eq_true hb.2
            have hwr : ∀ a : Nat, a < 9223372036854775808 → IntKind.i64.wrap (a : Int) = a := by
              intro a ha
              rw [← wr_eq]
              show wr .i64 (Int.ofNat a) = Int.ofNat a
              simp only [wr]
              rw [show Nat.blt a 9223372036854775808 = true from Nat.ble_eq_true_of_le ha]; rfl
            have hwn := hwr n (Nat.lt_of_le_of_lt b1 b3)
            have hwm := hwr m b3
            have hbm : ¬ (((te.bytes : Nat) : Int) * (m : Int) > 2 ^ 48) := by
              have h1 : ((te.bytes * m : Nat) : Int) ≤ 281474976710656 := by omega
              rw [Int.natCast_mul] at h1
              have h2 : (2 : Int) ^ 48 = 281474976710656 := by decide
              rw [h2]; omega
            -- what the model lays
            have run : ∀ cells : Array Value, (cells = (Array.range (m * te.size)).map (fun i => zv.cells[i % zv.cells.size]!)) →
                (execOp R o).run P w = .ok (.value (.slice (some ⟨w.heap.size, 0, none⟩) n m)) { w with heap := w.heap.push (.cells cells e) } := by
              intro cells hcells
              have hl' : R l = .int k1 (n : Int) := hl
              have hc' : R c = .int k2 (m : Int) := hc
              have hle : ¬ ((n : Int) > (m : Int)) := by omega
              have hb0 : ¬ ((m : Int) < 0) := by omega
              have hn0 : ¬ ((n : Int) < 0) := by omega
              have hbytes : ((i'.bytes : Nat) : Int) = ((te.bytes : Nat) : Int) := by rw [se.bytes]
              simp only [execOp, ho, Instr.makeSlice, Sem.run_bind, s.r_und, Result.andThen_ok, asInt, asIntOf, hl', hc', Sem.run_pure, se.r_info, hwn, hwm, hbytes, hb0, hn0, hle, hbm, decide_false, Bool.or_false, Bool.false_eq_true, if_false, run_askRoom, se.r_size, Int.toNat_natCast]
              by_cases h0 : m * te.size = 0
              · have r0 : Array.range 0 = #[] := by simp
                simp [h0, hcells, newRow, r0]
              · simp [h0, z1, hcells, newRow]
            have hzr : ∀ ι', Rs ι' z.cells zv.cells.toList := fun ι' => CVR.cells (cvOf_rel ι' z2)
            split at h
            · rename_i v
              cases hs1 : Nat.beq te.size 1 with
              | false => rw [hs1] at h; cases h
              | true =>
                rw [hs1] at h; simp only [cnd_true, Option.some.injEq, Prod.mk.injEq] at h
                obtain ⟨rfl, rfl⟩ := h
                have hs1' : te.size = 1 := Nat.eq_of_beq_eq_true hs1
                refine ⟨_, m, _, run _ rfl, ?_⟩
                intro ι' id w' hid hs hw
                refine ⟨⟨_, _, 0, m, hid, rfl, b1, fun _ => ⟨rfl, rfl⟩, fun hf => by cases hf⟩, ?_⟩
                have hv : VR ι' v zv := cvOf_rel ι' z2
                have hvc := VR.cells hv
                refine ⟨_, e, (0, 0), hw, by simp [hs1'], Nat.le_refl _, ?_, fun _ => rfl⟩
                intro j x hj
                rw [Row.get_rep] at hj
                by_cases hjm : j < m
                · rw [if_pos hjm] at hj; simp only [Option.some.injEq] at hj; subst hj
                  refine ⟨zv, ?_, hv⟩
                  rw [hvc, hs1']
                  simp [hjm, Nat.mod_one]
                · rw [if_neg hjm] at hj; cases hj
            · rename_i l'
              cases hs1 : Nat.beq te.size l'.length with
              | false => rw [hs1] at h; cases h
              | true =>
                rw [hs1] at h; simp only [cnd_true, Option.some.injEq, Prod.mk.injEq] at h
                obtain ⟨rfl, rfl⟩ := h
                have hs1' : te.size = l'.length := Nat.eq_of_beq_eq_true hs1
                have hsz : zv.cells.size = te.size := by have := (hzr ι).length; simp only [Array.length_toList] at this; rw [hs1', ← this]; rfl
                refine ⟨_, ((Array.range (m * te.size)).map (fun i => zv.cells[i % zv.cells.size]!)).size, _, run _ rfl, ?_⟩
                intro ι' id w' hid hs hw
                refine ⟨⟨_, _, 0, m, hid, rfl, b1, fun _ => ⟨rfl, rfl⟩, fun hf => by cases hf⟩, ?_⟩
                have := rep_rel (hzr ι') m
                rw [hsz] at this
                rw [hsz] at hw ⊢
                exact or_list this hw
        · cases h
      · cases h
    · cases h
  · cases h

theorem alop_sound (h : alop ty ρ o.op = some (ob, f)) : AlOk P ι w R o ob f := by
  cases ho : o.op <;> rw [ho] at h
  case alloc => exact al_alloc hty he ho h
  case box => exact al_box hty he ho h
  case buildSlice => exact al_buildSlice hty he ho h
  case makeSlice => exact al_makeSlice hty he ho h
  case makeMap => exact al_makeMap hty he ho h
  all_goals (simp only [alop] at h; cases h)

end
end Go.Proofs.YtafkkicnfngpoaaGreat.Dm
