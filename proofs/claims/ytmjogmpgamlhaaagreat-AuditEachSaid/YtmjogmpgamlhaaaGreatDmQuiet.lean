/- The quiet operations, one by one (third part): conversions, slices. -/
import Derived.Test.YtmjogmpgamlhaaaGreatDmSem
set_option linter.unusedVariables false
set_option linter.unusedSimpArgs false
set_option linter.unusedSectionVars false
namespace Go.Proofs.YtmjogmpgamlhaaaGreat.Dm
open Go

noncomputable def ER (ι : Io) (ρ : Env) (R : Operand → Value) : Prop := ∀ x v, ρ x = some v → AVR ι v (R x)

section
variable {ι : Io} {ρ : Env} {R : Operand → Value} (he : ER ι ρ R)
include he

theorem evC_rel {x : Operand} {v : CV} (h : evC ρ x = some v) : CVR ι v (R x) := by
  unfold evC at h
  split at h
  · rename_i v' e; simp only [Option.some.injEq] at h; subst h; exact he x _ e
  · cases h
theorem evS_rel {x : Operand} {v : SV} (h : evS ρ x = some v) : VR ι v (R x) := by
  unfold evS at h
  split at h
  · rename_i v' e; simp only [Option.some.injEq] at h; subst h; exact he x _ e
  · cases h
theorem evI_rel {x : Operand} {n : Int} (h : evI ρ x = some n) : ∃ k, R x = .int k n := by
  unfold evI at h
  split at h
  · rename_i k v' e; simp only [Option.some.injEq] at h; subst h; exact ⟨k, he x _ e⟩
  · cases h
theorem evList_rel : ∀ {xs : List Operand} {l : List AV}, evList ρ xs = some l → ARs ι l (xs.map R)
  | [], l, h => by simp only [evList, Option.some.injEq] at h; subst h; exact trivial
  | x :: xs, l, h => by
    simp only [evList] at h
    cases h1 : ρ x with
    | none => rw [h1] at h; cases h
    | some v =>
      rw [h1] at h; simp only [] at h
      cases h2 : evList ρ xs with
      | none => rw [h2] at h; cases h
      | some r =>
        rw [h2] at h; simp only [Option.some.injEq] at h; subst h
        exact ⟨he x v h1, evList_rel h2⟩
theorem evPtrs_rel : ∀ {xs : List Operand} {l : List (Nat × Nat)}, evPtrs ρ xs = some l → PRs ι l (xs.map R)
  | [], l, h => by simp only [evPtrs, Option.some.injEq] at h; subst h; exact trivial
  | x :: xs, l, h => by
    simp only [evPtrs] at h
    split at h
    · rename_i b o h1
      cases h2 : evPtrs ρ xs with
      | none => rw [h2] at h; cases h
      | some r =>
        rw [h2] at h; simp only [Option.some.injEq] at h; subst h
        exact ⟨evS_rel he h1, evPtrs_rel h2⟩
    · cases h
end

noncomputable def PtR (ι : Io) : List (Nat × CV) → List (Nat × Value) → Prop
  | [], [] => True
  | (i, x) :: l, (j, v) :: r => (i = j ∧ CVR ι x v) ∧ PtR ι l r
  | _, _ => False

theorem evParts_rel {ι : Io} {ρ : Env} {R : Operand → Value} (he : ER ι ρ R) : ∀ {xs : List (Nat × Operand)} {l : List (Nat × CV)},
    evParts ρ xs = some l → PtR ι l (xs.map fun (i, x) => (i, R x))
  | [], l, h => by simp only [evParts, Option.some.injEq] at h; subst h; exact trivial
  | (i, x) :: xs, l, h => by
    simp only [evParts] at h
    cases h1 : evC ρ x with
    | none => rw [h1] at h; cases h
    | some v =>
      rw [h1] at h; simp only [] at h
      cases h2 : evParts ρ xs with
      | none => rw [h2] at h; cases h
      | some r =>
        rw [h2] at h; simp only [Option.some.injEq] at h; subst h
        exact ⟨⟨rfl, evC_rel he h1⟩, evParts_rel he h2⟩

theorem below_spec {i : Int} {n j : Nat} (h : below i n = some j) : i = (j : Int) ∧ j < n := by
  cases i with
  | negSucc a => simp [below] at h
  | ofNat a =>
    simp only [below] at h
    cases hb : Nat.blt a n with
    | false => rw [hb] at h; cases h
    | true => rw [hb] at h; simp only [cnd_true, Option.some.injEq] at h; subst h; exact ⟨rfl, Nat.le_of_ble_eq_true hb⟩
theorem upto_spec {i : Int} {n j : Nat} (h : upto i n = some j) : i = (j : Int) ∧ j ≤ n := by
  cases i with
  | negSucc a => simp [upto] at h
  | ofNat a =>
    simp only [upto] at h
    cases hb : Nat.ble a n with
    | false => rw [hb] at h; cases h
    | true => rw [hb] at h; simp only [cnd_true, Option.some.injEq] at h; subst h; exact ⟨rfl, Nat.le_of_ble_eq_true hb⟩

theorem Addr_add (c o n : Nat) : (Addr.add ⟨c, o, none⟩ n) = ⟨c, o + n, none⟩ := by
  unfold Addr.add
  by_cases h : n = 0
  · subst h; simp
  · rw [if_neg h]

theorem field_at {fs : List (Nat × TypeId × Bool)} {a : Array Field} {f off : Nat} {t' : TypeId} {nm : Bool} (he : fs = a.toList.map fun f => (f.offset, f.type, f.name != "_"))
    (hf : fs[f]? = some (off, t', nm)) : ∃ fl : Field, a[f]? = some fl ∧ fl.offset = off ∧ fl.type = t' := by
  subst he
  rw [List.getElem?_map] at hf
  cases hg : a.toList[f]? with
  | none => rw [hg] at hf; cases hf
  | some fl => rw [hg] at hf; simp only [Option.map_some, Option.some.injEq, Prod.mk.injEq] at hf; exact ⟨fl, by simpa using hg, hf.1, hf.2.1⟩

/-! ### cells -/

theorem cell_of {ι : Io} {w : World} {h : Heap} (rep : Rep ι w h) {b : Nat} {r : Row} {ro : Bool} (hb : h.get b = some (.cells r ro)) {i : Nat} {v : SV} (hv : r.get i = some v) :
    ∃ cb N V, ι b = some (cb, N) ∧ w.cell? ⟨cb, i, none⟩ = some V ∧ VR ι v V := by
  obtain ⟨cb, N, h1, cs, el, fr, h2, h3, h4, h5, h6⟩ := rep.obj b _ hb
  obtain ⟨V, e1, e2⟩ := h5 i v hv
  exact ⟨cb, N, V, h1, by simp only [World.cell?, h2]; simpa using e1, e2⟩

theorem loadCells_from {P : Program} {w : World} {a : Addr} : ∀ (l : List Value) (i : Nat) (acc : Array Value), (∀ j v, l[j]? = some v → w.cell? (a.add (i + j)) = some v) →
    (loadCellsFrom a i l.length acc).run P w = .ok (acc ++ l.toArray) w
  | [], i, acc, _ => by simp [loadCellsFrom]
  | v :: l, i, acc, h => by
    have h0 := h 0 v (by simp)
    simp only [Nat.add_zero] at h0
    have ih := loadCells_from (P := P) (w := w) (a := a) l (i + 1) (acc.push v) (fun j u hj => by have := h (j + 1) u (by simpa using hj); rw [show i + 1 + j = i + (j + 1) by omega]; exact this)
    simp only [List.length_cons, loadCellsFrom, Sem.run_bind, run_load, h0, Result.andThen_ok, ih]
    simp

/-- A piece of a row, as the model reads it. -/
theorem read_of {P : Program} {ι : Io} {w : World} {h : Heap} (rep : Rep ι w h) {b : Nat} {r : Row} {ro : Bool} (hb : h.get b = some (.cells r ro)) {cb N : Nat} (hi : ι b = some (cb, N)) {o k : Nat} {l : List SV} (hl : r.read o k = some l) :
    ∃ vs : Array Value, (loadCells ⟨cb, o, none⟩ k).run P w = .ok vs w ∧ Rs ι l vs.toList := by
  obtain ⟨e1, e2⟩ := Row.read_spec r k o l hl
  have : ∃ vs : List Value, Rs ι l vs ∧ ∀ j v, vs[j]? = some v → w.cell? (Addr.add ⟨cb, o, none⟩ (0 + j)) = some v := by
    have gen : ∀ (l : List SV) (o : Nat), (∀ i x, l[i]? = some x → r.get (o + i) = some x) → ∃ vs : List Value, Rs ι l vs ∧ ∀ j v, vs[j]? = some v → w.cell? (Addr.add ⟨cb, o, none⟩ (0 + j)) = some v := by
      intro l
      induction l with
      | nil => intro o _; exact ⟨[], trivial, by simp⟩
      | cons x l ih =>
        intro o hx
        obtain ⟨vs, a, c⟩ := ih (o + 1) (fun i y hy => by have := hx (i + 1) y (by simpa using hy); rw [show o + 1 + i = o + (i + 1) by omega]; exact this)
        obtain ⟨cb', N', V, f1, f2, f3⟩ := cell_of rep hb (hx 0 x (by simp))
        rw [hi] at f1
        simp only [Option.some.injEq, Prod.mk.injEq] at f1
        obtain ⟨rfl, rfl⟩ := f1
        refine ⟨V :: vs, ⟨f3, a⟩, fun j v hj => ?_⟩
        cases j with
        | zero => simp at hj; subst hj; rw [Addr_add]; simpa using f2
        | succ j =>
          have := c j v (by simpa using hj)
          rw [Addr_add] at this ⊢
          rw [show o + (0 + (j + 1)) = o + 1 + (0 + j) by omega]; exact this
    refine gen l o fun i x hx => ?_
    have hlt : i < l.length := by
      rcases Nat.lt_or_ge i l.length with h | h
      · exact h
      · rw [List.getElem?_eq_none h] at hx; cases hx
    rw [e2 i (by omega)]; exact hx
  obtain ⟨vs, f1, f2⟩ := this
  refine ⟨vs.toArray, ?_, by simpa using f1⟩
  have hlen : vs.length = k := by rw [← f1.length, e1]
  have := loadCells_from (P := P) (w := w) (a := ⟨cb, o, none⟩) vs 0 #[] f2
  rw [hlen] at this
  unfold loadCells
  rw [this]; simp

theorem load_of {P : Program} {ty : Ty} (hty : TyOk P ty) {ι : Io} {w : World} {h : Heap} (rep : Rep ι w h) {t : TypeId} {ti : TI} (ht : ty t = some ti) {b o : Nat} {v : CV}
    (hl : loadA ti h b o = some v) {cb N : Nat} (hi : ι b = some (cb, N)) : ∃ V, (loadVar t ⟨cb, o, none⟩).run P w = .ok V w ∧ CVR ι v V := by
  obtain ⟨i, d, s⟩ := hty.get ht
  unfold loadA at hl
  split at hl
  · rename_i r ro hb
    cases ha : aggOf ti.k with
    | true =>
      rw [ha] at hl; simp only [cnd_true] at hl
      cases h1 : r.read o ti.size with
      | none => rw [h1] at hl; cases hl
      | some l =>
        rw [h1] at hl; simp only [Option.some.injEq] at hl; subst hl
        obtain ⟨vs, e1, e2⟩ := read_of (P := P) rep hb hi h1
        exact ⟨.agg vs, by simp [loadVar, s.r_agg, s.r_size, ha, e1], vs, rfl, e2⟩
    | false =>
      rw [ha] at hl; simp only [cnd_false] at hl
      cases h1 : r.get o with
      | none => rw [h1] at hl; cases hl
      | some x =>
        rw [h1] at hl; simp only [Option.some.injEq] at hl; subst hl
        obtain ⟨cb', N', V, f1, f2, f3⟩ := cell_of rep hb h1
        rw [hi] at f1
        simp only [Option.some.injEq, Prod.mk.injEq] at f1
        obtain ⟨rfl, rfl⟩ := f1
        exact ⟨V, by simp [loadVar, s.r_agg, ha, f2], f3⟩
  · cases hl

end Go.Proofs.YtmjogmpgamlhaaaGreat.Dm

namespace Go.Proofs.YtmjogmpgamlhaaaGreat.Dm
open Go

structure Still (ι : Io) (h : Heap) (w w' : World) : Prop where
  size : w'.heap.size = w.heap.size
  tape : w'.tape = w.tape
  os : w'.os = w.os
  output : w'.output = w.output
  frame : ∀ c, (∀ b o N, h.get b = some o → ι b ≠ some (c, N)) → w'.heap[c]? = w.heap[c]?
  rep : ∀ ι' h', Rep ι' w h' → Rep ι' w' h'
  maps : ∀ c k n V, HasM w c k n V ↔ HasM w' c k n V

theorem Still.refl (ι : Io) (h : Heap) (w : World) : Still ι h w w := ⟨rfl, rfl, rfl, rfl, fun _ _ => rfl, fun _ _ r => r, fun _ _ _ _ => Iff.rfl⟩

theorem Still.post {ι : Io} {h : Heap} {w w' : World} (s : Still ι h w w') (r : Rep ι w h) : Post ι h h w w' ι :=
  ⟨s.rep ι h r, fun _ _ => rfl, Nat.le_refl _, fun c _ hn => s.frame c hn, by rw [s.size]; exact Nat.le_refl _, r.lt, fun b o c N h k => .inl ⟨b, o, N, h, k⟩, s.tape, s.os, s.output, fun b o hb _ => ⟨o, hb, SamK.refl o⟩, fun b k es l cb N _ _ _ n _ V => s.maps cb k n V⟩

/-- What a quiet operation does in the model. -/
noncomputable def QOk (P : Program) (ι : Io) (h : Heap) (w : World) (R : Operand → Value) (o : Oper) (v : AV) : Prop :=
  ∃ V w', (execOp R o).run P w = .ok (.value V) w' ∧ AVR ι v V ∧ Still ι h w w'

theorem QOk.of {P : Program} {ι : Io} {h : Heap} {w : World} {R : Operand → Value} {o : Oper} {v : AV} {V : Value}
    (h1 : (execOp R o).run P w = .ok (.value V) w) (h2 : AVR ι v V) : QOk P ι h w R o v := ⟨V, w, h1, h2, Still.refl _ _ _⟩

section
variable {P : Program} {ty : Ty} (hty : TyOk P ty) {ι : Io} {ρ : Env} {R : Operand → Value} (he : ER ι ρ R) {w : World} {h : Heap} (rep : Rep ι w h) {o : Oper} {v : AV}
include hty he rep

theorem q_move {x : Operand} (ho : o.op = .move x) (hq : qop ty ρ h (.move x) = some v) : QOk P ι h w R o v :=
  .of (V := R x) (by simp [execOp, ho]) (he x v hq)
theorem q_assign {x : Operand} (ho : o.op = .assign x) (hq : qop ty ρ h (.assign x) = some v) : QOk P ι h w R o v :=
  .of (V := R x) (by simp [execOp, ho]) (he x v hq)
theorem q_pick {c a b : Operand} (ho : o.op = .pick c a b) (hq : qop ty ρ h (.pick c a b) = some v) : QOk P ι h w R o v := by
  simp only [qop] at hq
  split at hq
  · rename_i x hx
    have hc : R c = .bool x := evS_rel he hx
    cases x with
    | true => exact .of (V := R a) (by simp [execOp, ho, hc, asBool]) (he a v hq)
    | false => exact .of (V := R b) (by simp [execOp, ho, hc, asBool]) (he b v hq)
  · cases hq
theorem q_nilCheck {x : Operand} (ho : o.op = .nilCheck x) (hq : qop ty ρ h (.nilCheck x) = some v) : QOk P ι h w R o v := by
  simp only [qop] at hq
  split at hq
  · rename_i b off hx
    simp only [Option.some.injEq] at hq; subst hq
    have hr := evS_rel he hx
    obtain ⟨cb, N, h1, h2⟩ := hr
    exact .of (V := R x) (by simp only [execOp, ho, h2, Sem.run_pure]) ⟨cb, N, h1, h2⟩
  · rename_i f l c hx
    simp only [Option.some.injEq] at hq; subst hq
    have hr := evS_rel he hx
    obtain ⟨vl, vc, h1, h2⟩ := hr
    exact .of (V := R x) (by simp only [execOp, ho, h1, Sem.run_pure]) ⟨vl, vc, h1, h2⟩
  · cases hq
theorem q_bin {op : BinOp} {t yt : TypeId} {x y : Operand} (ho : o.op = .binOp op t x y yt) (hq : qop ty ρ h (.binOp op t x y yt) = some v) : QOk P ι h w R o v := by
  simp only [qop] at hq
  cases h1 : evC ρ x with
  | none => rw [h1] at hq; cases hq
  | some a =>
    rw [h1] at hq; simp only [] at hq
    cases h2 : evC ρ y with
    | none => rw [h2] at hq; cases hq
    | some b =>
      rw [h2] at hq; simp only [] at hq
      cases h3 : binA ty op t a b with
      | none => rw [h3] at hq; cases hq
      | some r =>
        rw [h3] at hq; simp only [Option.some.injEq] at hq; subst hq
        obtain ⟨Z, e1, e2⟩ := binA_sound hty w (evC_rel he h1) (evC_rel he h2) h3 x y
        exact .of (V := Z) (by simp only [execOp, ho, Sem.run_bind] at e1 ⊢; rw [e1]; simp) e2
theorem q_un {op : UnOp} {t : TypeId} {x : Operand} (ho : o.op = .unOp op t x) (hq : qop ty ρ h (.unOp op t x) = some v) : QOk P ι h w R o v := by
  simp only [qop] at hq
  cases h1 : evS ρ x with
  | none => rw [h1] at hq; cases hq
  | some a =>
    rw [h1] at hq; simp only [] at hq
    cases h3 : unA op a with
    | none => rw [h3] at hq; cases hq
    | some r =>
      rw [h3] at hq; simp only [Option.some.injEq] at hq; subst hq
      obtain ⟨Z, e1, e2⟩ := unA_sound (P := P) w (evS_rel he h1) h3
      exact .of (V := Z) (by simp only [execOp, ho, Sem.run_bind]; rw [e1]; simp) e2
theorem q_fieldAddr {s : TypeId} {x : Operand} {f : Nat} (ho : o.op = .fieldAddr s x f) (hq : qop ty ρ h (.fieldAddr s x f) = some v) : QOk P ι h w R o v := by
  simp only [qop] at hq
  split at hq
  · rename_i ti ht
    obtain ⟨i, d, si⟩ := hty.get ht
    split at hq
    · rename_i fs hk
      obtain ⟨a, rfl, ea⟩ := tk_st (si.k ▸ hk)
      split at hq
      · rename_i off t' nm hf
        obtain ⟨fl, g1, g2, g3⟩ := field_at ea hf
        split at hq
        · rename_i tf htf
          obtain ⟨i', d', sf⟩ := hty.get htf
          cases hz : Nat.beq tf.size 0 with
          | true => rw [hz] at hq; cases hq
          | false =>
            rw [hz] at hq; simp only [cnd_false] at hq
            have hz' : tf.size ≠ 0 := Nat.ne_of_beq_eq_false hz
            split at hq
            · rename_i b off' hx
              simp only [Option.some.injEq] at hq; subst hq
              obtain ⟨cb, N, h1, h2⟩ := evS_rel he hx
              refine .of (V := .pointer (some ⟨cb, off' + off, none⟩)) ?_ ⟨cb, N, h1, rfl⟩
              subst g3
              simp [execOp, ho, Instr.fieldAt, si.r_und, g1, Instr.sureAddr, h2, fieldPlace, sf.r_size, hz', Addr_add, g2]
            · cases hq
        · cases hq
      · cases hq
    · cases hq
  · cases hq

theorem q_field {t : TypeId} {x : Operand} {f : Nat} (ho : o.op = .field t x f) (hq : qop ty ρ h (.field t x f) = some v) : QOk P ι h w R o v := by
  simp only [qop] at hq
  split at hq
  · rename_i ti ht
    obtain ⟨i, d, si⟩ := hty.get ht
    split at hq
    · rename_i fs hk
      obtain ⟨a, rfl, ea⟩ := tk_st (si.k ▸ hk)
      split at hq
      · rename_i off t' nm hf
        obtain ⟨fl, g1, g2, g3⟩ := field_at ea hf
        split at hq
        · rename_i l hx
          obtain ⟨c, h1, h2⟩ := evC_rel he hx
          split at hq
          · rename_i r hp
            simp only [Option.some.injEq] at hq; subst hq
            obtain ⟨V, e1, e2⟩ := part_sound hty w h2 hp
            refine .of (V := V) ?_ e2
            subst g2; subst g3
            simp [execOp, ho, Instr.field, si.r_und, g1, h1, asAgg, e1]
          · cases hq
        · cases hq
      · cases hq
    · cases hq
  · cases hq

theorem q_extract {x : Operand} {k : Nat} (ho : o.op = .extract x k) (hq : qop ty ρ h (.extract x k) = some v) : QOk P ι h w R o v := by
  simp only [qop] at hq
  split at hq
  · rename_i l hx
    obtain ⟨a, h1, h2⟩ := he x _ hx
    split at hq
    · rename_i c hc
      simp only [Option.some.injEq] at hq; subst hq
      obtain ⟨V, e1, e2⟩ := h2.get hc
      have e1' : a[k]? = some V := by rw [← Array.getElem?_toList]; exact e1
      exact .of (V := V) (by simp [execOp, ho, Instr.extract, h1, e1']) e2
    · cases hq
  · cases hq

theorem q_load {t : TypeId} {x : Operand} (ho : o.op = .load t x) (hq : qop ty ρ h (.load t x) = some v) : QOk P ι h w R o v := by
  simp only [qop] at hq
  split at hq
  · rename_i ti ht
    split at hq
    · rename_i b off hx
      obtain ⟨cb, N, h1, h2⟩ := evS_rel he hx
      split at hq
      · rename_i r hl
        simp only [Option.some.injEq] at hq; subst hq
        obtain ⟨V, e1, e2⟩ := load_of hty rep ht hl h1
        exact .of (V := V) (by simp [execOp, ho, Instr.loadAt, Instr.sureAddr, h2, e1]) e2
      · cases hq
    · cases hq
  · cases hq

theorem q_makeFunc {fn : Fn} {first captured : Array Operand} (ho : o.op = .makeFunc fn first captured) (hq : qop ty ρ h (.makeFunc fn first captured) = some v) : QOk P ι h w R o v := by
  simp only [qop] at hq
  split at hq
  · rename_i f
    split at hq
    · rename_i l hl
      split at hq
      · rename_i c hc
        simp only [Option.some.injEq] at hq; subst hq
        exact .of (V := .func (.func f) (first.map R) (captured.map R)) (by simp [execOp, ho, Instr.makeFunc])
          ⟨_, _, rfl, by rw [Array.toList_map]; exact evPtrs_rel he hl, by rw [Array.toList_map]; exact evPtrs_rel he hc⟩
      · cases hq
    · cases hq
  · cases hq

theorem q_indexAddr {t : TypeId} {x ix : Operand} (ho : o.op = .indexAddr t x ix) (hq : qop ty ρ h (.indexAddr t x ix) = some v) : QOk P ι h w R o v := by
  simp only [qop] at hq
  split at hq
  · rename_i ti ht
    obtain ⟨i, d, si⟩ := hty.get ht
    split at hq
    · rename_i n hn
      obtain ⟨kk, hix⟩ := evI_rel he hn
      split at hq
      · rename_i e b off len cap z ex hk hx
        have hd := tk_sl (si.k ▸ hk); subst hd
        obtain ⟨cb, N, o', cc, h1, h2, h3⟩ := evS_rel he hx
        split at hq
        · rename_i te hte
          obtain ⟨i', d', se⟩ := hty.get hte
          split at hq
          · rename_i j hj
            obtain ⟨rfl, hlt⟩ := below_spec hj
            cases hz : Nat.beq z te.size with
            | false => rw [hz] at hq; cases hq
            | true =>
              rw [hz] at hq; simp only [cnd_true, Option.some.injEq] at hq; subst hq
              have hz' : z = te.size := Nat.eq_of_beq_eq_true hz
              obtain ⟨k1, k2, k3⟩ := h3
              have hoff : o' = off := by
                cases ex with
                | true => exact (k2 rfl).1
                | false => exact ((k3 rfl).2.1).resolve_left (by omega)
              subst hoff
              refine .of (V := .pointer (some ⟨cb, o' + j * te.size, none⟩)) ?_ ⟨cb, N, h1, by rw [hz']; rfl⟩
              simp [execOp, ho, Instr.indexAt, asIntOf, hix, h2, si.r_und, se.r_size, Addr_add, hlt]
          · cases hq
        · cases hq
      · rename_i m e b off hk hx
        have hd := tk_arr (si.k ▸ hk); subst hd
        obtain ⟨cb, N, h1, h2⟩ := evS_rel he hx
        split at hq
        · rename_i te hte
          obtain ⟨i', d', se⟩ := hty.get hte
          split at hq
          · rename_i j hj
            obtain ⟨rfl, hlt⟩ := below_spec hj
            simp only [Option.some.injEq] at hq; subst hq
            refine .of (V := .pointer (some ⟨cb, off + j * te.size, none⟩)) ?_ ⟨cb, N, h1, rfl⟩
            simp [execOp, ho, Instr.indexAt, asIntOf, hix, h2, si.r_und, Instr.sureAddr, se.r_size, Addr_add, hlt]
          · cases hq
        · cases hq
      · cases hq
    · cases hq
  · cases hq

end
end Go.Proofs.YtmjogmpgamlhaaaGreat.Dm

namespace Go.Proofs.YtmjogmpgamlhaaaGreat.Dm
open Go

/-! ### laying parts -/

theorem lay_fold : ∀ (l : List Value) (k off : Nat) (c : Array Value), off + k + l.length ≤ c.size →
    ((l.zipIdx k).foldl (fun (cs : Array Value) (x : Value × Nat) => cs.setIfInBounds (off + x.2) x.1) c).toList = c.toList.take (off + k) ++ l ++ c.toList.drop (off + k + l.length)
  | [], k, off, c, h => by simp
  | v :: l, k, off, c, h => by
    simp only [List.zipIdx_cons, List.foldl_cons, List.length_cons] at h ⊢
    rw [lay_fold l (k + 1) off _ (by simp; omega)]
    have h1 : off + k < c.toList.length := by simp; omega
    rw [Array.toList_setIfInBounds]
    have e1 : (c.toList.set (off + k) v).take (off + (k + 1)) = c.toList.take (off + k) ++ [v] := by
      rw [show off + (k + 1) = (off + k) + 1 by omega, List.take_set, List.take_succ_eq_append_getElem h1, List.set_append_right _ _ (by simp; omega)]
      have h2 : off + k - min (off + k) c.size = 0 := by simp at h1; omega
      simp [h2]
    have e2 : (c.toList.set (off + k) v).drop (off + (k + 1) + l.length) = c.toList.drop (off + k + (l.length + 1)) := by
      rw [List.drop_set_of_lt (by omega)]; congr 1; omega
    rw [e1, e2]; simp

theorem Rs.layAt {ι : Io} {cells l : List SV} {cs vs : List Value} (hc : Rs ι cells cs) (hl : Rs ι l vs) (off : Nat) :
    Rs ι (layAt cells off l) (cs.take off ++ vs ++ cs.drop (off + vs.length)) := by
  unfold Dm.layAt
  rw [hl.length]
  exact ((hc.take off).append hl).append (hc.drop _)

theorem fill_sound {ι : Io} {place : Nat → Option (Nat × Nat)} : ∀ {ps : List (Nat × CV)} {vs : List (Nat × Value)} {cells r : List SV} {cs : Array Value},
    PtR ι ps vs → Rs ι cells cs.toList → fillA cells place ps = some r → ∃ cs' : Array Value, Instr.fill place cs vs = some cs' ∧ Rs ι r cs'.toList
  | [], [], cells, r, cs, _, hc, h => by simp only [fillA, Option.some.injEq] at h; subst h; exact ⟨cs, rfl, hc⟩
  | [], _ :: _, _, _, _, h, _, _ => h.elim
  | _ :: _, [], _, _, _, h, _, _ => h.elim
  | (i, x) :: ps, (j, v) :: vs, cells, r, cs, ⟨⟨hij, hx⟩, hp⟩, hc, h => by
    subst hij
    simp only [fillA] at h
    cases hpl : place i with
    | none => rw [hpl] at h; cases h
    | some q =>
      obtain ⟨off, size⟩ := q
      rw [hpl] at h; simp only [] at h
      cases hb : (Nat.beq x.cells.length size && Nat.ble (Nat.add off size) cells.length) with
      | false => rw [hb] at h; cases h
      | true =>
        rw [hb] at h; simp only [cnd_true] at h
        rw [Bool.and_eq_true] at hb
        have b1 : x.cells.length = size := Nat.eq_of_beq_eq_true hb.1
        have b2 : off + size ≤ cells.length := Nat.le_of_ble_eq_true hb.2
        have hxc := CVR.cells hx
        have l1 := hxc.length
        have l2 := hc.length
        simp only [Array.length_toList] at l1 l2
        have hlay := lay_fold v.cells.toList 0 off cs (by simp; omega)
        have hRs : Rs ι (Dm.layAt cells off x.cells) ((v.cells.toList.zipIdx 0).foldl (fun (cs : Array Value) (x : Value × Nat) => cs.setIfInBounds (off + x.2) x.1) cs).toList := by
          rw [hlay]; simpa using hc.layAt hxc off
        obtain ⟨cs', f1, f2⟩ := fill_sound hp hRs h
        refine ⟨cs', ?_, f2⟩
        simp only [Instr.fill, hpl]
        rw [if_neg (by simp; omega)]
        rw [← f1]
        congr 1
        rw [← Array.foldl_toList, Array.toList_zipIdx]

section
variable {P : Program} {ty : Ty} (hty : TyOk P ty) {ι : Io} {ρ : Env} {R : Operand → Value} (he : ER ι ρ R) {w : World} {h : Heap} (rep : Rep ι w h) {o : Oper} {v : AV}
include hty he rep

omit he rep in
theorem places_run : ∀ (fields : List Field) (pl : List (Nat × Nat)), placesOf ty (fields.map fun f => (f.offset, f.type, f.name != "_")) = some pl →
    (fields.mapM fun f => do pure (f.offset, ← sizeOf f.type) : Sem (List (Nat × Nat))).run P w = .ok pl w
  | [], pl, hp => by simp only [List.map_nil, placesOf, Option.some.injEq] at hp; subst hp; simp
  | f :: fields, pl, hp => by
    simp only [List.map_cons, placesOf] at hp
    split at hp
    · rename_i ti ht
      obtain ⟨i, d, s⟩ := hty.get ht
      split at hp
      · rename_i r hr
        simp only [Option.some.injEq] at hp; subst hp
        simp only [List.mapM_cons, Sem.run_bind, s.r_size, Result.andThen_ok, Sem.run_pure, places_run fields r hr]
      · cases hp
    · cases hp

theorem q_build {t : TypeId} {parts : Array (Nat × Operand)} (ho : o.op = .build t parts) (hq : qop ty ρ h (.build t parts) = some v) : QOk P ι h w R o v := by
  simp only [qop] at hq
  split at hq
  · rename_i ti ht
    obtain ⟨i, d, si⟩ := hty.get ht
    split at hq
    · rename_i z ps hz hps
      obtain ⟨zv, z1, z2⟩ := si.r_zero w hz
      have hzr := CVR.cells (cvOf_rel ι z2)
      have hpr := evParts_rel he hps
      split at hq
      · rename_i fs hk
        obtain ⟨a, rfl, ea⟩ := tk_st (si.k ▸ hk)
        split at hq
        · rename_i pl hpl
          split at hq
          · rename_i l hl
            simp only [Option.some.injEq] at hq; subst hq
            obtain ⟨cs', f1, f2⟩ := fill_sound hpr hzr hl
            subst ea
            have hrun := places_run hty (w := w) a.toList pl hpl
            refine .of (V := .agg cs') ?_ ⟨cs', rfl, f2⟩
            have f1' : Instr.fill (pl.toArray[·]?) zv.cells (parts.toList.map fun (i, x) => (i, R x)) = some cs' := by
              rw [← f1]; congr 1; funext k; simp
            simp only [execOp, ho, Instr.build, Sem.run_bind, z1, Result.andThen_ok, si.r_und, Array.mapM_eq_mapM_toList, Sem.run_map, hrun, Array.toList_map]
            rw [f1']
            simp
          · cases hq
        · cases hq
      · rename_i n e hk
        have hd := tk_arr (si.k ▸ hk); subst hd
        split at hq
        · rename_i te hte
          obtain ⟨i', d', se⟩ := hty.get hte
          split at hq
          · rename_i l hl
            simp only [Option.some.injEq] at hq; subst hq
            obtain ⟨cs', f1, f2⟩ := fill_sound hpr hzr hl
            refine .of (V := .agg cs') ?_ ⟨cs', rfl, f2⟩
            simp only [execOp, ho, Instr.build, Sem.run_bind, z1, Result.andThen_ok, si.r_und, se.r_size, Array.toList_map]
            have f1' : Instr.fill (fun i => some (i * te.size, te.size)) zv.cells (parts.toList.map fun (i, x) => (i, R x)) = some cs' := f1
            rw [f1']
            simp
          · cases hq
        · cases hq
      · cases hq
    · cases hq
  · cases hq

theorem q_index {t : TypeId} {x ix : Operand} (ho : o.op = .index t x ix) (hq : qop ty ρ h (.index t x ix) = some v) : QOk P ι h w R o v := by
  simp only [qop] at hq
  split at hq
  · rename_i ti ht
    obtain ⟨i, d, si⟩ := hty.get ht
    split at hq
    · rename_i n hn
      obtain ⟨kk, hix⟩ := evI_rel he hn
      split at hq
      · rename_i m e l hk hx
        have hd := tk_arr (si.k ▸ hk); subst hd
        obtain ⟨a, h1, h2⟩ := evC_rel he hx
        split at hq
        · rename_i te hte
          obtain ⟨i', d', se⟩ := hty.get hte
          split at hq
          · rename_i j hj
            obtain ⟨rfl, hlt⟩ := below_spec hj
            split at hq
            · rename_i r hp
              simp only [Option.some.injEq] at hq; subst hq
              obtain ⟨V, e1, e2⟩ := part_sound hty w h2 hp
              refine .of (V := V) ?_ e2
              have e1' : (part e a (j * te.size)).run P w = .ok V w := e1
              simp [execOp, ho, Instr.index, asIntOf, hix, h1, si.r_und, se.r_size, hlt, e1']
            · cases hq
          · cases hq
        · cases hq
      · rename_i l hk hx
        have hd := tk_str (si.k ▸ hk); subst hd
        obtain ⟨s, h1, h2⟩ := evC_rel he hx
        split at hq
        · rename_i j hj
          obtain ⟨rfl, hlt⟩ := below_spec hj
          split at hq
          · rename_i b hb
            simp only [Option.some.injEq] at hq; subst hq
            have : ∃ u : UInt8, s[j]? = some u ∧ u.toNat = b := by
              have hj' : j < s.size := by rw [str_len h2]; exact hlt
              rw [← h2, List.getElem?_map] at hb
              have hg : s.data.toList[j]? = some s[j] := by
                rw [Array.getElem?_toList, Array.getElem?_eq_getElem (show j < s.data.size from hj')]; rfl
              rw [hg] at hb; simp at hb
              exact ⟨s[j], getElem?_pos s j hj', hb⟩
            obtain ⟨u, g1, g2⟩ := this
            refine .of (V := .int .u8 u.toNat) ?_ (by rw [← g2]; rfl)
            simp [execOp, ho, Instr.index, asIntOf, hix, h1, si.r_und, g1]
          · cases hq
        · cases hq
      · cases hq
    · cases hq
  · cases hq

end
end Go.Proofs.YtmjogmpgamlhaaaGreat.Dm

namespace Go.Proofs.YtmjogmpgamlhaaaGreat.Dm
open Go

theorem bytesOf_spec (r : Row) : ∀ (k o : Nat) (l : List Nat), bytesOf r o k = some l → r.read o k = some (l.map fun a => .i .u8 (.ofNat a)) ∧ (∀ a ∈ l, a < 256) ∧ l.length = k
  | 0, o, l, h => by simp only [bytesOf, Option.some.injEq] at h; subst h; simp [Row.read]
  | k + 1, o, l, h => by
    simp only [bytesOf] at h
    split at h
    · rename_i a ha
      split at h
      · rename_i l' hl
        cases hb : Nat.blt a 256 with
        | false => rw [hb] at h; cases h
        | true =>
          rw [hb] at h; simp only [cnd_true, Option.some.injEq] at h; subst h
          obtain ⟨e1, e2, e3⟩ := bytesOf_spec r k (Nat.succ o) l' hl
          refine ⟨by simp [Row.read, ha, e1], ?_, by simp [e3]⟩
          intro b hb'
          rcases List.mem_cons.1 hb' with rfl | hb'
          · exact Nat.le_of_ble_eq_true hb
          · exact e2 b hb'
      · cases h
    · cases h

theorem Rs.bytes {ι : Io} : ∀ {l : List Nat} {vs : List Value}, Rs ι (l.map fun a => .i .u8 (.ofNat a)) vs → vs = l.map fun (a : Nat) => Value.int .u8 (a : Int)
  | [], [], _ => rfl
  | [], _ :: _, h => h.elim
  | _ :: _, [], h => h.elim
  | a :: l, v :: vs, ⟨h1, h2⟩ => by
    have h1' : v = .int .u8 (a : Int) := h1
    rw [h1', Rs.bytes h2]; rfl

theorem push_bytes (P : Program) (w : World) : ∀ (l : List Nat) (s : ByteArray),
    (forIn (m := Sem) (l.map fun (a : Nat) => Value.int .u8 (a : Int)) s (fun (c : Value) (s : ByteArray) => do
      let .int .u8 n := c | stuck "bytesToString: byte expected"
      pure (ForInStep.yield (s.push (UInt8.ofNat n.toNat))))).run P w = .ok ⟨s.data ++ (l.map UInt8.ofNat).toArray⟩ w
  | [], s => by simp
  | a :: l, s => by
    rw [List.map_cons, List.forIn_cons, Sem.run_bind]
    simp only [Sem.run_pure, Result.andThen_ok]
    rw [push_bytes P w l (s.push (UInt8.ofNat (a : Int).toNat))]
    simp [ByteArray.push]

theorem bytesToString_run {P : Program} {w : World} {a : Addr} {n c : Nat} {vs : Array Value} {l : List Nat} (h : (loadCells a n).run P w = .ok vs w)
    (hv : vs.toList = l.map fun (a : Nat) => Value.int .u8 (a : Int)) : (Conv.bytesToString (.slice (some a) n c)).run P w = .ok (.string ⟨(l.map UInt8.ofNat).toArray⟩) w := by
  have key := push_bytes P w l .empty
  rw [← hv, Array.forIn_toList] at key
  unfold Conv.bytesToString
  simp only [Sem.run_bind, h, Result.andThen_ok]
  erw [key]
  have e : ByteArray.empty.data = #[] := rfl
  simp [e]

theorem upto_run {x : Operand} {R : Operand → Value} {k : IntKind} {j n : Nat} (hx : R x = .int k (j : Int)) (hj : j ≤ n) (c : BoundsCode) (P : Program) (w : World) :
    (Instr.sliceBound (R x) n c).run P w = .ok j w := by
  simp [Instr.sliceBound, hx, asIntOf, hj]

theorem bound_of {ι : Io} {ρ : Env} {R : Operand → Value} (he : ER ι ρ R) {y : Operand} {n j : Nat} (h : ((evI ρ y).bind fun i => upto i n) = some j) : ∃ k, R y = .int k (j : Int) ∧ j ≤ n := by
  obtain ⟨i, h1, h2⟩ := Option.bind_eq_some_iff.1 h
  obtain ⟨k, h3⟩ := evI_rel he h1
  obtain ⟨rfl, h4⟩ := upto_spec h2
  exact ⟨k, h3, h4⟩

section
variable {P : Program} {ty : Ty} (hty : TyOk P ty) {ι : Io} {ρ : Env} {R : Operand → Value} (he : ER ι ρ R) {w : World} {h : Heap} (rep : Rep ι w h) {o : Oper} {v : AV}
include hty he rep

theorem q_convert {src dst : TypeId} {x : Operand} (ho : o.op = .convert src dst x) (hq : qop ty ρ h (.convert src dst x) = some v) : QOk P ι h w R o v := by
  simp only [qop] at hq
  split at hq
  · rename_i ts hts
    obtain ⟨i1, d1, s1⟩ := hty.get hts
    split at hq
    · rename_i td htd
      obtain ⟨i2, d2, s2⟩ := hty.get htd
      split at hq
      · -- whole number to whole number
        rename_i k k' n hk hx
        have hd := tk_int (s2.k ▸ hk); subst hd
        simp only [Option.some.injEq] at hq; subst hq
        have hr : R x = .int k' n := evS_rel he hx
        refine .of (V := .int k (k.wrap n)) ?_ (by rw [wr_eq]; rfl)
        simp [execOp, ho, convert, s1.r_und, s2.r_und, hr, Conv.intToInt]
      · rename_i k k' hk hx
        have hd := tk_int (s2.k ▸ hk); subst hd
        simp only [Option.some.injEq] at hq; subst hq
        obtain ⟨n, hr⟩ : ∃ n : Int, R x = .int k' n := evS_rel he hx
        refine .of (V := .int k (k.wrap n)) ?_ ⟨_, rfl⟩
        simp [execOp, ho, convert, s1.r_und, s2.r_und, hr, Conv.intToInt]
      · rename_i k' id ops lo hi m r hk hx
        have hd := tk_int (s2.k ▸ hk); subst hd
        cases hb : Nat.blt hi big with
        | false => rw [hb] at hq; cases hq
        | true =>
          rw [hb] at hq; simp only [cnd_true, Option.some.injEq] at hq; subst hq
          obtain ⟨c, a, hc, hr, h1, h2, h3⟩ := (show VR ι (.rg k' id ops lo hi m r) (R x) from evS_rel he hx)
          have hbig : hi < big := Nat.le_of_ble_eq_true hb
          refine .of (V := .int .i64 (evalO ops a : Nat)) ?_ ⟨c, a, hc, rfl, h1, h2, h3⟩
          simp [execOp, ho, convert, s1.r_und, s2.r_und, hr, Conv.intToInt]
          exact wrapS (k := .i64) rfl (by omega)
      · rename_i k' id ops lo hi m r hk hx
        have hd := tk_int (s2.k ▸ hk); subst hd
        cases hb : Nat.blt hi big with
        | false => rw [hb] at hq; cases hq
        | true =>
          rw [hb] at hq; simp only [cnd_true, Option.some.injEq] at hq; subst hq
          obtain ⟨c, a, hc, hr, h1, h2, h3⟩ := (show VR ι (.rg k' id ops lo hi m r) (R x) from evS_rel he hx)
          have hbig : hi < big := Nat.le_of_ble_eq_true hb
          refine .of (V := .int .u64 (evalO ops a : Nat)) ?_ ⟨c, a, hc, rfl, h1, h2, h3⟩
          simp [execOp, ho, convert, s1.r_und, s2.r_und, hr, Conv.intToInt]
          exact wrapS (k := .u64) rfl (by omega)
      · rename_i k' n hk hx
        have hd := tk_f64 (s2.k ▸ hk); subst hd
        simp only [Option.some.injEq] at hq; subst hq
        have hr : R x = .int k' n := evS_rel he hx
        refine .of (V := .float .f64 (FloatKind.f64.nearest n)) ?_ rfl
        simp [execOp, ho, convert, s1.r_und, s2.r_und, hr, Conv.intToFloat]
      · rename_i k b hk hx
        have hd := tk_int (s2.k ▸ hk); subst hd
        have hr : R x = .float .f64 b := evS_rel he hx
        split at hq
        · rename_i n hn
          cases hb : (ile k.min n && ile n k.max) with
          | false => rw [hb] at hq; cases hq
          | true =>
            rw [hb] at hq; simp only [cnd_true, Option.some.injEq] at hq; subst hq
            rw [Bool.and_eq_true, ile_eq, ile_eq, decide_eq_true_iff, decide_eq_true_iff] at hb
            refine .of (V := .int k n) ?_ rfl
            simp [execOp, ho, convert, s1.r_und, s2.r_und, hr, Conv.floatToInt, hn, hb.1, hb.2]
        · cases hq
      · rename_i l hk hx
        have hd := tk_str (s2.k ▸ hk); subst hd
        simp only [Option.some.injEq] at hq; subst hq
        obtain ⟨s, h1, h2⟩ := evS_rel he hx
        refine .of (V := .string s) ?_ ⟨s, rfl, h2⟩
        simp [execOp, ho, convert, s1.r_und, s2.r_und, h1]
      · rename_i hk hx
        have hd := tk_str (s2.k ▸ hk); subst hd
        have hr : R x = .slice none 0 0 := evS_rel he hx
        split at hq
        · rename_i e hke
          have hd := tk_sl (s1.k ▸ hke); subst hd
          split at hq
          · rename_i te hte
            obtain ⟨i3, d3, s3⟩ := hty.get hte
            split at hq
            · rename_i hk3
              have hd := tk_int (s3.k ▸ hk3); subst hd
              simp only [Option.some.injEq] at hq; subst hq
              refine .of (V := .string .empty) ?_ ⟨.empty, rfl, rfl⟩
              simp [execOp, ho, convert, s1.r_und, s2.r_und, s3.r_und, hr, Conv.bytesToString]
            · cases hq
          · cases hq
        · cases hq
      · rename_i b off len cap z ex hk hx
        have hd := tk_str (s2.k ▸ hk); subst hd
        obtain ⟨cb, N, o', cc, h1, h2, h3⟩ := evS_rel he hx
        split at hq
        · rename_i e hke
          have hd := tk_sl (s1.k ▸ hke); subst hd
          split at hq
          · rename_i te hte
            obtain ⟨i3, d3, s3⟩ := hty.get hte
            split at hq
            · rename_i hk3
              have hd := tk_int (s3.k ▸ hk3); subst hd
              split at hq
              · rename_i r ro hb
                split at hq
                · rename_i l hl
                  simp only [Option.some.injEq] at hq; subst hq
                  obtain ⟨e1, e2, e3⟩ := bytesOf_spec r len off l hl
                  have hrd : ∃ vs : Array Value, (loadCells ⟨cb, o', none⟩ len).run P w = .ok vs w ∧ vs.toList = l.map fun (a : Nat) => Value.int .u8 (a : Int) := by
                    by_cases hz : len = 0
                    · subst hz
                      have : l = [] := List.eq_nil_of_length_eq_zero e3
                      subst this
                      exact ⟨#[], by simp [loadCells, loadCellsFrom], rfl⟩
                    · have hoff : o' = off := by
                        obtain ⟨k1, k2, k3⟩ := h3
                        cases ex with
                        | true => exact (k2 rfl).1
                        | false => exact ((k3 rfl).2.1).resolve_left (by omega)
                      subst hoff
                      obtain ⟨vs, f1, f2⟩ := read_of (P := P) rep hb h1 e1
                      exact ⟨vs, f1, Rs.bytes f2⟩
                  obtain ⟨vs, f1, f2⟩ := hrd
                  have := bytesToString_run (c := cc) f1 f2
                  refine .of (V := .string ⟨(l.map UInt8.ofNat).toArray⟩) ?_ ⟨_, rfl, ?_⟩
                  · simp [execOp, ho, convert, s1.r_und, s2.r_und, s3.r_und, h2, this]
                  · simp only [List.map_map]
                    apply List.ext_getElem (by simp)
                    intro n hn hn'
                    have := e2 l[n] (List.getElem_mem _)
                    simp; omega
                · cases hq
              · cases hq
            · cases hq
          · cases hq
        · cases hq
      · cases hq
    · cases hq
  · cases hq

end
end Go.Proofs.YtmjogmpgamlhaaaGreat.Dm
