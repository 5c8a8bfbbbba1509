/- The quiet operations, one by one (first part). -/
import Derived.Test.YtndbccpaccflcaaGreatDmQuiet
set_option linter.unusedVariables false
set_option linter.unusedSimpArgs false
set_option linter.unusedSectionVars false
namespace Go.Proofs.YtndbccpaccflcaaGreat.Dm
open Go

structure Still (ι : Io) (h : Heap) (w w' : World) : Prop where
  size : w'.heap.size = w.heap.size
  tape : w'.tape = w.tape
  os : w'.os = w.os
  output : w'.output = w.output
  frame : ∀ c, (∀ b o N, h.get b = some o → ι b ≠ some (c, N)) → w'.heap[c]? = w.heap[c]?
  rep : ∀ ι' h', Rep ι' w h' → Rep ι' w' h'

theorem Still.refl (ι : Io) (h : Heap) (w : World) : Still ι h w w := ⟨rfl, rfl, rfl, rfl, fun _ _ => rfl, fun _ _ r => r⟩

theorem Still.post {ι : Io} {h : Heap} {w w' : World} (s : Still ι h w w') (r : Rep ι w h) : Post ι h h w w' ι :=
  ⟨s.rep ι h r, fun _ _ => rfl, Nat.le_refl _, fun c _ hn => s.frame c hn, by rw [s.size]; exact Nat.le_refl _, fun b o c N h k => .inl ⟨b, o, N, h, k⟩, s.tape, s.os, s.output⟩

/-- What a quiet operation does in the model. -/
noncomputable def QOk (P : Program) (ι : Io) (h : Heap) (w : World) (R : Operand → Value) (o : Oper) (v : AV) : Prop :=
  ∃ V w', (execOp R o).run P w = .ok (.value V) w' ∧ AVR ι v V ∧ Still ι h w w'

theorem QOk.of {P : Program} {ι : Io} {h : Heap} {w : World} {R : Operand → Value} {o : Oper} {v : AV} {V : Value}
    (h1 : (execOp R o).run P w = .ok (.value V) w) (h2 : AVR ι v V) : QOk P ι h w R o v := ⟨V, w, h1, h2, Still.refl _ _ _⟩

section
variable {P : Program} {ty : Ty} (hty : TyOk P ty) {ι : Io} {ρ : Env} {R : Operand → Value} (he : ER ι ρ R) {w : World} {h : Heap} (rep : Rep ι w h) {o : Oper} {v : AV}
include hty he rep

theorem q_move {x : Operand} (ho : o.op = .move x) (hq : qop ty ρ h (.move x) = some v) : QOk P ι h w R o v :=
  .of (V := R x) (by simp [execOp, ho]) (he x v hq)
theorem q_assign {x : Operand} (ho : o.op = .assign x) (hq : qop ty ρ h (.assign x) = some v) : QOk P ι h w R o v :=
  .of (V := R x) (by simp [execOp, ho]) (he x v hq)
theorem q_pick {c a b : Operand} (ho : o.op = .pick c a b) (hq : qop ty ρ h (.pick c a b) = some v) : QOk P ι h w R o v := by
  simp only [qop] at hq
  split at hq
  · rename_i x hx
    have hc : R c = .bool x := evS_rel he hx
    cases x with
    | true => exact .of (V := R a) (by simp [execOp, ho, hc, asBool]) (he a v hq)
    | false => exact .of (V := R b) (by simp [execOp, ho, hc, asBool]) (he b v hq)
  · cases hq
theorem q_nilCheck {x : Operand} (ho : o.op = .nilCheck x) (hq : qop ty ρ h (.nilCheck x) = some v) : QOk P ι h w R o v := by
  simp only [qop] at hq
  split at hq
  · rename_i b off hx
    simp only [Option.some.injEq] at hq; subst hq
    have hr := evS_rel he hx
    obtain ⟨cb, N, h1, h2⟩ := hr
    exact .of (V := R x) (by simp only [execOp, ho, h2, Sem.run_pure]) ⟨cb, N, h1, h2⟩
  · rename_i f l c hx
    simp only [Option.some.injEq] at hq; subst hq
    have hr := evS_rel he hx
    obtain ⟨vl, vc, h1, h2⟩ := hr
    exact .of (V := R x) (by simp only [execOp, ho, h1, Sem.run_pure]) ⟨vl, vc, h1, h2⟩
  · cases hq
theorem q_bin {op : BinOp} {t yt : TypeId} {x y : Operand} (ho : o.op = .binOp op t x y yt) (hq : qop ty ρ h (.binOp op t x y yt) = some v) : QOk P ι h w R o v := by
  simp only [qop] at hq
  cases h1 : evC ρ x with
  | none => rw [h1] at hq; cases hq
  | some a =>
    rw [h1] at hq; simp only [] at hq
    cases h2 : evC ρ y with
    | none => rw [h2] at hq; cases hq
    | some b =>
      rw [h2] at hq; simp only [] at hq
      cases h3 : binA ty op t a b with
      | none => rw [h3] at hq; cases hq
      | some r =>
        rw [h3] at hq; simp only [Option.some.injEq] at hq; subst hq
        obtain ⟨Z, e1, e2⟩ := binA_sound hty w (evC_rel he h1) (evC_rel he h2) h3 x y
        exact .of (V := Z) (by simp only [execOp, ho, Sem.run_bind] at e1 ⊢; rw [e1]; simp) e2
theorem q_un {op : UnOp} {t : TypeId} {x : Operand} (ho : o.op = .unOp op t x) (hq : qop ty ρ h (.unOp op t x) = some v) : QOk P ι h w R o v := by
  simp only [qop] at hq
  cases h1 : evS ρ x with
  | none => rw [h1] at hq; cases hq
  | some a =>
    rw [h1] at hq; simp only [] at hq
    cases h3 : unA op a with
    | none => rw [h3] at hq; cases hq
    | some r =>
      rw [h3] at hq; simp only [Option.some.injEq] at hq; subst hq
      obtain ⟨Z, e1, e2⟩ := unA_sound (P := P) w (evS_rel he h1) h3
      exact .of (V := Z) (by simp only [execOp, ho, Sem.run_bind]; rw [e1]; simp) e2
theorem q_fieldAddr {s : TypeId} {x : Operand} {f : Nat} (ho : o.op = .fieldAddr s x f) (hq : qop ty ρ h (.fieldAddr s x f) = some v) : QOk P ι h w R o v := by
  simp only [qop] at hq
  split at hq
  · rename_i ti ht
    obtain ⟨i, d, si⟩ := hty.get ht
    split at hq
    · rename_i fs hk
      obtain ⟨a, rfl, ea⟩ := tk_st (si.k ▸ hk)
      split at hq
      · rename_i off t' nm hf
        obtain ⟨fl, g1, g2, g3⟩ := field_at ea hf
        split at hq
        · rename_i tf htf
          obtain ⟨i', d', sf⟩ := hty.get htf
          cases hz : Nat.beq tf.size 0 with
          | true => rw [hz] at hq; cases hq
          | false =>
            rw [hz] at hq; simp only [cnd_false] at hq
            have hz' : tf.size ≠ 0 := Nat.ne_of_beq_eq_false hz
            split at hq
            · rename_i b off' hx
              simp only [Option.some.injEq] at hq; subst hq
              obtain ⟨cb, N, h1, h2⟩ := evS_rel he hx
              refine .of (V := .pointer (some ⟨cb, off' + off, none⟩)) ?_ ⟨cb, N, h1, rfl⟩
              subst g3
              simp [execOp, ho, Instr.fieldAt, si.r_und, g1, Instr.sureAddr, h2, fieldPlace, sf.r_size, hz', Addr_add, g2]
            · cases hq
        · cases hq
      · cases hq
    · cases hq
  · cases hq

theorem q_field {t : TypeId} {x : Operand} {f : Nat} (ho : o.op = .field t x f) (hq : qop ty ρ h (.field t x f) = some v) : QOk P ι h w R o v := by
  simp only [qop] at hq
  split at hq
  · rename_i ti ht
    obtain ⟨i, d, si⟩ := hty.get ht
    split at hq
    · rename_i fs hk
      obtain ⟨a, rfl, ea⟩ := tk_st (si.k ▸ hk)
      split at hq
      · rename_i off t' nm hf
        obtain ⟨fl, g1, g2, g3⟩ := field_at ea hf
        split at hq
        · rename_i l hx
          obtain ⟨c, h1, h2⟩ := evC_rel he hx
          split at hq
          · rename_i r hp
            simp only [Option.some.injEq] at hq; subst hq
            obtain ⟨V, e1, e2⟩ := part_sound hty w h2 hp
            refine .of (V := V) ?_ e2
            subst g2; subst g3
            simp [execOp, ho, Instr.field, si.r_und, g1, h1, asAgg, e1]
          · cases hq
        · cases hq
      · cases hq
    · cases hq
  · cases hq

theorem q_extract {x : Operand} {k : Nat} (ho : o.op = .extract x k) (hq : qop ty ρ h (.extract x k) = some v) : QOk P ι h w R o v := by
  simp only [qop] at hq
  split at hq
  · rename_i l hx
    obtain ⟨a, h1, h2⟩ := he x _ hx
    split at hq
    · rename_i c hc
      simp only [Option.some.injEq] at hq; subst hq
      obtain ⟨V, e1, e2⟩ := h2.get hc
      have e1' : a[k]? = some V := by rw [← Array.getElem?_toList]; exact e1
      exact .of (V := V) (by simp [execOp, ho, Instr.extract, h1, e1']) e2
    · cases hq
  · cases hq

theorem q_load {t : TypeId} {x : Operand} (ho : o.op = .load t x) (hq : qop ty ρ h (.load t x) = some v) : QOk P ι h w R o v := by
  simp only [qop] at hq
  split at hq
  · rename_i ti ht
    split at hq
    · rename_i b off hx
      obtain ⟨cb, N, h1, h2⟩ := evS_rel he hx
      split at hq
      · rename_i r hl
        simp only [Option.some.injEq] at hq; subst hq
        obtain ⟨V, e1, e2⟩ := load_of hty rep ht hl h1
        exact .of (V := V) (by simp [execOp, ho, Instr.loadAt, Instr.sureAddr, h2, e1]) e2
      · cases hq
    · cases hq
  · cases hq

theorem q_makeFunc {fn : Fn} {first captured : Array Operand} (ho : o.op = .makeFunc fn first captured) (hq : qop ty ρ h (.makeFunc fn first captured) = some v) : QOk P ι h w R o v := by
  simp only [qop] at hq
  split at hq
  · rename_i f
    split at hq
    · rename_i l hl
      split at hq
      · rename_i c hc
        simp only [Option.some.injEq] at hq; subst hq
        exact .of (V := .func (.func f) (first.map R) (captured.map R)) (by simp [execOp, ho, Instr.makeFunc])
          ⟨_, _, rfl, by rw [Array.toList_map]; exact evPtrs_rel he hl, by rw [Array.toList_map]; exact evPtrs_rel he hc⟩
      · cases hq
    · cases hq
  · cases hq

theorem q_indexAddr {t : TypeId} {x ix : Operand} (ho : o.op = .indexAddr t x ix) (hq : qop ty ρ h (.indexAddr t x ix) = some v) : QOk P ι h w R o v := by
  simp only [qop] at hq
  split at hq
  · rename_i ti ht
    obtain ⟨i, d, si⟩ := hty.get ht
    split at hq
    · rename_i n hn
      obtain ⟨kk, hix⟩ := evI_rel he hn
      split at hq
      · rename_i e b off len cap z ex hk hx
        have hd := tk_sl (si.k ▸ hk); subst hd
        obtain ⟨cb, N, o', cc, h1, h2, h3⟩ := evS_rel he hx
        split at hq
        · rename_i te hte
          obtain ⟨i', d', se⟩ := hty.get hte
          split at hq
          · rename_i j hj
            obtain ⟨rfl, hlt⟩ := below_spec hj
            cases hz : Nat.beq z te.size with
            | false => rw [hz] at hq; cases hq
            | true =>
              rw [hz] at hq; simp only [cnd_true, Option.some.injEq] at hq; subst hq
              have hz' : z = te.size := Nat.eq_of_beq_eq_true hz
              obtain ⟨k1, k2, k3⟩ := h3
              have hoff : o' = off := by
                cases ex with
                | true => exact (k2 rfl).1
                | false => exact ((k3 rfl).2.1).resolve_left (by omega)
              subst hoff
              refine .of (V := .pointer (some ⟨cb, o' + j * te.size, none⟩)) ?_ ⟨cb, N, h1, by rw [hz']; rfl⟩
              simp [execOp, ho, Instr.indexAt, asIntOf, hix, h2, si.r_und, se.r_size, Addr_add, hlt]
          · cases hq
        · cases hq
      · rename_i m e b off hk hx
        have hd := tk_arr (si.k ▸ hk); subst hd
        obtain ⟨cb, N, h1, h2⟩ := evS_rel he hx
        split at hq
        · rename_i te hte
          obtain ⟨i', d', se⟩ := hty.get hte
          split at hq
          · rename_i j hj
            obtain ⟨rfl, hlt⟩ := below_spec hj
            simp only [Option.some.injEq] at hq; subst hq
            refine .of (V := .pointer (some ⟨cb, off + j * te.size, none⟩)) ?_ ⟨cb, N, h1, rfl⟩
            simp [execOp, ho, Instr.indexAt, asIntOf, hix, h2, si.r_und, Instr.sureAddr, se.r_size, Addr_add, hlt]
          · cases hq
        · cases hq
      · cases hq
    · cases hq
  · cases hq

end
end Go.Proofs.YtndbccpaccflcaaGreat.Dm
