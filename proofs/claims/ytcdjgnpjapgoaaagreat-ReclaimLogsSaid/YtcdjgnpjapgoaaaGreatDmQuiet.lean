/- Operations that make nothing and change nothing: the model's answers are the abstract ones. -/
import Derived.Test.YtcdjgnpjapgoaaaGreatDmEq
set_option linter.unusedVariables false
set_option linter.unusedSimpArgs false
set_option linter.unusedSectionVars false
namespace Go.Proofs.YtcdjgnpjapgoaaaGreat.Dm
open Go

noncomputable def ER (ι : Io) (ρ : Env) (R : Operand → Value) : Prop := ∀ x v, ρ x = some v → AVR ι v (R x)

section
variable {ι : Io} {ρ : Env} {R : Operand → Value} (he : ER ι ρ R)
include he

theorem evC_rel {x : Operand} {v : CV} (h : evC ρ x = some v) : CVR ι v (R x) := by
  unfold evC at h
  split at h
  · rename_i v' e; simp only [Option.some.injEq] at h; subst h; exact he x _ e
  · cases h
theorem evS_rel {x : Operand} {v : SV} (h : evS ρ x = some v) : VR ι v (R x) := by
  unfold evS at h
  split at h
  · rename_i v' e; simp only [Option.some.injEq] at h; subst h; exact he x _ e
  · cases h
theorem evI_rel {x : Operand} {n : Int} (h : evI ρ x = some n) : ∃ k, R x = .int k n := by
  unfold evI at h
  split at h
  · rename_i k v' e; simp only [Option.some.injEq] at h; subst h; exact ⟨k, he x _ e⟩
  · cases h
theorem evList_rel : ∀ {xs : List Operand} {l : List AV}, evList ρ xs = some l → ARs ι l (xs.map R)
  | [], l, h => by simp only [evList, Option.some.injEq] at h; subst h; exact trivial
  | x :: xs, l, h => by
    simp only [evList] at h
    cases h1 : ρ x with
    | none => rw [h1] at h; cases h
    | some v =>
      rw [h1] at h; simp only [] at h
      cases h2 : evList ρ xs with
      | none => rw [h2] at h; cases h
      | some r =>
        rw [h2] at h; simp only [Option.some.injEq] at h; subst h
        exact ⟨he x v h1, evList_rel h2⟩
theorem evPtrs_rel : ∀ {xs : List Operand} {l : List (Nat × Nat)}, evPtrs ρ xs = some l → PRs ι l (xs.map R)
  | [], l, h => by simp only [evPtrs, Option.some.injEq] at h; subst h; exact trivial
  | x :: xs, l, h => by
    simp only [evPtrs] at h
    split at h
    · rename_i b o h1
      cases h2 : evPtrs ρ xs with
      | none => rw [h2] at h; cases h
      | some r =>
        rw [h2] at h; simp only [Option.some.injEq] at h; subst h
        exact ⟨evS_rel he h1, evPtrs_rel h2⟩
    · cases h
end

noncomputable def PtR (ι : Io) : List (Nat × CV) → List (Nat × Value) → Prop
  | [], [] => True
  | (i, x) :: l, (j, v) :: r => (i = j ∧ CVR ι x v) ∧ PtR ι l r
  | _, _ => False

theorem evParts_rel {ι : Io} {ρ : Env} {R : Operand → Value} (he : ER ι ρ R) : ∀ {xs : List (Nat × Operand)} {l : List (Nat × CV)},
    evParts ρ xs = some l → PtR ι l (xs.map fun (i, x) => (i, R x))
  | [], l, h => by simp only [evParts, Option.some.injEq] at h; subst h; exact trivial
  | (i, x) :: xs, l, h => by
    simp only [evParts] at h
    cases h1 : evC ρ x with
    | none => rw [h1] at h; cases h
    | some v =>
      rw [h1] at h; simp only [] at h
      cases h2 : evParts ρ xs with
      | none => rw [h2] at h; cases h
      | some r =>
        rw [h2] at h; simp only [Option.some.injEq] at h; subst h
        exact ⟨⟨rfl, evC_rel he h1⟩, evParts_rel he h2⟩

theorem below_spec {i : Int} {n j : Nat} (h : below i n = some j) : i = (j : Int) ∧ j < n := by
  cases i with
  | negSucc a => simp [below] at h
  | ofNat a =>
    simp only [below] at h
    cases hb : Nat.blt a n with
    | false => rw [hb] at h; cases h
    | true => rw [hb] at h; simp only [cnd_true, Option.some.injEq] at h; subst h; exact ⟨rfl, Nat.le_of_ble_eq_true hb⟩
theorem upto_spec {i : Int} {n j : Nat} (h : upto i n = some j) : i = (j : Int) ∧ j ≤ n := by
  cases i with
  | negSucc a => simp [upto] at h
  | ofNat a =>
    simp only [upto] at h
    cases hb : Nat.ble a n with
    | false => rw [hb] at h; cases h
    | true => rw [hb] at h; simp only [cnd_true, Option.some.injEq] at h; subst h; exact ⟨rfl, Nat.le_of_ble_eq_true hb⟩

theorem Addr_add (c o n : Nat) : (Addr.add ⟨c, o, none⟩ n) = ⟨c, o + n, none⟩ := by
  unfold Addr.add
  by_cases h : n = 0
  · subst h; simp
  · rw [if_neg h]

theorem field_at {fs : List (Nat × TypeId × Bool)} {a : Array Field} {f off : Nat} {t' : TypeId} {nm : Bool} (he : fs = a.toList.map fun f => (f.offset, f.type, f.name != "_"))
    (hf : fs[f]? = some (off, t', nm)) : ∃ fl : Field, a[f]? = some fl ∧ fl.offset = off ∧ fl.type = t' := by
  subst he
  rw [List.getElem?_map] at hf
  cases hg : a.toList[f]? with
  | none => rw [hg] at hf; cases hf
  | some fl => rw [hg] at hf; simp only [Option.map_some, Option.some.injEq, Prod.mk.injEq] at hf; exact ⟨fl, by simpa using hg, hf.1, hf.2.1⟩

/-! ### cells -/

theorem cell_of {ι : Io} {w : World} {h : Heap} (rep : Rep ι w h) {b : Nat} {r : Row} {ro : Bool} (hb : h.get b = some (.cells r ro)) {i : Nat} {v : SV} (hv : r.get i = some v) :
    ∃ cb N V, ι b = some (cb, N) ∧ w.cell? ⟨cb, i, none⟩ = some V ∧ VR ι v V := by
  obtain ⟨cb, N, h1, cs, el, fr, h2, h3, h4, h5, h6⟩ := rep.obj b _ hb
  obtain ⟨V, e1, e2⟩ := h5 i v hv
  exact ⟨cb, N, V, h1, by simp only [World.cell?, h2]; simpa using e1, e2⟩

theorem loadCells_from {P : Program} {w : World} {a : Addr} : ∀ (l : List Value) (i : Nat) (acc : Array Value), (∀ j v, l[j]? = some v → w.cell? (a.add (i + j)) = some v) →
    (loadCellsFrom a i l.length acc).run P w = .ok (acc ++ l.toArray) w
  | [], i, acc, _ => by simp [loadCellsFrom]
  | v :: l, i, acc, h => by
    have h0 := h 0 v (by simp)
    simp only [Nat.add_zero] at h0
    have ih := loadCells_from (P := P) (w := w) (a := a) l (i + 1) (acc.push v) (fun j u hj => by have := h (j + 1) u (by simpa using hj); rw [show i + 1 + j = i + (j + 1) by omega]; exact this)
    simp only [List.length_cons, loadCellsFrom, Sem.run_bind, run_load, h0, Result.andThen_ok, ih]
    simp

/-- A piece of a row, as the model reads it. -/
theorem read_of {P : Program} {ι : Io} {w : World} {h : Heap} (rep : Rep ι w h) {b : Nat} {r : Row} {ro : Bool} (hb : h.get b = some (.cells r ro)) {cb N : Nat} (hi : ι b = some (cb, N)) {o k : Nat} {l : List SV} (hl : r.read o k = some l) :
    ∃ vs : Array Value, (loadCells ⟨cb, o, none⟩ k).run P w = .ok vs w ∧ Rs ι l vs.toList := by
  obtain ⟨e1, e2⟩ := Row.read_spec r k o l hl
  have : ∃ vs : List Value, Rs ι l vs ∧ ∀ j v, vs[j]? = some v → w.cell? (Addr.add ⟨cb, o, none⟩ (0 + j)) = some v := by
    have gen : ∀ (l : List SV) (o : Nat), (∀ i x, l[i]? = some x → r.get (o + i) = some x) → ∃ vs : List Value, Rs ι l vs ∧ ∀ j v, vs[j]? = some v → w.cell? (Addr.add ⟨cb, o, none⟩ (0 + j)) = some v := by
      intro l
      induction l with
      | nil => intro o _; exact ⟨[], trivial, by simp⟩
      | cons x l ih =>
        intro o hx
        obtain ⟨vs, a, c⟩ := ih (o + 1) (fun i y hy => by have := hx (i + 1) y (by simpa using hy); rw [show o + 1 + i = o + (i + 1) by omega]; exact this)
        obtain ⟨cb', N', V, f1, f2, f3⟩ := cell_of rep hb (hx 0 x (by simp))
        rw [hi] at f1
        simp only [Option.some.injEq, Prod.mk.injEq] at f1
        obtain ⟨rfl, rfl⟩ := f1
        refine ⟨V :: vs, ⟨f3, a⟩, fun j v hj => ?_⟩
        cases j with
        | zero => simp at hj; subst hj; rw [Addr_add]; simpa using f2
        | succ j =>
          have := c j v (by simpa using hj)
          rw [Addr_add] at this ⊢
          rw [show o + (0 + (j + 1)) = o + 1 + (0 + j) by omega]; exact this
    refine gen l o fun i x hx => ?_
    have hlt : i < l.length := by
      rcases Nat.lt_or_ge i l.length with h | h
      · exact h
      · rw [List.getElem?_eq_none h] at hx; cases hx
    rw [e2 i (by omega)]; exact hx
  obtain ⟨vs, f1, f2⟩ := this
  refine ⟨vs.toArray, ?_, by simpa using f1⟩
  have hlen : vs.length = k := by rw [← f1.length, e1]
  have := loadCells_from (P := P) (w := w) (a := ⟨cb, o, none⟩) vs 0 #[] f2
  rw [hlen] at this
  unfold loadCells
  rw [this]; simp

theorem load_of {P : Program} {ty : Ty} (hty : TyOk P ty) {ι : Io} {w : World} {h : Heap} (rep : Rep ι w h) {t : TypeId} {ti : TI} (ht : ty t = some ti) {b o : Nat} {v : CV}
    (hl : loadA ti h b o = some v) {cb N : Nat} (hi : ι b = some (cb, N)) : ∃ V, (loadVar t ⟨cb, o, none⟩).run P w = .ok V w ∧ CVR ι v V := by
  obtain ⟨i, d, s⟩ := hty.get ht
  unfold loadA at hl
  split at hl
  · rename_i r ro hb
    cases ha : aggOf ti.k with
    | true =>
      rw [ha] at hl; simp only [cnd_true] at hl
      cases h1 : r.read o ti.size with
      | none => rw [h1] at hl; cases hl
      | some l =>
        rw [h1] at hl; simp only [Option.some.injEq] at hl; subst hl
        obtain ⟨vs, e1, e2⟩ := read_of (P := P) rep hb hi h1
        exact ⟨.agg vs, by simp [loadVar, s.r_agg, s.r_size, ha, e1], vs, rfl, e2⟩
    | false =>
      rw [ha] at hl; simp only [cnd_false] at hl
      cases h1 : r.get o with
      | none => rw [h1] at hl; cases hl
      | some x =>
        rw [h1] at hl; simp only [Option.some.injEq] at hl; subst hl
        obtain ⟨cb', N', V, f1, f2, f3⟩ := cell_of rep hb h1
        rw [hi] at f1
        simp only [Option.some.injEq, Prod.mk.injEq] at f1
        obtain ⟨rfl, rfl⟩ := f1
        exact ⟨V, by simp [loadVar, s.r_agg, ha, f2], f3⟩
  · cases hl

end Go.Proofs.YtcdjgnpjapgoaaaGreat.Dm
