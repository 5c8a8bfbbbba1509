/- The quiet operations, one by one (fourth part): pieces. -/
import Derived.Test.YtafkkicnfngpoaaGreatDmQ1
set_option linter.unusedVariables false
set_option linter.unusedSimpArgs false
set_option linter.unusedSectionVars false
namespace Go.Proofs.YtafkkicnfngpoaaGreat.Dm
open Go

theorem low_of {ι : Io} {ρ : Env} {R : Operand → Value} (he : ER ι ρ R) {lo : Option Operand} {n j : Nat}
    (h : (match lo with | none => some 0 | some y => (evI ρ y).bind fun i => upto i n) = some j) (c : BoundsCode) (P : Program) (w : World) :
    ((match lo.map R with | some v => Instr.sliceBound v n c | none => pure 0 : Sem Nat)).run P w = .ok j w ∧ j ≤ n := by
  cases lo with
  | none => simp only [Option.some.injEq] at h; subst h; simp
  | some y =>
    obtain ⟨k, h1, h2⟩ := bound_of he h
    exact ⟨by simp only [Option.map_some]; exact upto_run h1 h2 c P w, h2⟩

theorem high_of {ι : Io} {ρ : Env} {R : Operand → Value} (he : ER ι ρ R) {hi : Option Operand} {n m M j : Nat} (hM : m ≤ M) (hn : n ≤ m ∨ True)
    (h : (match hi with | none => some n | some y => (evI ρ y).bind fun i => upto i m) = some j) (c : BoundsCode) (P : Program) (w : World) :
    ((match hi.map R with | some v => Instr.sliceBound v M c | none => pure n : Sem Nat)).run P w = .ok j w ∧ (j ≤ m ∨ j = n) := by
  cases hi with
  | none => simp only [Option.some.injEq] at h; subst h; simp
  | some y =>
    obtain ⟨k, h1, h2⟩ := bound_of he h
    exact ⟨by simp only [Option.map_some]; exact upto_run h1 (by omega) c P w, .inl h2⟩

theorem bounds_run {P : Program} {w : World} {b : Bool} {len cap l h : Nat} {low high : Option Value}
    (h1 : ((match high with | some v => Instr.sliceBound v cap (if b then .sliceAcap else .sliceAlen) | none => pure len : Sem Nat)).run P w = .ok h w)
    (h2 : ((match low with | some v => Instr.sliceBound v h .sliceB | none => pure 0 : Sem Nat)).run P w = .ok l w) :
    (Instr.sliceBounds b len cap low high none).run P w = .ok (l, h, cap) w := by
  unfold Instr.sliceBounds
  cases high <;> cases low <;> simp_all

theorem bounds_run3 {P : Program} {w : World} {b : Bool} {len cap l h m : Nat} {low : Option Value} {high max : Value}
    (h0 : (Instr.sliceBound max cap (if b then .slice3Acap else .slice3Alen)).run P w = .ok m w)
    (h1 : (Instr.sliceBound high m .slice3B).run P w = .ok h w)
    (h2 : ((match low with | some v => Instr.sliceBound v h .slice3C | none => pure 0 : Sem Nat)).run P w = .ok l w) :
    (Instr.sliceBounds b len cap low (some high) (some max)).run P w = .ok (l, h, m) w := by
  unfold Instr.sliceBounds
  cases low <;> simp_all

theorem extract_rel {s : ByteArray} {l : List Nat} (h : s.data.toList.map (·.toNat) = l) (a b : Nat) : (s.extract a b).data.toList.map (·.toNat) = (l.take b).drop a := by
  rw [ByteArray.data_extract, Array.toList_extract, List.extract_eq_take_drop, ← h, List.drop_take]
  rw [← List.map_drop, List.map_take]

theorem sl_room {o' l c N z : Nat} (h : o' + c * z ≤ N) (hl : l ≤ c) : o' + l * z + (c - l) * z ≤ N := by
  have : l * z + (c - l) * z = c * z := by rw [← Nat.add_mul, Nat.add_sub_cancel' hl]
  omega

section
variable {P : Program} {ty : Ty} (hty : TyOk P ty) {ι : Io} {ρ : Env} {R : Operand → Value} (he : ER ι ρ R) {w : World} {h : Heap} (rep : Rep ι w h) {o : Oper} {v : AV}
include hty he rep

theorem q_slice {t : TypeId} {x : Operand} {lo hi mx : Option Operand} (ho : o.op = .slice t x lo hi mx) (hq : qop ty ρ h (.slice t x lo hi mx) = some v) : QOk P ι h w R o v := by
  simp only [qop] at hq
  split at hq
  · rename_i ti ht
    obtain ⟨i, d, si⟩ := hty.get ht
    split at hq
    · -- a string
      rename_i l hk hx
      have hd := tk_str (si.k ▸ hk); subst hd
      obtain ⟨s, h1, h2⟩ := evS_rel he hx
      split at hq
      · split at hq
        · rename_i hh hhh
          split at hq
          · rename_i ll hll
            simp only [Option.some.injEq] at hq; subst hq
            obtain ⟨e1, _⟩ := high_of he (Nat.le_refl _) (.inr trivial) hhh .sliceAlen P w
            obtain ⟨e2, _⟩ := low_of he hll .sliceB P w
            rw [← str_len h2] at e1
            have e3 := bounds_run (b := false) (by simpa using e1) e2
            refine .of (V := .string (s.extract ll hh)) ?_ ⟨_, rfl, extract_rel h2 ll hh⟩
            simp [execOp, ho, Instr.sliceAt, Instr.slice, si.r_und, h1, e3]
          · cases hq
        · cases hq
      · cases hq
    · -- a slice
      rename_i e b off len cap z ex hk hx
      have hd := tk_sl (si.k ▸ hk); subst hd
      obtain ⟨cb, N, o', cc, h1, h2, k0, k1, k2⟩ := evS_rel he hx
      split at hq
      · rename_i te hte
        obtain ⟨i', d', se⟩ := hty.get hte
        cases hz : Nat.beq z te.size with
        | false => rw [hz] at hq; cases hq
        | true =>
          rw [hz] at hq; simp only [cnd_true] at hq
          have hz' : z = te.size := Nat.eq_of_beq_eq_true hz
          split at hq
          · rename_i mm hmm
            split at hq
            · rename_i hh hhh
              split at hq
              · rename_i ll hll
                simp only [Option.some.injEq] at hq; subst hq
                have hcc : cap ≤ cc := by
                  cases ex with
                  | true => rw [(k1 rfl).2]; exact Nat.le_refl _
                  | false => exact (k2 rfl).1
                -- the model's bounds
                have key : ∃ M, (Instr.sliceBounds true len cc (lo.map R) (hi.map R) (mx.map R)).run P w = .ok (ll, hh, M) w ∧ mm ≤ M ∧ M ≤ cc ∧ (ex = true → M = mm) ∧ ll ≤ hh ∧ hh ≤ mm ∧ mm ≤ cap := by
                  cases mx with
                  | none =>
                    simp only [Option.some.injEq] at hmm; subst hmm
                    obtain ⟨e1, e1'⟩ : ((match hi.map R with | some v => Instr.sliceBound v cc .sliceAcap | none => pure len : Sem Nat)).run P w = .ok hh w ∧ (hh ≤ cap ∨ hh = len) := by
                      cases hi with
                      | none => simp only [Option.some.injEq] at hhh; subst hhh; simp
                      | some y =>
                        obtain ⟨k, a1, a2⟩ := bound_of he hhh
                        exact ⟨by simp only [Option.map_some]; exact upto_run a1 (by omega) _ P w, .inl a2⟩
                    obtain ⟨e2, e2'⟩ := low_of he hll .sliceB P w
                    exact ⟨cc, bounds_run (b := true) (by simpa using e1) e2, hcc, Nat.le_refl _, fun hx => (k1 hx).2, e2', by omega, Nat.le_refl _⟩
                  | some y =>
                    obtain ⟨ky, m1, m2⟩ := bound_of he hmm
                    cases hi with
                    | none => cases hhh
                    | some y2 =>
                      obtain ⟨ky2, m3, m4⟩ := bound_of he hhh
                      obtain ⟨e2, e2'⟩ := low_of he hll .slice3C P w
                      exact ⟨mm, bounds_run3 (b := true) (upto_run m1 (by omega) _ P w) (upto_run m3 m4 _ P w) e2, Nat.le_refl _, by omega, fun _ => rfl, e2', m4, m2⟩
                obtain ⟨M, e3, hM1, hM2, hM3, hlh, hhm, hmc⟩ := key
                refine .of (V := .slice (if M = ll then some ⟨cb, o', none⟩ else some ⟨cb, o' + ll * z, none⟩) (hh - ll) (M - ll)) ?_ ?_
                · subst hz'
                  simp only [execOp, ho, Instr.sliceAt, Sem.run_bind, si.r_und, Result.andThen_ok, Instr.slice, h2, e3, se.r_size, Sem.run_pure, Option.map_some, Addr_add]
                · cases ex with
                  | true =>
                    obtain ⟨rfl, rfl⟩ := k1 rfl
                    obtain rfl := hM3 rfl
                    refine ⟨cb, N, if M = ll then o' else o' + ll * z, M - ll, h1, ?_, by show hh - ll ≤ M - ll; omega, fun _ => ⟨?_, rfl⟩, fun hf => by cases hf⟩
                    · split <;> rfl
                    · by_cases hml : M = ll
                      · rw [if_pos hml, show Nat.beq M ll = true from by rw [hml]; exact Nat.beq_refl ll]; rfl
                      · rw [if_neg hml, show Nat.beq M ll = false from by cases hb : Nat.beq M ll with | false => rfl | true => exact absurd (Nat.eq_of_beq_eq_true hb) hml]; rfl
                  | false =>
                    obtain ⟨j1, j2, j3, j4⟩ := k2 rfl
                    refine ⟨cb, N, if M = ll then o' else o' + ll * z, M - ll, h1, ?_, by show hh - ll ≤ mm - ll; omega, (fun hf => (by cases hf)), fun _ => ⟨by show mm - ll ≤ M - ll; omega, ?_, ?_, by show M - ll ≤ _; omega⟩⟩
                    · split <;> rfl
                    · by_cases hml : mm = ll
                      · left; show mm - ll = 0; omega
                      · right
                        have : M ≠ ll := by omega
                        rw [if_neg this, show Nat.beq mm ll = false from by cases hb : Nat.beq mm ll with | false => rfl | true => exact absurd (Nat.eq_of_beq_eq_true hb) hml]
                        have : o' = off := j2.resolve_left (by omega)
                        rw [this]; rfl
                    · by_cases hml : M = ll
                      · rw [if_pos hml]
                        have hx1 : M - ll = 0 := by omega
                        rw [hx1]; omega
                      · rw [if_neg hml]
                        have := sl_room (o' := o') (l := ll) (c := cc) (N := N) (z := z) j3 (by omega)
                        have h3 : (M - ll) * z ≤ (cc - ll) * z := Nat.mul_le_mul_right _ (by omega)
                        omega
              · cases hq
            · cases hq
          · cases hq
      · cases hq
    · -- no slice
      rename_i e hk hx
      have hd := tk_sl (si.k ▸ hk); subst hd
      have hr : R x = .slice none 0 0 := evS_rel he hx
      split at hq
      · rename_i te hte
        obtain ⟨i', d', se⟩ := hty.get hte
        split at hq
        · rename_i hh hhh
          split at hq
          · rename_i ll hll
            simp only [Option.some.injEq] at hq; subst hq
            obtain ⟨e1, e1'⟩ := high_of (n := 0) (m := 0) he (Nat.le_refl _) (.inr trivial) hhh .sliceAcap P w
            obtain ⟨e2, e2'⟩ := low_of he hll .sliceB P w
            have hh0 : hh = 0 := by omega
            subst hh0
            have hl0 : ll = 0 := by omega
            subst hl0
            have e3 := bounds_run (b := true) (by simpa using e1) e2
            refine .of (V := .slice none 0 0) ?_ rfl
            simp [execOp, ho, Instr.sliceAt, Instr.slice, si.r_und, hr, e3, se.r_size]
          · cases hq
        · cases hq
      · cases hq
    · rename_i n e b off hk hx
      have hd := tk_arr (si.k ▸ hk); subst hd
      obtain ⟨cb, N, h1, h2⟩ := evS_rel he hx
      split at hq
      · rename_i te hte
        obtain ⟨i', d', se⟩ := hty.get hte
        split at hq
        · rename_i hh hhh
          split at hq
          · rename_i ll hll
            simp only [Option.some.injEq] at hq; subst hq
            obtain ⟨e1, e1'⟩ := high_of he (Nat.le_refl _) (.inr trivial) hhh .sliceAlen P w
            obtain ⟨e2, e2'⟩ := low_of he hll .sliceB P w
            have e3 := bounds_run (b := false) (by simpa using e1) e2
            have hhn : hh ≤ n := by omega
            refine .of (V := .slice (some (if n = ll then ⟨cb, off, none⟩ else ⟨cb, off + ll * te.size, none⟩)) (hh - ll) (n - ll)) ?_ ?_
            · simp only [execOp, ho, Instr.sliceAt, Sem.run_bind, si.r_und, Result.andThen_ok, Instr.sureAddr, h2, e3, se.r_size, Sem.run_pure, Addr_add, Option.map_none]
            · refine ⟨cb, N, if n = ll then off else off + ll * te.size, n - ll, h1, by split <;> rfl, by show hh - ll ≤ n - ll; omega, fun _ => ⟨?_, rfl⟩, fun hf => by cases hf⟩
              by_cases hml : n = ll
              · rw [if_pos hml, show Nat.beq n ll = true from by rw [hml]; exact Nat.beq_refl ll]; rfl
              · rw [if_neg hml, show Nat.beq n ll = false from by cases hb : Nat.beq n ll with | false => rfl | true => exact absurd (Nat.eq_of_beq_eq_true hb) hml]; rfl
          · cases hq
        · cases hq
      · cases hq
    · cases hq
  · cases hq

end
end Go.Proofs.YtafkkicnfngpoaaGreat.Dm
