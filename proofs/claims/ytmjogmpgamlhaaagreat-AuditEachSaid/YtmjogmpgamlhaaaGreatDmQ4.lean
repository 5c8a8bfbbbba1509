/- The quiet operations: entries, builtins; all of them together. -/
import Derived.Test.YtmjogmpgamlhaaaGreatDmQuiet
set_option linter.unusedVariables false
set_option linter.unusedSimpArgs false
set_option linter.unusedSectionVars false
namespace Go.Proofs.YtmjogmpgamlhaaaGreat.Dm
open Go

theorem low_of {ι : Io} {ρ : Env} {R : Operand → Value} (he : ER ι ρ R) {lo : Option Operand} {n j : Nat}
    (h : (match lo with | none => some 0 | some y => (evI ρ y).bind fun i => upto i n) = some j) (c : BoundsCode) (P : Program) (w : World) :
    ((match lo.map R with | some v => Instr.sliceBound v n c | none => pure 0 : Sem Nat)).run P w = .ok j w ∧ j ≤ n := by
  cases lo with
  | none => simp only [Option.some.injEq] at h; subst h; simp
  | some y =>
    obtain ⟨k, h1, h2⟩ := bound_of he h
    exact ⟨by simp only [Option.map_some]; exact upto_run h1 h2 c P w, h2⟩

theorem high_of {ι : Io} {ρ : Env} {R : Operand → Value} (he : ER ι ρ R) {hi : Option Operand} {n m M j : Nat} (hM : m ≤ M) (hn : n ≤ m ∨ True)
    (h : (match hi with | none => some n | some y => (evI ρ y).bind fun i => upto i m) = some j) (c : BoundsCode) (P : Program) (w : World) :
    ((match hi.map R with | some v => Instr.sliceBound v M c | none => pure n : Sem Nat)).run P w = .ok j w ∧ (j ≤ m ∨ j = n) := by
  cases hi with
  | none => simp only [Option.some.injEq] at h; subst h; simp
  | some y =>
    obtain ⟨k, h1, h2⟩ := bound_of he h
    exact ⟨by simp only [Option.map_some]; exact upto_run h1 (by omega) c P w, .inl h2⟩

theorem bounds_run {P : Program} {w : World} {b : Bool} {len cap l h : Nat} {low high : Option Value}
    (h1 : ((match high with | some v => Instr.sliceBound v cap (if b then .sliceAcap else .sliceAlen) | none => pure len : Sem Nat)).run P w = .ok h w)
    (h2 : ((match low with | some v => Instr.sliceBound v h .sliceB | none => pure 0 : Sem Nat)).run P w = .ok l w) :
    (Instr.sliceBounds b len cap low high none).run P w = .ok (l, h, cap) w := by
  unfold Instr.sliceBounds
  cases high <;> cases low <;> simp_all

theorem bounds_run3 {P : Program} {w : World} {b : Bool} {len cap l h m : Nat} {low : Option Value} {high max : Value}
    (h0 : (Instr.sliceBound max cap (if b then .slice3Acap else .slice3Alen)).run P w = .ok m w)
    (h1 : (Instr.sliceBound high m .slice3B).run P w = .ok h w)
    (h2 : ((match low with | some v => Instr.sliceBound v h .slice3C | none => pure 0 : Sem Nat)).run P w = .ok l w) :
    (Instr.sliceBounds b len cap low (some high) (some max)).run P w = .ok (l, h, m) w := by
  unfold Instr.sliceBounds
  cases low <;> simp_all

theorem extract_rel {s : ByteArray} {l : List Nat} (h : s.data.toList.map (·.toNat) = l) (a b : Nat) : (s.extract a b).data.toList.map (·.toNat) = (l.take b).drop a := by
  rw [ByteArray.data_extract, Array.toList_extract, List.extract_eq_take_drop, ← h, List.drop_take]
  rw [← List.map_drop, List.map_take]

theorem sl_room {o' l c N z : Nat} (h : o' + c * z ≤ N) (hl : l ≤ c) : o' + l * z + (c - l) * z ≤ N := by
  have : l * z + (c - l) * z = c * z := by rw [← Nat.add_mul, Nat.add_sub_cancel' hl]
  omega

section
variable {P : Program} {ty : Ty} (hty : TyOk P ty) {ι : Io} {ρ : Env} {R : Operand → Value} (he : ER ι ρ R) {w : World} {h : Heap} (rep : Rep ι w h) {o : Oper} {v : AV}
include hty he rep

theorem q_slice {t : TypeId} {x : Operand} {lo hi mx : Option Operand} (ho : o.op = .slice t x lo hi mx) (hq : qop ty ρ h (.slice t x lo hi mx) = some v) : QOk P ι h w R o v := by
  simp only [qop] at hq
  split at hq
  · rename_i ti ht
    obtain ⟨i, d, si⟩ := hty.get ht
    split at hq
    · -- a string
      rename_i l hk hx
      have hd := tk_str (si.k ▸ hk); subst hd
      obtain ⟨s, h1, h2⟩ := evS_rel he hx
      split at hq
      · split at hq
        · rename_i hh hhh
          split at hq
          · rename_i ll hll
            simp only [Option.some.injEq] at hq; subst hq
            obtain ⟨e1, _⟩ := high_of he (Nat.le_refl _) (.inr trivial) hhh .sliceAlen P w
            obtain ⟨e2, _⟩ := low_of he hll .sliceB P w
            rw [← str_len h2] at e1
            have e3 := bounds_run (b := false) (by simpa using e1) e2
            refine .of (V := .string (s.extract ll hh)) ?_ ⟨_, rfl, extract_rel h2 ll hh⟩
            simp [execOp, ho, Instr.sliceAt, Instr.slice, si.r_und, h1, e3]
          · cases hq
        · cases hq
      · cases hq
    · -- a slice
      rename_i e b off len cap z ex hk hx
      have hd := tk_sl (si.k ▸ hk); subst hd
      obtain ⟨cb, N, o', cc, h1, h2, k0, k1, k2⟩ := evS_rel he hx
      split at hq
      · rename_i te hte
        obtain ⟨i', d', se⟩ := hty.get hte
        cases hz : Nat.beq z te.size with
        | false => rw [hz] at hq; cases hq
        | true =>
          rw [hz] at hq; simp only [cnd_true] at hq
          have hz' : z = te.size := Nat.eq_of_beq_eq_true hz
          split at hq
          · rename_i mm hmm
            split at hq
            · rename_i hh hhh
              split at hq
              · rename_i ll hll
                simp only [Option.some.injEq] at hq; subst hq
                have hcc : cap ≤ cc := by
                  cases ex with
                  | true => rw [(k1 rfl).2]; exact Nat.le_refl _
                  | false => exact (k2 rfl).1
                -- the model's bounds
                have key : ∃ M, (Instr.sliceBounds true len cc (lo.map R) (hi.map R) (mx.map R)).run P w = .ok (ll, hh, M) w ∧ mm ≤ M ∧ M ≤ cc ∧ (ex = true → M = mm) ∧ ll ≤ hh ∧ hh ≤ mm ∧ mm ≤ cap := by
                  cases mx with
                  | none =>
                    simp only [Option.some.injEq] at hmm; subst hmm
                    obtain ⟨e1, e1'⟩ : ((match hi.map R with | some v => Instr.sliceBound v cc .sliceAcap | none => pure len : Sem Nat)).run P w = .ok hh w ∧ (hh ≤ cap ∨ hh = len) := by
                      cases hi with
                      | none => simp only [Option.some.injEq] at hhh; subst hhh; simp
                      | some y =>
                        obtain ⟨k, a1, a2⟩ := bound_of he hhh
                        exact ⟨by simp only [Option.map_some]; exact upto_run a1 (by omega) _ P w, .inl a2⟩
                    obtain ⟨e2, e2'⟩ := low_of he hll .sliceB P w
                    exact ⟨cc, bounds_run (b := true) (by simpa using e1) e2, hcc, Nat.le_refl _, fun hx => (k1 hx).2, e2', by omega, Nat.le_refl _⟩
                  | some y =>
                    obtain ⟨ky, m1, m2⟩ := bound_of he hmm
                    cases hi with
                    | none => cases hhh
                    | some y2 =>
                      obtain ⟨ky2, m3, m4⟩ := bound_of he hhh
                      obtain ⟨e2, e2'⟩ := low_of he hll .slice3C P w
                      exact ⟨mm, bounds_run3 (b := true) (upto_run m1 (by omega) _ P w) (upto_run m3 m4 _ P w) e2, Nat.le_refl _, by omega, fun _ => rfl, e2', m4, m2⟩
                obtain ⟨M, e3, hM1, hM2, hM3, hlh, hhm, hmc⟩ := key
                refine .of (V := .slice (if M = ll then some ⟨cb, o', none⟩ else some ⟨cb, o' + ll * z, none⟩) (hh - ll) (M - ll)) ?_ ?_
                · subst hz'
                  simp only [execOp, ho, Instr.sliceAt, Sem.run_bind, si.r_und, Result.andThen_ok, Instr.slice, h2, e3, se.r_size, Sem.run_pure, Option.map_some, Addr_add]
                · cases ex with
                  | true =>
                    obtain ⟨rfl, rfl⟩ := k1 rfl
                    obtain rfl := hM3 rfl
                    refine ⟨cb, N, if M = ll then o' else o' + ll * z, M - ll, h1, ?_, by show hh - ll ≤ M - ll; omega, fun _ => ⟨?_, rfl⟩, fun hf => by cases hf⟩
                    · split <;> rfl
                    · by_cases hml : M = ll
                      · rw [if_pos hml, show Nat.beq M ll = true from by rw [hml]; exact Nat.beq_refl ll]; rfl
                      · rw [if_neg hml, show Nat.beq M ll = false from by cases hb : Nat.beq M ll with | false => rfl | true => exact absurd (Nat.eq_of_beq_eq_true hb) hml]; rfl
                  | false =>
                    obtain ⟨j1, j2, j3, j4⟩ := k2 rfl
                    refine ⟨cb, N, if M = ll then o' else o' + ll * z, M - ll, h1, ?_, by show hh - ll ≤ mm - ll; omega, (fun hf => (by cases hf)), fun _ => ⟨by show mm - ll ≤ M - ll; omega, ?_, ?_, by show M - ll ≤ _; omega⟩⟩
                    · split <;> rfl
                    · by_cases hml : mm = ll
                      · left; show mm - ll = 0; omega
                      · right
                        have : M ≠ ll := by omega
                        rw [if_neg this, show Nat.beq mm ll = false from by cases hb : Nat.beq mm ll with | false => rfl | true => exact absurd (Nat.eq_of_beq_eq_true hb) hml]
                        have : o' = off := j2.resolve_left (by omega)
                        rw [this]; rfl
                    · by_cases hml : M = ll
                      · rw [if_pos hml]
                        have hx1 : M - ll = 0 := by omega
                        rw [hx1]; omega
                      · rw [if_neg hml]
                        have := sl_room (o' := o') (l := ll) (c := cc) (N := N) (z := z) j3 (by omega)
                        have h3 : (M - ll) * z ≤ (cc - ll) * z := Nat.mul_le_mul_right _ (by omega)
                        omega
              · cases hq
            · cases hq
          · cases hq
      · cases hq
    · -- no slice
      rename_i e hk hx
      have hd := tk_sl (si.k ▸ hk); subst hd
      have hr : R x = .slice none 0 0 := evS_rel he hx
      split at hq
      · rename_i te hte
        obtain ⟨i', d', se⟩ := hty.get hte
        split at hq
        · rename_i hh hhh
          split at hq
          · rename_i ll hll
            simp only [Option.some.injEq] at hq; subst hq
            obtain ⟨e1, e1'⟩ := high_of (n := 0) (m := 0) he (Nat.le_refl _) (.inr trivial) hhh .sliceAcap P w
            obtain ⟨e2, e2'⟩ := low_of he hll .sliceB P w
            have hh0 : hh = 0 := by omega
            subst hh0
            have hl0 : ll = 0 := by omega
            subst hl0
            have e3 := bounds_run (b := true) (by simpa using e1) e2
            refine .of (V := .slice none 0 0) ?_ rfl
            simp [execOp, ho, Instr.sliceAt, Instr.slice, si.r_und, hr, e3, se.r_size]
          · cases hq
        · cases hq
      · cases hq
    · rename_i n e b off hk hx
      have hd := tk_arr (si.k ▸ hk); subst hd
      obtain ⟨cb, N, h1, h2⟩ := evS_rel he hx
      split at hq
      · rename_i te hte
        obtain ⟨i', d', se⟩ := hty.get hte
        split at hq
        · rename_i hh hhh
          split at hq
          · rename_i ll hll
            simp only [Option.some.injEq] at hq; subst hq
            obtain ⟨e1, e1'⟩ := high_of he (Nat.le_refl _) (.inr trivial) hhh .sliceAlen P w
            obtain ⟨e2, e2'⟩ := low_of he hll .sliceB P w
            have e3 := bounds_run (b := false) (by simpa using e1) e2
            have hhn : hh ≤ n := by omega
            refine .of (V := .slice (some (if n = ll then ⟨cb, off, none⟩ else ⟨cb, off + ll * te.size, none⟩)) (hh - ll) (n - ll)) ?_ ?_
            · simp only [execOp, ho, Instr.sliceAt, Sem.run_bind, si.r_und, Result.andThen_ok, Instr.sureAddr, h2, e3, se.r_size, Sem.run_pure, Addr_add, Option.map_none]
            · refine ⟨cb, N, if n = ll then off else off + ll * te.size, n - ll, h1, by split <;> rfl, by show hh - ll ≤ n - ll; omega, fun _ => ⟨?_, rfl⟩, fun hf => by cases hf⟩
              by_cases hml : n = ll
              · rw [if_pos hml, show Nat.beq n ll = true from by rw [hml]; exact Nat.beq_refl ll]; rfl
              · rw [if_neg hml, show Nat.beq n ll = false from by cases hb : Nat.beq n ll with | false => rfl | true => exact absurd (Nat.eq_of_beq_eq_true hb) hml]; rfl
          · cases hq
        · cases hq
      · cases hq
    · cases hq
  · cases hq

end
end Go.Proofs.YtmjogmpgamlhaaaGreat.Dm

namespace Go.Proofs.YtmjogmpgamlhaaaGreat.Dm
open Go

theorem pfind_mem {n : Int} {v : Option CV} : ∀ {l : List PE}, pfind n l = some v → ∃ e ∈ l, e.key = n ∧ e.val = v
  | [], h => by cases h
  | e :: l, h => by
    unfold pfind at h
    cases hb : ieq e.key n with
    | true =>
      rw [hb] at h
      rw [ieq_eq] at hb
      exact ⟨e, List.mem_cons_self, by simpa using hb, Option.some.inj h⟩
    | false =>
      rw [hb] at h
      obtain ⟨e', h1, h2⟩ := pfind_mem h
      exact ⟨e', List.mem_cons_of_mem _ h1, h2⟩

theorem pset_mem {n : Int} {v : Option CV} {x : PE} : ∀ {l : List PE}, x ∈ pset n v l → (x.key = n ∧ x.val = v) ∨ (x.key ≠ n ∧ x ∈ l)
  | [], h => by cases h
  | e :: l, h => by
    unfold pset at h
    cases hb : ieq e.key n with
    | true =>
      rw [hb] at h
      rw [ieq_eq] at hb
      rcases List.mem_cons.1 h with rfl | h
      · exact .inl ⟨by simpa using hb, rfl⟩
      · rcases pset_mem h with h | ⟨h1, h2⟩
        · exact .inl h
        · exact .inr ⟨h1, List.mem_cons_of_mem _ h2⟩
    | false =>
      rw [hb] at h
      rw [ieq_eq] at hb
      rcases List.mem_cons.1 h with rfl | h
      · exact .inr ⟨by simpa using hb, List.mem_cons_self⟩
      · rcases pset_mem h with h | ⟨h1, h2⟩
        · exact .inl h
        · exact .inr ⟨h1, List.mem_cons_of_mem _ h2⟩

theorem pset_keys {n : Int} {v : Option CV} : ∀ l : List PE, (pset n v l).map (·.key) = l.map (·.key)
  | [] => rfl
  | e :: l => by
    unfold pset
    cases ieq e.key n <;> simp [pset_keys l]

/-- A whole number as a key is found, or is not there. -/
theorem findNow_int {k : IntKind} {n : Int} : ∀ {ces : List MapEntry} {i : Nat}, (∀ c ∈ ces, ∃ m, c.key = .int k m) →
    (Instr.findNow (.int k) (.int k n) ces i = some none ∧ ∀ c ∈ ces, c.key ≠ .int k n) ∨ ∃ j c, Instr.findNow (.int k) (.int k n) ces i = some (some (i + j, c.val)) ∧ ces[j]? = some c ∧ c.key = .int k n
  | [], i, _ => .inl ⟨rfl, fun _ h => by cases h⟩
  | c :: ces, i, h => by
    obtain ⟨m, hm⟩ := h c List.mem_cons_self
    by_cases e : n = m
    · subst e
      exact .inr ⟨0, c, by simp [Instr.findNow, Instr.sameNow, hm], rfl, hm⟩
    · have e' : (n == m) = false := by simpa using e
      rcases findNow_int (k := k) (n := n) (ces := ces) (i := i + 1) (fun c hc => h c (List.mem_cons_of_mem _ hc)) with ⟨h1, h2⟩ | ⟨j, c', h1, h2, h3⟩
      · refine .inl ⟨by simp [Instr.findNow, Instr.sameNow, hm, e', h1], fun c' hc' => ?_⟩
        rcases List.mem_cons.1 hc' with rfl | hc'
        · rw [hm]; intro hh; simp only [Value.int.injEq, true_and] at hh; exact e hh.symm
        · exact h2 c' hc'
      · exact .inr ⟨j + 1, c', by simp [Instr.findNow, Instr.sameNow, hm, e', h1]; omega, by simpa using h2, h3⟩

theorem key_uniq {k : IntKind} {n : Int} : ∀ {l : List MapEntry}, (l.map (·.key)).Nodup → ∀ {a b : MapEntry}, a ∈ l → b ∈ l → a.key = .int k n → b.key = .int k n → a = b
  | [], _, _, _, h, _, _, _ => by cases h
  | c :: l, hn, a, b, ha, hb, h1, h2 => by
    rw [List.map_cons, List.nodup_cons] at hn
    rcases List.mem_cons.1 ha with e1 | ha' <;> rcases List.mem_cons.1 hb with e2 | hb'
    · rw [e1, e2]
    · exact absurd (List.mem_map.2 ⟨b, hb', by rw [h2, ← h1, e1]⟩) hn.1
    · exact absurd (List.mem_map.2 ⟨a, ha', by rw [h1, ← h2, e2]⟩) hn.1
    · exact key_uniq hn.2 ha' hb' h1 h2

section
variable {P : Program} {ty : Ty} (hty : TyOk P ty) {ι : Io} {w : World} {h : Heap} (rep : Rep ι w h)
include hty rep

/-- What the evaluator has found of a key stands so in the world. -/
theorem pm_found {kt : TypeId} {x : SV} {kv : CV} {q : PmA} {X K : Value} (hq : pmAt ty h kt x kv = some q) (hx : VR ι x X) (hk : CVR ι kv K) :
    x = .m q.r ∧ h.get q.r = some (.pm q.k q.es q.l) ∧ K = .int q.k q.n ∧ pfind q.n q.es = some q.v ∧ P.underlying kt = some (.int q.k) ∧
    ∃ cb N ces ck, ι q.r = some (cb, N) ∧ X = .map (some cb) ∧ w.heap[cb]? = some (.map ces ck) ∧ PM ι q.k q.es q.l ces ck ∧
      ((∃ (v : CV) (j : Nat) (c : MapEntry), q.v = some v ∧ (∀ w', (Instr.findKey kt K ces.toList).run P w' = .ok (some (j, c.val)) w') ∧ ces[j]? = some c ∧ c.key = .int q.k q.n ∧ CVR ι v c.val) ∨
       (q.v = none ∧ (∀ w', (Instr.findKey kt K ces.toList).run P w' = .ok none w') ∧ ∀ c ∈ ces.toList, c.key ≠ .int q.k q.n)) := by
  unfold pmAt at hq
  split at hq
  · rename_i r k n
    split at hq
    · rename_i k' es l tk hg htk
      split at hq
      · rename_i k2 hk2
        cases hc : (keq k k' && keq k k2) with
        | false => rw [hc] at hq; cases hq
        | true =>
          rw [hc] at hq; simp only [cnd_true] at hq
          simp only [Bool.and_eq_true] at hc
          obtain rfl := keq_iff.1 hc.1
          obtain rfl := keq_iff.1 hc.2
          split at hq
          · rename_i v hv
            obtain rfl := Option.some.inj hq
            obtain ⟨i, d, s⟩ := hty.get htk
            have hd : d = .int k := tk_int (s.k ▸ hk2)
            have hu : P.underlying kt = some (.int k) := by rw [s.und, hd]
            obtain ⟨cb, N, i1, rfl⟩ := (show VR ι (.m r) X from hx)
            obtain ⟨cb', N', g1, ces, ck, g2, g3⟩ := rep.obj r _ hg
            rw [i1] at g1; simp only [Option.some.injEq, Prod.mk.injEq] at g1
            obtain ⟨rfl, rfl⟩ := g1
            obtain rfl : K = .int k n := hk
            refine ⟨rfl, hg, rfl, hv, hu, cb, N, ces, ck, i1, rfl, g2, g3, ?_⟩
            obtain ⟨e, e1, e2, e3⟩ := pfind_mem hv
            have ht := g3.told e e1
            unfold PEr at ht
            have hrun : ∀ r', Instr.findNow (.int k) (.int k n) ces.toList 0 = some r' → ∀ w', (Instr.findKey kt (.int k n) ces.toList).run P w' = .ok r' w' := by
              intro r' hr w'
              unfold Instr.findKey
              have hu' : (underlying kt).run P w' = .ok (.int k) w' := by simp [underlying, hu]
              simp [hu', hr]
            rcases findNow_int (k := k) (n := n) (ces := ces.toList) (i := 0) g3.int with ⟨h1, h2⟩ | ⟨j, c, h1, h2, h3⟩
            · right
              refine ⟨?_, hrun _ h1, h2⟩
              show v = none
              cases hvv : v with
              | none => rfl
              | some u =>
                rw [e3, hvv, e2] at ht
                obtain ⟨c, c1, c2, _⟩ := ht
                exact absurd c2 (h2 c c1)
            · left
              rw [Nat.zero_add] at h1
              have hm : c ∈ ces.toList := List.mem_of_getElem? h2
              cases hvv : v with
              | none =>
                rw [e3, hvv, e2] at ht
                exact absurd h3 (ht c hm)
              | some u =>
                rw [e3, hvv, e2] at ht
                obtain ⟨c', c1, c2, c3⟩ := ht
                obtain rfl := key_uniq g3.nodup c1 hm c2 h3
                exact ⟨u, j, _, rfl, hrun _ h1, by rw [← Array.getElem?_toList]; exact h2, h3, c3⟩
          · cases hq
      · cases hq
    · cases hq
  · cases hq
end
end Go.Proofs.YtmjogmpgamlhaaaGreat.Dm

namespace Go.Proofs.YtmjogmpgamlhaaaGreat.Dm
open Go

theorem MRs.get : ∀ {ι : Io} {l : List ME} {r : List MapEntry} {i : Nat} {x : ME}, MRs ι l r → l[i]? = some x → ∃ v, r[i]? = some v ∧ MR ι x v
  | _, [], [], _, _, _, h => by simp at h
  | _, [], _ :: _, _, _, h, _ => h.elim
  | _, _ :: _, [], _, _, h, _ => h.elim
  | _, _ :: _, v :: _, 0, _, ⟨a, _⟩, h => by simp at h; subst h; exact ⟨v, rfl, a⟩
  | _, _ :: _, _ :: _, i + 1, _, ⟨_, b⟩, h => by simp at h; simpa using MRs.get b h

theorem MRs.length : ∀ {ι : Io} {l : List ME} {r : List MapEntry}, MRs ι l r → l.length = r.length
  | _, [], [], _ => rfl
  | _, [], _ :: _, h => h.elim
  | _, _ :: _, [], h => h.elim
  | _, _ :: _, _ :: _, ⟨_, b⟩ => by simp [MRs.length b]

/-- Where the model finds a key, as against where it stands. -/
noncomputable def Fnd (ces : List MapEntry) (i : Nat) (r : Option Nat) (r' : Option (Nat × Value)) : Prop :=
  match r, r' with
  | none, none => True
  | some j, some (j', v) => j' = j ∧ i ≤ j ∧ ∃ c, ces[j - i]? = some c ∧ v = c.val
  | _, _ => False

theorem Fnd.cons {ces : List MapEntry} {c : MapEntry} {i : Nat} {r : Option Nat} {r' : Option (Nat × Value)} (h : Fnd ces (i + 1) r r') : Fnd (c :: ces) i r r' := by
  unfold Fnd at *
  cases r with
  | none => cases r' <;> simp_all
  | some j =>
    cases r' with
    | none => exact h.elim
    | some q =>
      obtain ⟨j', v⟩ := q
      obtain ⟨a, b, c', d, e⟩ := h
      exact ⟨a, by omega, c', by rw [show j - i = (j - (i + 1)) + 1 by omega]; simpa using d, e⟩

theorem same_now {ι : Io} {d : TypeDesc} {x y : CV} {V W : Value} {b : Bool} {ty : Ty} {P : Program} {t : TypeId} (hty : TyOk P ty) (hd : P.underlying t = some d)
    (hx : CVR ι x V) (hy : CVR ι y W) (h : ceq ty t x y = some b) : Instr.sameNow d V W = some b ∨ Instr.sameNow d V W = none := by
  unfold ceq at h
  simp only [eqT] at h
  cases ht : ty t with
  | none => rw [ht] at h; cases h
  | some ti =>
    rw [ht] at h; simp only [] at h
    obtain ⟨i, d', s⟩ := hty.get ht
    have : d' = d := by have := s.und; rw [hd] at this; exact (Option.some.inj this).symm
    subst this
    cases x with
    | ag l =>
      obtain ⟨a, rfl, _⟩ := hx
      right
      cases d' <;> rfl
    | sc a =>
      cases y with
      | ag l => simp at h
      | sc c =>
        simp only [] at h
        rw [s.k] at h
        cases hk : d' <;> first | (right; rfl) | skip
        case bool =>
          subst hk
          cases a <;> cases c <;> simp only [eqS, tkOf, reduceCtorEq, Option.some.injEq] at h
          have hx' : V = _ := hx; have hy' : W = _ := hy
          subst hx'; subst hy'; subst h
          left; simp [Instr.sameNow, beqB_eq]
        case int k =>
          subst hk
          cases a <;> cases c <;> simp only [eqS, tkOf, reduceCtorEq] at h
          · rename_i k1 n1 k2 n2
            have hx' : V = _ := hx; have hy' : W = _ := hy
            subst hx'; subst hy'
            cases hkk : keq k1 k2 with
            | false => rw [hkk] at h; cases h
            | true =>
              rw [hkk] at h; simp only [cnd_true, Option.some.injEq] at h; subst h
              left; simp [Instr.sameNow, keq_iff.1 hkk, ieq_eq]
          · rename_i k1 lo hi i1 k2 lo' hi' i2
            obtain ⟨c, N, hc, rfl, _⟩ := (show VR ι (.at k1 lo hi i1) V from hx)
            obtain ⟨c', N', hc', rfl, _⟩ := (show VR ι (.at k2 lo' hi' i2) W from hy)
            cases hkk : (keq k1 k2 && Nat.beq i1 i2) with
            | false => rw [hkk] at h; cases h
            | true =>
              rw [hkk] at h; simp only [cnd_true, Option.some.injEq] at h; subst h
              simp only [Bool.and_eq_true] at hkk
              obtain rfl := keq_iff.1 hkk.1
              obtain rfl := Nat.eq_of_beq_eq_true hkk.2
              rw [hc] at hc'
              simp only [Option.some.injEq, Prod.mk.injEq] at hc'
              obtain ⟨rfl, rfl⟩ := hc'
              left; simp [Instr.sameNow]
        case string =>
          subst hk
          cases a <;> cases c <;> simp only [eqS, tkOf, reduceCtorEq, Option.some.injEq] at h
          obtain ⟨s1, rfl, e1⟩ := hx; obtain ⟨s2, rfl, e2⟩ := hy
          subst h
          left; simp [Instr.sameNow, str_beq e1 e2]

section
variable {P : Program} {ty : Ty} (hty : TyOk P ty) {ι : Io} {w : World}
include hty

theorem asking_sound {t : TypeId} {kv : CV} {K : Value} (hk : CVR ι kv K) : ∀ {es : List ME} {ces : List MapEntry} {i : Nat} {r : Option Nat},
    MRs ι es ces → placeA ty t kv i es = some r → ∃ r', (Instr.findAsking t K ces i).run P w = .ok r' w ∧ Fnd ces i r r'
  | [], [], i, r, _, h => by simp only [placeA, Option.some.injEq] at h; subst h; exact ⟨none, by simp [Instr.findAsking], trivial⟩
  | [], _ :: _, _, _, h, _ => h.elim
  | _ :: _, [], _, _, h, _ => h.elim
  | e :: es, c :: ces, i, r, ⟨⟨h1, h2, h3⟩, hr⟩, h => by
    simp only [placeA] at h
    split at h
    · rename_i he
      have heq : (Op.equal t K c.key).run P w = .ok true w := eqT_sound hty 12 t kv e.key K c.key true 10000 w hk h1 he (by omega)
      simp only [Option.some.injEq] at h; subst h
      exact ⟨some (i, c.val), by simp [Instr.findAsking, heq], rfl, Nat.le_refl _, c, by simp, rfl⟩
    · rename_i he
      have heq : (Op.equal t K c.key).run P w = .ok false w := eqT_sound hty 12 t kv e.key K c.key false 10000 w hk h1 he (by omega)
      obtain ⟨r', f1, f2⟩ := asking_sound hk hr h
      exact ⟨r', by simp [Instr.findAsking, heq, f1], f2.cons⟩
    · cases h

theorem now_sound {t : TypeId} {d : TypeDesc} (hd : P.underlying t = some d) {kv : CV} {K : Value} (hk : CVR ι kv K) : ∀ {es : List ME} {ces : List MapEntry} {i : Nat} {r : Option Nat} {r' : Option (Nat × Value)},
    MRs ι es ces → placeA ty t kv i es = some r → Instr.findNow d K ces i = some r' → Fnd ces i r r'
  | [], [], i, r, r', _, h, h' => by simp only [placeA, Option.some.injEq] at h; subst h; simp only [Instr.findNow, Option.some.injEq] at h'; subst h'; trivial
  | [], _ :: _, _, _, _, h, _, _ => h.elim
  | _ :: _, [], _, _, _, h, _, _ => h.elim
  | e :: es, c :: ces, i, r, r', ⟨⟨h1, h2, h3⟩, hr⟩, h, h' => by
    simp only [placeA] at h
    simp only [Instr.findNow] at h'
    split at h
    · rename_i he
      simp only [Option.some.injEq] at h; subst h
      rcases same_now hty hd hk h1 he with hs | hs
      · rw [hs] at h'; simp only [Option.some.injEq] at h'; subst h'
        exact ⟨rfl, Nat.le_refl _, c, by simp, rfl⟩
      · rw [hs] at h'; cases h'
    · rename_i he
      rcases same_now hty hd hk h1 he with hs | hs
      · rw [hs] at h'
        exact (now_sound hd hk hr h h').cons
      · rw [hs] at h'; cases h'
    · cases h

theorem find_sound {t : TypeId} {d : TypeDesc} (hd : P.underlying t = some d) {kv : CV} {K : Value} (hk : CVR ι kv K) {es : List ME} {ces : List MapEntry} {r : Option Nat}
    (hr : MRs ι es ces) (h : placeA ty t kv 0 es = some r) : ∃ r', (Instr.findKey t K ces).run P w = .ok r' w ∧ Fnd ces 0 r r' := by
  unfold Instr.findKey
  have hu : (underlying t).run P w = .ok d w := by simp [underlying, hd]
  cases hn : Instr.findNow d K ces 0 with
  | some r' => exact ⟨r', by simp [hu, hn], now_sound hty hd hk hr h hn⟩
  | none =>
    obtain ⟨r', f1, f2⟩ := asking_sound hty hk hr h (w := w)
    exact ⟨r', by simp [hu, hn, f1], f2⟩

noncomputable def KeyOk (P : Program) (ι : Io) (n : Nat) (ok : TypeId → CV → Bool) : Prop :=
  ∀ t x V m b w, CVR ι x V → ok t x = true → n ≤ m → (Instr.checkKey b m t V).run P w = .ok () w

theorem keyFs_sound {n m : Nat} {ok : TypeId → CV → Bool} (hok : KeyOk P ι n ok) (hm : n ≤ m) {l : List SV} {a : Array Value} (ha : Rs ι l a.toList) (b : Bool) : ∀ (fs : List Field),
    keyFs ty ok l (fs.map fun f => (f.offset, f.type, f.name != "_")) = true →
    (forIn (m := Sem) fs PUnit.unit (fun (f : Field) (s : PUnit) => if f.name ≠ "_" then do
        let x ← part f.type a f.offset
        Instr.checkKey b m f.type x
        pure (ForInStep.yield PUnit.unit)
      else pure (ForInStep.yield PUnit.unit))).run P w = .ok PUnit.unit w
  | [], h => by simp
  | f :: fs, h => by
    simp only [List.map_cons, keyFs] at h
    rw [List.forIn_cons, Sem.run_bind]
    cases hn : (f.name != "_") with
    | false =>
      rw [hn] at h; simp only [cnd_false] at h
      have hn' : f.name = "_" := by simpa using hn
      rw [if_neg (by simp [hn'])]
      simp only [Sem.run_pure, Result.andThen_ok]
      exact keyFs_sound hok hm ha b fs h
    | true =>
      rw [hn] at h; simp only [cnd_true] at h
      have hn' : f.name ≠ "_" := by simpa using hn
      rw [if_pos hn']
      split at h
      · rename_i x hx
        rw [Bool.and_eq_true] at h
        obtain ⟨V, e1, e2⟩ := part_sound hty w ha hx
        have e3 := hok f.type x V m b w e2 h.1 hm
        simp only [Sem.run_bind, e1, e3, Result.andThen_ok, Sem.run_pure]
        exact keyFs_sound hok hm ha b fs h.2
      · cases h

theorem keyV_sound : ∀ n, KeyOk P ι n (keyV ty n)
  | 0 => by intro t x V m b w _ h; simp [keyV] at h
  | n + 1 => by
    intro t x V m b w hx h hm
    obtain ⟨m, rfl⟩ : ∃ k, m = k + 1 := ⟨m - 1, by omega⟩
    simp only [keyV] at h
    split at h
    · rename_i ti ht
      obtain ⟨i, d, s⟩ := hty.get ht
      split at h
      · rename_i hk; have := tk_bool (s.k ▸ hk); subst this; simp [Instr.checkKey, s.r_und]
      · rename_i hk; have := tk_int (s.k ▸ hk); subst this; simp [Instr.checkKey, s.r_und]
      · rename_i hk; have := tk_f64 (s.k ▸ hk); subst this; simp [Instr.checkKey, s.r_und]
      · rename_i hk; have := tk_c128 (s.k ▸ hk); subst this; simp [Instr.checkKey, s.r_und]
      · rename_i hk; have := tk_str (s.k ▸ hk); subst this; simp [Instr.checkKey, s.r_und]
      · rename_i fs l hk
        obtain ⟨a, rfl, ea⟩ := tk_st (s.k ▸ hk)
        obtain ⟨c, rfl, hc⟩ := hx
        subst ea
        have key := keyFs_sound hty (keyV_sound n) (show n ≤ m by omega) hc b a.toList h (w := w)
        simp only [Instr.checkKey, Sem.run_bind, s.r_und, Result.andThen_ok]
        rw [← Array.forIn_toList]
        erw [key]
        rfl
      · cases h
    · cases h
end

section
variable {P : Program} {ty : Ty} (hty : TyOk P ty) {ι : Io} {ρ : Env} {R : Operand → Value} (he : ER ι ρ R) {w : World} {h : Heap} (rep : Rep ι w h) {o : Oper} {v : AV}
include hty he rep

theorem q_lookup {t : TypeId} {x k : Operand} {ok : Bool} (ho : o.op = .lookup t x k ok) (hq : qop ty ρ h (.lookup t x k ok) = some v) : QOk P ι h w R o v := by
  simp only [qop] at hq
  split at hq
  · rename_i ti ht
    obtain ⟨i, d, si⟩ := hty.get ht
    split at hq
    · rename_i kt et hk
      have hd := tk_map (si.k ▸ hk); subst hd
      split at hq
      · rename_i kv te hkv hte
        obtain ⟨ie, de, se⟩ := hty.get hte
        cases hkey : keyV ty 12 kt kv with
        | false => rw [hkey] at hq; cases hq
        | true =>
          rw [hkey] at hq; simp only [cnd_true] at hq
          have hK := evC_rel he hkv
          split at hq
          · rename_i q hpm
            unfold pmLk at hpm
            split at hpm
            · rename_i xv hxv
              have hX := evS_rel he hxv
              obtain ⟨f1, f2, f3, f4, f5, cb, N, ces, ck, g1, g2, g3, g4, g5⟩ := pm_found hty rep hpm hX hK
              have hck := keyV_sound hty 12 kt kv (R k) 10000 ces.isEmpty w hK hkey (by omega)
              rcases g5 with ⟨u, j, c, e1, e2, e3, e4, e5⟩ | ⟨e1, e2, e3⟩
              · rw [e1] at hq
                have e2 := e2 w
                cases ok with
                | true =>
                  simp only [cnd_true, Option.some.injEq] at hq; subst hq
                  refine .of (V := .tuple #[c.val, .bool true]) ?_ ⟨_, rfl, e5, rfl, trivial⟩
                  simp [execOp, ho, Instr.lookup, si.r_und, g2, getObj, Sem.run, g3, hck, e2]
                | false =>
                  simp only [cnd_false, Option.some.injEq] at hq; subst hq
                  refine .of (V := c.val) ?_ e5
                  simp [execOp, ho, Instr.lookup, si.r_und, g2, getObj, Sem.run, g3, hck, e2]
              · rw [e1] at hq
                have e2 := e2 w
                simp only at hq
                split at hq
                · rename_i z hz
                  obtain ⟨zv, z1, z2⟩ := se.r_zero w hz
                  cases ok with
                  | true =>
                    simp only [cnd_true, Option.some.injEq] at hq; subst hq
                    refine .of (V := .tuple #[zv, .bool false]) ?_ ⟨_, rfl, cvOf_rel ι z2, rfl, trivial⟩
                    simp [execOp, ho, Instr.lookup, si.r_und, g2, getObj, Sem.run, g3, hck, e2, z1]
                  | false =>
                    simp only [cnd_false, Option.some.injEq] at hq; subst hq
                    refine .of (V := zv) ?_ (cvOf_rel ι z2)
                    simp [execOp, ho, Instr.lookup, si.r_und, g2, getObj, Sem.run, g3, hck, e2, z1]
                · cases hq
            · cases hpm
          · split at hq
            · rename_i es hes
              have hmap : ∃ ces : Array MapEntry, ((R x = .map none ∧ ces = #[]) ∨ (∃ cb ck, R x = .map (some cb) ∧ w.heap[cb]? = some (.map ces ck))) ∧ MRs ι es ces.toList := by
                split at hes
                · rename_i hx
                  have hr : R x = .map none := evS_rel he hx
                  simp only [Option.some.injEq] at hes; subst hes
                  exact ⟨#[], .inl ⟨hr, rfl⟩, trivial⟩
                · rename_i r hx
                  obtain ⟨cb, N, h1, h2⟩ := evS_rel he hx
                  split at hes
                  · rename_i es' ck hg
                    simp only [Option.some.injEq] at hes; subst hes
                    obtain ⟨cb', N', g1, ces, g2, g3⟩ := rep.obj r _ hg
                    rw [h1] at g1; simp only [Option.some.injEq, Prod.mk.injEq] at g1
                    obtain ⟨rfl, rfl⟩ := g1
                    exact ⟨ces, .inr ⟨cb, ck, h2, g2⟩, g3⟩
                  · cases hes
                · cases hes
              obtain ⟨ces, m1, m2⟩ := hmap
              have hck := keyV_sound hty 12 kt kv (R k) 10000 ces.isEmpty w hK hkey (by omega)
              split at hq
              · rename_i j hpl
                obtain ⟨ik, dk, sk⟩ : ∃ i d, P.underlying kt = some d ∧ True ∧ i = 0 := by
                  simp only [keyV] at hkey
                  split at hkey
                  · rename_i tk htk
                    obtain ⟨i, d, s⟩ := hty.get htk
                    exact ⟨0, d, s.und, trivial, rfl⟩
                  · cases hkey
                obtain ⟨r', f1, f2⟩ := find_sound hty sk.1 hK m2 hpl (w := w)
                split at hq
                · rename_i e hej
                  cases r' with
                  | none => exact f2.elim
                  | some q =>
                    obtain ⟨j', vv⟩ := q
                    obtain ⟨_, _, c, c1, c2⟩ := f2
                    obtain ⟨c', d1, d2, d3, d4⟩ := m2.get hej
                    simp only [Nat.sub_zero] at c1
                    rw [c1] at d1; simp only [Option.some.injEq] at d1; subst d1
                    cases ok with
                    | true =>
                      simp only [cnd_true, Option.some.injEq] at hq; subst hq
                      refine .of (V := .tuple #[vv, .bool true]) ?_ ⟨_, rfl, by rw [c2]; exact d3, rfl, trivial⟩
                      rcases m1 with ⟨hr, hce⟩ | ⟨cb, ck, hr, hg⟩
                      · subst hce
                        have hck' : (Instr.checkKey true 10000 kt (R k)).run P w = .ok () w := hck
                        have f1' : (Instr.findKey kt (R k) []).run P w = .ok _ w := f1
                        simp [execOp, ho, Instr.lookup, si.r_und, hr, hck', f1']
                      · simp [execOp, ho, Instr.lookup, si.r_und, hr, getObj, Sem.run, hg, hck, f1]
                    | false =>
                      simp only [cnd_false, Option.some.injEq] at hq; subst hq
                      refine .of (V := vv) ?_ (by rw [c2]; exact d3)
                      rcases m1 with ⟨hr, hce⟩ | ⟨cb, ck, hr, hg⟩
                      · subst hce
                        have hck' : (Instr.checkKey true 10000 kt (R k)).run P w = .ok () w := hck
                        have f1' : (Instr.findKey kt (R k) []).run P w = .ok _ w := f1
                        simp [execOp, ho, Instr.lookup, si.r_und, hr, hck', f1']
                      · simp [execOp, ho, Instr.lookup, si.r_und, hr, getObj, Sem.run, hg, hck, f1]
                · cases hq
              · rename_i hpl
                obtain ⟨ik, dk, sk⟩ : ∃ i d, P.underlying kt = some d ∧ True ∧ i = 0 := by
                  simp only [keyV] at hkey
                  split at hkey
                  · rename_i tk htk
                    obtain ⟨i, d, s⟩ := hty.get htk
                    exact ⟨0, d, s.und, trivial, rfl⟩
                  · cases hkey
                obtain ⟨r', f1, f2⟩ := find_sound hty sk.1 hK m2 hpl (w := w)
                split at hq
                · rename_i z hz
                  obtain ⟨zv, z1, z2⟩ := se.r_zero w hz
                  cases r' with
                  | some q => exact f2.elim
                  | none =>
                    cases ok with
                    | true =>
                      simp only [cnd_true, Option.some.injEq] at hq; subst hq
                      refine .of (V := .tuple #[zv, .bool false]) ?_ ⟨_, rfl, cvOf_rel ι z2, rfl, trivial⟩
                      rcases m1 with ⟨hr, hce⟩ | ⟨cb, ck, hr, hg⟩
                      · subst hce
                        have hck' : (Instr.checkKey true 10000 kt (R k)).run P w = .ok () w := hck
                        have f1' : (Instr.findKey kt (R k) []).run P w = .ok _ w := f1
                        simp [execOp, ho, Instr.lookup, si.r_und, hr, hck', f1', z1]
                      · simp [execOp, ho, Instr.lookup, si.r_und, hr, getObj, Sem.run, hg, hck, f1, z1]
                    | false =>
                      simp only [cnd_false, Option.some.injEq] at hq; subst hq
                      refine .of (V := zv) ?_ (cvOf_rel ι z2)
                      rcases m1 with ⟨hr, hce⟩ | ⟨cb, ck, hr, hg⟩
                      · subst hce
                        have hck' : (Instr.checkKey true 10000 kt (R k)).run P w = .ok () w := hck
                        have f1' : (Instr.findKey kt (R k) []).run P w = .ok _ w := f1
                        simp [execOp, ho, Instr.lookup, si.r_und, hr, hck', f1', z1]
                      · simp [execOp, ho, Instr.lookup, si.r_und, hr, getObj, Sem.run, hg, hck, f1, z1]
                · cases hq
              · cases hq
            · cases hq
      · cases hq
    · cases hq
  · cases hq

end
end Go.Proofs.YtmjogmpgamlhaaaGreat.Dm

namespace Go.Proofs.YtmjogmpgamlhaaaGreat.Dm
open Go

theorem MRs.find {ι : Io} {stamp : Nat} {e : ME} : ∀ {l : List ME} {r : List MapEntry}, MRs ι l r → (l.find? fun e => Nat.beq e.born stamp) = some e → ∃ c, (r.find? fun c => c.born == stamp) = some c ∧ MR ι e c
  | [], [], _, h => by simp at h
  | [], _ :: _, h, _ => h.elim
  | _ :: _, [], h, _ => h.elim
  | x :: l, v :: r, ⟨a, b⟩, h => by
    simp only [List.find?_cons] at h ⊢
    cases hb : Nat.beq x.born stamp with
    | true =>
      rw [hb] at h; simp only [Option.some.injEq] at h; subst h
      have : (v.born == stamp) = true := by rw [a.2.2]; exact beq_iff_eq.2 (Nat.eq_of_beq_eq_true hb)
      rw [this]; exact ⟨v, rfl, a⟩
    | false =>
      rw [hb] at h
      have : (v.born == stamp) = false := by rw [a.2.2]; exact beq_false_of_ne (Nat.ne_of_beq_eq_false hb)
      rw [this]; exact MRs.find b h

section
variable {P : Program} {ty : Ty} (hty : TyOk P ty) {ι : Io} {ρ : Env} {R : Operand → Value} (he : ER ι ρ R) {w : World} {h : Heap} (rep : Rep ι w h) {o : Oper} {v : AV}
include hty he rep

theorem q_entry {x : Operand} (ho : o.op = .entry x) (hq : qop ty ρ h (.entry x) = some v) : QOk P ι h w R o v := by
  simp only [qop] at hq
  split at hq
  · rename_i b hx
    obtain ⟨cb, N, h1, h2⟩ := evS_rel he hx
    split at hq
    · rename_i m since seen st hg
      obtain ⟨cb', N', g1, m', g2, g3⟩ := rep.obj b _ hg
      rw [h1] at g1; simp only [Option.some.injEq, Prod.mk.injEq] at g1
      obtain ⟨rfl, rfl⟩ := g1
      cases m' with
      | none => exact g3.elim
      | some c =>
        obtain ⟨M, g3⟩ := g3
        split at hq
        · rename_i stamp hs
          split at hq
          · rename_i es ck hm
            obtain ⟨c', M', k1, ces, k2, k3⟩ := rep.obj m _ hm
            rw [g3] at k1; simp only [Option.some.injEq, Prod.mk.injEq] at k1
            obtain ⟨rfl, rfl⟩ := k1
            cases hc : Nat.beq ck st with
            | false => rw [hc] at hq; cases hq
            | true =>
              rw [hc] at hq; simp only [cnd_true] at hq
              obtain rfl : ck = st := Nat.eq_of_beq_eq_true hc
              split at hq
              · rename_i e hf
                simp only [Option.some.injEq] at hq; subst hq
                obtain ⟨c2, f1, f2⟩ := k3.find hf
                have f1' : ces.find? (fun c => c.born == stamp) = some c2 := by rw [← Array.find?_toList]; exact f1
                have hs' : seen.toArray.back? = some stamp := by simpa using hs
                refine .of (V := .tuple #[c2.key, c2.val]) ?_ ⟨_, rfl, f2.1, f2.2.1, trivial⟩
                simp [execOp, ho, Instr.entry, h2, getObj, Sem.run, g2, hs', k2, f1']
              · cases hq
          · cases hq
        · cases hq
    · cases hq
  · cases hq

theorem one_arg {xs : List Operand} {a : AV} (h : evList ρ xs = some [a]) : ∃ x, xs = [x] ∧ AVR ι a (R x) := by
  have := evList_rel he h
  match xs, this with
  | [x], ⟨h1, _⟩ => exact ⟨x, rfl, h1⟩
theorem two_args {xs : List Operand} {a b : AV} (h : evList ρ xs = some [a, b]) : ∃ x y, xs = [x, y] ∧ AVR ι a (R x) ∧ AVR ι b (R y) := by
  have := evList_rel he h
  match xs, this with
  | [x, y], ⟨h1, h2, _⟩ => exact ⟨x, y, rfl, h1, h2⟩

theorem arr_one {α : Type} {a : Array α} {x : α} (h : a.toList = [x]) : a = #[x] := by cases a; simp at h; simp [h]
theorem arr_two {α : Type} {a : Array α} {x y : α} (h : a.toList = [x, y]) : a = #[x, y] := by cases a; simp at h; simp [h]

end

section
variable {P : Program} {ty : Ty} (hty : TyOk P ty) {ι : Io} {ρ : Env} {R : Operand → Value} (he : ER ι ρ R) {w : World} {h : Heap} (rep : Rep ι w h) {o : Oper} {v : AV}
include hty he rep

/-- A call of a builtin of one argument. -/
theorem bi_one {c : Call} {b : Builtin} {x : Operand} {V : Value} (ho : o.op = .call c) (hc : c.callee = .builtin b) (ha : c.args = #[x])
    (hr : (builtin b c.argTypes o.type (c.args.map fun | .const _ => true | _ => false) #[R x]).run P w = .ok (.value V) w) (hv : AVR ι v V) : QOk P ι h w R o v := by
  refine .of (V := V) ?_ hv
  simp only [execOp, ho, resolve, hc, ha, Sem.run_bind, Sem.run_pure, Result.andThen_ok, invoke, List.map_toArray, List.map_cons, List.map_nil] at hr ⊢
  exact hr
theorem bi_two {c : Call} {b : Builtin} {x y : Operand} {V : Value} (ho : o.op = .call c) (hc : c.callee = .builtin b) (ha : c.args = #[x, y])
    (hr : (builtin b c.argTypes o.type (c.args.map fun | .const _ => true | _ => false) #[R x, R y]).run P w = .ok (.value V) w) (hv : AVR ι v V) : QOk P ι h w R o v := by
  refine .of (V := V) ?_ hv
  simp only [execOp, ho, resolve, hc, ha, Sem.run_bind, Sem.run_pure, Result.andThen_ok, invoke, List.map_toArray, List.map_cons, List.map_nil] at hr ⊢
  exact hr

theorem len_sound {k : TK} {t : TypeId} {ti : TI} {x : AV} {n : Nat} {V : Value} (ht : ty t = some ti) (hx : AVR ι x V) (hn : lenA ty h ti.k x = some n) (as : Array TypeId) (ha : as[0]? = some t) (q : TypeId) :
    (Builtin.len_ as q #[V]).run P w = .ok (goInt n) w := by
  obtain ⟨i, d, s⟩ := hty.get ht
  unfold lenA at hn
  split at hn
  · rename_i hk
    have hd := tk_str (s.k ▸ hk); subst hd
    split at hn
    · simp only [Option.some.injEq] at hn; subst hn
      obtain ⟨s', rfl, h2⟩ := hx
      simp [Builtin.len_, ha, s.r_und, str_len h2]
    · cases hn
  · rename_i e hk
    have hd := tk_sl (s.k ▸ hk); subst hd
    split at hn
    · simp only [Option.some.injEq] at hn; subst hn
      have hx' : V = .slice none 0 0 := hx
      subst hx'
      simp [Builtin.len_, ha, s.r_und]
    · simp only [Option.some.injEq] at hn; subst hn
      obtain ⟨_, _, _, _, _, rfl, _⟩ := hx
      simp [Builtin.len_, ha, s.r_und]
    · cases hn
  · rename_i kt e hk
    have hd := tk_map (s.k ▸ hk); subst hd
    split at hn
    · simp only [Option.some.injEq] at hn; subst hn
      have hx' : V = .map none := hx
      subst hx'
      simp [Builtin.len_, ha, s.r_und]
    · rename_i r
      obtain ⟨cb, N, h1, rfl⟩ := hx
      split at hn
      · rename_i es ck hg
        simp only [Option.some.injEq] at hn; subst hn
        obtain ⟨cb', N', g1, ces, g2, g3⟩ := rep.obj r _ hg
        rw [h1] at g1; simp only [Option.some.injEq, Prod.mk.injEq] at g1
        obtain ⟨rfl, rfl⟩ := g1
        have := g3.length
        simp only [Array.length_toList] at this
        simp [Builtin.len_, ha, s.r_und, getObj, Sem.run, g2, this]
      · rename_i k es l hg
        subst hn
        obtain ⟨cb', N', g1, ces, ck, g2, g3⟩ := rep.obj r _ hg
        rw [h1] at g1; simp only [Option.some.injEq, Prod.mk.injEq] at g1
        obtain ⟨rfl, rfl⟩ := g1
        have := g3.size _ rfl
        simp [Builtin.len_, ha, s.r_und, getObj, Sem.run, g2, this]
      · cases hn
    · cases hn
  · rename_i m e hk
    have hd := tk_arr (s.k ▸ hk); subst hd
    simp only [Option.some.injEq] at hn; subst hn
    simp [Builtin.len_, ha, s.r_und]
  · rename_i a hk
    have hd := tk_ptr (s.k ▸ hk); subst hd
    split at hn
    · rename_i ta hta
      obtain ⟨i', d', s'⟩ := hty.get hta
      split at hn
      · rename_i m e hk'
        have hd := tk_arr (s'.k ▸ hk'); subst hd
        simp only [Option.some.injEq] at hn; subst hn
        simp [Builtin.len_, ha, s.r_und, s'.r_und]
      · cases hn
    · cases hn
  · cases hn

theorem q_builtin {c : Call} (ho : o.op = .call c) (hq : qop ty ρ h (.call c) = some v) : QOk P ι h w R o v := by
  simp only [qop] at hq
  split at hq
  · rename_i b hc
    split at hq
    · rename_i a ha
      obtain ⟨x, hx, hr⟩ := one_arg hty he rep ha
      have hargs := arr_one hty he rep hx
      split at hq
      · split at hq
        · rename_i t hat
          split at hq
          · rename_i ti ht
            split at hq
            · rename_i n hn
              simp only [Option.some.injEq] at hq; subst hq
              exact bi_one hty he rep (V := goInt n) ho hc hargs (by simp [builtin, len_sound hty he rep (k := ti.k) ht hr hn _ hat]) rfl
            · cases hq
          · cases hq
        · cases hq
      · split at hq
        · rename_i t hat
          split at hq
          · rename_i ti ht
            obtain ⟨i, d, s⟩ := hty.get ht
            split at hq
            · rename_i e hk
              have hd := tk_sl (s.k ▸ hk); subst hd
              simp only [Option.some.injEq] at hq; subst hq
              have hr' : R x = .slice none 0 0 := hr
              exact bi_one hty he rep (V := goInt 0) ho hc hargs (by simp [builtin, Builtin.cap_, hat, s.r_und, hr']) rfl
            · rename_i e b' o' len cap z hk
              have hd := tk_sl (s.k ▸ hk); subst hd
              simp only [Option.some.injEq] at hq; subst hq
              obtain ⟨cb, N, oo, cc, h1, h2, h3, h4, h5⟩ := hr
              have := (h4 rfl).2
              subst this
              exact bi_one hty he rep (V := goInt cc) ho hc hargs (by simp [builtin, Builtin.cap_, hat, s.r_und, h2]) rfl
            · cases hq
          · cases hq
        · cases hq
      · split at hq
        · rename_i a b
          simp only [Option.some.injEq] at hq; subst hq
          have hr' : R x = .complex .f64 a b := hr
          exact bi_one hty he rep (V := .float .f64 a) ho hc hargs (by rw [hr']; rfl) rfl
        · cases hq
      · split at hq
        · rename_i a b
          simp only [Option.some.injEq] at hq; subst hq
          have hr' : R x = .complex .f64 a b := hr
          exact bi_one hty he rep (V := .float .f64 b) ho hc hargs (by rw [hr']; rfl) rfl
        · cases hq
      · cases hq
    · rename_i a1 a2 ha
      obtain ⟨x, y, hx, hr1, hr2⟩ := two_args hty he rep ha
      have hargs := arr_two hty he rep hx
      split at hq
      · split at hq
        · rename_i a b
          simp only [Option.some.injEq] at hq; subst hq
          have h1 : R x = .float .f64 a := hr1
          have h2 : R y = .float .f64 b := hr2
          exact bi_two hty he rep (V := .complex .f64 a b) ho hc hargs (by rw [h1, h2]; rfl) rfl
        · cases hq
      · split at hq
        · rename_i k a k' b
          simp only [Option.some.injEq] at hq; subst hq
          have h1 : R x = .int k a := hr1
          have h2 : R y = .int k' b := hr2
          refine bi_two hty he rep (V := .int k (if b < a then b else a)) ho hc hargs (by simp [builtin, Builtin.min_, Builtin.min2, h1, h2]) ?_
          show Value.int k _ = Value.int k _
          rw [ilt_eq]
          by_cases hlt : b < a <;> simp [hlt]
        · cases hq
      · split at hq
        · rename_i k a k' b
          simp only [Option.some.injEq] at hq; subst hq
          have h1 : R x = .int k a := hr1
          have h2 : R y = .int k' b := hr2
          refine bi_two hty he rep (V := .int k (if a < b then b else a)) ho hc hargs (by simp [builtin, Builtin.max_, Builtin.max2, h1, h2]) ?_
          show Value.int k _ = Value.int k _
          rw [ilt_eq]
          by_cases hlt : a < b <;> simp [hlt]
        · cases hq
      · cases hq
    · cases hq
  · cases hq

theorem qop_sound (hq : qop ty ρ h o.op = some v) : QOk P ι h w R o v := by
  cases ho : o.op <;> rw [ho] at hq
  case move x => exact q_move hty he rep ho hq
  case assign x => exact q_assign hty he rep ho hq
  case pick c a b => exact q_pick hty he rep ho hq
  case nilCheck x => exact q_nilCheck hty he rep ho hq
  case binOp => exact q_bin hty he rep ho hq
  case unOp => exact q_un hty he rep ho hq
  case convert => exact q_convert hty he rep ho hq
  case fieldAddr => exact q_fieldAddr hty he rep ho hq
  case field => exact q_field hty he rep ho hq
  case indexAddr => exact q_indexAddr hty he rep ho hq
  case index => exact q_index hty he rep ho hq
  case extract => exact q_extract hty he rep ho hq
  case build => exact q_build hty he rep ho hq
  case load => exact q_load hty he rep ho hq
  case makeFunc => exact q_makeFunc hty he rep ho hq
  case slice => exact q_slice hty he rep ho hq
  case lookup => exact q_lookup hty he rep ho hq
  case entry => exact q_entry hty he rep ho hq
  case call => exact q_builtin hty he rep ho hq
  all_goals (simp only [qop] at hq; cases hq)

end
end Go.Proofs.YtmjogmpgamlhaaaGreat.Dm
