/- The quiet operations, one by one (fifth part): maps, lengths. -/
import Derived.Test.YtafkkicnfngpoaaGreatDmQ4
set_option linter.unusedVariables false
set_option linter.unusedSimpArgs false
set_option linter.unusedSectionVars false
namespace Go.Proofs.YtafkkicnfngpoaaGreat.Dm
open Go

theorem MRs.get : ∀ {ι : Io} {l : List ME} {r : List MapEntry} {i : Nat} {x : ME}, MRs ι l r → l[i]? = some x → ∃ v, r[i]? = some v ∧ MR ι x v
  | _, [], [], _, _, _, h => by simp at h
  | _, [], _ :: _, _, _, h, _ => h.elim
  | _, _ :: _, [], _, _, h, _ => h.elim
  | _, _ :: _, v :: _, 0, _, ⟨a, _⟩, h => by simp at h; subst h; exact ⟨v, rfl, a⟩
  | _, _ :: _, _ :: _, i + 1, _, ⟨_, b⟩, h => by simp at h; simpa using MRs.get b h

theorem MRs.length : ∀ {ι : Io} {l : List ME} {r : List MapEntry}, MRs ι l r → l.length = r.length
  | _, [], [], _ => rfl
  | _, [], _ :: _, h => h.elim
  | _, _ :: _, [], h => h.elim
  | _, _ :: _, _ :: _, ⟨_, b⟩ => by simp [MRs.length b]

/-- Where the model finds a key, as against where it stands. -/
noncomputable def Fnd (ces : List MapEntry) (i : Nat) (r : Option Nat) (r' : Option (Nat × Value)) : Prop :=
  match r, r' with
  | none, none => True
  | some j, some (j', v) => j' = j ∧ i ≤ j ∧ ∃ c, ces[j - i]? = some c ∧ v = c.val
  | _, _ => False

theorem Fnd.cons {ces : List MapEntry} {c : MapEntry} {i : Nat} {r : Option Nat} {r' : Option (Nat × Value)} (h : Fnd ces (i + 1) r r') : Fnd (c :: ces) i r r' := by
  unfold Fnd at *
  cases r with
  | none => cases r' <;> simp_all
  | some j =>
    cases r' with
    | none => exact h.elim
    | some q =>
      obtain ⟨j', v⟩ := q
      obtain ⟨a, b, c', d, e⟩ := h
      exact ⟨a, by omega, c', by rw [show j - i = (j - (i + 1)) + 1 by omega]; simpa using d, e⟩

theorem same_now {ι : Io} {d : TypeDesc} {x y : CV} {V W : Value} {b : Bool} {ty : Ty} {P : Program} {t : TypeId} (hty : TyOk P ty) (hd : P.underlying t = some d)
    (hx : CVR ι x V) (hy : CVR ι y W) (h : ceq ty t x y = some b) : Instr.sameNow d V W = some b ∨ Instr.sameNow d V W = none := by
  unfold ceq at h
  simp only [eqT] at h
  cases ht : ty t with
  | none => rw [ht] at h; cases h
  | some ti =>
    rw [ht] at h; simp only [] at h
    obtain ⟨i, d', s⟩ := hty.get ht
    have : d' = d := by have := s.und; rw [hd] at this; exact (Option.some.inj this).symm
    subst this
    cases x with
    | ag l =>
      obtain ⟨a, rfl, _⟩ := hx
      right
      cases d' <;> rfl
    | sc a =>
      cases y with
      | ag l => simp at h
      | sc c =>
        simp only [] at h
        rw [s.k] at h
        cases hk : d' <;> first | (right; rfl) | skip
        case bool =>
          subst hk
          cases a <;> cases c <;> simp only [eqS, tkOf, reduceCtorEq, Option.some.injEq] at h
          have hx' : V = _ := hx; have hy' : W = _ := hy
          subst hx'; subst hy'; subst h
          left; simp [Instr.sameNow, beqB_eq]
        case int k =>
          subst hk
          cases a <;> cases c <;> simp only [eqS, tkOf, reduceCtorEq] at h
          · rename_i k1 n1 k2 n2
            have hx' : V = _ := hx; have hy' : W = _ := hy
            subst hx'; subst hy'
            cases hkk : keq k1 k2 with
            | false => rw [hkk] at h; cases h
            | true =>
              rw [hkk] at h; simp only [cnd_true, Option.some.injEq] at h; subst h
              left; simp [Instr.sameNow, keq_iff.1 hkk, ieq_eq]
          · rename_i k1 lo hi i1 k2 lo' hi' i2
            obtain ⟨c, N, hc, rfl, _⟩ := (show VR ι (.at k1 lo hi i1) V from hx)
            obtain ⟨c', N', hc', rfl, _⟩ := (show VR ι (.at k2 lo' hi' i2) W from hy)
            cases hkk : (keq k1 k2 && Nat.beq i1 i2) with
            | false => rw [hkk] at h; cases h
            | true =>
              rw [hkk] at h; simp only [cnd_true, Option.some.injEq] at h; subst h
              simp only [Bool.and_eq_true] at hkk
              obtain rfl := keq_iff.1 hkk.1
              obtain rfl := Nat.eq_of_beq_eq_true hkk.2
              rw [hc] at hc'
              simp only [Option.some.injEq, Prod.mk.injEq] at hc'
              obtain ⟨rfl, rfl⟩ := hc'
              left; simp [Instr.sameNow]
        case string =>
          subst hk
          cases a <;> cases c <;> simp only [eqS, tkOf, reduceCtorEq, Option.some.injEq] at h
          obtain ⟨s1, rfl, e1⟩ := hx; obtain ⟨s2, rfl, e2⟩ := hy
          subst h
          left; simp [Instr.sameNow, str_beq e1 e2]

section
variable {P : Program} {ty : Ty} (hty : TyOk P ty) {ι : Io} {w : World}
include hty

theorem asking_sound {t : TypeId} {kv : CV} {K : Value} (hk : CVR ι kv K) : ∀ {es : List ME} {ces : List MapEntry} {i : Nat} {r : Option Nat},
    MRs ι es ces → placeA ty t kv i es = some r → ∃ r', (Instr.findAsking t K ces i).run P w = .ok r' w ∧ Fnd ces i r r'
  | [], [], i, r, _, h => by simp only [placeA, Option.some.injEq] at h; subst h; exact ⟨none, by simp [Instr.findAsking], trivial⟩
  | [], _ :: _, _, _, h, _ => h.elim
  | _ :: _, [], _, _, h, _ => h.elim
  | e :: es, c :: ces, i, r, ⟨⟨h1, h2, h3⟩, hr⟩, h => by
    simp only [placeA] at h
    split at h
    · rename_i he
      have heq : (Op.equal t K c.key).run P w = .ok true w := eqT_sound hty 12 t kv e.key K c.key true 10000 w hk h1 he (by omega)
      simp only [Option.some.injEq] at h; subst h
      exact ⟨some (i, c.val), by simp [Instr.findAsking, heq], rfl, Nat.le_refl _, c, by simp, rfl⟩
    · rename_i he
      have heq : (Op.equal t K c.key).run P w = .ok false w := eqT_sound hty 12 t kv e.key K c.key false 10000 w hk h1 he (by omega)
      obtain ⟨r', f1, f2⟩ := asking_sound hk hr h
      exact ⟨r', by simp [Instr.findAsking, heq, f1], f2.cons⟩
    · cases h

theorem now_sound {t : TypeId} {d : TypeDesc} (hd : P.underlying t = some d) {kv : CV} {K : Value} (hk : CVR ι kv K) : ∀ {es : List ME} {ces : List MapEntry} {i : Nat} {r : Option Nat} {r' : Option (Nat × Value)},
    MRs ι es ces → placeA ty t kv i es = some r → Instr.findNow d K ces i = some r' → Fnd ces i r r'
  | [], [], i, r, r', _, h, h' => by simp only [placeA, Option.some.injEq] at h; subst h; simp only [Instr.findNow, Option.some.injEq] at h'; subst h'; trivial
  | [], _ :: _, _, _, _, h, _, _ => h.elim
  | _ :: _, [], _, _, _, h, _, _ => h.elim
  | e :: es, c :: ces, i, r, r', ⟨⟨h1, h2, h3⟩, hr⟩, h, h' => by
    simp only [placeA] at h
    simp only [Instr.findNow] at h'
    split at h
    · rename_i he
      simp only [Option.some.injEq] at h; subst h
      rcases same_now hty hd hk h1 he with hs | hs
      · rw [hs] at h'; simp only [Option.some.injEq] at h'; subst h'
        exact ⟨rfl, Nat.le_refl _, c, by simp, rfl⟩
      · rw [hs] at h'; cases h'
    · rename_i he
      rcases same_now hty hd hk h1 he with hs | hs
      · rw [hs] at h'
        exact (now_sound hd hk hr h h').cons
      · rw [hs] at h'; cases h'
    · cases h

theorem find_sound {t : TypeId} {d : TypeDesc} (hd : P.underlying t = some d) {kv : CV} {K : Value} (hk : CVR ι kv K) {es : List ME} {ces : List MapEntry} {r : Option Nat}
    (hr : MRs ι es ces) (h : placeA ty t kv 0 es = some r) : ∃ r', (Instr.findKey t K ces).run P w = .ok r' w ∧ Fnd ces 0 r r' := by
  unfold Instr.findKey
  have hu : (underlying t).run P w = .ok d w := by simp [underlying, hd]
  cases hn : Instr.findNow d K ces 0 with
  | some r' => exact ⟨r', by simp [hu, hn], now_sound hty hd hk hr h hn⟩
  | none =>
    obtain ⟨r', f1, f2⟩ := asking_sound hty hk hr h (w := w)
    exact ⟨r', by simp [hu, hn, f1], f2⟩

noncomputable def KeyOk (P : Program) (ι : Io) (n : Nat) (ok : TypeId → CV → Bool) : Prop :=
  ∀ t x V m b w, CVR ι x V → ok t x = true → n ≤ m → (Instr.checkKey b m t V).run P w = .ok () w

theorem keyFs_sound {n m : Nat} {ok : TypeId → CV → Bool} (hok : KeyOk P ι n ok) (hm : n ≤ m) {l : List SV} {a : Array Value} (ha : Rs ι l a.toList) (b : Bool) : ∀ (fs : List Field),
    keyFs ty ok l (fs.map fun f => (f.offset, f.type, f.name != "_")) = true →
    (forIn (m := Sem) fs PUnit.unit (fun (f : Field) (s : PUnit) => if f.name ≠ "_" then do
        let x ← part f.type a f.offset
        Instr.checkKey b m f.type x
        pure (ForInStep.yield PUnit.unit)
      else pure (ForInStep.yield PUnit.unit))).run P w = .ok PUnit.unit w
  | [], h => by simp
  | f :: fs, h => by
    simp only [List.map_cons, keyFs] at h
    rw [List.forIn_cons, Sem.run_bind]
    cases hn : (f.name != "_") with
    | false =>
      rw [hn] at h; simp only [cnd_false] at h
      have hn' : f.name = "_" := by simpa using hn
      rw [if_neg (by simp [hn'])]
      simp only [Sem.run_pure, Result.andThen_ok]
      exact keyFs_sound hok hm ha b fs h
    | true =>
      rw [hn] at h; simp only [cnd_true] at h
      have hn' : f.name ≠ "_" := by simpa using hn
      rw [if_pos hn']
      split at h
      · rename_i x hx
        rw [Bool.and_eq_true] at h
        obtain ⟨V, e1, e2⟩ := part_sound hty w ha hx
        have e3 := hok f.type x V m b w e2 h.1 hm
        simp only [Sem.run_bind, e1, e3, Result.andThen_ok, Sem.run_pure]
        exact keyFs_sound hok hm ha b fs h.2
      · cases h

theorem keyV_sound : ∀ n, KeyOk P ι n (keyV ty n)
  | 0 => by intro t x V m b w _ h; simp [keyV] at h
  | n + 1 => by
    intro t x V m b w hx h hm
    obtain ⟨m, rfl⟩ : ∃ k, m = k + 1 := ⟨m - 1, by omega⟩
    simp only [keyV] at h
    split at h
    · rename_i ti ht
      obtain ⟨i, d, s⟩ := hty.get ht
      split at h
      · rename_i hk; have := tk_bool (s.k ▸ hk); subst this; simp [Instr.checkKey, s.r_und]
      · rename_i hk; have := tk_int (s.k ▸ hk); subst this; simp [Instr.checkKey, s.r_und]
      · rename_i hk; have := tk_f64 (s.k ▸ hk); subst this; simp [Instr.checkKey, s.r_und]
      · rename_i hk; have := tk_c128 (s.k ▸ hk); subst this; simp [Instr.checkKey, s.r_und]
      · rename_i hk; have := tk_str (s.k ▸ hk); subst this; simp [Instr.checkKey, s.r_und]
      · rename_i fs l hk
        obtain ⟨a, rfl, ea⟩ := tk_st (s.k ▸ hk)
        obtain ⟨c, rfl, hc⟩ := hx
        subst ea
        have key := keyFs_sound hty (keyV_sound n) (show n ≤ m by omega) hc b a.toList h (w := w)
        simp only [Instr.checkKey, Sem.run_bind, s.r_und, Result.andThen_ok]
        rw [← Array.forIn_toList]
        erw [key]
        rfl
      · cases h
    · cases h
end

section
variable {P : Program} {ty : Ty} (hty : TyOk P ty) {ι : Io} {ρ : Env} {R : Operand → Value} (he : ER ι ρ R) {w : World} {h : Heap} (rep : Rep ι w h) {o : Oper} {v : AV}
include hty he rep

theorem q_lookup {t : TypeId} {x k : Operand} {ok : Bool} (ho : o.op = .lookup t x k ok) (hq : qop ty ρ h (.lookup t x k ok) = some v) : QOk P ι h w R o v := by
  simp only [qop] at hq
  split at hq
  · rename_i ti ht
    obtain ⟨i, d, si⟩ := hty.get ht
    split at hq
    · rename_i kt et hk
      have hd := tk_map (si.k ▸ hk); subst hd
      split at hq
      · rename_i kv te hkv hte
        obtain ⟨ie, de, se⟩ := hty.get hte
        cases hkey : keyV ty 12 kt kv with
        | false => rw [hkey] at hq; cases hq
        | true =>
          rw [hkey] at hq; simp only [cnd_true] at hq
          have hK := evC_rel he hkv
          split at hq
          · rename_i es hes
            have hmap : ∃ ces : Array MapEntry, ((R x = .map none ∧ ces = #[]) ∨ (∃ cb ck, R x = .map (some cb) ∧ w.heap[cb]? = some (.map ces ck))) ∧ MRs ι es ces.toList := by
              split at hes
              · rename_i hx
                have hr : R x = .map none := evS_rel he hx
                simp only [Option.some.injEq] at hes; subst hes
                exact ⟨#[], .inl ⟨hr, rfl⟩, trivial⟩
              · rename_i r hx
                obtain ⟨cb, N, h1, h2⟩ := evS_rel he hx
                split at hes
                · rename_i es' ck hg
                  simp only [Option.some.injEq] at hes; subst hes
                  obtain ⟨cb', N', g1, ces, g2, g3⟩ := rep.obj r _ hg
                  rw [h1] at g1; simp only [Option.some.injEq, Prod.mk.injEq] at g1
                  obtain ⟨rfl, rfl⟩ := g1
                  exact ⟨ces, .inr ⟨cb, ck, h2, g2⟩, g3⟩
                · cases hes
              · cases hes
            obtain ⟨ces, m1, m2⟩ := hmap
            have hck := keyV_sound hty 12 kt kv (R k) 10000 ces.isEmpty w hK hkey (by omega)
            split at hq
            · rename_i j hpl
              obtain ⟨ik, dk, sk⟩ : ∃ i d, P.underlying kt = some d ∧ True ∧ i = 0 := by
                simp only [keyV] at hkey
                split at hkey
                · rename_i tk htk
                  obtain ⟨i, d, s⟩ := hty.get htk
                  exact ⟨0, d, s.und, trivial, rfl⟩
                · cases hkey
              obtain ⟨r', f1, f2⟩ := find_sound hty sk.1 hK m2 hpl (w := w)
              split at hq
              · rename_i e hej
                cases r' with
                | none => exact f2.elim
                | some q =>
                  obtain ⟨j', vv⟩ := q
                  obtain ⟨_, _, c, c1, c2⟩ := f2
                  obtain ⟨c', d1, d2, d3, d4⟩ := m2.get hej
                  simp only [Nat.sub_zero] at c1
                  rw [c1] at d1; simp only [Option.some.injEq] at d1; subst d1
                  cases ok with
                  | true =>
                    simp only [cnd_true, Option.some.injEq] at hq; subst hq
                    refine .of (V := .tuple #[vv, .bool true]) ?_ ⟨_, rfl, by rw [c2]; exact d3, rfl, trivial⟩
                    rcases m1 with ⟨hr, hce⟩ | ⟨cb, ck, hr, hg⟩
                    · subst hce
                      have hck' : (Instr.checkKey true 10000 kt (R k)).run P w = .ok () w := hck
                      have f1' : (Instr.findKey kt (R k) []).run P w = .ok _ w := f1
                      simp [execOp, ho, Instr.lookup, si.r_und, hr, hck', f1']
                    · simp [execOp, ho, Instr.lookup, si.r_und, hr, getObj, Sem.run, hg, hck, f1]
                  | false =>
                    simp only [cnd_false, Option.some.injEq] at hq; subst hq
                    refine .of (V := vv) ?_ (by rw [c2]; exact d3)
                    rcases m1 with ⟨hr, hce⟩ | ⟨cb, ck, hr, hg⟩
                    · subst hce
                      have hck' : (Instr.checkKey true 10000 kt (R k)).run P w = .ok () w := hck
                      have f1' : (Instr.findKey kt (R k) []).run P w = .ok _ w := f1
                      simp [execOp, ho, Instr.lookup, si.r_und, hr, hck', f1']
                    · simp [execOp, ho, Instr.lookup, si.r_und, hr, getObj, Sem.run, hg, hck, f1]
              · cases hq
            · rename_i hpl
              obtain ⟨ik, dk, sk⟩ : ∃ i d, P.underlying kt = some d ∧ True ∧ i = 0 := by
                simp only [keyV] at hkey
                split at hkey
                · rename_i tk htk
                  obtain ⟨i, d, s⟩ := hty.get htk
                  exact ⟨0, d, s.und, trivial, rfl⟩
                · cases hkey
              obtain ⟨r', f1, f2⟩ := find_sound hty sk.1 hK m2 hpl (w := w)
              split at hq
              · rename_i z hz
                obtain ⟨zv, z1, z2⟩ := se.r_zero w hz
                cases r' with
                | some q => exact f2.elim
                | none =>
                  cases ok with
                  | true =>
                    simp only [cnd_true, Option.some.injEq] at hq; subst hq
                    refine .of (V := .tuple #[zv, .bool false]) ?_ ⟨_, rfl, cvOf_rel ι z2, rfl, trivial⟩
                    rcases m1 with ⟨hr, hce⟩ | ⟨cb, ck, hr, hg⟩
                    · subst hce
                      have hck' : (Instr.checkKey true 10000 kt (R k)).run P w = .ok () w := hck
                      have f1' : (Instr.findKey kt (R k) []).run P w = .ok _ w := f1
                      simp [execOp, ho, Instr.lookup, si.r_und, hr, hck', f1', z1]
                    · simp [execOp, ho, Instr.lookup, si.r_und, hr, getObj, Sem.run, hg, hck, f1, z1]
                  | false =>
                    simp only [cnd_false, Option.some.injEq] at hq; subst hq
                    refine .of (V := zv) ?_ (cvOf_rel ι z2)
                    rcases m1 with ⟨hr, hce⟩ | ⟨cb, ck, hr, hg⟩
                    · subst hce
                      have hck' : (Instr.checkKey true 10000 kt (R k)).run P w = .ok () w := hck
                      have f1' : (Instr.findKey kt (R k) []).run P w = .ok _ w := f1
                      simp [execOp, ho, Instr.lookup, si.r_und, hr, hck', f1', z1]
                    · simp [execOp, ho, Instr.lookup, si.r_und, hr, getObj, Sem.run, hg, hck, f1, z1]
              · cases hq
            · cases hq
          · cases hq
      · cases hq
    · cases hq
  · cases hq

end
end Go.Proofs.YtafkkicnfngpoaaGreat.Dm
