/- The quiet operations: entries, builtins; all of them together. -/
import Derived.Test.YtafkkicnfngpoaaGreatDmQ5
set_option linter.unusedVariables false
set_option linter.unusedSimpArgs false
set_option linter.unusedSectionVars false
namespace Go.Proofs.YtafkkicnfngpoaaGreat.Dm
open Go

theorem MRs.find {ι : Io} {stamp : Nat} {e : ME} : ∀ {l : List ME} {r : List MapEntry}, MRs ι l r → (l.find? fun e => Nat.beq e.born stamp) = some e → ∃ c, (r.find? fun c => c.born == stamp) = some c ∧ MR ι e c
  | [], [], _, h => by simp at h
  | [], _ :: _, h, _ => h.elim
  | _ :: _, [], h, _ => h.elim
  | x :: l, v :: r, ⟨a, b⟩, h => by
    simp only [List.find?_cons] at h ⊢
    cases hb : Nat.beq x.born stamp with
    | true =>
      rw [hb] at h; simp only [Option.some.injEq] at h; subst h
      have : (v.born == stamp) = true := by rw [a.2.2]; exact beq_iff_eq.2 (Nat.eq_of_beq_eq_true hb)
      rw [this]; exact ⟨v, rfl, a⟩
    | false =>
      rw [hb] at h
      have : (v.born == stamp) = false := by rw [a.2.2]; exact beq_false_of_ne (Nat.ne_of_beq_eq_false hb)
      rw [this]; exact MRs.find b h

section
variable {P : Program} {ty : Ty} (hty : TyOk P ty) {ι : Io} {ρ : Env} {R : Operand → Value} (he : ER ι ρ R) {w : World} {h : Heap} (rep : Rep ι w h) {o : Oper} {v : AV}
include hty he rep

theorem q_entry {x : Operand} (ho : o.op = .entry x) (hq : qop ty ρ h (.entry x) = some v) : QOk P ι h w R o v := by
  simp only [qop] at hq
  split at hq
  · rename_i b hx
    obtain ⟨cb, N, h1, h2⟩ := evS_rel he hx
    split at hq
    · rename_i m since seen st hg
      obtain ⟨cb', N', g1, m', g2, g3⟩ := rep.obj b _ hg
      rw [h1] at g1; simp only [Option.some.injEq, Prod.mk.injEq] at g1
      obtain ⟨rfl, rfl⟩ := g1
      cases m' with
      | none => exact g3.elim
      | some c =>
        obtain ⟨M, g3⟩ := g3
        split at hq
        · rename_i stamp hs
          split at hq
          · rename_i es ck hm
            obtain ⟨c', M', k1, ces, k2, k3⟩ := rep.obj m _ hm
            rw [g3] at k1; simp only [Option.some.injEq, Prod.mk.injEq] at k1
            obtain ⟨rfl, rfl⟩ := k1
            cases hc : Nat.beq ck st with
            | false => rw [hc] at hq; cases hq
            | true =>
              rw [hc] at hq; simp only [cnd_true] at hq
              obtain rfl : ck = st := Nat.eq_of_beq_eq_true hc
              split at hq
              · rename_i e hf
                simp only [Option.some.injEq] at hq; subst hq
                obtain ⟨c2, f1, f2⟩ := k3.find hf
                have f1' : ces.find? (fun c => c.born == stamp) = some c2 := by rw [← Array.find?_toList]; exact f1
                have hs' : seen.toArray.back? = some stamp := by simpa using hs
                refine .of (V := .tuple #[c2.key, c2.val]) ?_ ⟨_, rfl, f2.1, f2.2.1, trivial⟩
                simp [execOp, ho, Instr.entry, h2, getObj, Sem.run, g2, hs', k2, f1']
              · cases hq
          · cases hq
        · cases hq
    · cases hq
  · cases hq

theorem one_arg {xs : List Operand} {a : AV} (h : evList ρ xs = some [a]) : ∃ x, xs = [x] ∧ AVR ι a (R x) := by
  have := evList_rel he h
  match xs, this with
  | [x], ⟨h1, _⟩ => exact ⟨x, rfl, h1⟩
theorem two_args {xs : List Operand} {a b : AV} (h : evList ρ xs = some [a, b]) : ∃ x y, xs = [x, y] ∧ AVR ι a (R x) ∧ AVR ι b (R y) := by
  have := evList_rel he h
  match xs, this with
  | [x, y], ⟨h1, h2, _⟩ => exact ⟨x, y, rfl, h1, h2⟩

theorem arr_one {α : Type} {a : Array α} {x : α} (h : a.toList = [x]) : a = #[x] := by cases a; simp at h; simp [h]
theorem arr_two {α : Type} {a : Array α} {x y : α} (h : a.toList = [x, y]) : a = #[x, y] := by cases a; simp at h; simp [h]

end

section
variable {P : Program} {ty : Ty} (hty : TyOk P ty) {ι : Io} {ρ : Env} {R : Operand → Value} (he : ER ι ρ R) {w : World} {h : Heap} (rep : Rep ι w h) {o : Oper} {v : AV}
include hty he rep

/-- A call of a builtin of one argument. -/
theorem bi_one {c : Call} {b : Builtin} {x : Operand} {V : Value} (ho : o.op = .call c) (hc : c.callee = .builtin b) (ha : c.args = #[x])
    (hr : (builtin b c.argTypes o.type (c.args.map fun | .const _ => true | _ => false) #[R x]).run P w = .ok (.value V) w) (hv : AVR ι v V) : QOk P ι h w R o v := by
  refine .of (V := V) ?_ hv
  simp only [execOp, ho, resolve, hc, ha, Sem.run_bind, Sem.run_pure, Result.andThen_ok, invoke, List.map_toArray, List.map_cons, List.map_nil] at hr ⊢
  exact hr
theorem bi_two {c : Call} {b : Builtin} {x y : Operand} {V : Value} (ho : o.op = .call c) (hc : c.callee = .builtin b) (ha : c.args = #[x, y])
    (hr : (builtin b c.argTypes o.type (c.args.map fun | .const _ => true | _ => false) #[R x, R y]).run P w = .ok (.value V) w) (hv : AVR ι v V) : QOk P ι h w R o v := by
  refine .of (V := V) ?_ hv
  simp only [execOp, ho, resolve, hc, ha, Sem.run_bind, Sem.run_pure, Result.andThen_ok, invoke, List.map_toArray, List.map_cons, List.map_nil] at hr ⊢
  exact hr

theorem len_sound {k : TK} {t : TypeId} {ti : TI} {x : AV} {n : Nat} {V : Value} (ht : ty t = some ti) (hx : AVR ι x V) (hn : lenA ty h ti.k x = some n) (as : Array TypeId) (ha : as[0]? = some t) (q : TypeId) :
    (Builtin.len_ as q #[V]).run P w = .ok (goInt n) w := by
  obtain ⟨i, d, s⟩ := hty.get ht
  unfold lenA at hn
  split at hn
  · rename_i hk
    have hd := tk_str (s.k ▸ hk); subst hd
    split at hn
    · simp only [Option.some.injEq] at hn; subst hn
      obtain ⟨s', rfl, h2⟩ := hx
      simp [Builtin.len_, ha, s.r_und, str_len h2]
    · cases hn
  · rename_i e hk
    have hd := tk_sl (s.k ▸ hk); subst hd
    split at hn
    · simp only [Option.some.injEq] at hn; subst hn
      have hx' : V = .slice none 0 0 := hx
      subst hx'
      simp [Builtin.len_, ha, s.r_und]
    · simp only [Option.some.injEq] at hn; subst hn
      obtain ⟨_, _, _, _, _, rfl, _⟩ := hx
      simp [Builtin.len_, ha, s.r_und]
    · cases hn
  · rename_i kt e hk
    have hd := tk_map (s.k ▸ hk); subst hd
    split at hn
    · simp only [Option.some.injEq] at hn; subst hn
      have hx' : V = .map none := hx
      subst hx'
      simp [Builtin.len_, ha, s.r_und]
    · rename_i r
      obtain ⟨cb, N, h1, rfl⟩ := hx
      split at hn
      · rename_i es ck hg
        simp only [Option.some.injEq] at hn; subst hn
        obtain ⟨cb', N', g1, ces, g2, g3⟩ := rep.obj r _ hg
        rw [h1] at g1; simp only [Option.some.injEq, Prod.mk.injEq] at g1
        obtain ⟨rfl, rfl⟩ := g1
        have := g3.length
        simp only [Array.length_toList] at this
        simp [Builtin.len_, ha, s.r_und, getObj, Sem.run, g2, this]
      · cases hn
    · cases hn
  · rename_i m e hk
    have hd := tk_arr (s.k ▸ hk); subst hd
    simp only [Option.some.injEq] at hn; subst hn
    simp [Builtin.len_, ha, s.r_und]
  · rename_i a hk
    have hd := tk_ptr (s.k ▸ hk); subst hd
    split at hn
    · rename_i ta hta
      obtain ⟨i', d', s'⟩ := hty.get hta
      split at hn
      · rename_i m e hk'
        have hd := tk_arr (s'.k ▸ hk'); subst hd
        simp only [Option.some.injEq] at hn; subst hn
        simp [Builtin.len_, ha, s.r_und, s'.r_und]
      · cases hn
    · cases hn
  · cases hn

theorem q_builtin {c : Call} (ho : o.op = .call c) (hq : qop ty ρ h (.call c) = some v) : QOk P ι h w R o v := by
  simp only [qop] at hq
  split at hq
  · rename_i b hc
    split at hq
    · rename_i a ha
      obtain ⟨x, hx, hr⟩ := one_arg hty he rep ha
      have hargs := arr_one hty he rep hx
      split at hq
      · split at hq
        · rename_i t hat
          split at hq
          · rename_i ti ht
            split at hq
            · rename_i n hn
              simp only [Option.some.injEq] at hq; subst hq
              exact bi_one hty he rep (V := goInt n) ho hc hargs (by simp [builtin, len_sound hty he rep (k := ti.k) ht hr hn _ hat]) rfl
            · cases hq
          · cases hq
        · cases hq
      · split at hq
        · rename_i t hat
          split at hq
          · rename_i ti ht
            obtain ⟨i, d, s⟩ := hty.get ht
            split at hq
            · rename_i e hk
              have hd := tk_sl (s.k ▸ hk); subst hd
              simp only [Option.some.injEq] at hq; subst hq
              have hr' : R x = .slice none 0 0 := hr
              exact bi_one hty he rep (V := goInt 0) ho hc hargs (by simp [builtin, Builtin.cap_, hat, s.r_und, hr']) rfl
            · rename_i e b' o' len cap z hk
              have hd := tk_sl (s.k ▸ hk); subst hd
              simp only [Option.some.injEq] at hq; subst hq
              obtain ⟨cb, N, oo, cc, h1, h2, h3, h4, h5⟩ := hr
              have := (h4 rfl).2
              subst this
              exact bi_one hty he rep (V := goInt cc) ho hc hargs (by simp [builtin, Builtin.cap_, hat, s.r_und, h2]) rfl
            · cases hq
          · cases hq
        · cases hq
      · split at hq
        · rename_i a b
          simp only [Option.some.injEq] at hq; subst hq
          have hr' : R x = .complex .f64 a b := hr
          exact bi_one hty he rep (V := .float .f64 a) ho hc hargs (by rw [hr']; rfl) rfl
        · cases hq
      · split at hq
        · rename_i a b
          simp only [Option.some.injEq] at hq; subst hq
          have hr' : R x = .complex .f64 a b := hr
          exact bi_one hty he rep (V := .float .f64 b) ho hc hargs (by rw [hr']; rfl) rfl
        · cases hq
      · cases hq
    · rename_i a1 a2 ha
      obtain ⟨x, y, hx, hr1, hr2⟩ := two_args hty he rep ha
      have hargs := arr_two hty he rep hx
      split at hq
      · split at hq
        · rename_i a b
          simp only [Option.some.injEq] at hq; subst hq
          have h1 : R x = .float .f64 a := hr1
          have h2 : R y = .float .f64 b := hr2
          exact bi_two hty he rep (V := .complex .f64 a b) ho hc hargs (by rw [h1, h2]; rfl) rfl
        · cases hq
      · split at hq
        · rename_i k a k' b
          simp only [Option.some.injEq] at hq; subst hq
          have h1 : R x = .int k a := hr1
          have h2 : R y = .int k' b := hr2
          refine bi_two hty he rep (V := .int k (if b < a then b else a)) ho hc hargs (by simp [builtin, Builtin.min_, Builtin.min2, h1, h2]) ?_
          show Value.int k _ = Value.int k _
          rw [ilt_eq]
          by_cases hlt : b < a <;> simp [hlt]
        · cases hq
      · split at hq
        · rename_i k a k' b
          simp only [Option.some.injEq] at hq; subst hq
          have h1 : R x = .int k a := hr1
          have h2 : R y = .int k' b := hr2
          refine bi_two hty he rep (V := .int k (if a < b then b else a)) ho hc hargs (by simp [builtin, Builtin.max_, Builtin.max2, h1, h2]) ?_
          show Value.int k _ = Value.int k _
          rw [ilt_eq]
          by_cases hlt : a < b <;> simp [hlt]
        · cases hq
      · cases hq
    · cases hq
  · cases hq

theorem qop_sound (hq : qop ty ρ h o.op = some v) : QOk P ι h w R o v := by
  cases ho : o.op <;> rw [ho] at hq
  case move x => exact q_move hty he rep ho hq
  case assign x => exact q_assign hty he rep ho hq
  case pick c a b => exact q_pick hty he rep ho hq
  case nilCheck x => exact q_nilCheck hty he rep ho hq
  case binOp => exact q_bin hty he rep ho hq
  case unOp => exact q_un hty he rep ho hq
  case convert => exact q_convert hty he rep ho hq
  case fieldAddr => exact q_fieldAddr hty he rep ho hq
  case field => exact q_field hty he rep ho hq
  case indexAddr => exact q_indexAddr hty he rep ho hq
  case index => exact q_index hty he rep ho hq
  case extract => exact q_extract hty he rep ho hq
  case build => exact q_build hty he rep ho hq
  case load => exact q_load hty he rep ho hq
  case makeFunc => exact q_makeFunc hty he rep ho hq
  case slice => exact q_slice hty he rep ho hq
  case lookup => exact q_lookup hty he rep ho hq
  case entry => exact q_entry hty he rep ho hq
  case call => exact q_builtin hty he rep ho hq
  all_goals (simp only [qop] at hq; cases hq)

end
end Go.Proofs.YtafkkicnfngpoaaGreat.Dm
