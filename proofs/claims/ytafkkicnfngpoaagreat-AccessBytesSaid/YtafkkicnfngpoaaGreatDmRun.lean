/- Running: operations, one behind the other. -/
import Derived.Test.YtafkkicnfngpoaaGreatDmEf
set_option linter.unusedVariables false
set_option linter.unusedSimpArgs false
set_option linter.unusedSectionVars false
namespace Go.Proofs.YtafkkicnfngpoaaGreat.Dm
open Go

noncomputable def FrR (ι : Io) (fr : Fr) (tmps : Array Value) : Prop :=
  tmps.size = fr.n ∧ ∀ t v, fr.t.get t = some v → ∃ V, tmps[t]? = some V ∧ AVR ι v V

theorem FrR.mono {ι ι' : Io} (hs : Sub ι ι') {fr : Fr} {tmps : Array Value} (h : FrR ι fr tmps) : FrR ι' fr tmps :=
  ⟨h.1, fun t v ht => let ⟨V, a, b⟩ := h.2 t v ht; ⟨V, a, AVR.mono hs b⟩⟩

theorem FrR.put {ι : Io} {fr fr' : Fr} {a : Act} {d : Nat} {v : AV} {V : Value} (h : FrR ι fr a.tmps) (hp : fr.put d v = some fr') (hv : AVR ι v V) : FrR ι fr' (a.put (some d) V).tmps := by
  rw [Fr.put_eq] at hp
  cases hb : Nat.blt d fr.n with
  | false => rw [hb] at hp; cases hp
  | true =>
    rw [hb] at hp; simp only [cnd_true, Option.some.injEq] at hp; subst hp
    have hlt : d < fr.n := Nat.le_of_ble_eq_true hb
    refine ⟨by simp [Act.put, h.1], fun t u ht => ?_⟩
    simp only [] at ht
    rw [Tr.get_put] at ht
    by_cases e : t = d
    · subst e
      rw [if_pos rfl] at ht; simp only [Option.some.injEq] at ht; subst ht
      exact ⟨V, by simp [Act.put, h.1, hlt], hv⟩
    · rw [if_neg e] at ht
      obtain ⟨U, h1, h2⟩ := h.2 t u ht
      exact ⟨U, by simp only [Act.put, Array.getElem?_setIfInBounds]; rw [if_neg (Ne.symm e)]; exact h1, h2⟩

theorem FrR.env {ι : Io} {fr : Fr} {a : Act} (h : FrR ι fr a.tmps) : ER ι fr.ev a.eval := by
  intro x v hx
  cases x with
  | tmp t =>
    obtain ⟨V, h1, h2⟩ := h.2 t v hx
    show AVR ι v (a.tmps.getD t undef)
    rw [Array.getD_eq_getD_getElem?, h1]; exact h2
  | const c =>
    simp only [Fr.ev, avOf] at hx
    split at hx
    · rename_i cv hc; simp only [Option.some.injEq] at hx; subst hx; exact cvOf_rel ι hc
    · cases hx
  | global g => cases hx
  | func f => simp only [Fr.ev, Option.some.injEq] at hx; subst hx; exact ⟨#[], #[], rfl, trivial, trivial⟩

theorem undef_rel (ι : Io) : AVR ι (.tu []) undef := ⟨#[], rfl, trivial⟩

theorem not_bool {ι : Io} {v : AV} {b : Bool} (h : AVR ι v (.bool b)) : v = .cv (.sc (.b b)) := by
  cases v with
  | tu l => obtain ⟨a, h, _⟩ := h; cases h
  | cv x =>
    cases x with
    | ag l => obtain ⟨a, h, _⟩ := h; cases h
    | sc x =>
      cases x <;> simp only [AVR, CVR, VR, reduceCtorEq] at h
      case b x => simp only [Value.bool.injEq] at h; rw [h]
      case s => obtain ⟨_, h, _⟩ := h; cases h
      case cl => obtain ⟨_, h, _⟩ := h; exact h.elim
      case un => obtain ⟨_, h⟩ := h; exact h.elim
      case hz => obtain ⟨_, _, _, _, _, _, h⟩ := h; exact h.elim
      case rg => obtain ⟨_, _, _, h, _⟩ := h; exact h.elim
      case gt => obtain ⟨_, _, _, _, _, h⟩ := h; exact h.elim
      case p => obtain ⟨_, _, _, h⟩ := h; cases h
      case sl => obtain ⟨_, _, _, _, _, h, _⟩ := h; cases h
      case m => obtain ⟨_, _, _, h⟩ := h; cases h
      case fn => obtain ⟨_, _, h, _⟩ := h; cases h
      case «at» => obtain ⟨_, _, _, h, _⟩ := h; cases h

theorem wanted_sound {ι : Io} {fr : Fr} {tmps : Array Value} (h : FrR ι fr tmps) {ops : Array Oper} {o : Oper} {b : Bool}
    (hw : wantedA fr (fun j => (ops.toList[j]?).bind (·.dst)) o.guard = some b) : Region.wanted o (yielded ops tmps) = b := by
  unfold wantedA at hw
  unfold Region.wanted
  cases hg : o.guard with
  | none => rw [hg] at hw; simp only [Option.some.injEq] at hw; exact hw
  | some q =>
    obtain ⟨j, want⟩ := q
    rw [hg] at hw; simp only [] at hw
    split at hw
    · rename_i d hd
      have hd' : (ops[j]?).bind (·.dst) = some d := by rw [← Array.getElem?_toList]; exact hd
      split at hw
      · rename_i x hx
        simp only [Option.some.injEq] at hw; subst hw
        obtain ⟨V, h1, h2⟩ := h.2 d _ hx
        have h2' : V = .bool x := h2
        subst h2'
        have hy : yielded ops tmps j = some x := by
          unfold yielded; rw [hd']; simp only [Option.bind_some, h1]
        simp only [hy, beqB_eq]; cases x <;> cases want <;> rfl
      · rename_i v hnb hv
        simp only [Option.some.injEq] at hw; subst hw
        obtain ⟨V, h1, h2⟩ := h.2 d v hv
        have hy : yielded ops tmps j = none := by
          unfold yielded; rw [hd']; simp only [Option.bind_some, h1]
          split
          · rename_i b' hb'
            simp only [Option.some.injEq] at hb'; subst hb'
            have := not_bool h2
            exact absurd this (hnb b')
          · rfl
        simp only [hy]; cases want <;> rfl
      · cases hw
    · cases hw

set_option maxHeartbeats 4000000 in
theorem eop_next {ty : Ty} {ρ : Env} {h h' : Heap} {op : Op} {v : AV} (hq : eop ty ρ h op = some (v, h')) : h.next ≤ h'.next := by
  unfold eop at hq
  simp only [cnd_eq_ite] at hq
  repeat' split at hq
  all_goals first
    | (cases hq; done)
    | (simp only [Option.some.injEq, Prod.mk.injEq] at hq; obtain ⟨_, rfl⟩ := hq; first | exact Nat.le_refl _ | exact Nat.le_succ _)

/-- A function that can be entered. -/
noncomputable def Enters (P : Program) (f : FuncId) : Prop := ∃ fn, P.funcs[f]? = some fn ∧ (fn.name == "runtime.NumGoroutine") = false ∧ fn.body.isNone = false

noncomputable def CallOk (P : Program) (call : CallK) : Prop := ∀ f args h v h', call f args h = .ok v h' → Enters P f ∧
  (h.next ≤ h'.next) ∧ ∀ ι w (as : Array Value), Rep ι w h → ARs ι args as.toList → Free ι h.next h'.next →
    Calls P f as w fun e w' => ∃ V ι', e = .returned V ∧ AVR ι' v V ∧ Post ι h h' w w' ι'

theorem ARs.append : ∀ {ι : Io} {l l' : List AV} {r r' : List Value}, ARs ι l r → ARs ι l' r' → ARs ι (l ++ l') (r ++ r')
  | _, [], _, [], _, _, h => h
  | _, [], _, _ :: _, _, h, _ => h.elim
  | _, _ :: _, _, [], _, h, _ => h.elim
  | _, _ :: _, _, _ :: _, _, ⟨a, b⟩, h => ⟨a, ARs.append b h⟩

theorem ptrs_rel : ∀ {ι : Io} {l : List (Nat × Nat)} {r : List Value}, PRs ι l r → ARs ι (ptrs l) r
  | _, [], [], _ => trivial
  | _, [], _ :: _, h => h.elim
  | _, _ :: _, [], h => h.elim
  | _, (b, o) :: l, v :: r, ⟨h1, h2⟩ => ⟨h1, ptrs_rel h2⟩

theorem call_run {P : Program} {ι : Io} {ρ : Env} {R : Operand → Value} (he : ER ι ρ R) {c : Call} {f : FuncId} {args : List AV} {o : Oper} (ho : o.op = .call c)
    (hc : callA ρ c = some (f, args)) (hen : Enters P f) (w : World) : ∃ as : Array Value, (execOp R o).run P w = .ok (.enter f as) w ∧ ARs ι args as.toList := by
  unfold callA at hc
  split at hc
  · rename_i x hcal
    split at hc
    · rename_i g l k hx
      split at hc
      · rename_i r hr
        simp only [Option.some.injEq, Prod.mk.injEq] at hc
        obtain ⟨rfl, rfl⟩ := hc
        obtain ⟨vl, vc, h1, h2, h3⟩ := evS_rel he hx
        obtain ⟨fn, f1, f2, f3⟩ := hen
        have hargs := evList_rel he hr
        refine ⟨vl ++ c.args.map R ++ vc, ?_, ?_⟩
        · simp only [execOp, ho, resolve, hcal, Deferred.ofValue, h1, Sem.run_bind, Sem.run_pure, Result.andThen_ok, invoke, callFunc, run_program, f1, f2, f3, Bool.false_eq_true, if_false]
        · rw [Array.toList_append, Array.toList_append, Array.toList_map, List.append_assoc]
          exact (ptrs_rel h2).append (hargs.append (ptrs_rel h3))
      · cases hc
    · cases hc
  · cases hc

theorem runOp_next {P : Program} {ty : Ty} {call : CallK} (hcall : CallOk P call) {o : Oper} {fr fr' : Fr} {h h' : Heap} {dstOf : Nat → Option Tmp} (hr : runOp ty call dstOf o fr h = .nrm fr' h') : h.next ≤ h'.next := by
  have hp : ∀ {d : Option Tmp} {v : AV} {hh : Heap} {why : Nat}, put? fr d v hh why = .nrm fr' h' → hh = h' := by
    intro d v hh why hp
    unfold put? at hp
    split at hp
    · simp only [Res.nrm.injEq] at hp; exact hp.2
    · split at hp
      · simp only [Res.nrm.injEq] at hp; exact hp.2
      · cases hp
  unfold runOp at hr
  split at hr
  · cases hr
  · rw [hp hr]; exact Nat.le_refl _
  · split at hr
    · rw [hp hr]; exact Nat.le_refl _
    · split at hr
      · rename_i ob f hal
        have := hp hr
        rw [← this]; exact Nat.le_succ _
      · split at hr
        · rename_i heo
          have := hp hr
          rw [← this]; exact eop_next heo
        · split at hr
          · split at hr
            · split at hr
              · rename_i hcr
                have := hp hr
                rw [← this]; exact (hcall _ _ _ _ _ hcr).2.1
              · cases hr
            · cases hr
          · cases hr

section
variable {P : Program} {ty : Ty} (hty : TyOk P ty) {call : CallK} (hcall : CallOk P call) {ops : Array Oper} {Q : Exit → Act → World → Prop}
include hty hcall

theorem runOp_sound {ι : Io} {o : Oper} {fr fr' : Fr} {h h' : Heap} {a : Act} {w : World} (hr : runOp ty call (fun j => (ops.toList[j]?).bind (·.dst)) o fr h = .nrm fr' h')
    (hfr : FrR ι fr a.tmps) (rep : Rep ι w h) (hf : Free ι h.next h'.next) {K : Act → World → Prop}
    (hK : ∀ ι' a' w', FrR ι' fr' a'.tmps → a'.defers = a.defers → Post ι h h' w w' ι' → K a' w') :
    if Region.wanted o (yielded ops a.tmps) then o.wp P a w K Q ∨ (o.asks P a w ∧ LetsOut Q) else K (a.put o.dst undef) w := by
  unfold runOp at hr
  have he := hfr.env
  -- what is put
  have hput : ∀ {ι' : Io} {v : AV} {V : Value} {hh : Heap} {w' : World} {why : Nat}, put? fr o.dst v hh why = .nrm fr' h' → AVR ι' v V → Post ι h hh w w' ι' → (hh = h' → Sub ι ι') → K (a.put o.dst V) w' := by
    intro ι' v V hh w' why hp hv hpost hsub
    unfold put? at hp
    cases hd : o.dst with
    | none =>
      rw [hd] at hp; simp only [Res.nrm.injEq] at hp
      obtain ⟨rfl, rfl⟩ := hp
      exact hK ι' _ w' (hfr.mono (hsub rfl)) rfl hpost
    | some d =>
      rw [hd] at hp; simp only [] at hp
      cases hpp : fr.put d v with
      | none => rw [hpp] at hp; cases hp
      | some fr2 =>
        rw [hpp] at hp; simp only [Res.nrm.injEq] at hp
        obtain ⟨rfl, rfl⟩ := hp
        exact hK ι' _ w' ((hfr.mono (hsub rfl)).put hpp hv) rfl hpost
  cases hw : wantedA fr (fun j => (ops.toList[j]?).bind (·.dst)) o.guard with
  | none => rw [hw] at hr; cases hr
  | some b =>
    rw [hw] at hr
    rw [wanted_sound hfr hw]
    cases b with
    | false =>
      simp only [Bool.false_eq_true, if_false] at hr ⊢
      exact hput hr (undef_rel ι) (Post.refl rep) (fun _ => Sub.refl ι)
    | true =>
      simp only [if_true] at hr ⊢
      left
      cases hq : qop ty fr.ev h o.op with
      | some v =>
        rw [hq] at hr; simp only [] at hr
        obtain ⟨V, w', e1, e2, e3⟩ := qop_sound hty he rep hq
        unfold Oper.wp; rw [e1]
        exact hput hr e2 (e3.post rep) (fun _ => Sub.refl ι)
      | none =>
        rw [hq] at hr; simp only [] at hr
        cases hal : alop ty fr.ev o.op with
        | some r =>
          obtain ⟨ob, f⟩ := r
          rw [hal] at hr; simp only [] at hr
          obtain ⟨V, N, O, e1, e2⟩ := alop_sound (P := P) (w := w) hty he hal
          have hh' : h.push ob = h' := by
            unfold put? at hr
            split at hr
            · simp only [Res.nrm.injEq] at hr; exact hr.2
            · split at hr
              · simp only [Res.nrm.injEq] at hr; exact hr.2
              · cases hr
          have hf' : Free ι h.next (h.push ob).next := by rw [hh']; exact hf
          have hsub : Sub ι (fun b => if b = h.next then some (w.heap.size, N) else ι b) := by
            intro b p hb
            by_cases eb : b = h.next
            · subst eb; rw [hf' h.next (Nat.le_refl _) (Nat.lt_succ_self _)] at hb; cases hb
            · simp only [if_neg eb]; exact hb
          obtain ⟨g1, g2⟩ := e2 (fun b => if b = h.next then some (w.heap.size, N) else ι b) h.next { w with heap := w.heap.push O } (by simp) hsub (by simp)
          have hp := Post.push (w' := { w with heap := w.heap.push O }) ob N rep hf' (fun c hc => by show (w.heap.push _)[c]? = _; rw [Array.getElem?_push, if_neg (by omega)]) (by simp) rfl rfl rfl g2
          unfold Oper.wp; rw [e1]
          exact hput hr g1 hp (fun _ => hsub)
        | none =>
          rw [hal] at hr; simp only [] at hr
          cases heo : eop ty fr.ev h o.op with
          | some r =>
            obtain ⟨v, h2⟩ := r
            rw [heo] at hr; simp only [] at hr
            have hh' : h2 = h' := by
              unfold put? at hr
              split at hr
              · simp only [Res.nrm.injEq] at hr; exact hr.2
              · split at hr
                · simp only [Res.nrm.injEq] at hr; exact hr.2
                · cases hr
            subst hh'
            obtain ⟨N, V, w', ι', e1, e2, e3, e4⟩ := eop_sound hty he rep heo hf
            unfold Oper.wp; rw [e1]
            rcases e2 with rfl | ⟨rfl, rfl⟩
            · exact hput hr e3 e4 (fun _ => e4.sub hf)
            · exact hput hr e3 e4 (fun _ => e4.sub hf)
          | none =>
            rw [heo] at hr; simp only [] at hr
            split at hr
            · rename_i c ho
              split at hr
              · rename_i f args hca
                split at hr
                · rename_i v h2 hcr
                  have hh' : h2 = h' := by
                    unfold put? at hr
                    split at hr
                    · simp only [Res.nrm.injEq] at hr; exact hr.2
                    · split at hr
                      · simp only [Res.nrm.injEq] at hr; exact hr.2
                      · cases hr
                  subst hh'
                  obtain ⟨hen, hle, hc⟩ := hcall f args h v h2 hcr
                  obtain ⟨as, e1, e2⟩ := call_run he ho hca hen w
                  unfold Oper.wp; rw [e1]
                  rw [Oper.upon_enter]
                  refine (hc ι w as rep e2 hf).mono ?_
                  rintro e w' ⟨V, ι', rfl, h1, h2⟩
                  exact hput hr h1 h2 (fun _ => h2.sub hf)
                · cases hr
              · cases hr
            · cases hr

end
end Go.Proofs.YtafkkicnfngpoaaGreat.Dm
