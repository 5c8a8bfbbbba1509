/- The evaluator as a whole. -/
import Derived.Test.YtmjogmpgamlhaaaGreatDmEf
import Derived.ScopeJumps
set_option linter.unusedVariables false
set_option linter.unusedSimpArgs false
set_option linter.unusedSectionVars false
namespace Go.Proofs.YtmjogmpgamlhaaaGreat.Dm
open Go

noncomputable def FrR (ι : Io) (fr : Fr) (tmps : Array Value) : Prop :=
  tmps.size = fr.n ∧ ∀ t v, fr.t.get t = some v → ∃ V, tmps[t]? = some V ∧ AVR ι v V

theorem FrR.mono {ι ι' : Io} (hs : Sub ι ι') {fr : Fr} {tmps : Array Value} (h : FrR ι fr tmps) : FrR ι' fr tmps :=
  ⟨h.1, fun t v ht => let ⟨V, a, b⟩ := h.2 t v ht; ⟨V, a, AVR.mono hs b⟩⟩

theorem FrR.put {ι : Io} {fr fr' : Fr} {a : Act} {d : Nat} {v : AV} {V : Value} (h : FrR ι fr a.tmps) (hp : fr.put d v = some fr') (hv : AVR ι v V) : FrR ι fr' (a.put (some d) V).tmps := by
  rw [Fr.put_eq] at hp
  cases hb : Nat.blt d fr.n with
  | false => rw [hb] at hp; cases hp
  | true =>
    rw [hb] at hp; simp only [cnd_true, Option.some.injEq] at hp; subst hp
    have hlt : d < fr.n := Nat.le_of_ble_eq_true hb
    refine ⟨by simp [Act.put, h.1], fun t u ht => ?_⟩
    simp only [] at ht
    rw [Tr.get_put] at ht
    by_cases e : t = d
    · subst e
      rw [if_pos rfl] at ht; simp only [Option.some.injEq] at ht; subst ht
      exact ⟨V, by simp [Act.put, h.1, hlt], hv⟩
    · rw [if_neg e] at ht
      obtain ⟨U, h1, h2⟩ := h.2 t u ht
      exact ⟨U, by simp only [Act.put, Array.getElem?_setIfInBounds]; rw [if_neg (Ne.symm e)]; exact h1, h2⟩

theorem FrR.env {ι : Io} {fr : Fr} {a : Act} (h : FrR ι fr a.tmps) : ER ι fr.ev a.eval := by
  intro x v hx
  cases x with
  | tmp t =>
    obtain ⟨V, h1, h2⟩ := h.2 t v hx
    show AVR ι v (a.tmps.getD t undef)
    rw [Array.getD_eq_getD_getElem?, h1]; exact h2
  | const c =>
    simp only [Fr.ev, avOf] at hx
    split at hx
    · rename_i cv hc; simp only [Option.some.injEq] at hx; subst hx; exact cvOf_rel ι hc
    · cases hx
  | global g => cases hx
  | func f => simp only [Fr.ev, Option.some.injEq] at hx; subst hx; exact ⟨#[], #[], rfl, trivial, trivial⟩

theorem undef_rel (ι : Io) : AVR ι (.tu []) undef := ⟨#[], rfl, trivial⟩

theorem not_bool {ι : Io} {v : AV} {b : Bool} (h : AVR ι v (.bool b)) : v = .cv (.sc (.b b)) := by
  cases v with
  | tu l => obtain ⟨a, h, _⟩ := h; cases h
  | cv x =>
    cases x with
    | ag l => obtain ⟨a, h, _⟩ := h; cases h
    | sc x =>
      cases x <;> simp only [AVR, CVR, VR, reduceCtorEq] at h
      case b x => simp only [Value.bool.injEq] at h; rw [h]
      case s => obtain ⟨_, h, _⟩ := h; cases h
      case cl => obtain ⟨_, h, _⟩ := h; exact h.elim
      case un => obtain ⟨_, h⟩ := h; exact h.elim
      case hz => obtain ⟨_, _, _, _, _, _, h⟩ := h; exact h.elim
      case rg => obtain ⟨_, _, _, h, _⟩ := h; exact h.elim
      case gt => obtain ⟨_, _, _, _, _, h⟩ := h; exact h.elim
      case bw => obtain ⟨_, _, _, _, _, h⟩ := h; exact h.elim
      case p => obtain ⟨_, _, _, h⟩ := h; cases h
      case sl => obtain ⟨_, _, _, _, _, h, _⟩ := h; cases h
      case m => obtain ⟨_, _, _, h⟩ := h; cases h
      case fn => obtain ⟨_, _, h, _⟩ := h; cases h
      case «at» => obtain ⟨_, _, _, h, _⟩ := h; cases h

theorem wanted_sound {ι : Io} {fr : Fr} {tmps : Array Value} (h : FrR ι fr tmps) {ops : Array Oper} {o : Oper} {b : Bool}
    (hw : wantedA fr (fun j => (ops.toList[j]?).bind (·.dst)) o.guard = some b) : Region.wanted o (yielded ops tmps) = b := by
  unfold wantedA at hw
  unfold Region.wanted
  cases hg : o.guard with
  | none => rw [hg] at hw; simp only [Option.some.injEq] at hw; exact hw
  | some q =>
    obtain ⟨j, want⟩ := q
    rw [hg] at hw; simp only [] at hw
    split at hw
    · rename_i d hd
      have hd' : (ops[j]?).bind (·.dst) = some d := by rw [← Array.getElem?_toList]; exact hd
      split at hw
      · rename_i x hx
        simp only [Option.some.injEq] at hw; subst hw
        obtain ⟨V, h1, h2⟩ := h.2 d _ hx
        have h2' : V = .bool x := h2
        subst h2'
        have hy : yielded ops tmps j = some x := by
          unfold yielded; rw [hd']; simp only [Option.bind_some, h1]
        simp only [hy, beqB_eq]; cases x <;> cases want <;> rfl
      · rename_i v hnb hv
        simp only [Option.some.injEq] at hw; subst hw
        obtain ⟨V, h1, h2⟩ := h.2 d v hv
        have hy : yielded ops tmps j = none := by
          unfold yielded; rw [hd']; simp only [Option.bind_some, h1]
          split
          · rename_i b' hb'
            simp only [Option.some.injEq] at hb'; subst hb'
            have := not_bool h2
            exact absurd this (hnb b')
          · rfl
        simp only [hy]; cases want <;> rfl
      · cases hw
    · cases hw

set_option maxHeartbeats 4000000 in
theorem eop_next {ty : Ty} {ρ : Env} {h h' : Heap} {op : Op} {v : AV} (hq : eop ty ρ h op = some (v, h')) : h.next ≤ h'.next := by
  unfold eop at hq
  simp only [cnd_eq_ite] at hq
  repeat' split at hq
  all_goals first
    | (cases hq; done)
    | (simp only [Option.some.injEq, Prod.mk.injEq] at hq; obtain ⟨_, rfl⟩ := hq; first | exact Nat.le_refl _ | exact Nat.le_succ _)

/-- A function that can be entered. -/
noncomputable def Enters (P : Program) (f : FuncId) : Prop := ∃ fn, P.funcs[f]? = some fn ∧ (fn.name == "runtime.NumGoroutine") = false ∧ fn.body.isNone = false

noncomputable def CallOk (P : Program) (call : CallK) : Prop := ∀ f args h v h', call f args h = .ok v h' → Enters P f ∧
  (h.next ≤ h'.next) ∧ ∀ ι w (as : Array Value), Rep ι w h → ARs ι args as.toList → Free ι h.next h'.next →
    Calls P f as w fun e w' => ∃ V ι', e = .returned V ∧ AVR ι' v V ∧ Post ι h h' w w' ι'

theorem ARs.append : ∀ {ι : Io} {l l' : List AV} {r r' : List Value}, ARs ι l r → ARs ι l' r' → ARs ι (l ++ l') (r ++ r')
  | _, [], _, [], _, _, h => h
  | _, [], _, _ :: _, _, h, _ => h.elim
  | _, _ :: _, _, [], _, h, _ => h.elim
  | _, _ :: _, _, _ :: _, _, ⟨a, b⟩, h => ⟨a, ARs.append b h⟩

theorem ptrs_rel : ∀ {ι : Io} {l : List (Nat × Nat)} {r : List Value}, PRs ι l r → ARs ι (ptrs l) r
  | _, [], [], _ => trivial
  | _, [], _ :: _, h => h.elim
  | _, _ :: _, [], h => h.elim
  | _, (b, o) :: l, v :: r, ⟨h1, h2⟩ => ⟨h1, ptrs_rel h2⟩

theorem call_run {P : Program} {ι : Io} {ρ : Env} {R : Operand → Value} (he : ER ι ρ R) {c : Call} {f : FuncId} {args : List AV} {o : Oper} (ho : o.op = .call c)
    (hc : callA ρ c = some (f, args)) (hen : Enters P f) (w : World) : ∃ as : Array Value, (execOp R o).run P w = .ok (.enter f as) w ∧ ARs ι args as.toList := by
  unfold callA at hc
  split at hc
  · rename_i x hcal
    split at hc
    · rename_i g l k hx
      split at hc
      · rename_i r hr
        simp only [Option.some.injEq, Prod.mk.injEq] at hc
        obtain ⟨rfl, rfl⟩ := hc
        obtain ⟨vl, vc, h1, h2, h3⟩ := evS_rel he hx
        obtain ⟨fn, f1, f2, f3⟩ := hen
        have hargs := evList_rel he hr
        refine ⟨vl ++ c.args.map R ++ vc, ?_, ?_⟩
        · simp only [execOp, ho, resolve, hcal, Deferred.ofValue, h1, Sem.run_bind, Sem.run_pure, Result.andThen_ok, invoke, callFunc, run_program, f1, f2, f3, Bool.false_eq_true, if_false]
        · rw [Array.toList_append, Array.toList_append, Array.toList_map, List.append_assoc]
          exact (ptrs_rel h2).append (hargs.append (ptrs_rel h3))
      · cases hc
    · cases hc
  · cases hc

theorem runOp_next {P : Program} {ty : Ty} {call : CallK} (hcall : CallOk P call) {o : Oper} {fr fr' : Fr} {h h' : Heap} {dstOf : Nat → Option Tmp} (hr : runOp ty call dstOf o fr h = .nrm fr' h') : h.next ≤ h'.next := by
  have hp : ∀ {d : Option Tmp} {v : AV} {hh : Heap} {why : Nat}, put? fr d v hh why = .nrm fr' h' → hh = h' := by
    intro d v hh why hp
    unfold put? at hp
    split at hp
    · simp only [Res.nrm.injEq] at hp; exact hp.2
    · split at hp
      · simp only [Res.nrm.injEq] at hp; exact hp.2
      · cases hp
  unfold runOp at hr
  split at hr
  · cases hr
  · rw [hp hr]; exact Nat.le_refl _
  · split at hr
    · rw [hp hr]; exact Nat.le_refl _
    · split at hr
      · rename_i ob f hal
        have := hp hr
        rw [← this]; exact Nat.le_succ _
      · split at hr
        · rename_i heo
          have := hp hr
          rw [← this]; exact eop_next heo
        · split at hr
          · split at hr
            · split at hr
              · rename_i hcr
                have := hp hr
                rw [← this]; exact (hcall _ _ _ _ _ hcr).2.1
              · cases hr
            · cases hr
          · cases hr

section
variable {P : Program} {ty : Ty} (hty : TyOk P ty) {call : CallK} (hcall : CallOk P call) {ops : Array Oper} {Q : Exit → Act → World → Prop}
include hty hcall

theorem runOp_sound {ι : Io} {o : Oper} {fr fr' : Fr} {h h' : Heap} {a : Act} {w : World} (hr : runOp ty call (fun j => (ops.toList[j]?).bind (·.dst)) o fr h = .nrm fr' h')
    (hfr : FrR ι fr a.tmps) (rep : Rep ι w h) (hf : Free ι h.next h'.next) {K : Act → World → Prop}
    (hK : ∀ ι' a' w', FrR ι' fr' a'.tmps → a'.defers = a.defers → Post ι h h' w w' ι' → K a' w') :
    if Region.wanted o (yielded ops a.tmps) then o.wp P a w K Q ∨ (o.asks P a w ∧ LetsOut Q) else K (a.put o.dst undef) w := by
  unfold runOp at hr
  have he := hfr.env
  -- what is put
  have hput : ∀ {ι' : Io} {v : AV} {V : Value} {hh : Heap} {w' : World} {why : Nat}, put? fr o.dst v hh why = .nrm fr' h' → AVR ι' v V → Post ι h hh w w' ι' → (hh = h' → Sub ι ι') → K (a.put o.dst V) w' := by
    intro ι' v V hh w' why hp hv hpost hsub
    unfold put? at hp
    cases hd : o.dst with
    | none =>
      rw [hd] at hp; simp only [Res.nrm.injEq] at hp
      obtain ⟨rfl, rfl⟩ := hp
      exact hK ι' _ w' (hfr.mono (hsub rfl)) rfl hpost
    | some d =>
      rw [hd] at hp; simp only [] at hp
      cases hpp : fr.put d v with
      | none => rw [hpp] at hp; cases hp
      | some fr2 =>
        rw [hpp] at hp; simp only [Res.nrm.injEq] at hp
        obtain ⟨rfl, rfl⟩ := hp
        exact hK ι' _ w' ((hfr.mono (hsub rfl)).put hpp hv) rfl hpost
  cases hw : wantedA fr (fun j => (ops.toList[j]?).bind (·.dst)) o.guard with
  | none => rw [hw] at hr; cases hr
  | some b =>
    rw [hw] at hr
    rw [wanted_sound hfr hw]
    cases b with
    | false =>
      simp only [Bool.false_eq_true, if_false] at hr ⊢
      exact hput hr (undef_rel ι) (Post.refl rep) (fun _ => Sub.refl ι)
    | true =>
      simp only [if_true] at hr ⊢
      left
      cases hq : qop ty fr.ev h o.op with
      | some v =>
        rw [hq] at hr; simp only [] at hr
        obtain ⟨V, w', e1, e2, e3⟩ := qop_sound hty he rep hq
        unfold Oper.wp; rw [e1]
        exact hput hr e2 (e3.post rep) (fun _ => Sub.refl ι)
      | none =>
        rw [hq] at hr; simp only [] at hr
        cases hal : alop ty fr.ev o.op with
        | some r =>
          obtain ⟨ob, f⟩ := r
          rw [hal] at hr; simp only [] at hr
          obtain ⟨V, N, O, e1, e2⟩ := alop_sound (P := P) (w := w) hty he hal
          have hh' : h.push ob = h' := by
            unfold put? at hr
            split at hr
            · simp only [Res.nrm.injEq] at hr; exact hr.2
            · split at hr
              · simp only [Res.nrm.injEq] at hr; exact hr.2
              · cases hr
          have hf' : Free ι h.next (h.push ob).next := by rw [hh']; exact hf
          have hsub : Sub ι (fun b => if b = h.next then some (w.heap.size, N) else ι b) := by
            intro b p hb
            by_cases eb : b = h.next
            · subst eb; rw [hf' h.next (Nat.le_refl _) (Nat.lt_succ_self _)] at hb; cases hb
            · simp only [if_neg eb]; exact hb
          obtain ⟨g1, g2⟩ := e2 (fun b => if b = h.next then some (w.heap.size, N) else ι b) h.next { w with heap := w.heap.push O } (by simp) hsub (by simp)
          have hp := Post.push (w' := { w with heap := w.heap.push O }) ob N rep hf' (fun c hc => by show (w.heap.push _)[c]? = _; rw [Array.getElem?_push, if_neg (by omega)]) (by simp) rfl rfl rfl g2
          unfold Oper.wp; rw [e1]
          exact hput hr g1 hp (fun _ => hsub)
        | none =>
          rw [hal] at hr; simp only [] at hr
          cases heo : eop ty fr.ev h o.op with
          | some r =>
            obtain ⟨v, h2⟩ := r
            rw [heo] at hr; simp only [] at hr
            have hh' : h2 = h' := by
              unfold put? at hr
              split at hr
              · simp only [Res.nrm.injEq] at hr; exact hr.2
              · split at hr
                · simp only [Res.nrm.injEq] at hr; exact hr.2
                · cases hr
            subst hh'
            obtain ⟨N, V, w', ι', e1, e2, e3, e4⟩ := eop_sound hty he rep heo hf
            unfold Oper.wp; rw [e1]
            rcases e2 with rfl | ⟨rfl, rfl⟩
            · exact hput hr e3 e4 (fun _ => e4.sub hf)
            · exact hput hr e3 e4 (fun _ => e4.sub hf)
          | none =>
            rw [heo] at hr; simp only [] at hr
            split at hr
            · rename_i c ho
              split at hr
              · rename_i f args hca
                split at hr
                · rename_i v h2 hcr
                  have hh' : h2 = h' := by
                    unfold put? at hr
                    split at hr
                    · simp only [Res.nrm.injEq] at hr; exact hr.2
                    · split at hr
                      · simp only [Res.nrm.injEq] at hr; exact hr.2
                      · cases hr
                  subst hh'
                  obtain ⟨hen, hle, hc⟩ := hcall f args h v h2 hcr
                  obtain ⟨as, e1, e2⟩ := call_run he ho hca hen w
                  unfold Oper.wp; rw [e1]
                  rw [Oper.upon_enter]
                  refine (hc ι w as rep e2 hf).mono ?_
                  rintro e w' ⟨V, ι', rfl, h1, h2⟩
                  exact hput hr h1 h2 (fun _ => h2.sub hf)
                · cases hr
              · cases hr
            · cases hr

end
end Go.Proofs.YtmjogmpgamlhaaaGreat.Dm

namespace Go.Proofs.YtmjogmpgamlhaaaGreat.Dm
open Go

noncomputable def Aft (ι : Io) (h : Heap) (w : World) (ds : List Deferred) (fr' : Fr) (h' : Heap) (a' : Act) (w' : World) : Prop :=
  ∃ ι', FrR ι' fr' a'.tmps ∧ a'.defers = ds ∧ Post ι h h' w w' ι'

noncomputable def RQ (ι : Io) (h : Heap) (w : World) (ds : List Deferred) (r : Res) (e : Exit) (a' : Act) (w' : World) : Prop :=
  match r with
  | .nrm fr' h' => e = .normal ∧ Aft ι h w ds fr' h' a' w'
  | .exit id fr' h' => e = .exit id ∧ Aft ι h w ds fr' h' a' w'
  | .goto l fr' h' => e = .goto l ∧ Aft ι h w ds fr' h' a' w'
  | .ret fr' h' => e = .ret ∧ Aft ι h w ds fr' h' a' w'
  | .bad _ => False

/-- The heap that a good end leaves has so many names; the start at least. -/
noncomputable def Res.next (r : Res) (n : Nat) : Nat :=
  match r with
  | .nrm _ h => h.next
  | .exit _ _ h => h.next
  | .goto _ _ h => h.next
  | .ret _ h => h.next
  | .bad _ => n
noncomputable def Res.good : Res → Bool
  | .bad _ => false
  | _ => true

theorem Aft.trans {ι ι1 : Io} {h h1 : Heap} {w w1 : World} {ds : List Deferred} {fr' : Fr} {h' : Heap} {a' : Act} {w' : World} (p : Post ι h h1 w w1 ι1) (q : Aft ι1 h1 w1 ds fr' h' a' w') :
    Aft ι h w ds fr' h' a' w' := by
  obtain ⟨ι', a, b, c⟩ := q
  exact ⟨ι', a, b, p.trans c⟩

theorem RQ.trans {ι ι1 : Io} {h h1 : Heap} {w w1 : World} {ds : List Deferred} {r : Res} {e : Exit} {a' : Act} {w' : World} (p : Post ι h h1 w w1 ι1) (q : RQ ι1 h1 w1 ds r e a' w') :
    RQ ι h w ds r e a' w' := by
  cases r <;> first | exact ⟨q.1, q.2.trans p⟩ | exact ⟨q.1, Aft.trans p q.2⟩ | exact q

theorem put_nrm {fr : Fr} {d : Option Tmp} {v : AV} {h : Heap} {why : Nat} {r : Res} (hr : put? fr d v h why = r) (hg : r.good = true) : ∃ fr' h', r = .nrm fr' h' := by
  cases d with
  | none => exact ⟨fr, h, hr.symm⟩
  | some d =>
    simp only [put?] at hr
    cases hp : fr.put d v with
    | some fr2 => rw [hp] at hr; exact ⟨fr2, h, hr.symm⟩
    | none => rw [hp] at hr; subst hr; cases hg

theorem runOp_nrm {ty : Ty} {call : CallK} {dstOf : Nat → Option Tmp} {o : Oper} {fr : Fr} {h : Heap} {r : Res} (hr : runOp ty call dstOf o fr h = r) (hg : r.good = true) : ∃ fr' h', r = .nrm fr' h' := by
  unfold runOp at hr
  split at hr
  · subst hr; cases hg
  · exact put_nrm hr hg
  · split at hr
    · exact put_nrm hr hg
    · split at hr
      · exact put_nrm hr hg
      · split at hr
        · exact put_nrm hr hg
        · split at hr
          · split at hr
            · split at hr
              · exact put_nrm hr hg
              · subst hr; cases hg
            · subst hr; cases hg
          · subst hr; cases hg

theorem runOps_nrm {ty : Ty} {call : CallK} {dstOf : Nat → Option Tmp} : ∀ {l : List Oper} {fr : Fr} {h : Heap} {r : Res}, runOps ty call dstOf l fr h = r → r.good = true → ∃ fr' h', r = .nrm fr' h'
  | [], fr, h, r, hr, hg => ⟨fr, h, hr.symm⟩
  | o :: l, fr, h, r, hr, hg => by
    simp only [runOps] at hr
    split at hr
    · exact runOps_nrm hr hg
    · exact runOp_nrm hr hg

section
variable {P : Program} {ty : Ty} (hty : TyOk P ty) {call : CallK} (hcall : CallOk P call) {ops : Array Oper} {Q : Exit → Act → World → Prop}
include hty hcall

theorem runOps_next : ∀ {l : List Oper} {fr fr' : Fr} {h h' : Heap} {dstOf : Nat → Option Tmp}, runOps ty call dstOf l fr h = .nrm fr' h' → h.next ≤ h'.next
  | [], fr, fr', h, h', dstOf, hr => by simp only [runOps, Res.nrm.injEq] at hr; rw [hr.2]; exact Nat.le_refl _
  | o :: l, fr, fr', h, h', dstOf, hr => by
    simp only [runOps] at hr
    split at hr
    · rename_i fr1 h1 h2
      exact Nat.le_trans (runOp_next hcall h2) (runOps_next hr)
    · rename_i r hn
      exact absurd hr (hn fr' h')

theorem runOps_sound : ∀ (l : List Oper) (i : Nat) (fr fr' : Fr) (h h' : Heap) (ι : Io) (a : Act) (w : World), ops.toList.drop i = l →
    runOps ty call (fun j => (ops.toList[j]?).bind (·.dst)) l fr h = .nrm fr' h' → FrR ι fr a.tmps → Rep ι w h → Free ι h.next h'.next →
    (∀ ι' a' w', FrR ι' fr' a'.tmps → a'.defers = a.defers → Post ι h h' w w' ι' → Q .normal a' w') → wpOps P ops Q (List.range' i l.length) a w
  | [], i, fr, fr', h, h', ι, a, w, hl, hr, hfr, rep, hf, hK => by
    simp only [runOps, Res.nrm.injEq] at hr
    obtain ⟨rfl, rfl⟩ := hr
    exact hK ι a w hfr rfl (Post.refl rep)
  | o :: l, i, fr, fr', h, h', ι, a, w, hl, hr, hfr, rep, hf, hK => by
    simp only [runOps] at hr
    split at hr
    · rename_i fr1 h1 h2
      have n1 := runOp_next hcall h2
      have n2 := runOps_next hty hcall hr
      have ho : ops[i]? = some o := by
        rw [← Array.getElem?_toList]
        have : (ops.toList.drop i)[0]? = some o := by rw [hl]; rfl
        simpa using this
      have hl' : ops.toList.drop (i + 1) = l := by
        have : (ops.toList.drop i).drop 1 = l := by rw [hl]; rfl
        simpa [List.drop_drop] using this
      rw [List.length_cons, List.range'_succ, wpOps_cons]
      unfold wpOp
      rw [ho]
      simp only []
      exact runOp_sound hty hcall h2 hfr rep (hf.mono n2) (fun ι1 a1 w1 g1 g2 g3 =>
        runOps_sound l (i + 1) fr1 fr' h1 h' ι1 a1 w1 hl' hr g1 g3.rep (g3.free hf) (fun ι' a' w' k1 k2 k3 => hK ι' a' w' k1 (k2.trans g2) (g3.trans k3)))
    · rename_i r hn
      exact absurd hr (hn fr' h')
end

/-- A run of a piece of code is the model's. -/
noncomputable def KOk (P : Program) (k : K) : Prop := ∀ c fr h r, k c fr h = r → r.good = true → h.next ≤ r.next h.next ∧
  ∀ ι a w, FrR ι fr a.tmps → Rep ι w h → Free ι h.next (r.next h.next) → c.wp P (RQ ι h w a.defers r) a w ∧
    ∀ b0, c = .loop b0 → ∀ (b : Frame) (k : List Item) (cs : List Frame), ∃ e a' w', RQ ι h w a.defers r e a' w' ∧ Arrives P (lone (b.at a (.inLoop b0 :: k)) cs w) b k cs e a' w'

noncomputable def ScOk (P : Program) (sc : Code → K) : Prop := ∀ whole c fr h r, sc whole c fr h = r → r.good = true → h.next ≤ r.next h.next ∧
  ∀ ι a w, FrR ι fr a.tmps → Rep ι w h → Free ι h.next (r.next h.next) →
    ∀ (b : Frame) (k : List Item) (cs : List Frame), ∃ e a' w', RQ ι h w a.defers r e a' w' ∧ Arrives P (lone (b.at a (.code c :: .inScope whole :: k)) cs w) b k cs e a' w'

/-- Regions whose order is drawn. -/
noncomputable def DrOk (P : Program) (ty : Ty) (call : CallK) (dr : Array Oper → Fr → Heap → Res) : Prop := (∀ ops fr h r, dr ops fr h = r → r.good = true → ∃ fr' h', r = .nrm fr' h') ∧ ∀ id ops fr h fr' h', dr ops fr h = .nrm fr' h' → h.next ≤ h'.next ∧
  ∀ ι a w, FrR ι fr a.tmps → Rep ι w h → Free ι h.next h'.next → (Code.region id ops true).wp P (RQ ι h w a.defers (.nrm fr' h')) a w

theorem not_loop {P : Program} {Q : Exit → Act → World → Prop} {a : Act} {w : World} {c : Code} (h : ∀ b, c ≠ .loop b) :
    ∀ b0, c = .loop b0 → ∀ (b : Frame) (k : List Item) (cs : List Frame), ∃ e a' w', Q e a' w' ∧ Arrives P (lone (b.at a (.inLoop b0 :: k)) cs w) b k cs e a' w' :=
  fun b0 e => absurd e (h b0)

theorem cond_rel {ι : Io} {fr : Fr} {a : Act} (h : FrR ι fr a.tmps) {x : Operand} {t : Bool} (hx : evS fr.ev x = some (.b t)) : a.eval x = .bool t := evS_rel h.env hx

section
variable {P : Program} {ty : Ty} (hty : TyOk P ty) {call : CallK} (hcall : CallOk P call) {dr : Array Oper → Fr → Heap → Res} (hdr : DrOk P ty call dr)
  {ih : K} (hk : KOk P ih) {sc : Code → K} (hsc : ScOk P sc)
include hty hcall hdr hk hsc

theorem seq_next {x y : Code} {fr : Fr} {h : Heap} {r : Res} (hr : (match ih x fr h with | .nrm fr h => ih y fr h | r => r) = r) (hg : r.good = true) : h.next ≤ r.next h.next := by
  split at hr
  · rename_i fr1 h1 h2
    have n1 := (hk x fr h _ h2 rfl).1
    have n2 := (hk y fr1 h1 r hr hg).1
    cases r <;> first | exact Nat.le_trans n1 n2 | (cases hg)
  · rename_i hn
    exact (hk x fr h r hr hg).1

/-- One piece behind another one. -/
theorem seq_sound {x y : Code} {fr : Fr} {h : Heap} {r : Res} (hr : (match ih x fr h with | .nrm fr h => ih y fr h | r => r) = r) (hg : r.good = true)
    {ι : Io} {a : Act} {w : World} (hfr : FrR ι fr a.tmps) (rep : Rep ι w h) (hf : Free ι h.next (r.next h.next)) {K : Act → World → Prop}
    (hK : ∀ fr1 h1 ι1 a1 w1, ih y fr1 h1 = r → h1.next ≤ r.next h.next → FrR ι1 fr1 a1.tmps → a1.defers = a.defers → Post ι h h1 w w1 ι1 → Free ι1 h1.next (r.next h.next) → K a1 w1) :
    x.wp P (Exit.then K (RQ ι h w a.defers r)) a w := by
  split at hr
  · rename_i fr1 h1 h2
    have n2 := (hk y fr1 h1 r hr hg).1
    have n2' : h1.next ≤ r.next h.next := by cases r <;> first | exact n2 | (cases hg)
    obtain ⟨n1, hx⟩ := hk x fr h _ h2 rfl
    obtain ⟨hw, _⟩ := hx ι a w hfr rep (hf.mono n2')
    refine wp_mono hw ?_
    rintro e a' w' ⟨rfl, ι', g1, g2, g3⟩
    exact hK fr1 h1 ι' a' w' hr n2' g1 g2 g3 (g3.free hf)
  · rename_i hn
    obtain ⟨n1, hx⟩ := hk x fr h r hr hg
    obtain ⟨hw, _⟩ := hx ι a w hfr rep hf
    refine wp_mono hw ?_
    intro e a' w' hq
    cases e with
    | normal =>
      cases r with
      | nrm fr' h' => exact absurd hr (hn fr' h')
      | _ => simp only [RQ, reduceCtorEq, false_and] at hq
    | _ => exact hq

theorem step_sound : KOk P (step ty call dr ih sc) := by
  intro c fr h r hr hg
  cases c with
  | skip =>
    subst hr
    exact ⟨Nat.le_refl _, fun ι a w hfr rep hf => ⟨wp_skip ⟨rfl, ι, hfr, rfl, Post.refl rep⟩, not_loop (by simp)⟩⟩
  | label l =>
    subst hr
    exact ⟨Nat.le_refl _, fun ι a w hfr rep hf => ⟨wp_label ⟨rfl, ι, hfr, rfl, Post.refl rep⟩, not_loop (by simp)⟩⟩
  | exit id =>
    subst hr
    exact ⟨Nat.le_refl _, fun ι a w hfr rep hf => ⟨wp_exit ⟨rfl, ι, hfr, rfl, Post.refl rep⟩, not_loop (by simp)⟩⟩
  | goto l =>
    subst hr
    exact ⟨Nat.le_refl _, fun ι a w hfr rep hf => ⟨wp_goto ⟨rfl, ι, hfr, rfl, Post.refl rep⟩, not_loop (by simp)⟩⟩
  | ret =>
    subst hr
    exact ⟨Nat.le_refl _, fun ι a w hfr rep hf => ⟨wp_ret ⟨rfl, ι, hfr, rfl, Post.refl rep⟩, not_loop (by simp)⟩⟩
  | region id ops d =>
    cases d with
    | true =>
      have hr' : dr ops fr h = r := hr
      obtain ⟨fr', h', rfl⟩ := hdr.1 ops fr h r hr' hg
      obtain ⟨n1, h2⟩ := hdr.2 id ops fr h fr' h' hr'
      exact ⟨n1, fun ι a w hfr rep hf => ⟨h2 ι a w hfr rep hf, not_loop (by simp)⟩⟩
    | false =>
      have hr' : runOps ty call (fun j => (ops.toList[j]?).bind (·.dst)) ops.toList fr h = r := hr
      obtain ⟨fr', h', rfl⟩ := runOps_nrm hr' hg
      refine ⟨runOps_next hty hcall hr', fun ι a w hfr rep hf => ⟨wp_region ?_, not_loop (by simp)⟩⟩
      have := runOps_sound (Q := RQ ι h w a.defers (.nrm fr' h')) hty hcall ops.toList 0 fr fr' h h' ι a w (by simp) hr' hfr rep hf (fun ι' a' w' g1 g2 g3 => ⟨rfl, ι', g1, g2, g3⟩)
      rw [List.range_eq_range']; simpa using this
  | seq x y =>
    have hr' : (match ih x fr h with | .nrm fr h => ih y fr h | r => r) = r := hr
    refine ⟨seq_next hty hcall hdr hk hsc hr' hg, fun ι a w hfr rep hf => ⟨wp_seq ?_, not_loop (by simp)⟩⟩
    exact seq_sound hty hcall hdr hk hsc hr' hg hfr rep hf (fun fr1 h1 ι1 a1 w1 k1 k2 k3 k4 k5 k6 => by
      have k6' : Free ι1 h1.next (r.next h1.next) := by cases r <;> first | exact k6 | (cases hg)
      have := ((hk y fr1 h1 r k1 hg).2 ι1 a1 w1 k3 k5.rep k6').1
      rw [k4] at this
      exact wp_mono this (fun e a' w' hq => hq.trans k5))
  | cond x t e =>
    have hr' : (match evS fr.ev x with | some (.b b) => cnd b (ih t fr h) (ih e fr h) | _ => .bad 10) = r := hr
    split at hr'
    · rename_i b hx
      cases b with
      | true =>
        obtain ⟨n1, h2⟩ := hk t fr h r hr' hg
        exact ⟨n1, fun ι a w hfr rep hf => ⟨wp_cond_true (cond_rel hfr hx) (h2 ι a w hfr rep hf).1, not_loop (by simp)⟩⟩
      | false =>
        obtain ⟨n1, h2⟩ := hk e fr h r hr' hg
        exact ⟨n1, fun ι a w hfr rep hf => ⟨wp_cond_false (cond_rel hfr hx) (h2 ι a w hfr rep hf).1, not_loop (by simp)⟩⟩
    · subst hr'; cases hg
  | block id b =>
    have hr' : exitOf id (ih b fr h) = r := hr
    cases hb : ih b fr h with
    | nrm fr' h' =>
      rw [hb] at hr'; have hr' : Res.nrm fr' h' = r := hr'; subst hr'
      obtain ⟨n1, h2⟩ := hk b fr h _ hb rfl
      refine ⟨n1, fun ι a w hfr rep hf => ⟨wp_block (wp_mono (h2 ι a w hfr rep hf).1 ?_), not_loop (by simp)⟩⟩
      rintro e a' w' ⟨rfl, hq⟩; exact ⟨rfl, hq⟩
    | exit id' fr' h' =>
      rw [hb] at hr'
      have hr' : cnd (Nat.beq id' id) (Res.nrm fr' h') (Res.exit id' fr' h') = r := hr'
      obtain ⟨n1, h2⟩ := hk b fr h _ hb rfl
      cases hid : Nat.beq id' id with
      | true =>
        rw [hid] at hr'; have hr' : Res.nrm fr' h' = r := hr'; subst hr'
        refine ⟨n1, fun ι a w hfr rep hf => ⟨wp_block (wp_mono (h2 ι a w hfr rep hf).1 ?_), not_loop (by simp)⟩⟩
        rintro e a' w' ⟨rfl, hq⟩
        simp only [Exit.inBlock, Nat.eq_of_beq_eq_true hid, if_true]
        exact ⟨rfl, hq⟩
      | false =>
        rw [hid] at hr'; have hr' : Res.exit id' fr' h' = r := hr'; subst hr'
        refine ⟨n1, fun ι a w hfr rep hf => ⟨wp_block (wp_mono (h2 ι a w hfr rep hf).1 ?_), not_loop (by simp)⟩⟩
        rintro e a' w' ⟨rfl, hq⟩
        simp only [Exit.inBlock, Nat.ne_of_beq_eq_false hid, if_false]
        exact ⟨rfl, hq⟩
    | goto l fr' h' =>
      rw [hb] at hr'; have hr' : Res.goto l fr' h' = r := hr'; subst hr'
      obtain ⟨n1, h2⟩ := hk b fr h _ hb rfl
      refine ⟨n1, fun ι a w hfr rep hf => ⟨wp_block (wp_mono (h2 ι a w hfr rep hf).1 ?_), not_loop (by simp)⟩⟩
      rintro e a' w' ⟨rfl, hq⟩; exact ⟨rfl, hq⟩
    | ret fr' h' =>
      rw [hb] at hr'; have hr' : Res.ret fr' h' = r := hr'; subst hr'
      obtain ⟨n1, h2⟩ := hk b fr h _ hb rfl
      refine ⟨n1, fun ι a w hfr rep hf => ⟨wp_block (wp_mono (h2 ι a w hfr rep hf).1 ?_), not_loop (by simp)⟩⟩
      rintro e a' w' ⟨rfl, hq⟩; exact ⟨rfl, hq⟩
    | bad n => rw [hb] at hr'; have hr' : Res.bad n = r := hr'; subst hr'; cases hg
  | loop b =>
    have hr' : (match ih b fr h with | .nrm fr h => ih (.loop b) fr h | r => r) = r := hr
    refine ⟨seq_next hty hcall hdr hk hsc hr' hg, fun ι a w hfr rep hf => ?_⟩
    -- from the body's start on
    have body : ∀ (b0 : Frame) (k : List Item) (cs : List Frame), ∃ e a' w', RQ ι h w a.defers r e a' w' ∧ Arrives P (lone (b0.at a (.code b :: .inLoop b :: k)) cs w) b0 k cs e a' w' := by
      intro b0 k cs
      have hs := seq_sound hty hcall hdr hk hsc hr' hg hfr rep hf (K := fun a1 w1 => ∀ (b0 : Frame) (k : List Item) (cs : List Frame), ∃ e a' w', RQ ι h w a.defers r e a' w' ∧ Arrives P (lone (b0.at a1 (.inLoop b :: k)) cs w1) b0 k cs e a' w')
        (fun fr1 h1 ι1 a1 w1 k1 k2 k3 k4 k5 k6 => by
          have k6' : Free ι1 h1.next (r.next h1.next) := by cases r <;> first | exact k6 | (cases hg)
          have := ((hk (.loop b) fr1 h1 r k1 hg).2 ι1 a1 w1 k3 k5.rep k6').2 b rfl
          rw [k4] at this
          intro b0 k cs
          obtain ⟨e, a', w', q1, q2⟩ := this b0 k cs
          exact ⟨e, a', w', q1.trans k5, q2⟩)
      obtain ⟨e, a1, w1, hq, harr⟩ := hs b0 (.inLoop b :: k) cs
      cases e with
      | normal =>
        obtain ⟨e2, a2, w2, q2, harr2⟩ := hq b0 k cs
        exact ⟨e2, a2, w2, q2, .of_steps harr harr2⟩
      | exit id => exact ⟨_, a1, w1, hq, .pass (x := .inLoop b) rfl (fun _ _ => .inl (by simp)) harr⟩
      | goto l => exact ⟨_, a1, w1, hq, .pass (x := .inLoop b) rfl (fun _ _ => .inl (by simp)) harr⟩
      | ret => exact ⟨_, a1, w1, hq, .pass (x := .inLoop b) rfl (fun _ _ => .inl (by simp)) harr⟩
      | panic ch => exact ⟨_, a1, w1, hq, .pass (x := .inLoop b) rfl (fun _ _ => .inl (by simp)) harr⟩
      | outgrown => exact ⟨_, a1, w1, hq, .pass (x := .inLoop b) rfl (fun _ _ => .inl (by simp)) harr⟩
    refine ⟨fun b0 k cs => ?_, fun b1 e1 b0 k cs => ?_⟩
    · obtain ⟨e, a', w', q, harr⟩ := body b0 k cs
      exact ⟨e, a', w', q, .of_steps (.one step_loop) harr⟩
    · obtain rfl : b = b1 := by simpa using e1
      obtain ⟨e, a', w', q, harr⟩ := body b0 k cs
      exact ⟨e, a', w', q, .of_steps (.one step_inLoop) harr⟩
  | scope b =>
    have hr' : sc b b fr h = r := hr
    obtain ⟨n1, h2⟩ := hsc b b fr h r hr' hg
    refine ⟨n1, fun ι a w hfr rep hf => ⟨fun b0 k cs => ?_, not_loop (by simp)⟩⟩
    obtain ⟨e, a', w', q, harr⟩ := h2 ι a w hfr rep hf b0 k cs
    exact ⟨e, a', w', q, .of_steps (.one step_scope) harr⟩
  | rangeFunc f ps as bd =>
    have hr' : Res.bad 11 = r := hr
    subst hr'; cases hg
  | refuse s =>
    have hr' : Res.bad 11 = r := hr
    subst hr'; cases hg

end
end Go.Proofs.YtmjogmpgamlhaaaGreat.Dm

namespace Go.Proofs.YtmjogmpgamlhaaaGreat.Dm
open Go

theorem stepScope_sound {P : Program} {ih : K} (hk : KOk P ih) {sc : Code → K} (hsc : ScOk P sc) : ScOk P (stepScope ih sc) := by
  intro whole c fr h r hr hg
  unfold stepScope at hr
  split at hr
  · rename_i l fr1 h1 h2
    obtain ⟨n1, hx⟩ := hk c fr h _ h2 rfl
    split at hr
    · rename_i rest hl
      obtain ⟨n2, hy⟩ := hsc whole rest fr1 h1 r hr hg
      have n2' : h1.next ≤ r.next h.next := by cases r <;> first | exact n2 | (cases hg)
      have n3 : h.next ≤ r.next h.next := Nat.le_trans n1 n2'
      refine ⟨n3, fun ι a w hfr rep hf b k cs => ?_⟩
      obtain ⟨e, a1, w1, ⟨rfl, ι1, g1, g2, g3⟩, harr⟩ := (hx ι a w hfr rep (hf.mono n2')).1 b (.inScope whole :: k) cs
      have k6' : Free ι1 h1.next (r.next h1.next) := by
        have := g3.free hf
        cases r <;> first | exact this | (cases hg)
      obtain ⟨e2, a2, w2, q2, harr2⟩ := hy ι1 a1 w1 g1 g3.rep k6' b k cs
      rw [g2] at q2
      refine ⟨e2, a2, w2, q2.trans g3, .of_steps (harr (.code rest :: .inScope whole :: k) ?_) harr2⟩
      simp [gotoIn, hl]
    · rename_i hl
      subst hr
      refine ⟨n1, fun ι a w hfr rep hf b k cs => ?_⟩
      obtain ⟨e, a1, w1, ⟨rfl, q⟩, harr⟩ := (hx ι a w hfr rep hf).1 b (.inScope whole :: k) cs
      exact ⟨_, a1, w1, ⟨rfl, q⟩, fun k' hk' => harr k' (by simp [gotoIn, hl, hk'])⟩
  · rename_i r' hn
    obtain ⟨n1, hx⟩ := hk c fr h r hr hg
    refine ⟨n1, fun ι a w hfr rep hf b k cs => ?_⟩
    obtain ⟨e, a1, w1, q, harr⟩ := (hx ι a w hfr rep hf).1 b (.inScope whole :: k) cs
    cases r with
    | nrm fr' h' =>
      obtain ⟨rfl, q⟩ := q
      exact ⟨_, a1, w1, ⟨rfl, q⟩, Steps.trans harr (.one step_inScope)⟩
    | exit id fr' h' =>
      obtain ⟨rfl, q⟩ := q
      exact ⟨_, a1, w1, ⟨rfl, q⟩, fun k' hk' => harr k' (by simp [exitTo, hk'])⟩
    | goto l fr' h' => exact absurd hr (hn l fr' h')
    | ret fr' h' =>
      obtain ⟨rfl, q⟩ := q
      exact ⟨_, a1, w1, ⟨rfl, q⟩, harr⟩
    | bad n => exact q.elim

/-! ### calls -/

noncomputable def FnsOk (P : Program) (fs : Fns) : Prop := ∀ f x, fs f = some x → ∃ fn, P.funcs[f]? = some fn ∧ fn.body = some x.body ∧ fn.ntmps = x.ntmps ∧ fn.results.toList = x.results ∧ (fn.name == "runtime.NumGoroutine") = false

theorem argsIn_get : ∀ (l : List AV) (i : Nat) (t : Tr AV) (j : Nat), (argsIn i l t).get j = if i ≤ j then (match l[j - i]? with | some v => some v | none => t.get j) else t.get j
  | [], i, t, j => by simp [argsIn]
  | v :: l, i, t, j => by
    simp only [argsIn]
    rw [argsIn_get l, Tr.get_put]
    by_cases h1 : i ≤ j
    · rw [if_pos h1]
      by_cases h2 : Nat.succ i ≤ j
      · rw [if_pos h2]
        have : j - i = (j - Nat.succ i) + 1 := by omega
        rw [this, List.getElem?_cons_succ, if_neg (by omega)]
      · rw [if_neg h2]
        have : j = i := by omega
        subst this; simp
    · rw [if_neg h1, if_neg (by omega), if_neg (by omega)]

theorem ARs.length : ∀ {ι : Io} {l : List AV} {r : List Value}, ARs ι l r → l.length = r.length
  | _, [], [], _ => rfl
  | _, [], _ :: _, h => h.elim
  | _, _ :: _, [], h => h.elim
  | _, _ :: _, _ :: _, ⟨_, b⟩ => by simp [ARs.length b]

theorem ARs.get : ∀ {ι : Io} {l : List AV} {r : List Value} {i : Nat} {x : AV}, ARs ι l r → l[i]? = some x → ∃ v, r[i]? = some v ∧ AVR ι x v
  | _, [], [], _, _, _, h => by simp at h
  | _, [], _ :: _, _, _, h, _ => h.elim
  | _, _ :: _, [], _, _, h, _ => h.elim
  | _, _ :: _, v :: _, 0, _, ⟨a, _⟩, h => by simp at h; subst h; exact ⟨v, rfl, a⟩
  | _, _ :: _, _ :: _, i + 1, _, ⟨_, b⟩, h => by simp at h; simpa using ARs.get b h

theorem enter_rel {ι : Io} {args : List AV} {as : Array Value} {n : Nat} (h : ARs ι args as.toList) (hn : args.length ≤ n) :
    FrR ι ⟨n, argsIn 0 args .e⟩ (as ++ Array.replicate (n - as.size) undef) := by
  have hlen := h.length
  simp only [Array.length_toList] at hlen
  refine ⟨by simp; omega, fun t v ht => ?_⟩
  simp only [argsIn_get, Nat.zero_le, if_true, Nat.sub_zero, Tr.get_e] at ht
  cases hg : args[t]? with
  | none => rw [hg] at ht; cases ht
  | some x =>
    rw [hg] at ht; simp only [Option.some.injEq] at ht; subst ht
    obtain ⟨V, h1, h2⟩ := h.get hg
    have hlt : t < as.size := by
      rcases Nat.lt_or_ge t as.size with h' | h'
      · exact h'
      · rw [List.getElem?_eq_none (by simpa using h')] at h1; cases h1
    exact ⟨V, by rw [Array.getElem?_append_left hlt, ← Array.getElem?_toList]; exact h1, h2⟩

section
variable {P : Program} {ty : Ty} (hty : TyOk P ty)
include hty

theorem res_sound {ι : Io} {fr : Fr} {h : Heap} {a : Act} {w : World} (hfr : FrR ι fr a.tmps) (rep : Rep ι w h) : ∀ {rs : List ResultVar} {l : List CV}, resA ty fr h rs = some l →
    ∃ vs : List Value, (rs.mapM fun
      | .tmp t => pure (a.tmps.getD t undef)
      | .cell x t => do loadVar t (← asAddr (a.tmps.getD x undef)) : Sem (List Value)).run P w = .ok vs w ∧ CRs ι l vs
  | [], l, hr => by simp only [resA, Option.some.injEq] at hr; subst hr; exact ⟨[], by simp, trivial⟩
  | .tmp t :: rs, l, hr => by
    simp only [resA] at hr
    split at hr
    · rename_i v hv
      split at hr
      · rename_i l' hl'
        simp only [Option.some.injEq] at hr; subst hr
        obtain ⟨vs, e1, e2⟩ := res_sound hfr rep hl'
        obtain ⟨V, h1, h2⟩ := hfr.2 t _ hv
        refine ⟨V :: vs, ?_, h2, e2⟩
        rw [List.mapM_cons, Sem.run_bind]
        have hget : a.tmps.getD t undef = V := by rw [Array.getD_eq_getD_getElem?, h1]; rfl
        simp only [Sem.run_pure, Result.andThen_ok, Sem.run_bind, e1, hget]
      · cases hr
    · cases hr
  | .cell x t :: rs, l, hr => by
    simp only [resA] at hr
    split at hr
    · rename_i b o hv
      obtain ⟨V, h1, cb, N, h2, rfl⟩ := hfr.2 x _ hv
      split at hr
      · rename_i ti ht
        split at hr
        · rename_i v hl
          split at hr
          · rename_i l' hl'
            simp only [Option.some.injEq] at hr; subst hr
            obtain ⟨vs, e1, e2⟩ := res_sound hfr rep hl'
            obtain ⟨V, k1, k2⟩ := load_of hty rep ht hl h2
            refine ⟨V :: vs, ?_, k2, e2⟩
            rw [List.mapM_cons, Sem.run_bind]
            have hget : a.tmps.getD x undef = .pointer (some { block := cb, off := o }) := by rw [Array.getD_eq_getD_getElem?, h1]; rfl
            simp only [Sem.run_bind, hget, asAddr, Sem.run_pure, Result.andThen_ok, k1]
            simp only [asAddr] at e1
            simp only [e1, Result.andThen_ok]
          · cases hr
        · cases hr
      · cases hr
    · cases hr

theorem done_sound {ι : Io} {fr : Fr} {h : Heap} {a : Act} {w : World} (hfr : FrR ι fr a.tmps) (rep : Rep ι w h) {x : AFn} {v : AV} {h' : Heap} {fn : Func} (hrs : fn.results.toList = x.results)
    (hd : fnDone ty x fr h = .ok v h') : h' = h ∧ ∃ V, (results fn a.tmps).run P w = .ok V w ∧ AVR ι v V := by
  unfold fnDone at hd
  have key : ∀ l, resA ty fr h x.results = some l → ∃ vs : Array Value, (fn.results.mapM fun
      | .tmp t => pure (a.tmps.getD t undef)
      | .cell x t => do loadVar t (← asAddr (a.tmps.getD x undef)) : Sem (Array Value)).run P w = .ok vs w ∧ CRs ι l vs.toList := by
    intro l hl
    rw [← hrs] at hl
    obtain ⟨vs, e1, e2⟩ := res_sound (P := P) hty hfr rep hl
    refine ⟨vs.toArray, ?_, by simpa using e2⟩
    rw [Array.mapM_eq_mapM_toList, Sem.run_map]
    erw [e1]
    rfl
  split at hd
  · rename_i c hl
    simp only [CRes.ok.injEq] at hd
    obtain ⟨rfl, rfl⟩ := hd
    obtain ⟨vs, e1, e2⟩ := key _ hl
    obtain ⟨V, hvs⟩ : ∃ V, vs.toList = [V] := by
      cases hh : vs.toList with
      | nil => rw [hh] at e2; exact e2.elim
      | cons V r => rw [hh] at e2; cases r with
        | nil => exact ⟨V, rfl⟩
        | cons _ _ => exact e2.2.elim
    rw [hvs] at e2
    have hsz : vs.size = 1 := by rw [← Array.length_toList, hvs]; rfl
    refine ⟨rfl, V, ?_, e2.1⟩
    unfold results
    rw [Sem.run_bind]
    erw [e1]
    simp only [Result.andThen_ok, hsz, dif_pos]
    have : vs = #[V] := by apply Array.toList_inj.1; rw [hvs]
    subst this
    rfl
  · rename_i l hne hl
    simp only [CRes.ok.injEq] at hd
    obtain ⟨rfl, rfl⟩ := hd
    obtain ⟨vs, e1, e2⟩ := key _ hl
    have hsz : vs.size ≠ 1 := by
      intro h1
      have hh : ∃ V, vs.toList = [V] := by
        have : vs.toList.length = 1 := by simpa using h1
        cases hv : vs.toList with
        | nil => rw [hv] at this; cases this
        | cons V r => rw [hv] at this; cases r with
          | nil => exact ⟨V, rfl⟩
          | cons _ _ => simp at this
      obtain ⟨V, hV⟩ := hh
      rw [hV] at e2
      cases l with
      | nil => exact e2.elim
      | cons c r => cases r with
        | nil => exact hne c rfl
        | cons _ _ => exact e2.2.elim
    refine ⟨rfl, .tuple vs, ?_, vs, rfl, e2⟩
    unfold results
    rw [Sem.run_bind]
    erw [e1]
    simp only [Result.andThen_ok, hsz, dif_neg, not_false_eq_true, Sem.run_pure]
  · cases hd

theorem callF_sound {fs : Fns} (hfs : FnsOk P fs) {body : K} (hk : KOk P body) : CallOk P (callF ty fs body) := by
  intro f args h v h' hr
  unfold callF at hr
  split at hr
  · cases hr
  · rename_i x hx
    obtain ⟨fn, f1, f2, f3, f4, f5⟩ := hfs f x hx
    cases hle : Nat.ble args.length x.ntmps with
    | false => rw [hle] at hr; cases hr
    | true =>
      rw [hle] at hr; simp only [cnd_true] at hr
      have hlen : args.length ≤ x.ntmps := Nat.le_of_ble_eq_true hle
      have hent : Enters P f := ⟨fn, f1, f5, by rw [f2]; rfl⟩
      -- both ways out
      have main : ∀ (r : Res) (fr1 : Fr) (h1 : Heap), body x.body ⟨x.ntmps, argsIn 0 args .e⟩ h = r → (r = .nrm fr1 h1 ∨ r = .ret fr1 h1) → fnDone ty x fr1 h1 = .ok v h' →
          h.next ≤ h'.next ∧ ∀ ι w (as : Array Value), Rep ι w h → ARs ι args as.toList → Free ι h.next h'.next →
            Calls P f as w fun e w' => ∃ V ι', e = .returned V ∧ AVR ι' v V ∧ Post ι h h' w w' ι' := by
        intro r fr1 h1 hb hrr hd
        have hg : r.good = true := by rcases hrr with rfl | rfl <;> rfl
        have hnx : r.next h.next = h1.next := by rcases hrr with rfl | rfl <;> rfl
        obtain ⟨n1, hx2⟩ := hk x.body _ h r hb hg
        rw [hnx] at n1
        have hh : h' = h1 := by
          unfold fnDone at hd
          split at hd <;> simp only [CRes.ok.injEq, reduceCtorEq] at hd <;> exact hd.2.symm
        subst hh
        refine ⟨n1, fun ι w as rep has hf => ?_⟩
        refine calls_of_wp f1 f2 ?_
        have hent := enter_rel has hlen
        rw [f3]
        obtain ⟨hw, _⟩ := hx2 ι { tmps := as ++ Array.replicate (x.ntmps - as.size) undef, defers := [] } w hent rep (by rw [hnx]; exact hf)
        refine wp_mono hw ?_
        intro e a' w' hq
        have fin : ∀ ι', FrR ι' fr1 a'.tmps → a'.defers = [] → Post ι h h' w w' ι' → a'.defers = [] ∧ ∃ V, (results fn a'.tmps).run P w' = .ok V w' ∧ ∃ V' ι', Ending.returned V = .returned V' ∧ AVR ι' v V' ∧ Post ι h h' w w' ι' := by
          intro ι' g1 g2 g3
          obtain ⟨_, V, k1, k2⟩ := done_sound (P := P) hty g1 g3.rep f4 hd
          exact ⟨g2, V, k1, V, ι', rfl, k2, g3⟩
        rcases hrr with rfl | rfl
        · obtain ⟨rfl, ι', g1, g2, g3⟩ := hq
          exact fin ι' g1 g2 g3
        · obtain ⟨rfl, ι', g1, g2, g3⟩ := hq
          exact fin ι' g1 g2 g3
      split at hr
      · rename_i fr1 h1 hb
        obtain ⟨a, b⟩ := main _ fr1 h1 hb (.inl rfl) hr
        exact ⟨hent, a, b⟩
      · rename_i fr1 h1 hb
        obtain ⟨a, b⟩ := main _ fr1 h1 hb (.inr rfl) hr
        exact ⟨hent, a, b⟩
      · cases hr
      · cases hr

/-- Overrides keep calls right. -/
noncomputable def OvOk (P : Program) (o : CallK → CallK) : Prop := ∀ call, CallOk P call → CallOk P (o call)

theorem ks_sound {fs : Fns} (hfs : FnsOk P fs) {dr : DrK} (hdr : ∀ call, CallOk P call → DrOk P ty call (dr call)) {ov : CallK → CallK} (hov : OvOk P ov) :
    ∀ n, KOk P (ks ty fs dr ov n).k ∧ ScOk P (ks ty fs dr ov n).sc ∧ CallOk P (ks ty fs dr ov n).c
  | 0 => ⟨(fun c fr h r hr hg => by subst hr; cases hg), (fun w c fr h r hr hg => by subst hr; cases hg), (fun f args h v h' hr => by cases hr)⟩
  | n + 1 => by
    obtain ⟨h1, h2, h3⟩ := ks_sound hfs hdr hov n
    exact ⟨step_sound hty h3 (hdr _ h3) h1 h2, stepScope_sound h1 h2, hov _ (callF_sound hty hfs h1)⟩

end
end Go.Proofs.YtmjogmpgamlhaaaGreat.Dm
