/- The evaluator as a whole. -/
import Derived.Test.YtafkkicnfngpoaaGreatDmCode
set_option linter.unusedVariables false
set_option linter.unusedSimpArgs false
set_option linter.unusedSectionVars false
namespace Go.Proofs.YtafkkicnfngpoaaGreat.Dm
open Go

theorem stepScope_sound {P : Program} {ih : K} (hk : KOk P ih) {sc : Code → K} (hsc : ScOk P sc) : ScOk P (stepScope ih sc) := by
  intro whole c fr h r hr hg
  unfold stepScope at hr
  split at hr
  · rename_i l fr1 h1 h2
    obtain ⟨n1, hx⟩ := hk c fr h _ h2 rfl
    split at hr
    · rename_i rest hl
      obtain ⟨n2, hy⟩ := hsc whole rest fr1 h1 r hr hg
      have n2' : h1.next ≤ r.next h.next := by cases r <;> first | exact n2 | (cases hg)
      have n3 : h.next ≤ r.next h.next := Nat.le_trans n1 n2'
      refine ⟨n3, fun ι a w hfr rep hf b k cs => ?_⟩
      obtain ⟨e, a1, w1, ⟨rfl, ι1, g1, g2, g3⟩, harr⟩ := (hx ι a w hfr rep (hf.mono n2')).1 b (.inScope whole :: k) cs
      have k6' : Free ι1 h1.next (r.next h1.next) := by
        have := g3.free hf
        cases r <;> first | exact this | (cases hg)
      obtain ⟨e2, a2, w2, q2, harr2⟩ := hy ι1 a1 w1 g1 g3.rep k6' b k cs
      rw [g2] at q2
      refine ⟨e2, a2, w2, q2.trans g3, .of_steps (harr (.code rest :: .inScope whole :: k) ?_) harr2⟩
      simp [gotoIn, hl]
    · rename_i hl
      subst hr
      refine ⟨n1, fun ι a w hfr rep hf b k cs => ?_⟩
      obtain ⟨e, a1, w1, ⟨rfl, q⟩, harr⟩ := (hx ι a w hfr rep hf).1 b (.inScope whole :: k) cs
      exact ⟨_, a1, w1, ⟨rfl, q⟩, fun k' hk' => harr k' (by simp [gotoIn, hl, hk'])⟩
  · rename_i r' hn
    obtain ⟨n1, hx⟩ := hk c fr h r hr hg
    refine ⟨n1, fun ι a w hfr rep hf b k cs => ?_⟩
    obtain ⟨e, a1, w1, q, harr⟩ := (hx ι a w hfr rep hf).1 b (.inScope whole :: k) cs
    cases r with
    | nrm fr' h' =>
      obtain ⟨rfl, q⟩ := q
      exact ⟨_, a1, w1, ⟨rfl, q⟩, Steps.trans harr (.one step_inScope)⟩
    | exit id fr' h' =>
      obtain ⟨rfl, q⟩ := q
      exact ⟨_, a1, w1, ⟨rfl, q⟩, fun k' hk' => harr k' (by simp [exitTo, hk'])⟩
    | goto l fr' h' => exact absurd hr (hn l fr' h')
    | ret fr' h' =>
      obtain ⟨rfl, q⟩ := q
      exact ⟨_, a1, w1, ⟨rfl, q⟩, harr⟩
    | bad n => exact q.elim

/-! ### calls -/

noncomputable def FnsOk (P : Program) (fs : Fns) : Prop := ∀ f x, fs f = some x → ∃ fn, P.funcs[f]? = some fn ∧ fn.body = some x.body ∧ fn.ntmps = x.ntmps ∧ fn.results.toList = x.results ∧ (fn.name == "runtime.NumGoroutine") = false

theorem argsIn_get : ∀ (l : List AV) (i : Nat) (t : Tr AV) (j : Nat), (argsIn i l t).get j = if i ≤ j then (match l[j - i]? with | some v => some v | none => t.get j) else t.get j
  | [], i, t, j => by simp [argsIn]
  | v :: l, i, t, j => by
    simp only [argsIn]
    rw [argsIn_get l, Tr.get_put]
    by_cases h1 : i ≤ j
    · rw [if_pos h1]
      by_cases h2 : Nat.succ i ≤ j
      · rw [if_pos h2]
        have : j - i = (j - Nat.succ i) + 1 := by omega
        rw [this, List.getElem?_cons_succ, if_neg (by omega)]
      · rw [if_neg h2]
        have : j = i := by omega
        subst this; simp
    · rw [if_neg h1, if_neg (by omega), if_neg (by omega)]

theorem ARs.length : ∀ {ι : Io} {l : List AV} {r : List Value}, ARs ι l r → l.length = r.length
  | _, [], [], _ => rfl
  | _, [], _ :: _, h => h.elim
  | _, _ :: _, [], h => h.elim
  | _, _ :: _, _ :: _, ⟨_, b⟩ => by simp [ARs.length b]

theorem ARs.get : ∀ {ι : Io} {l : List AV} {r : List Value} {i : Nat} {x : AV}, ARs ι l r → l[i]? = some x → ∃ v, r[i]? = some v ∧ AVR ι x v
  | _, [], [], _, _, _, h => by simp at h
  | _, [], _ :: _, _, _, h, _ => h.elim
  | _, _ :: _, [], _, _, h, _ => h.elim
  | _, _ :: _, v :: _, 0, _, ⟨a, _⟩, h => by simp at h; subst h; exact ⟨v, rfl, a⟩
  | _, _ :: _, _ :: _, i + 1, _, ⟨_, b⟩, h => by simp at h; simpa using ARs.get b h

theorem enter_rel {ι : Io} {args : List AV} {as : Array Value} {n : Nat} (h : ARs ι args as.toList) (hn : args.length ≤ n) :
    FrR ι ⟨n, argsIn 0 args .e⟩ (as ++ Array.replicate (n - as.size) undef) := by
  have hlen := h.length
  simp only [Array.length_toList] at hlen
  refine ⟨by simp; omega, fun t v ht => ?_⟩
  simp only [argsIn_get, Nat.zero_le, if_true, Nat.sub_zero, Tr.get_e] at ht
  cases hg : args[t]? with
  | none => rw [hg] at ht; cases ht
  | some x =>
    rw [hg] at ht; simp only [Option.some.injEq] at ht; subst ht
    obtain ⟨V, h1, h2⟩ := h.get hg
    have hlt : t < as.size := by
      rcases Nat.lt_or_ge t as.size with h' | h'
      · exact h'
      · rw [List.getElem?_eq_none (by simpa using h')] at h1; cases h1
    exact ⟨V, by rw [Array.getElem?_append_left hlt, ← Array.getElem?_toList]; exact h1, h2⟩

section
variable {P : Program} {ty : Ty} (hty : TyOk P ty)
include hty

theorem res_sound {ι : Io} {fr : Fr} {h : Heap} {a : Act} {w : World} (hfr : FrR ι fr a.tmps) (rep : Rep ι w h) : ∀ {rs : List ResultVar} {l : List CV}, resA ty fr h rs = some l →
    ∃ vs : List Value, (rs.mapM fun
      | .tmp t => pure (a.tmps.getD t undef)
      | .cell x t => do loadVar t (← asAddr (a.tmps.getD x undef)) : Sem (List Value)).run P w = .ok vs w ∧ CRs ι l vs
  | [], l, hr => by simp only [resA, Option.some.injEq] at hr; subst hr; exact ⟨[], by simp, trivial⟩
  | .tmp t :: rs, l, hr => by
    simp only [resA] at hr
    split at hr
    · rename_i v hv
      split at hr
      · rename_i l' hl'
        simp only [Option.some.injEq] at hr; subst hr
        obtain ⟨vs, e1, e2⟩ := res_sound hfr rep hl'
        obtain ⟨V, h1, h2⟩ := hfr.2 t _ hv
        refine ⟨V :: vs, ?_, h2, e2⟩
        rw [List.mapM_cons, Sem.run_bind]
        have hget : a.tmps.getD t undef = V := by rw [Array.getD_eq_getD_getElem?, h1]; rfl
        simp only [Sem.run_pure, Result.andThen_ok, Sem.run_bind, e1, hget]
      · cases hr
    · cases hr
  | .cell x t :: rs, l, hr => by
    simp only [resA] at hr
    split at hr
    · rename_i b o hv
      obtain ⟨V, h1, cb, N, h2, rfl⟩ := hfr.2 x _ hv
      split at hr
      · rename_i ti ht
        split at hr
        · rename_i v hl
          split at hr
          · rename_i l' hl'
            simp only [Option.some.injEq] at hr; subst hr
            obtain ⟨vs, e1, e2⟩ := res_sound hfr rep hl'
            obtain ⟨V, k1, k2⟩ := load_of hty rep ht hl h2
            refine ⟨V :: vs, ?_, k2, e2⟩
            rw [List.mapM_cons, Sem.run_bind]
            have hget : a.tmps.getD x undef = .pointer (some { block := cb, off := o }) := by rw [Array.getD_eq_getD_getElem?, h1]; rfl
            simp only [Sem.run_bind, hget, asAddr, Sem.run_pure, Result.andThen_ok, k1]
            simp only [asAddr] at e1
            simp only [e1, Result.andThen_ok]
          · cases hr
        · cases hr
      · cases hr
    · cases hr

theorem done_sound {ι : Io} {fr : Fr} {h : Heap} {a : Act} {w : World} (hfr : FrR ι fr a.tmps) (rep : Rep ι w h) {x : AFn} {v : AV} {h' : Heap} {fn : Func} (hrs : fn.results.toList = x.results)
    (hd : fnDone ty x fr h = .ok v h') : h' = h ∧ ∃ V, (results fn a.tmps).run P w = .ok V w ∧ AVR ι v V := by
  unfold fnDone at hd
  have key : ∀ l, resA ty fr h x.results = some l → ∃ vs : Array Value, (fn.results.mapM fun
      | .tmp t => pure (a.tmps.getD t undef)
      | .cell x t => do loadVar t (← asAddr (a.tmps.getD x undef)) : Sem (Array Value)).run P w = .ok vs w ∧ CRs ι l vs.toList := by
    intro l hl
    rw [← hrs] at hl
    obtain ⟨vs, e1, e2⟩ := res_sound (P := P) hty hfr rep hl
    refine ⟨vs.toArray, ?_, by simpa using e2⟩
    rw [Array.mapM_eq_mapM_toList, Sem.run_map]
    erw [e1]
    rfl
  split at hd
  · rename_i c hl
    simp only [CRes.ok.injEq] at hd
    obtain ⟨rfl, rfl⟩ := hd
    obtain ⟨vs, e1, e2⟩ := key _ hl
    obtain ⟨V, hvs⟩ : ∃ V, vs.toList = [V] := by
      cases hh : vs.toList with
      | nil => rw [hh] at e2; exact e2.elim
      | cons V r => rw [hh] at e2; cases r with
        | nil => exact ⟨V, rfl⟩
        | cons _ _ => exact e2.2.elim
    rw [hvs] at e2
    have hsz : vs.size = 1 := by rw [← Array.length_toList, hvs]; rfl
    refine ⟨rfl, V, ?_, e2.1⟩
    unfold results
    rw [Sem.run_bind]
    erw [e1]
    simp only [Result.andThen_ok, hsz, dif_pos]
    have : vs = #[V] := by apply Array.toList_inj.1; rw [hvs]
    subst this
    rfl
  · rename_i l hne hl
    simp only [CRes.ok.injEq] at hd
    obtain ⟨rfl, rfl⟩ := hd
    obtain ⟨vs, e1, e2⟩ := key _ hl
    have hsz : vs.size ≠ 1 := by
      intro h1
      have hh : ∃ V, vs.toList = [V] := by
        have : vs.toList.length = 1 := by simpa using h1
        cases hv : vs.toList with
        | nil => rw [hv] at this; cases this
        | cons V r => rw [hv] at this; cases r with
          | nil => exact ⟨V, rfl⟩
          | cons _ _ => simp at this
      obtain ⟨V, hV⟩ := hh
      rw [hV] at e2
      cases l with
      | nil => exact e2.elim
      | cons c r => cases r with
        | nil => exact hne c rfl
        | cons _ _ => exact e2.2.elim
    refine ⟨rfl, .tuple vs, ?_, vs, rfl, e2⟩
    unfold results
    rw [Sem.run_bind]
    erw [e1]
    simp only [Result.andThen_ok, hsz, dif_neg, not_false_eq_true, Sem.run_pure]
  · cases hd

theorem callF_sound {fs : Fns} (hfs : FnsOk P fs) {body : K} (hk : KOk P body) : CallOk P (callF ty fs body) := by
  intro f args h v h' hr
  unfold callF at hr
  split at hr
  · cases hr
  · rename_i x hx
    obtain ⟨fn, f1, f2, f3, f4, f5⟩ := hfs f x hx
    cases hle : Nat.ble args.length x.ntmps with
    | false => rw [hle] at hr; cases hr
    | true =>
      rw [hle] at hr; simp only [cnd_true] at hr
      have hlen : args.length ≤ x.ntmps := Nat.le_of_ble_eq_true hle
      have hent : Enters P f := ⟨fn, f1, f5, by rw [f2]; rfl⟩
      -- both ways out
      have main : ∀ (r : Res) (fr1 : Fr) (h1 : Heap), body x.body ⟨x.ntmps, argsIn 0 args .e⟩ h = r → (r = .nrm fr1 h1 ∨ r = .ret fr1 h1) → fnDone ty x fr1 h1 = .ok v h' →
          h.next ≤ h'.next ∧ ∀ ι w (as : Array Value), Rep ι w h → ARs ι args as.toList → Free ι h.next h'.next →
            Calls P f as w fun e w' => ∃ V ι', e = .returned V ∧ AVR ι' v V ∧ Post ι h h' w w' ι' := by
        intro r fr1 h1 hb hrr hd
        have hg : r.good = true := by rcases hrr with rfl | rfl <;> rfl
        have hnx : r.next h.next = h1.next := by rcases hrr with rfl | rfl <;> rfl
        obtain ⟨n1, hx2⟩ := hk x.body _ h r hb hg
        rw [hnx] at n1
        have hh : h' = h1 := by
          unfold fnDone at hd
          split at hd <;> simp only [CRes.ok.injEq, reduceCtorEq] at hd <;> exact hd.2.symm
        subst hh
        refine ⟨n1, fun ι w as rep has hf => ?_⟩
        refine calls_of_wp f1 f2 ?_
        have hent := enter_rel has hlen
        rw [f3]
        obtain ⟨hw, _⟩ := hx2 ι { tmps := as ++ Array.replicate (x.ntmps - as.size) undef, defers := [] } w hent rep (by rw [hnx]; exact hf)
        refine wp_mono hw ?_
        intro e a' w' hq
        have fin : ∀ ι', FrR ι' fr1 a'.tmps → a'.defers = [] → Post ι h h' w w' ι' → a'.defers = [] ∧ ∃ V, (results fn a'.tmps).run P w' = .ok V w' ∧ ∃ V' ι', Ending.returned V = .returned V' ∧ AVR ι' v V' ∧ Post ι h h' w w' ι' := by
          intro ι' g1 g2 g3
          obtain ⟨_, V, k1, k2⟩ := done_sound (P := P) hty g1 g3.rep f4 hd
          exact ⟨g2, V, k1, V, ι', rfl, k2, g3⟩
        rcases hrr with rfl | rfl
        · obtain ⟨rfl, ι', g1, g2, g3⟩ := hq
          exact fin ι' g1 g2 g3
        · obtain ⟨rfl, ι', g1, g2, g3⟩ := hq
          exact fin ι' g1 g2 g3
      split at hr
      · rename_i fr1 h1 hb
        obtain ⟨a, b⟩ := main _ fr1 h1 hb (.inl rfl) hr
        exact ⟨hent, a, b⟩
      · rename_i fr1 h1 hb
        obtain ⟨a, b⟩ := main _ fr1 h1 hb (.inr rfl) hr
        exact ⟨hent, a, b⟩
      · cases hr
      · cases hr

/-- Overrides keep calls right. -/
noncomputable def OvOk (P : Program) (o : CallK → CallK) : Prop := ∀ call, CallOk P call → CallOk P (o call)

theorem ks_sound {fs : Fns} (hfs : FnsOk P fs) {dr : DrK} (hdr : ∀ call, CallOk P call → DrOk P ty call (dr call)) {ov : CallK → CallK} (hov : OvOk P ov) :
    ∀ n, KOk P (ks ty fs dr ov n).k ∧ ScOk P (ks ty fs dr ov n).sc ∧ CallOk P (ks ty fs dr ov n).c
  | 0 => ⟨(fun c fr h r hr hg => by subst hr; cases hg), (fun w c fr h r hr hg => by subst hr; cases hg), (fun f args h v h' hr => by cases hr)⟩
  | n + 1 => by
    obtain ⟨h1, h2, h3⟩ := ks_sound hfs hdr hov n
    exact ⟨step_sound hty h3 (hdr _ h3) h1 h2, stepScope_sound h1 h2, hov _ (callF_sound hty hfs h1)⟩

end
end Go.Proofs.YtafkkicnfngpoaaGreat.Dm
