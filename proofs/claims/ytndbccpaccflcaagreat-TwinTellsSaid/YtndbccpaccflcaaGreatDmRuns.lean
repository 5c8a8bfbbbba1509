/- Runs in pieces, and calls whose answer is known. -/
import Derived.Test.YtndbccpaccflcaaGreatDmSeat
set_option linter.unusedVariables false
set_option linter.unusedSimpArgs false
set_option linter.unusedSectionVars false
namespace Go.Proofs.YtndbccpaccflcaaGreat.Dm
open Go Go.RowKit

/-- What a piece of code does, as the evaluator tells. -/
def Runs (P : Program) (c : Code) (fr : Fr) (h : Heap) (r : Res) : Prop := h.next ≤ r.next h.next ∧
  ∀ ι a w, FrR ι fr a.tmps → Rep ι w h → Free ι h.next (r.next h.next) → c.wp P (RQ ι h w a.defers r) a w

theorem Runs.of {P : Program} {kk : K} (hk : KOk P kk) {c : Code} {fr : Fr} {h : Heap} {r : Res} (hr : kk c fr h = r) (hg : r.good = true) : Runs P c fr h r := by
  obtain ⟨a, b⟩ := hk c fr h r hr hg
  exact ⟨a, fun ι x w h1 h2 h3 => (b ι x w h1 h2 h3).1⟩

theorem Runs.weak {P : Program} {c : Code} {fr fr' : Fr} {h : Heap} {r : Res} (hn : fr'.n = fr.n) (hs : ∀ t v, fr'.t.get t = some v → fr.t.get t = some v) (hr : Runs P c fr' h r) : Runs P c fr h r :=
  ⟨hr.1, fun ι a w h1 h2 h3 => hr.2 ι a w ⟨h1.1.trans hn.symm, fun t v ht => h1.2 t v (hs t v ht)⟩ h2 h3⟩

theorem Runs.seq {P : Program} {x y : Code} {fr fr1 : Fr} {h h1 : Heap} {r : Res} (hr : r.good = true) (hx : Runs P x fr h (.nrm fr1 h1)) (hy : Runs P y fr1 h1 r) : Runs P (x.seq y) fr h r := by
  have n1 : h.next ≤ h1.next := hx.1
  have n2 : h1.next ≤ r.next h.next := by
    have := hy.1
    cases r <;> first | exact this | (cases hr)
  refine ⟨Nat.le_trans n1 n2, fun ι a w hfr rep hf => wp_seq ?_⟩
  refine wp_mono (hx.2 ι a w hfr rep (hf.mono n2)) ?_
  rintro e a' w' ⟨rfl, ι', g1, g2, g3⟩
  have hf' : Free ι' h1.next (r.next h1.next) := by
    have := g3.free hf
    cases r <;> first | exact this | (cases hr)
  have := hy.2 ι' a' w' g1 g3.rep hf'
  rw [g2] at this
  exact wp_mono this (fun e a' w' hq => hq.trans g3)

/-- A call whose body comes back with an answer. -/
theorem calls_of_runs {P : Program} {f : FuncId} {fn : Func} {b : Code} (h1 : P.funcs[f]? = some fn) (h2 : fn.body = some b) {args : List AV} {as : Array Value} (hlen : args.length ≤ fn.ntmps)
    (hargs : ARs (fun _ => none) args as.toList) {fr' : Fr} {h' : Heap} (hr : Runs P b ⟨fn.ntmps, argsIn 0 args .e⟩ Heap.nil (.ret fr' h')) {v : AV}
    (hd : fnDone (tiOf P) ⟨fn.ntmps, fn.results.toList, b⟩ fr' h' = .ok (.cv (.sc (.b true))) h') (w : World) :
    Calls P f as w fun e w' => e = .returned (.bool true) ∧ Below w.heap.size w w' := by
  refine calls_of_wp h1 h2 ?_
  have hent := enter_rel hargs hlen
  have hw := hr.2 (fun _ => none) { tmps := as ++ Array.replicate (fn.ntmps - as.size) undef, defers := [] } w hent
    ⟨fun b o h => (by cases h), fun b o h => (by cases h), fun b b' o o' c N N' h => (by cases h), fun b c N h => (by cases h)⟩ (fun _ _ _ => rfl)
  refine wp_mono hw ?_
  rintro e a' w' ⟨rfl, ι', g1, g2, g3⟩
  obtain ⟨_, V, k1, k2⟩ := done_sound (P := P) (fn := fn) (tiOf_ok P) g1 g3.rep rfl hd
  have k2 : V = .bool true := k2
  subst k2
  exact ⟨g2, _, k1, rfl, g3.os, g3.tape, g3.output, g3.size, fun k hk => g3.frame k hk (fun b o N h => by cases h)⟩

/-- A function without arguments that always says true, in place of its run. -/
noncomputable def ovTrue (g : FuncId) (call : CallK) : CallK := fun f args h => cnd (Nat.beq f g)
  (match args with
  | [] => .ok (.cv (.sc (.b true))) h
  | _ => .bad 50) (call f args h)

theorem ovTrue_ok {P : Program} {g : FuncId} (hE : Enters P g) (hT : ∀ w, Calls P g #[] w fun e w' => e = .returned (.bool true) ∧ Below w.heap.size w w') : OvOk P (ovTrue g) := by
  intro call hc f args h v h' hr
  unfold ovTrue at hr
  cases hb : Nat.beq f g with
  | false => rw [hb] at hr; exact hc f args h v h' hr
  | true =>
    rw [hb] at hr; simp only [cnd_true] at hr
    have := Nat.eq_of_beq_eq_true hb
    subst this
    split at hr
    · simp only [CRes.ok.injEq] at hr
      obtain ⟨rfl, rfl⟩ := hr
      refine ⟨hE, Nat.le_refl _, fun ι w as rep has hf => ?_⟩
      have : as = #[] := by
        have := has.length
        simp at this
        exact Array.size_eq_zero_iff.1 this.symm
      subst this
      refine (hT w).mono ?_
      rintro e w' ⟨rfl, hb⟩
      exact ⟨.bool true, ι, rfl, rfl, rep.same (fun c hc => hb.block c hc) hb.size, fun _ _ => rfl, Nat.le_refl _, fun c hc _ => hb.block c hc, hb.size, fun b o c N h1 h2 => .inl ⟨b, o, N, h1, h2⟩, hb.tape, hb.os, hb.output⟩
    · cases hr

noncomputable def avseq : List AV → List AV → Bool
  | [], [] => true
  | a :: l, b :: r => aveq a b && avseq l r
  | _, _ => false
theorem avseq_eq : ∀ {a b : List AV}, avseq a b = true → a = b
  | [], [], _ => rfl
  | [], _ :: _, h => by cases h
  | _ :: _, [], h => by cases h
  | a :: l, b :: r, h => by
    simp only [avseq, Bool.and_eq_true] at h
    rw [aveq_eq h.1, avseq_eq h.2]

/-- A run from the empty heap that is known, in place of the run. -/
noncomputable def ovKnown (g : FuncId) (as : List AV) (v0 : AV) (h0 : Heap) (call : CallK) : CallK := fun f args h => cnd (Nat.beq f g)
  (match h with
  | ⟨0, .e⟩ => cnd (avseq args as) (.ok v0 h0) (call f args ⟨0, .e⟩)
  | h => call f args h) (call f args h)

theorem ovKnown_ok {P : Program} {call0 : CallK} (hc : CallOk P call0) {g : FuncId} {as : List AV} {v0 : AV} {h0 : Heap} (hr0 : call0 g as Heap.nil = .ok v0 h0) : OvOk P (ovKnown g as v0 h0) := by
  intro call hcall f args h v h' hr
  unfold ovKnown at hr
  cases hb : Nat.beq f g with
  | false => rw [hb] at hr; exact hcall f args h v h' hr
  | true =>
    rw [hb] at hr; simp only [cnd_true] at hr
    split at hr
    · cases ha : avseq args as with
      | false => rw [ha] at hr; exact hcall f args _ v h' hr
      | true =>
        rw [ha] at hr; simp only [cnd_true, CRes.ok.injEq] at hr
        obtain ⟨rfl, rfl⟩ := hr
        have := Nat.eq_of_beq_eq_true hb
        subst this
        have := avseq_eq ha
        subst this
        exact hc f args Heap.nil v0 h0 hr0
    · exact hcall f args h v h' hr

/-- The evaluator with calls that are known. -/
noncomputable def runsK (P : Program) (ov : CallK → CallK) (n : Nat) : Ks := ksF (tiOf P) (fsOf P) (drawA (tiOf P)) ov n

theorem runsK_ok {P : Program} (hm : P.follows .mixedOrders = true) (h : P.funcs.toList.all (fun fn => !(fn.name == "runtime.NumGoroutine")) = true) {ov : CallK → CallK} (hov : OvOk P ov) (n : Nat) :
    KOk P (runsK P ov n).k ∧ CallOk P (runsK P ov n).c := by
  unfold runsK
  rw [ksF_eq]
  have := ks_sound (tiOf_ok P) (fsOf_ok h) (fun call hcall => draw_ok (tiOf_ok P) hm hcall) hov n
  exact ⟨this.1, this.2.2⟩

end Go.Proofs.YtndbccpaccflcaaGreat.Dm
