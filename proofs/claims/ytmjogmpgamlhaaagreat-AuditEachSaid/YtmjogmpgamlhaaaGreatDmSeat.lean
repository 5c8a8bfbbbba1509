/- bits.Get by its contract: the override, whatever the program. -/
import Derived.Test.YtmjogmpgamlhaaaGreatDmFast
set_option linter.unusedVariables false
set_option linter.unusedSimpArgs false
set_option linter.unusedSectionVars false
namespace Go.Proofs.YtmjogmpgamlhaaaGreat.Dm
open Go Go.RowKit

noncomputable def fsOf (P : Program) : Fns := fun f => match P.funcs[f]? with
  | some fn => match fn.body with
    | some b => some ⟨fn.ntmps, fn.results.toList, b⟩
    | none => none
  | none => none

theorem tiOf_ok (P : Program) : TyOk P (tiOf P) := fun _ _ h => h

theorem fsOf_ok {P : Program} (h : P.funcs.toList.all (fun fn => !(fn.name == "runtime.NumGoroutine")) = true) : FnsOk P (fsOf P) := by
  intro f x hx
  unfold fsOf at hx
  split at hx
  · rename_i fn hf
    split at hx
    · rename_i b hb
      simp only [Option.some.injEq] at hx; subst hx
      refine ⟨fn, hf, hb, rfl, rfl, ?_⟩
      rw [List.all_eq_true] at h
      have := h fn (by rw [← Array.getElem?_toList] at hf; exact List.mem_of_getElem? hf)
      simpa using this
    · cases hx
  · cases hx

/-- The calls that the evaluator runs, over a program. -/
noncomputable def runs (P : Program) (n : Nat) : CallK := (ksF (tiOf P) (fsOf P) (drawA (tiOf P)) (fun c => c) n).c

theorem runs_ok {P : Program} (hm : P.follows .mixedOrders = true) (h : P.funcs.toList.all (fun fn => !(fn.name == "runtime.NumGoroutine")) = true) (n : Nat) : CallOk P (runs P n) := by
  unfold runs
  rw [ksF_eq]
  exact calls_ok (tiOf_ok P) hm (fsOf_ok h) (fun call hc => hc) n

/-- A call that says true. -/
noncomputable def saysTrue : CRes → Bool
  | .ok (.cv (.sc (.b x))) _ => x
  | _ => false

noncomputable def argOf : Value → AV
  | .int k n => .cv (.sc (.i k n))
  | .bool b => .cv (.sc (.b b))
  | _ => .tu []

/-- A run on no memory at all: it says so whatever the world holds, and leaves what was there. -/
theorem calls_true {P : Program} {call : CallK} (hc : CallOk P call) {f : FuncId} {args : List AV} {as : Array Value} (hargs : ARs (fun _ => none) args as.toList) (ht : saysTrue (call f args Heap.nil) = true) (w : World) :
    Calls P f as w fun e w' => e = .returned (.bool true) ∧ Below w.heap.size w w' := by
  cases hr : call f args Heap.nil with
  | bad n => rw [hr] at ht; cases ht
  | ok v h' =>
    rw [hr] at ht
    obtain ⟨_, _, hx⟩ := hc f args Heap.nil v h' hr
    have hv : v = .cv (.sc (.b true)) := by
      unfold saysTrue at ht
      split at ht
      · rename_i x _ he
        simp only [CRes.ok.injEq] at he
        rw [he.1, ht]
      · cases ht
    subst hv
    refine (hx (fun _ => none) w as ⟨fun b o h => (by cases h), fun b o h => (by cases h), fun b b' o o' c N N' h => (by cases h), fun b c N h => (by cases h)⟩ hargs (fun _ _ _ => rfl)).mono ?_
    rintro e w' ⟨V, ι', rfl, h1, h2⟩
    have h1 : V = .bool true := h1
    subst h1
    exact ⟨rfl, h2.os, h2.tape, h2.output, h2.size, fun k hk => h2.frame k hk (fun b o N h => by cases h)⟩

end Go.Proofs.YtmjogmpgamlhaaaGreat.Dm

namespace Go.Proofs.YtmjogmpgamlhaaaGreat.Dm
open Go Go.RowKit

/-- What a piece of code does, as the evaluator tells. -/
def Runs (P : Program) (c : Code) (fr : Fr) (h : Heap) (r : Res) : Prop := h.next ≤ r.next h.next ∧
  ∀ ι a w, FrR ι fr a.tmps → Rep ι w h → Free ι h.next (r.next h.next) → c.wp P (RQ ι h w a.defers r) a w

theorem Runs.of {P : Program} {kk : K} (hk : KOk P kk) {c : Code} {fr : Fr} {h : Heap} {r : Res} (hr : kk c fr h = r) (hg : r.good = true) : Runs P c fr h r := by
  obtain ⟨a, b⟩ := hk c fr h r hr hg
  exact ⟨a, fun ι x w h1 h2 h3 => (b ι x w h1 h2 h3).1⟩

theorem Runs.weak {P : Program} {c : Code} {fr fr' : Fr} {h : Heap} {r : Res} (hn : fr'.n = fr.n) (hs : ∀ t v, fr'.t.get t = some v → fr.t.get t = some v) (hr : Runs P c fr' h r) : Runs P c fr h r :=
  ⟨hr.1, fun ι a w h1 h2 h3 => hr.2 ι a w ⟨h1.1.trans hn.symm, fun t v ht => h1.2 t v (hs t v ht)⟩ h2 h3⟩

theorem Runs.seq {P : Program} {x y : Code} {fr fr1 : Fr} {h h1 : Heap} {r : Res} (hr : r.good = true) (hx : Runs P x fr h (.nrm fr1 h1)) (hy : Runs P y fr1 h1 r) : Runs P (x.seq y) fr h r := by
  have n1 : h.next ≤ h1.next := hx.1
  have n2 : h1.next ≤ r.next h.next := by
    have := hy.1
    cases r <;> first | exact this | (cases hr)
  refine ⟨Nat.le_trans n1 n2, fun ι a w hfr rep hf => wp_seq ?_⟩
  refine wp_mono (hx.2 ι a w hfr rep (hf.mono n2)) ?_
  rintro e a' w' ⟨rfl, ι', g1, g2, g3⟩
  have hf' : Free ι' h1.next (r.next h1.next) := by
    have := g3.free hf
    cases r <;> first | exact this | (cases hr)
  have := hy.2 ι' a' w' g1 g3.rep hf'
  rw [g2] at this
  exact wp_mono this (fun e a' w' hq => hq.trans g3)

/-- A call whose body comes back with an answer. -/
theorem calls_of_runs {P : Program} {f : FuncId} {fn : Func} {b : Code} (h1 : P.funcs[f]? = some fn) (h2 : fn.body = some b) {args : List AV} {as : Array Value} (hlen : args.length ≤ fn.ntmps)
    (hargs : ARs (fun _ => none) args as.toList) {fr' : Fr} {h' : Heap} (hr : Runs P b ⟨fn.ntmps, argsIn 0 args .e⟩ Heap.nil (.ret fr' h')) {v : AV}
    (hd : fnDone (tiOf P) ⟨fn.ntmps, fn.results.toList, b⟩ fr' h' = .ok (.cv (.sc (.b true))) h') (w : World) :
    Calls P f as w fun e w' => e = .returned (.bool true) ∧ Below w.heap.size w w' := by
  refine calls_of_wp h1 h2 ?_
  have hent := enter_rel hargs hlen
  have hw := hr.2 (fun _ => none) { tmps := as ++ Array.replicate (fn.ntmps - as.size) undef, defers := [] } w hent
    ⟨fun b o h => (by cases h), fun b o h => (by cases h), fun b b' o o' c N N' h => (by cases h), fun b c N h => (by cases h)⟩ (fun _ _ _ => rfl)
  refine wp_mono hw ?_
  rintro e a' w' ⟨rfl, ι', g1, g2, g3⟩
  obtain ⟨_, V, k1, k2⟩ := done_sound (P := P) (fn := fn) (tiOf_ok P) g1 g3.rep rfl hd
  have k2 : V = .bool true := k2
  subst k2
  exact ⟨g2, _, k1, rfl, g3.os, g3.tape, g3.output, g3.size, fun k hk => g3.frame k hk (fun b o N h => by cases h)⟩

/-- A function without arguments that always says true, in place of its run. -/
noncomputable def ovTrue (g : FuncId) (call : CallK) : CallK := fun f args h => cnd (Nat.beq f g)
  (match args with
  | [] => .ok (.cv (.sc (.b true))) h
  | _ => .bad 50) (call f args h)

theorem ovTrue_ok {P : Program} {g : FuncId} (hE : Enters P g) (hT : ∀ w, Calls P g #[] w fun e w' => e = .returned (.bool true) ∧ Below w.heap.size w w') : OvOk P (ovTrue g) := by
  intro call hc f args h v h' hr
  unfold ovTrue at hr
  cases hb : Nat.beq f g with
  | false => rw [hb] at hr; exact hc f args h v h' hr
  | true =>
    rw [hb] at hr; simp only [cnd_true] at hr
    have := Nat.eq_of_beq_eq_true hb
    subst this
    split at hr
    · simp only [CRes.ok.injEq] at hr
      obtain ⟨rfl, rfl⟩ := hr
      refine ⟨hE, Nat.le_refl _, fun ι w as rep has hf => ?_⟩
      have : as = #[] := by
        have := has.length
        simp at this
        exact Array.size_eq_zero_iff.1 this.symm
      subst this
      refine (hT w).mono ?_
      rintro e w' ⟨rfl, hb⟩
      exact ⟨.bool true, ι, rfl, rfl, rep.same (fun c hc => hb.block c hc) hb.size, fun _ _ => rfl, Nat.le_refl _, fun c hc _ => hb.block c hc, hb.size, rep.lt, fun b o c N h1 h2 => .inl ⟨b, o, N, h1, h2⟩, hb.tape, hb.os, hb.output, fun b o hb _ => ⟨o, hb, SamK.refl o⟩, fun b k es l cb N _ hι _ n _ V => HasM.same (hb.block cb (rep.dom b cb N hι)) k n V⟩
    · cases hr

noncomputable def avseq : List AV → List AV → Bool
  | [], [] => true
  | a :: l, b :: r => aveq a b && avseq l r
  | _, _ => false
theorem avseq_eq : ∀ {a b : List AV}, avseq a b = true → a = b
  | [], [], _ => rfl
  | [], _ :: _, h => by cases h
  | _ :: _, [], h => by cases h
  | a :: l, b :: r, h => by
    simp only [avseq, Bool.and_eq_true] at h
    rw [aveq_eq h.1, avseq_eq h.2]

/-- A run from the empty heap that is known, in place of the run. -/
noncomputable def ovKnown (g : FuncId) (as : List AV) (v0 : AV) (h0 : Heap) (call : CallK) : CallK := fun f args h => cnd (Nat.beq f g)
  (match h with
  | ⟨0, .e⟩ => cnd (avseq args as) (.ok v0 h0) (call f args ⟨0, .e⟩)
  | h => call f args h) (call f args h)

theorem ovKnown_ok {P : Program} {call0 : CallK} (hc : CallOk P call0) {g : FuncId} {as : List AV} {v0 : AV} {h0 : Heap} (hr0 : call0 g as Heap.nil = .ok v0 h0) : OvOk P (ovKnown g as v0 h0) := by
  intro call hcall f args h v h' hr
  unfold ovKnown at hr
  cases hb : Nat.beq f g with
  | false => rw [hb] at hr; exact hcall f args h v h' hr
  | true =>
    rw [hb] at hr; simp only [cnd_true] at hr
    split at hr
    · cases ha : avseq args as with
      | false => rw [ha] at hr; exact hcall f args _ v h' hr
      | true =>
        rw [ha] at hr; simp only [cnd_true, CRes.ok.injEq] at hr
        obtain ⟨rfl, rfl⟩ := hr
        have := Nat.eq_of_beq_eq_true hb
        subst this
        have := avseq_eq ha
        subst this
        exact hc f args Heap.nil v0 h0 hr0
    · exact hcall f args h v h' hr

/-- The evaluator with calls that are known. -/
noncomputable def runsK (P : Program) (ov : CallK → CallK) (n : Nat) : Ks := ksF (tiOf P) (fsOf P) (drawA (tiOf P)) ov n

theorem runsK_ok {P : Program} (hm : P.follows .mixedOrders = true) (h : P.funcs.toList.all (fun fn => !(fn.name == "runtime.NumGoroutine")) = true) {ov : CallK → CallK} (hov : OvOk P ov) (n : Nat) :
    KOk P (runsK P ov n).k ∧ CallOk P (runsK P ov n).c := by
  unfold runsK
  rw [ksF_eq]
  have := ks_sound (tiOf_ok P) (fsOf_ok h) (fun call hcall => draw_ok (tiOf_ok P) hm hcall) hov n
  exact ⟨this.1, this.2.2⟩

end Go.Proofs.YtmjogmpgamlhaaaGreat.Dm

namespace Go.Proofs.YtmjogmpgamlhaaaGreat.Dm
open Go Go.RowKit

/-! ### values without memory -/

noncomputable def flatS : SV → Bool
  | .b _ => true | .i _ _ => true | .f _ => true | .c _ _ => true | .s _ => true | .np => true | .nsl => true | .nm => true | .nfn => true
  | _ => false
noncomputable def flatSs : List SV → Bool
  | [] => true
  | x :: l => flatS x && flatSs l
noncomputable def flatC : CV → Bool
  | .sc x => flatS x
  | .ag l => flatSs l
noncomputable def flatCs : List CV → Bool
  | [] => true
  | x :: l => flatC x && flatCs l
noncomputable def flatA : AV → Bool
  | .cv x => flatC x
  | .tu l => flatCs l
noncomputable def flatAs : List AV → Bool
  | [] => true
  | x :: l => flatA x && flatAs l

section
variable {ι ι' : Io}
theorem flatS_rel {x : SV} {v : Value} (hf : flatS x = true) (h : VR ι x v) : VR ι' x v := by
  cases x <;> first | exact h | cases hf
theorem flatSs_rel : ∀ {l : List SV} {r : List Value}, flatSs l = true → Rs ι l r → Rs ι' l r
  | [], [], _, _ => trivial
  | [], _ :: _, _, h => h.elim
  | _ :: _, [], _, h => h.elim
  | _ :: _, _ :: _, hf, ⟨a, b⟩ => by
    simp only [flatSs, Bool.and_eq_true] at hf
    exact ⟨flatS_rel hf.1 a, flatSs_rel hf.2 b⟩
theorem flatC_rel {x : CV} {v : Value} (hf : flatC x = true) (h : CVR ι x v) : CVR ι' x v := by
  cases x with
  | sc x => exact flatS_rel hf h
  | ag l => obtain ⟨a, hv, h⟩ := h; exact ⟨a, hv, flatSs_rel hf h⟩
theorem flatCs_rel : ∀ {l : List CV} {r : List Value}, flatCs l = true → CRs ι l r → CRs ι' l r
  | [], [], _, _ => trivial
  | [], _ :: _, _, h => h.elim
  | _ :: _, [], _, h => h.elim
  | _ :: _, _ :: _, hf, ⟨a, b⟩ => by
    simp only [flatCs, Bool.and_eq_true] at hf
    exact ⟨flatC_rel hf.1 a, flatCs_rel hf.2 b⟩
theorem flatA_rel {x : AV} {v : Value} (hf : flatA x = true) (h : AVR ι x v) : AVR ι' x v := by
  cases x with
  | cv x => exact flatC_rel hf h
  | tu l => obtain ⟨a, hv, h⟩ := h; exact ⟨a, hv, flatCs_rel hf h⟩
theorem flatAs_rel : ∀ {l : List AV} {r : List Value}, flatAs l = true → ARs ι l r → ARs ι' l r
  | [], [], _, _ => trivial
  | [], _ :: _, _, h => h.elim
  | _ :: _, [], _, h => h.elim
  | _ :: _, _ :: _, hf, ⟨a, b⟩ => by
    simp only [flatAs, Bool.and_eq_true] at hf
    exact ⟨flatA_rel hf.1 a, flatAs_rel hf.2 b⟩
end

/-- What a call of pure scalars answers, whatever the world holds. -/
def Known (P : Program) (f : FuncId) (args : List AV) (v : AV) : Prop := Enters P f ∧ ∀ (w : World) (as : Array Value), ARs (fun _ => none) args as.toList →
  Calls P f as w fun e w' => ∃ V, e = .returned V ∧ AVR (fun _ => none) v V ∧ Below w.heap.size w w'

noncomputable def okFlat (r : CRes) : Option AV :=
  match r with
  | .ok v _ => cnd (flatA v) (some v) none
  | .bad _ => none

theorem known_of {P : Program} {call : CallK} (hc : CallOk P call) {f : FuncId} {args : List AV} {v : AV} (h : okFlat (call f args Heap.nil) = some v) : Known P f args v := by
  cases hr : call f args Heap.nil with
  | bad n => rw [hr] at h; cases h
  | ok v' h' =>
    rw [hr] at h
    unfold okFlat at h
    simp only at h
    cases hfl : flatA v' with
    | false => rw [hfl] at h; cases h
    | true =>
      rw [hfl] at h
      simp only [cnd_true, Option.some.injEq] at h
      subst h
      obtain ⟨hE, hn, hx⟩ := hc f args Heap.nil v' h' hr
      refine ⟨hE, fun w as has => ?_⟩
      refine (hx (fun _ => none) w as ⟨fun b o h => (by cases h), fun b o h => (by cases h), fun b b' o o' c N N' h => (by cases h), fun b c N h => (by cases h)⟩ has (fun _ _ _ => rfl)).mono ?_
      rintro e w' ⟨V, ι', rfl, h1, h2⟩
      exact ⟨V, rfl, flatA_rel hfl h1, h2.os, h2.tape, h2.output, h2.size, fun k hk => h2.frame k hk (fun b o N h => by cases h)⟩

/-- A table of calls that are known. -/
abbrev Memo := List (FuncId × List AV × AV)

noncomputable def Memo.find (f : FuncId) (args : List AV) : Memo → Option AV
  | [] => none
  | (g, as, v) :: l => cnd (Nat.beq f g) (cnd (avseq args as) (some v) (Memo.find f args l)) (Memo.find f args l)

def MemoOk (P : Program) (m : Memo) : Prop := ∀ x ∈ m, flatAs x.2.1 = true ∧ flatA x.2.2 = true ∧ Known P x.1 x.2.1 x.2.2

theorem Memo.find_mem {f : FuncId} {args : List AV} {v : AV} : ∀ {m : Memo}, m.find f args = some v → (f, args, v) ∈ m
  | [], h => by cases h
  | (g, as, u) :: l, h => by
    unfold Memo.find at h
    cases hb : Nat.beq f g with
    | false => rw [hb] at h; exact List.mem_cons_of_mem _ (Memo.find_mem h)
    | true =>
      rw [hb] at h
      simp only [cnd_true] at h
      cases ha : avseq args as with
      | false => rw [ha] at h; exact List.mem_cons_of_mem _ (Memo.find_mem h)
      | true =>
        rw [ha] at h
        simp only [cnd_true, Option.some.injEq] at h
        have h1 := Nat.eq_of_beq_eq_true hb
        have h2 := avseq_eq ha
        subst h1 h2 h
        exact List.mem_cons_self

theorem post_below {ι : Io} {h : Heap} {w w' : World} (rep : Rep ι w h) (hb : Below w.heap.size w w') : Post ι h h w w' ι :=
  ⟨rep.same (fun c hc => hb.block c hc) hb.size, fun _ _ => rfl, Nat.le_refl _, fun c hc _ => hb.block c hc, hb.size, rep.lt, fun b o c N h1 h2 => .inl ⟨b, o, N, h1, h2⟩, hb.tape, hb.os, hb.output, fun b o hb _ => ⟨o, hb, SamK.refl o⟩, fun b k es l cb N _ hι _ n _ V => HasM.same (hb.block cb (rep.dom b cb N hι)) k n V⟩

noncomputable def ovMemo (gs : FuncId → Bool) (m : Memo) (call : CallK) : CallK := fun f args h => cnd (gs f)
  (match m.find f args with
  | some v => .ok v h
  | none => call f args h) (call f args h)

theorem ovMemo_ok {P : Program} {gs : FuncId → Bool} {m : Memo} (hm : MemoOk P m) : OvOk P (ovMemo gs m) := by
  intro call hc f args h v h' hr
  unfold ovMemo at hr
  cases hb : gs f with
  | false => rw [hb] at hr; exact hc f args h v h' hr
  | true =>
    rw [hb] at hr; simp only [cnd_true] at hr
    split at hr
    · rename_i u hu
      simp only [CRes.ok.injEq] at hr
      obtain ⟨rfl, rfl⟩ := hr
      obtain ⟨k1, k2, k3, k4⟩ := hm _ (Memo.find_mem hu)
      refine ⟨k3, Nat.le_refl _, fun ι w as rep has hf => ?_⟩
      refine (k4 w as (flatAs_rel k1 has)).mono ?_
      rintro e w' ⟨V, rfl, hv, hb⟩
      exact ⟨V, ι, rfl, flatA_rel k2 hv, post_below rep hb⟩
    · exact hc f args h v h' hr

/-- One override behind another. -/
theorem ov_comp {P : Program} {a b : CallK → CallK} (ha : OvOk P a) (hb : OvOk P b) : OvOk P (fun c => a (b c)) := fun c hc => ha _ (hb c hc)

end Go.Proofs.YtmjogmpgamlhaaaGreat.Dm

namespace Go.Proofs.YtmjogmpgamlhaaaGreat.Dm
open Go Go.RowKit

noncomputable def leNat : List Nat → Nat
  | [] => 0
  | a :: l => Nat.add a (Nat.mul 256 (leNat l))

noncomputable def szOk (s : Nat) : Bool := Nat.beq s 8 || Nat.beq s 4 || Nat.beq s 1 || Nat.beq s 2

noncomputable def getA (args : List AV) (h : Heap) : Option AV :=
  match args with
  | [.cv (.sc (.sl b o n cap z ex)), .cv (.sc (.i .i64 (.ofNat at_))), .cv (.sc (.i .i64 (.ofNat s)))] =>
    cnd (Nat.beq z 1 && szOk s && Nat.beq (Nat.mod at_ s) 0 && Nat.ble (Nat.add at_ s) n && Nat.ble n 1000000)
      (match h.get b with
      | some (.cells r _) => match bytesOf r (Nat.add o at_) s with
        | some l => some (.tu [.sc (.i .u64 (.ofNat (leNat l))), .sc (.i .i64 0)])
        | none => none
      | _ => none) none
  | _ => none

noncomputable def ovGet (g : FuncId) (call : CallK) : CallK := fun f args h => cnd (Nat.beq f g)
  (match getA args h with
  | some v => .ok v h
  | none => call f args h) (call f args h)

theorem bytesOf_at (r : Row) : ∀ (k o : Nat) (l : List Nat), bytesOf r o k = some l → l.length = k ∧ ∀ (i a : Nat), l[i]? = some a → a < 256 ∧ r.get (o + i) = some (.i .u8 (.ofNat a))
  | 0, o, l, h => by
    simp only [bytesOf, Option.some.injEq] at h
    subst h
    exact ⟨rfl, fun i a h => by simp at h⟩
  | k + 1, o, l, h => by
    unfold bytesOf at h
    split at h
    · rename_i a ha
      split at h
      · rename_i l' hl'
        cases hb : Nat.blt a 256 with
        | false => rw [hb] at h; cases h
        | true =>
          rw [hb] at h; simp only [cnd_true, Option.some.injEq] at h
          subst h
          obtain ⟨i1, i2⟩ := bytesOf_at r k (Nat.succ o) l' hl'
          refine ⟨by simp [i1], fun i c hc => ?_⟩
          cases i with
          | zero =>
            simp at hc
            subst hc
            exact ⟨Nat.le_of_ble_eq_true hb, ha⟩
          | succ i =>
            have := i2 i c (by simpa using hc)
            rw [show Nat.succ o + i = o + (i + 1) by omega] at this
            exact this
      · cases h
    · cases h

/-- What the contract of bits.Get says. -/
def GetOk (P : Program) (g : FuncId) : Prop := Enters P g ∧ ∀ {cb o n c at_ s : Nat} {l : List Nat}, (s = 1 ∨ s = 2 ∨ s = 4 ∨ s = 8) → at_ % s = 0 → at_ + s ≤ n → n ≤ 1000000 → ∀ (w : World), l.length = s → (∀ a ∈ l, a < 256) →
  (∀ (j a : Nat), l[j]? = some a → w.cell? ⟨cb, o + (at_ + j), none⟩ = some (.int .u8 (a : Int))) →
  Calls P g #[.slice (some ⟨cb, o, none⟩) n c, .int .i64 (at_ : Int), .int .i64 (s : Int)] w fun e w' => e = .returned (.tuple #[.int .u64 (leNat l : Nat), .int .i64 0]) ∧ Below w.heap.size w w'

theorem ovGet_ok {P : Program} {g : FuncId} (hG : GetOk P g) : OvOk P (ovGet g) := by
  intro call hc f args h v h' hr
  unfold ovGet at hr
  cases hb : Nat.beq f g with
  | false => rw [hb] at hr; exact hc f args h v h' hr
  | true =>
    rw [hb] at hr; simp only [cnd_true] at hr
    split at hr
    · rename_i u hu
      obtain rfl := Nat.eq_of_beq_eq_true hb
      simp only [CRes.ok.injEq] at hr
      obtain ⟨rfl, rfl⟩ := hr
      unfold getA at hu
      split at hu
      · rename_i b o n cap z ex at_ s
        cases hcd : (Nat.beq z 1 && szOk s && Nat.beq (Nat.mod at_ s) 0 && Nat.ble (Nat.add at_ s) n && Nat.ble n 1000000) with
        | false => rw [hcd] at hu; cases hu
        | true =>
          rw [hcd] at hu; simp only [cnd_true] at hu
          simp only [Bool.and_eq_true] at hcd
          obtain ⟨⟨⟨⟨c1, c2⟩, c3⟩, c4⟩, c5⟩ := hcd
          obtain rfl := Nat.eq_of_beq_eq_true c1
          have hs : s = 1 ∨ s = 2 ∨ s = 4 ∨ s = 8 := by
            unfold szOk at c2
            simp only [Bool.or_eq_true] at c2
            rcases c2 with ((c2 | c2) | c2) | c2 <;> have := Nat.eq_of_beq_eq_true c2 <;> omega
          have hmd : at_ % s = 0 := Nat.eq_of_beq_eq_true c3
          have hn : at_ + s ≤ n := Nat.le_of_ble_eq_true c4
          have hn6 : n ≤ 1000000 := Nat.le_of_ble_eq_true c5
          split at hu
          · rename_i r ro hgb
            split at hu
            · rename_i l hl
              simp only [Option.some.injEq] at hu
              subst hu
              refine ⟨hG.1, Nat.le_refl _, fun ι w as rep has hf => ?_⟩
              obtain ⟨as⟩ := as
              obtain ⟨a1, a2, a3, rfl⟩ : ∃ a1 a2 a3, as = [a1, a2, a3] := by
                match as, has with
                | [a1, a2, a3], _ => exact ⟨a1, a2, a3, rfl⟩
                | [], h => exact h.elim
                | [_], h => exact h.2.elim
                | [_, _], h => exact h.2.2.elim
                | _ :: _ :: _ :: _ :: _, h => exact h.2.2.2.elim
              obtain ⟨h1, h2, h3, -⟩ := has
              obtain ⟨cb, N, o', capc, e1, rfl, k0, k1, k2⟩ := (show VR ι (.sl b o n cap 1 ex) a1 from h1)
              obtain rfl : a2 = .int .i64 (at_ : Int) := h2
              obtain rfl : a3 = .int .i64 (s : Int) := h3
              obtain rfl : o' = o := by
                cases ex with
                | true => exact (k1 rfl).1
                | false => exact ((k2 rfl).2.1).resolve_left (by omega)
              obtain ⟨cb', N', g1, cs, el, fr, g2, g3, g4, g5, g6⟩ := rep.obj b _ hgb
              rw [e1] at g1
              simp only [Option.some.injEq, Prod.mk.injEq] at g1
              obtain ⟨rfl, rfl⟩ := g1
              obtain ⟨l1, l2⟩ := bytesOf_at r s (Nat.add o' at_) l hl
              refine (hG.2 (l := l) hs hmd hn hn6 w l1 (fun a ha => by obtain ⟨j, hj⟩ := List.getElem?_of_mem ha; exact (l2 j a hj).1) (fun j a hj => by
                obtain ⟨V, v1, v2⟩ := g5 _ _ (l2 j a hj).2
                obtain rfl : V = .int .u8 (a : Int) := v2
                rw [show o' + (at_ + j) = Nat.add o' at_ + j from (Nat.add_assoc o' at_ j).symm]
                simp only [World.cell?, g2]
                simpa using v1)).mono ?_
              rintro e w' ⟨rfl, hb⟩
              exact ⟨_, ι, rfl, ⟨_, rfl, rfl, rfl, trivial⟩, post_below rep hb⟩
            · cases hu
          · cases hu
      · cases hu
    · exact hc f args h v h' hr
end Go.Proofs.YtmjogmpgamlhaaaGreat.Dm
