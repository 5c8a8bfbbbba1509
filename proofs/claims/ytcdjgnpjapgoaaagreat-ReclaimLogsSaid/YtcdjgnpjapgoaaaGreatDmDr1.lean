/- Regions whose order is drawn: effects, and the whole. -/
import Derived.Test.YtcdjgnpjapgoaaaGreatDmRun
set_option linter.unusedVariables false
set_option linter.unusedSimpArgs false
set_option linter.unusedSectionVars false
namespace Go.Proofs.YtcdjgnpjapgoaaaGreat.Dm
open Go

/-- As 'Rep', of what is known of memory as a relation. -/
structure RepG (ι : Io) (w : World) (g : Nat → AO → Prop) : Prop where
  obj : ∀ b o, g b o → ∃ cb N, ι b = some (cb, N) ∧ OR ι o cb N w
  inj : ∀ b b' o o' c N N', g b o → g b' o' → ι b = some (c, N) → ι b' = some (c, N') → b = b'
  dom : ∀ b c N, ι b = some (c, N) → c < w.heap.size

theorem RepG.rep {ι : Io} {w : World} {g : Nat → AO → Prop} (r : RepG ι w g) {h : Heap} (hh : ∀ b o, h.get b = some o → b < h.next ∧ g b o) : Rep ι w h :=
  ⟨fun b o hb => (hh b o hb).1, fun b o hb => r.obj b o (hh b o hb).2, fun b b' o o' c N N' hb hb' => r.inj b b' o o' c N N' (hh b o hb).2 (hh b' o' hb').2, r.dom⟩

theorem RepG.mono {ι : Io} {w : World} {g g' : Nat → AO → Prop} (r : RepG ι w g) (hh : ∀ b o, g' b o → g b o) : RepG ι w g' :=
  ⟨fun b o hb => r.obj b o (hh b o hb), fun b b' o o' c N N' hb hb' => r.inj b b' o o' c N N' (hh b o hb) (hh b' o' hb'), r.dom⟩

theorem RepG.still {ι : Io} {w w' : World} {g : Nat → AO → Prop} {h : Heap} (r : RepG ι w g) (s : Still ι h w w') : RepG ι w' g := by
  refine ⟨fun b o hb => ?_, r.inj, fun b c N hb => by rw [s.size]; exact r.dom b c N hb⟩
  have hs : ∀ x y, (Heap.mk (b + 1) (Tr.e.put (some o) b)).get x = some y → x = b ∧ y = o := by
    intro x y hx
    have hx : (Tr.e.put (some o) b).get x = some y := hx
    rw [Tr.get_put] at hx
    by_cases e : x = b
    · rw [if_pos e] at hx; simp only [Option.some.injEq] at hx; exact ⟨e, hx.symm⟩
    · rw [if_neg e] at hx; cases hx
  have r1 : Rep ι w (Heap.mk (b + 1) (Tr.e.put (some o) b)) :=
    r.rep fun x y hx => by
      obtain ⟨e, e'⟩ := hs x y hx
      subst e; subst e'
      exact ⟨Nat.lt_succ_self _, hb⟩
  have r2 := s.rep ι _ r1
  exact r2.obj b o (by show (Tr.e.put (some o) b).get b = some o; rw [Tr.get_put, if_pos rfl])

/-- What the one run through a drawn region has fixed. -/
structure Plan where
  fr : Fr
  h0 : Heap
  m : Nat
  ev : Nat → Nat
  st : Nat → Nat
  val : Nat → AV
  wr : Nat → Option Nat
  before : Nat → Nat → Bool
  H : Nat → Heap
  Hp : Nat → Heap
  al : Nat → Option (Nat × AO)

noncomputable def Closed (ops : Array Oper) (D : Nat → Prop) : Prop := ∀ i o, ops[i]? = some o → D i → ∀ e ∈ o.after, Region.binds .any e = true → D e.on

/-- What operation i sees of the slots. -/
noncomputable def Plan.env (pl : Plan) (i : Nat) : Env
  | .tmp t => match pl.wr t with
    | none => pl.fr.t.get t
    | some j => cnd (pl.before i j) (some (pl.val j)) (cnd (Nat.beq j i || pl.before j i) (pl.fr.t.get t) none)
  | .const v => avOf v
  | .global _ => none
  | .func f => some (.cv (.sc (.fn f [] [])))

noncomputable def Plan.wants (pl : Plan) (ops : Array Oper) (i : Nat) (o : Oper) (b : Bool) : Prop :=
  match o.guard with
  | none => b = true
  | some (j, want) => pl.before i j = true ∧ ∃ oj d x, ops[j]? = some oj ∧ oj.dst = some d ∧ pl.val j = .cv (.sc (.b x)) ∧ b = (x == want)

structure PlanOk (ty : Ty) (call : CallK) (ops : Array Oper) (pl : Plan) : Prop where
  start : pl.H 0 = pl.h0
  edge : ∀ i o, ops[i]? = some o → ∀ e ∈ o.after, Region.binds .any e = true → e.on < i
  bef : ∀ D, Closed ops D → ∀ i o, ops[i]? = some o → (∀ e ∈ o.after, Region.binds .any e = true → D e.on) → ∀ j, pl.before i j = true → D j
  wr1 : ∀ i o d, ops[i]? = some o → o.dst = some d → pl.wr d = some i ∧ d < pl.fr.n
  wr2 : ∀ i d, pl.wr d = some i → ∃ o, ops[i]? = some o ∧ o.dst = some d
  chain : ∀ k, k + 1 < pl.m → pl.before (pl.ev (k + 1)) (pl.ev k) = true
  evi : ∀ k k', k < pl.m → k' < pl.m → pl.ev k = pl.ev k' → k = k'
  alE : ∀ k, k < pl.m → pl.al (pl.ev k) = none
  alO : ∀ i x, pl.al i = some x → ∃ o, ops[i]? = some o
  alS : ∀ i id ob, pl.al i = some (id, ob) → pl.st i ≤ pl.m ∧ (pl.H (pl.st i)).next ≤ id ∧ id < (pl.Hp (pl.st i)).next
  alI : ∀ i j id ob ob', pl.al i = some (id, ob) → pl.al j = some (id, ob') → i = j
  quiet : ∀ i o, ops[i]? = some o → (∀ k, k < pl.m → pl.ev k ≠ i) → pl.st i ≤ pl.m ∧ (pl.st i < pl.m → pl.before (pl.ev (pl.st i)) i = true) ∧
    ((pl.wants ops i o false ∧ pl.val i = .tu [] ∧ pl.al i = none) ∨
     (pl.wants ops i o true ∧ pl.al i = none ∧ ∃ lo, (0 < lo → lo - 1 < pl.m ∧ pl.before i (pl.ev (lo - 1)) = true) ∧ ∀ p, lo ≤ p → p ≤ pl.st i →
        ∃ Hq : Heap, (∀ b x, Hq.get b = some x → (pl.H p).get b = some x ∨ ∃ j, pl.before i j = true ∧ p ≤ pl.st j ∧ pl.al j = some (b, x)) ∧ qop ty (pl.env i) Hq o.op = some (pl.val i)) ∨
     (pl.wants ops i o true ∧ ∃ id ob f, pl.al i = some (id, ob) ∧ alop ty (pl.env i) o.op = some (ob, f) ∧ pl.val i = f id))
  effect : ∀ k, k < pl.m → ∃ o, ops[pl.ev k]? = some o ∧
    ((pl.wants ops (pl.ev k) o false ∧ pl.val (pl.ev k) = .tu [] ∧ pl.H (k + 1) = pl.Hp k) ∨
     (pl.wants ops (pl.ev k) o true ∧ ((eop ty (pl.env (pl.ev k)) (pl.Hp k) o.op = some (pl.val (pl.ev k), pl.H (k + 1))) ∨
        ∃ c f args, o.op = .call c ∧ callA (pl.env (pl.ev k)) c = some (f, args) ∧ call f args (pl.Hp k) = .ok (pl.val (pl.ev k)) (pl.H (k + 1)))))
  hp : ∀ k, k ≤ pl.m → (pl.H k).next ≤ (pl.Hp k).next ∧ ∀ b x, (pl.Hp k).get b = some x → (pl.H k).get b = some x ∨ ∃ i, pl.st i = k ∧ pl.al i = some (b, x)

section
variable {P : Program} {ty : Ty} (hty : TyOk P ty) {call : CallK} (hcall : CallOk P call) {ops : Array Oper} {pl : Plan} (ok : PlanOk ty call ops pl)
include hty hcall ok

theorem PlanOk.hnext {k : Nat} (hk : k < pl.m) : (pl.Hp k).next ≤ (pl.H (k + 1)).next := by
  obtain ⟨o, _, h⟩ := ok.effect k hk
  rcases h with ⟨_, _, h⟩ | ⟨_, h | ⟨c, f, args, _, _, h⟩⟩
  · rw [h]; exact Nat.le_refl _
  · exact eop_next h
  · exact (hcall _ _ _ _ _ h).2.1

theorem PlanOk.mono : ∀ (k' k : Nat), k ≤ k' → k' ≤ pl.m → (pl.H k).next ≤ (pl.H k').next
  | 0, k, h, _ => by obtain rfl : k = 0 := by omega
                     exact Nat.le_refl _
  | k' + 1, k, h, hm => by
    by_cases e : k = k' + 1
    · subst e; exact Nat.le_refl _
    · exact Nat.le_trans (PlanOk.mono k' k (by omega) (by omega)) (Nat.le_trans (ok.hp k' (by omega)).1 (PlanOk.hnext hty hcall ok (by omega)))

theorem PlanOk.mono' {k k' : Nat} (h : k < k') (hm : k' ≤ pl.m) : (pl.Hp k).next ≤ (pl.H k').next :=
  Nat.le_trans (PlanOk.hnext hty hcall ok (by omega)) (PlanOk.mono hty hcall ok k' (k + 1) h hm)

theorem PlanOk.nf {k : Nat} (hk : k ≤ pl.m) : (pl.Hp k).next ≤ (pl.Hp pl.m).next := by
  by_cases e : k = pl.m
  · subst e; exact Nat.le_refl _
  · exact Nat.le_trans (PlanOk.mono' hty hcall ok (k' := pl.m) (by omega) (Nat.le_refl _)) (ok.hp pl.m (Nat.le_refl _)).1
end

/-- What is known of memory once the operations in D are done, p effects among them. -/
noncomputable def Plan.G (pl : Plan) (D : Nat → Prop) (p : Nat) (b : Nat) (x : AO) : Prop := (pl.H p).get b = some x ∨ ∃ i, D i ∧ p ≤ pl.st i ∧ pl.al i = some (b, x)

structure Inv (ops : Array Oper) (pl : Plan) (ι0 : Io) (w0 : World) (ds : List Deferred) (D : Nat → Prop) (p : Nat) (ι : Io) (a : Act) (w : World) : Prop where
  cl : Closed ops D
  pm : p ≤ pl.m
  eff : ∀ k, k < pl.m → (D (pl.ev k) ↔ k < p)
  size : a.tmps.size = pl.fr.n
  done : ∀ t j, pl.wr t = some j → D j → ∃ V, a.tmps[t]? = some V ∧ AVR ι (pl.val j) V
  undone : ∀ t j, pl.wr t = some j → ¬ D j → ∀ v, pl.fr.t.get t = some v → ∃ V, a.tmps[t]? = some V ∧ AVR ι v V
  old : ∀ t, pl.wr t = none → ∀ v, pl.fr.t.get t = some v → ∃ V, a.tmps[t]? = some V ∧ AVR ι v V
  ds : a.defers = ds
  lt : ∀ b x, (pl.H p).get b = some x → b < (pl.H p).next
  rep : RepG ι w (pl.G D p)
  ext : ∀ b, (b < pl.h0.next ∨ (pl.Hp pl.m).next ≤ b) → ι b = ι0 b
  free : ∀ b, (pl.H p).next ≤ b → b < (pl.Hp pl.m).next → (∀ i o, D i → p ≤ pl.st i → pl.al i ≠ some (b, o)) → ι b = none
  frame : ∀ c, c < w0.heap.size → (∀ b o N, pl.h0.get b = some o → ι0 b ≠ some (c, N)) → w.heap[c]? = w0.heap[c]?
  grow : w0.heap.size ≤ w.heap.size
  fresh : ∀ b o c N, pl.G D p b o → ι b = some (c, N) → (∃ b0 o0 N0, pl.h0.get b0 = some o0 ∧ ι0 b0 = some (c, N0)) ∨ w0.heap.size ≤ c
  tape : w.tape = w0.tape
  os : w.os = w0.os
  output : w.output = w0.output

section
variable {P : Program} {ty : Ty} (hty : TyOk P ty) {call : CallK} (hcall : CallOk P call) {ops : Array Oper} {pl : Plan} (ok : PlanOk ty call ops pl)
  {ι0 : Io} {w0 : World} {ds : List Deferred} {D : Nat → Prop} {p : Nat} {ι : Io} {a : Act} {w : World} (inv : Inv ops pl ι0 w0 ds D p ι a w)
  {i : Nat} {o : Oper} (hi : ops[i]? = some o) (hpre : ∀ e ∈ o.after, Region.binds .any e = true → D e.on) (hD : ¬ D i)
include hty hcall ok inv hi hpre hD

theorem Inv.env : ER ι (pl.env i) a.eval := by
  intro x v hx
  cases x with
  | tmp t =>
    show AVR ι v (a.tmps.getD t undef)
    simp only [Plan.env] at hx
    have fin : (∃ V, a.tmps[t]? = some V ∧ AVR ι v V) → AVR ι v (a.tmps.getD t undef) := by
      rintro ⟨V, h1, h2⟩
      rw [Array.getD_eq_getD_getElem?, h1]; exact h2
    apply fin
    split at hx
    · rename_i hw; exact inv.old t hw v hx
    · rename_i j hw
      cases hb : pl.before i j with
      | true =>
        rw [hb] at hx; simp only [cnd_true, Option.some.injEq] at hx; subst hx
        exact inv.done t j hw (ok.bef D inv.cl i o hi hpre j hb)
      | false =>
        rw [hb] at hx; simp only [cnd_false] at hx
        cases hb2 : (Nat.beq j i || pl.before j i) with
        | false => rw [hb2] at hx; cases hx
        | true =>
          rw [hb2] at hx; simp only [cnd_true] at hx
          have hj : ¬ D j := by
            intro hj
            simp only [Bool.or_eq_true] at hb2
            rcases hb2 with hb2 | hb2
            · have := Nat.eq_of_beq_eq_true hb2; subst this; exact hD hj
            · obtain ⟨oj, hoj, _⟩ := ok.wr2 j t hw
              exact hD (ok.bef D inv.cl j oj hoj (inv.cl j oj hoj hj) i hb2)
          exact inv.undone t j hw hj v hx
  | const c =>
    simp only [Plan.env, avOf] at hx
    split at hx
    · rename_i cv hc; simp only [Option.some.injEq] at hx; subst hx; exact cvOf_rel ι hc
    · cases hx
  | global g => cases hx
  | func f => simp only [Plan.env, Option.some.injEq] at hx; subst hx; exact ⟨#[], #[], rfl, trivial, trivial⟩

theorem Inv.wanted {b : Bool} (hw : pl.wants ops i o b) : Region.wanted o (yielded ops a.tmps) = b := by
  unfold Plan.wants at hw
  unfold Region.wanted
  cases hg : o.guard with
  | none => rw [hg] at hw; exact hw.symm
  | some q =>
    obtain ⟨j, want⟩ := q
    rw [hg] at hw; simp only [] at hw
    obtain ⟨h1, oj, d, x, h2, h3, h4, rfl⟩ := hw
    obtain ⟨V, k1, k2⟩ := inv.done d j (ok.wr1 j oj d h2 h3).1 (ok.bef D inv.cl i o hi hpre j h1)
    rw [h4] at k2
    have k2 : V = .bool x := k2
    subst k2
    have hy : yielded ops a.tmps j = some x := by
      unfold yielded; rw [h2]; simp only [Option.bind_some, h3, k1]
    simp only [hy]; cases x <;> cases want <;> rfl

/-- The slots behind one more operation. -/
theorem Inv.slots {ι' : Io} (hs : Sub ι ι') {V : Value} (hv : AVR ι' (pl.val i) V) :
    (a.put o.dst V).tmps.size = pl.fr.n ∧
    (∀ t j, pl.wr t = some j → (D j ∨ j = i) → ∃ U, (a.put o.dst V).tmps[t]? = some U ∧ AVR ι' (pl.val j) U) ∧
    (∀ t j, pl.wr t = some j → ¬ (D j ∨ j = i) → ∀ v, pl.fr.t.get t = some v → ∃ U, (a.put o.dst V).tmps[t]? = some U ∧ AVR ι' v U) ∧
    (∀ t, pl.wr t = none → ∀ v, pl.fr.t.get t = some v → ∃ U, (a.put o.dst V).tmps[t]? = some U ∧ AVR ι' v U) := by
  have keep : ∀ t, (∀ d, o.dst = some d → t ≠ d) → (a.put o.dst V).tmps[t]? = a.tmps[t]? := by
    intro t ht
    cases hd : o.dst with
    | none => rfl
    | some d => simp only [Act.put, Array.getElem?_setIfInBounds]; rw [if_neg (Ne.symm (ht d hd))]
  have other : ∀ t, pl.wr t ≠ some i → ∀ d, o.dst = some d → t ≠ d := by
    intro t ht d hd e
    subst e
    exact ht (ok.wr1 i o t hi hd).1
  refine ⟨?_, ?_, ?_, ?_⟩
  · cases hd : o.dst with
    | none => exact inv.size
    | some d => simp [Act.put, inv.size]
  · intro t j hw hj
    by_cases e : j = i
    · subst e
      obtain ⟨o', ho', hd'⟩ := ok.wr2 j t hw
      rw [hi] at ho'; simp only [Option.some.injEq] at ho'; subst ho'
      have hlt := (ok.wr1 j o t hi hd').2
      refine ⟨V, ?_, hv⟩
      rw [hd']
      simp [Act.put, inv.size, hlt]
    · obtain ⟨U, h1, h2⟩ := inv.done t j hw (hj.resolve_right e)
      refine ⟨U, ?_, AVR.mono hs h2⟩
      rw [keep t (other t (by rw [hw]; simpa using e))]; exact h1
  · intro t j hw hj v hv'
    obtain ⟨U, h1, h2⟩ := inv.undone t j hw (fun h => hj (.inl h)) v hv'
    refine ⟨U, ?_, AVR.mono hs h2⟩
    rw [keep t (other t (by rw [hw]; simpa using fun h => hj (.inr h)))]; exact h1
  · intro t hw v hv'
    obtain ⟨U, h1, h2⟩ := inv.old t hw v hv'
    refine ⟨U, ?_, AVR.mono hs h2⟩
    rw [keep t (other t (by rw [hw]; simp))]; exact h1

theorem Inv.closed : Closed ops (fun j => D j ∨ j = i) := by
  intro j oj hj hd e he hb
  rcases hd with hd | rfl
  · exact .inl (inv.cl j oj hj hd e he hb)
  · rw [hi] at hj; simp only [Option.some.injEq] at hj; subst hj
    exact .inl (hpre e he hb)

/-- An operation that is none of the effects is behind as many effects as its stage lets it. -/
theorem Inv.stage (hq : ∀ k, k < pl.m → pl.ev k ≠ i) : p ≤ pl.st i := by
  rcases Nat.lt_or_ge (pl.st i) p with h | h
  · exfalso
    have hm : pl.st i < pl.m := Nat.lt_of_lt_of_le h inv.pm
    obtain ⟨oe, hoe, _⟩ := ok.effect _ hm
    have hde : D (pl.ev (pl.st i)) := (inv.eff _ hm).2 h
    exact hD (ok.bef D inv.cl _ oe hoe (inv.cl _ oe hoe hde) i ((ok.quiet i o hi hq).2.1 hm))
  · exact h

theorem Inv.quiet {h : Heap} {V : Value} {w' : World} (hh : ∀ b x, h.get b = some x → pl.G D p b x) (hal : pl.al i = none) (hq : ∀ k, k < pl.m → pl.ev k ≠ i) (hv : AVR ι (pl.val i) V) (s : Still ι h w w') :
    Inv ops pl ι0 w0 ds (fun j => D j ∨ j = i) p ι (a.put o.dst V) w' := by
  obtain ⟨s1, s2, s3, s4⟩ := inv.slots hty hcall ok hi hpre hD (Sub.refl ι) hv
  have hG : ∀ b x, pl.G (fun j => D j ∨ j = i) p b x → pl.G D p b x := by
    rintro b x (hx | ⟨j, hj | rfl, h1, h2⟩)
    · exact .inl hx
    · exact .inr ⟨j, hj, h1, h2⟩
    · rw [hal] at h2; cases h2
  refine { cl := inv.closed hty hcall ok hi hpre hD, pm := inv.pm, eff := fun k hk => ?_, size := s1, done := s2, undone := s3, old := s4, ds := ?_, lt := inv.lt,
           rep := (inv.rep.still s).mono hG, ext := inv.ext, free := fun b h1 h2 h3 => inv.free b h1 h2 (fun j x hj => h3 j x (.inl hj)),
           frame := fun c hc hn => ?_, grow := by rw [s.size]; exact inv.grow, fresh := fun b x c N hx => inv.fresh b x c N (hG b x hx),
           tape := by rw [s.tape]; exact inv.tape, os := by rw [s.os]; exact inv.os, output := by rw [s.output]; exact inv.output }
  · constructor
    · rintro (h1 | h1)
      · exact (inv.eff k hk).1 h1
      · exact absurd h1 (hq k hk)
    · exact fun h1 => .inl ((inv.eff k hk).2 h1)
  · rw [← inv.ds]; cases o.dst <;> rfl
  · rw [s.frame c ?_]
    · exact inv.frame c hc hn
    · intro b x N hx hb
      rcases inv.fresh b x c N (hh b x hx) hb with ⟨b0, o0, N0, k1, k2⟩ | k
      · exact hn b0 o0 N0 k1 k2
      · omega

theorem Inv.alloc {id : Nat} {ob : AO} {N : Nat} {O : Obj} {V : Value} (hal : pl.al i = some (id, ob)) (hq : ∀ k, k < pl.m → pl.ev k ≠ i)
    (hV : ∀ (ι' : Io) (w' : World), ι' id = some (w.heap.size, N) → Sub ι ι' → w'.heap[w.heap.size]? = some O → AVR ι' (pl.val i) V ∧ OR ι' ob w.heap.size N w') :
    ∃ ι', Inv ops pl ι0 w0 ds (fun j => D j ∨ j = i) p ι' (a.put o.dst V) { w with heap := w.heap.push O } := by
  have hst := inv.stage hty hcall ok hi hpre hD hq
  obtain ⟨hm, hlo, hup⟩ := ok.alS i id ob hal
  have hlo' : (pl.H p).next ≤ id := Nat.le_trans (PlanOk.mono hty hcall ok _ _ hst hm) hlo
  have hup' : id < (pl.Hp pl.m).next := Nat.lt_of_lt_of_le hup (PlanOk.nf hty hcall ok hm)
  have h0lo : pl.h0.next ≤ id := by rw [← ok.start]; exact Nat.le_trans (PlanOk.mono hty hcall ok _ _ (Nat.zero_le _) hm) hlo
  have hfree : ι id = none := inv.free id hlo' hup' (fun j x hj _ hx => hD (ok.alI j i id x ob hx hal ▸ hj))
  let ι' : Io := fun b => if b = id then some (w.heap.size, N) else ι b
  have hι : ∀ b, b ≠ id → ι' b = ι b := fun b hb => by simp only [ι', if_neg hb]
  have hid : ι' id = some (w.heap.size, N) := by simp [ι']
  have hs : Sub ι ι' := by
    intro b q hb
    by_cases e : b = id
    · subst e; rw [hfree] at hb; cases hb
    · rw [hι b e]; exact hb
  obtain ⟨hv, hor⟩ := hV ι' { w with heap := w.heap.push O } hid hs (by simp)
  obtain ⟨s1, s2, s3, s4⟩ := inv.slots hty hcall ok hi hpre hD hs hv
  have hpush : ∀ c, c < w.heap.size → (w.heap.push O)[c]? = w.heap[c]? := fun c hc => by rw [Array.getElem?_push, if_neg (by omega)]
  -- what was known is not of this name
  have hne : ∀ b x, pl.G D p b x → b ≠ id := by
    rintro b x hx rfl
    obtain ⟨cb, M, h1, _⟩ := inv.rep.obj b x hx
    rw [hfree] at h1; cases h1
  have hG : ∀ b x, pl.G (fun j => D j ∨ j = i) p b x → (b ≠ id ∧ pl.G D p b x) ∨ (b = id ∧ x = ob) := by
    rintro b x (hx | ⟨j, hj | rfl, h1, h2⟩)
    · exact .inl ⟨hne b x (.inl hx), .inl hx⟩
    · exact .inl ⟨hne b x (.inr ⟨j, hj, h1, h2⟩), .inr ⟨j, hj, h1, h2⟩⟩
    · rw [hal] at h2; simp only [Option.some.injEq, Prod.mk.injEq] at h2; exact .inr ⟨h2.1.symm, h2.2.symm⟩
  refine ⟨ι', { cl := inv.closed hty hcall ok hi hpre hD, pm := inv.pm, eff := fun k hk => ?_, size := s1, done := s2, undone := s3, old := s4, ds := ?_, lt := inv.lt,
                rep := ⟨fun b x hx => ?_, fun b b' x x' c M M' hx hx' h1 h2 => ?_, fun b c M hb => ?_⟩, ext := fun b hb => ?_, free := fun b h1 h2 h3 => ?_,
                frame := fun c hc hn => ?_, grow := ?_, fresh := fun b x c M hx hb => ?_,
                tape := inv.tape, os := inv.os, output := inv.output }⟩
  · constructor
    · rintro (h1 | h1)
      · exact (inv.eff k hk).1 h1
      · exact absurd h1 (hq k hk)
    · exact fun h1 => .inl ((inv.eff k hk).2 h1)
  · rw [← inv.ds]; cases o.dst <;> rfl
  · rcases hG b x hx with ⟨e, hx⟩ | ⟨rfl, rfl⟩
    · obtain ⟨cb, M, h1, h2⟩ := inv.rep.obj b x hx
      exact ⟨cb, M, by rw [hι b e]; exact h1, OR.mono hs (hpush cb (inv.rep.dom b cb M h1)) h2⟩
    · exact ⟨_, _, hid, hor⟩
  · rcases hG b x hx with ⟨e, hx⟩ | ⟨rfl, rfl⟩ <;> rcases hG b' x' hx' with ⟨e', hx'⟩ | ⟨rfl, rfl⟩
    · rw [hι b e] at h1; rw [hι b' e'] at h2; exact inv.rep.inj b b' x x' c M M' hx hx' h1 h2
    · rw [hι b e] at h1; rw [hid] at h2; simp only [Option.some.injEq, Prod.mk.injEq] at h2
      have := inv.rep.dom b c M h1; omega
    · rw [hι b' e'] at h2; rw [hid] at h1; simp only [Option.some.injEq, Prod.mk.injEq] at h1
      have := inv.rep.dom b' c M' h2; omega
    · rfl
  · show c < (w.heap.push O).size
    rw [Array.size_push]
    by_cases e : b = id
    · subst e; rw [hid] at hb; simp only [Option.some.injEq, Prod.mk.injEq] at hb; omega
    · rw [hι b e] at hb; have := inv.rep.dom b c M hb; omega
  · rw [hι b (by omega)]; exact inv.ext b hb
  · have e : b ≠ id := fun e => by subst e; exact h3 i ob (.inr rfl) hst hal
    rw [hι b e]; exact inv.free b h1 h2 (fun j x hj => h3 j x (.inl hj))
  · show (w.heap.push O)[c]? = _
    rw [hpush c (Nat.lt_of_lt_of_le hc inv.grow)]; exact inv.frame c hc hn
  · show _ ≤ (w.heap.push O).size
    rw [Array.size_push]; have := inv.grow; omega
  · rcases hG b x hx with ⟨e, hx⟩ | ⟨rfl, rfl⟩
    · rw [hι b e] at hb; exact inv.fresh b x c M hx hb
    · rw [hid] at hb; simp only [Option.some.injEq, Prod.mk.injEq] at hb
      right; have := inv.grow; omega

end
end Go.Proofs.YtcdjgnpjapgoaaaGreat.Dm

namespace Go.Proofs.YtcdjgnpjapgoaaaGreat.Dm
open Go

/-- Quiet operations do not ask for the next name. -/
theorem qop_next (n : Nat) {ty : Ty} {ρ : Env} {h : Heap} {op : Op} : qop ty ρ h op = qop ty ρ (Heap.mk n h.t) op := by
  obtain ⟨m, t⟩ := h
  cases op <;> rfl

section
variable {P : Program} {ty : Ty} (hty : TyOk P ty) {call : CallK} (hcall : CallOk P call) {ops : Array Oper} {pl : Plan} (ok : PlanOk ty call ops pl)
  {ι0 : Io} {w0 : World} {ds : List Deferred} {D : Nat → Prop} {p : Nat} {ι : Io} {a : Act} {w : World} (inv : Inv ops pl ι0 w0 ds D p ι a w)
  {i : Nat} {o : Oper} (hi : ops[i]? = some o) (hpre : ∀ e ∈ o.after, Region.binds .any e = true → D e.on) (hD : ¬ D i)
include hty hcall ok inv hi hpre hD

theorem Inv.turn {k : Nat} (hk : k < pl.m) (he : pl.ev k = i) : p = k := by
  have h1 : ¬ k < p := fun h => hD (he ▸ (inv.eff k hk).2 h)
  cases k with
  | zero => omega
  | succ k =>
    have hb := ok.chain k hk
    rw [he] at hb
    have := (inv.eff k (by omega)).1 (ok.bef D inv.cl i o hi hpre _ hb)
    omega

/-- What the effect's own heap tells is known. -/
theorem Inv.hp {k : Nat} (hk : k < pl.m) (he : pl.ev k = i) : ∀ b x, (pl.Hp k).get b = some x → b < (pl.Hp k).next ∧ pl.G D k b x := by
  intro b x hx
  have hpk : p = k := inv.turn hty hcall ok hi hpre hD hk he
  rcases (ok.hp k (by omega)).2 b x hx with h2 | ⟨j, hj, hal⟩
  · have h3 := inv.lt b x (hpk ▸ h2)
    rw [hpk] at h3
    exact ⟨Nat.lt_of_lt_of_le h3 (ok.hp k (by omega)).1, .inl h2⟩
  · obtain ⟨oj, hoj⟩ := ok.alO j _ hal
    have hid := (ok.alS j b x hal).2.2
    rw [hj] at hid
    refine ⟨hid, ?_⟩
    have hq : ∀ k', k' < pl.m → pl.ev k' ≠ j := by
      intro k' hk' e
      have := ok.alE k' hk'
      rw [e, hal] at this; cases this
    have hb := (ok.quiet j oj hoj hq).2.1 (by omega)
    rw [hj, he] at hb
    exact .inr ⟨j, ok.bef D inv.cl i o hi hpre j hb, by omega, hal⟩

theorem Inv.effect {k : Nat} (hk : k < pl.m) (he : pl.ev k = i) {ι' : Io} {w' : World} {V : Value} (hpk : p = k)
    (hv : Free ι (pl.Hp k).next (pl.H (k + 1)).next → AVR ι' (pl.val i) V ∧ Post ι (pl.Hp k) (pl.H (k + 1)) w w' ι') :
    Inv ops pl ι0 w0 ds (fun j => D j ∨ j = i) (k + 1) ι' (a.put o.dst V) w' := by
  subst hpk
  have hG := inv.hp hty hcall ok hi hpre hD hk he
  have n1 : (pl.H p).next ≤ (pl.Hp p).next := (ok.hp p inv.pm).1
  have n2 : (pl.Hp p).next ≤ (pl.H (p + 1)).next := PlanOk.hnext hty hcall ok hk
  have n3 : (pl.H (p + 1)).next ≤ (pl.Hp pl.m).next := Nat.le_trans (ok.hp (p + 1) hk).1 (PlanOk.nf hty hcall ok hk)
  have n0 : pl.h0.next ≤ (pl.H p).next := by rw [← ok.start]; exact PlanOk.mono hty hcall ok _ _ (Nat.zero_le _) inv.pm
  have al1 : ∀ j b x, pl.al j = some (b, x) → p ≤ pl.st j → (pl.st j = p ∧ b < (pl.Hp p).next) ∨ (p + 1 ≤ pl.st j ∧ (pl.H (p + 1)).next ≤ b) := by
    intro j b x hal hst
    obtain ⟨s1, s2, s3⟩ := ok.alS j b x hal
    by_cases e : pl.st j = p
    · left; rw [e] at s3; exact ⟨e, s3⟩
    · right; exact ⟨by omega, Nat.le_trans (PlanOk.mono hty hcall ok _ _ (by omega) s1) s2⟩
  have hf : Free ι (pl.Hp p).next (pl.H (p + 1)).next := by
    intro b h1 h2
    refine inv.free b (by omega) (by omega) (fun j x hj hst hal => ?_)
    rcases al1 j b x hal hst with ⟨_, h⟩ | ⟨_, h⟩ <;> omega
  obtain ⟨hv, post⟩ := hv hf
  have hs : Sub ι ι' := post.sub hf
  have hali : pl.al i = none := he ▸ ok.alE p hk
  obtain ⟨s1, s2, s3, s4⟩ := inv.slots hty hcall ok hi hpre hD hs hv
  -- what is known behind it
  have split : ∀ b x, pl.G (fun j => D j ∨ j = i) (p + 1) b x → (pl.H (p + 1)).get b = some x ∨ ((pl.H (p + 1)).next ≤ b ∧ pl.G D p b x) := by
    rintro b x (hx | ⟨j, hj | rfl, h1, h2⟩)
    · exact .inl hx
    · obtain ⟨_, h⟩ | ⟨_, h⟩ := al1 j b x h2 (by omega)
      · omega
      · exact .inr ⟨h, .inr ⟨j, hj, by omega, h2⟩⟩
    · rw [hali] at h2; cases h2
  -- the rest lies where the effect does not reach
  have apart : ∀ b x b' x' c N N', (pl.H (p + 1)).next ≤ b → pl.G D p b x → ι b = some (c, N) → (pl.Hp p).get b' = some x' → ι b' ≠ some (c, N') := by
    intro b x b' x' c N N' hb hx h1 hx' h2
    obtain ⟨hlt, hg⟩ := hG b' x' hx'
    have := inv.rep.inj b b' x x' c N N' hx hg h1 h2
    omega
  refine { cl := inv.closed hty hcall ok hi hpre hD, pm := hk, eff := fun k hk' => ?_, size := s1, done := s2, undone := s3, old := s4, ds := ?_, lt := post.rep.lt,
           rep := ⟨fun b x hx => ?_, fun b b' x x' c M M' hx hx' h1 h2 => ?_, post.rep.dom⟩, ext := fun b hb => ?_, free := fun b h1 h2 h3 => ?_,
           frame := fun c hc hn => ?_, grow := Nat.le_trans inv.grow post.size, fresh := fun b x c M hx hb => ?_,
           tape := by rw [post.tape]; exact inv.tape, os := by rw [post.os]; exact inv.os, output := by rw [post.output]; exact inv.output }
  · constructor
    · rintro (h1 | h1)
      · have := (inv.eff k hk').1 h1; omega
      · have := ok.evi k p hk' hk (h1.trans he.symm); omega
    · intro h1
      by_cases e : k = p
      · subst e; exact .inr he
      · exact .inl ((inv.eff k hk').2 (by omega))
  · rw [← inv.ds]; cases o.dst <;> rfl
  · rcases split b x hx with hx | ⟨hb, hx⟩
    · exact post.rep.obj b x hx
    · obtain ⟨cb, M, h1, h2⟩ := inv.rep.obj b x hx
      exact ⟨cb, M, hs b _ h1, OR.mono hs (post.frame cb (inv.rep.dom b cb M h1) (fun b' x' N' hx' => apart b x b' x' cb M N' hb hx h1 hx')) h2⟩
  · have key : ∀ b x b' x' c M M', (pl.H (p + 1)).get b = some x → (pl.H (p + 1)).next ≤ b' → pl.G D p b' x' → ι' b = some (c, M) → ι' b' = some (c, M') → False := by
      intro b x b' x' c M M' hx hb' hx' h1 h2
      obtain ⟨cb, M2, k1, _⟩ := inv.rep.obj b' x' hx'
      have k2 := hs b' _ k1
      rw [h2] at k2; simp only [Option.some.injEq, Prod.mk.injEq] at k2
      obtain ⟨rfl, rfl⟩ := k2
      rcases post.fresh b x c M hx h1 with ⟨b0, o0, N0, g1, g2⟩ | g
      · exact apart b' x' b0 o0 c M' N0 hb' hx' k1 g1 g2
      · have := inv.rep.dom b' c M' k1; omega
    rcases split b x hx with hx | ⟨hb, hx⟩ <;> rcases split b' x' hx' with hx' | ⟨hb', hx'⟩
    · exact post.rep.inj b b' x x' c M M' hx hx' h1 h2
    · exact (key b x b' x' c M M' hx hb' hx' h1 h2).elim
    · exact (key b' x' b x c M' M hx' hb hx h2 h1).elim
    · obtain ⟨cb, M2, k1, _⟩ := inv.rep.obj b x hx
      obtain ⟨cb', M2', k1', _⟩ := inv.rep.obj b' x' hx'
      have k2 := hs b _ k1
      have k2' := hs b' _ k1'
      rw [h1] at k2; rw [h2] at k2'
      rw [← k2] at k1; rw [← k2'] at k1'
      exact inv.rep.inj b b' x x' c M M' hx hx' k1 k1'
  · rw [post.ext b (by omega)]; exact inv.ext b hb
  · rw [post.ext b (.inr h1)]
    refine inv.free b (by omega) h2 (fun j x hj hst hal => ?_)
    rcases al1 j b x hal hst with ⟨_, h⟩ | ⟨h, _⟩
    · omega
    · exact h3 j x (.inl hj) h hal
  · rw [post.frame c (Nat.lt_of_lt_of_le hc inv.grow) ?_]
    · exact inv.frame c hc hn
    · intro b x N hx hb
      rcases inv.fresh b x c N (hG b x hx).2 hb with ⟨b0, o0, N0, k1, k2⟩ | k
      · exact hn b0 o0 N0 k1 k2
      · omega
  · rcases split b x hx with hx | ⟨hb', hx⟩
    · rcases post.fresh b x c M hx hb with ⟨b0, o0, N0, g1, g2⟩ | g
      · exact inv.fresh b0 o0 c N0 (hG b0 o0 g1).2 g2
      · right; have := inv.grow; omega
    · obtain ⟨cb, M2, k1, _⟩ := inv.rep.obj b x hx
      have k2 := hs b _ k1
      rw [hb] at k2
      rw [← k2] at k1
      exact inv.fresh b x c M hx k1

/-- One operation, whenever it comes. -/
theorem Inv.one {K : Act → World → Prop} {Q : Exit → Act → World → Prop}
    (hK : ∀ p' ι' a' w', Inv ops pl ι0 w0 ds (fun j => D j ∨ j = i) p' ι' a' w' → K a' w') : wpOp P ops Q i K a w := by
  have henv := inv.env hty hcall ok hi hpre hD
  unfold wpOp
  rw [hi]; simp only []
  by_cases hq : ∀ k, k < pl.m → pl.ev k ≠ i
  · obtain ⟨q1, q2, q3⟩ := ok.quiet i o hi hq
    rcases q3 with ⟨hw, hval, hal⟩ | ⟨hw, hal, lo, hlo, hqs⟩ | ⟨hw, id, ob, f, hal, ha, hval⟩
    · rw [inv.wanted hty hcall ok hi hpre hD hw]
      simp only [Bool.false_eq_true, if_false]
      exact hK p ι _ w (inv.quiet hty hcall ok hi hpre hD (h := Heap.nil) (fun b x hx => by cases hx) hal hq (hval ▸ undef_rel ι) (Still.refl _ _ _))
    · rw [inv.wanted hty hcall ok hi hpre hD hw]
      simp only [if_true]
      left
      have hp1 : lo ≤ p := by
        rcases Nat.eq_zero_or_pos lo with e | e
        · omega
        · obtain ⟨l1, l2⟩ := hlo e
          have := (inv.eff _ l1).1 (ok.bef D inv.cl i o hi hpre _ l2)
          omega
      obtain ⟨Hq, hsub, hqo⟩ := hqs p hp1 (inv.stage hty hcall ok hi hpre hD hq)
      have hsub' : ∀ b x, (Heap.mk (pl.Hp pl.m).next Hq.t).get b = some x → b < (Heap.mk (pl.Hp pl.m).next Hq.t).next ∧ pl.G D p b x := by
        intro b x hx
        rcases hsub b x hx with h2 | ⟨j, h2, h3, h4⟩
        · exact ⟨Nat.lt_of_lt_of_le (inv.lt b x h2) (Nat.le_trans (ok.hp p inv.pm).1 (PlanOk.nf hty hcall ok inv.pm)), .inl h2⟩
        · obtain ⟨t1, t2, t3⟩ := ok.alS j b x h4
          exact ⟨Nat.lt_of_lt_of_le t3 (PlanOk.nf hty hcall ok t1), .inr ⟨j, ok.bef D inv.cl i o hi hpre j h2, h3, h4⟩⟩
      rw [qop_next (pl.Hp pl.m).next] at hqo
      obtain ⟨V, w', e1, e2, e3⟩ := qop_sound hty henv (inv.rep.rep hsub') hqo
      unfold Oper.wp; rw [e1]
      exact hK p ι _ w' (inv.quiet hty hcall ok hi hpre hD (fun b x hx => (hsub' b x hx).2) hal hq e2 e3)
    · rw [inv.wanted hty hcall ok hi hpre hD hw]
      simp only [if_true]
      left
      obtain ⟨V, N, O, e1, e2⟩ := alop_sound (P := P) (w := w) hty henv ha
      unfold Oper.wp; rw [e1]
      obtain ⟨ι', h⟩ := inv.alloc hty hcall ok hi hpre hD (N := N) (O := O) (V := V) hal hq (fun ι' w' h1 h2 h3 => by rw [hval]; exact e2 ι' id w' h1 h2 h3)
      exact hK p ι' _ _ h
  · have hq' : ∃ k, k < pl.m ∧ pl.ev k = i := by
      rcases Classical.em (∃ k, k < pl.m ∧ pl.ev k = i) with h | h
      · exact h
      · exact absurd (fun k hk e => h ⟨k, hk, e⟩) hq
    obtain ⟨k, hk, he⟩ := hq'
    have hpk := inv.turn hty hcall ok hi hpre hD hk he
    subst hpk
    have hrep : Rep ι w (pl.Hp p) := inv.rep.rep (inv.hp hty hcall ok hi hpre hD hk he)
    obtain ⟨o', ho', hc⟩ := ok.effect p hk
    rw [he, hi] at ho'; simp only [Option.some.injEq] at ho'; subst ho'
    rw [he] at hc
    -- the names are free
    have hf : Free ι (pl.Hp p).next (pl.H (p + 1)).next := by
      intro b h1 h2
      have n1 : (pl.H p).next ≤ (pl.Hp p).next := (ok.hp p inv.pm).1
      have n3 : (pl.H (p + 1)).next ≤ (pl.Hp pl.m).next := Nat.le_trans (ok.hp (p + 1) hk).1 (PlanOk.nf hty hcall ok hk)
      refine inv.free b (by omega) (by omega) (fun j x hj hst hal => ?_)
      obtain ⟨s1, s2, s3⟩ := ok.alS j b x hal
      by_cases e : pl.st j = p
      · rw [e] at s3; omega
      · have := PlanOk.mono hty hcall ok (pl.st j) (p + 1) (by omega) s1; omega
    rcases hc with ⟨hw, hval, hH⟩ | ⟨hw, hc⟩
    · rw [inv.wanted hty hcall ok hi hpre hD hw]
      simp only [Bool.false_eq_true, if_false]
      exact hK _ ι _ w (inv.effect hty hcall ok hi hpre hD hk he rfl (fun _ => ⟨hval ▸ undef_rel ι, by rw [hH]; exact Post.refl hrep⟩))
    · rw [inv.wanted hty hcall ok hi hpre hD hw]
      simp only [if_true]
      left
      rcases hc with hc | ⟨c, f, args, ho, hca, hcr⟩
      · obtain ⟨N, V, w', ι', e1, e2, e3, e4⟩ := eop_sound hty henv hrep hc hf
        unfold Oper.wp; rw [e1]
        rcases e2 with rfl | ⟨rfl, rfl⟩
        · exact hK _ ι' _ w' (inv.effect hty hcall ok hi hpre hD hk he rfl (fun _ => ⟨e3, e4⟩))
        · exact hK _ ι' _ w' (inv.effect hty hcall ok hi hpre hD hk he rfl (fun _ => ⟨e3, e4⟩))
      · obtain ⟨hen, hle, hc⟩ := hcall f args _ _ _ hcr
        obtain ⟨as, e1, e2⟩ := call_run henv ho hca hen w
        unfold Oper.wp; rw [e1]
        rw [Oper.upon_enter]
        refine (hc ι w as hrep e2 hf).mono ?_
        rintro e w' ⟨V, ι', rfl, h1, h2⟩
        exact hK _ ι' _ w' (inv.effect hty hcall ok hi hpre hD hk he rfl (fun _ => ⟨h1, h2⟩))
end

section
variable {P : Program} {ty : Ty} (hty : TyOk P ty) {call : CallK} (hcall : CallOk P call) {ops : Array Oper} {pl : Plan} (ok : PlanOk ty call ops pl)
  {ι0 : Io} {w0 : World} {ds : List Deferred} {Q : Exit → Act → World → Prop}
include hty hcall ok

theorem getD_of_lt {l : Array Bool} {i : Nat} (h : i < l.size) : l.getD i true = l.getD i false := by
  simp [h]

theorem ready_nil {listed : Array Bool} (hz : listed.size = ops.size) (hr : Region.ready .any ops listed = []) : ∀ i, i < ops.size → listed.getD i false = true := by
  intro i
  induction i using Nat.strongRecOn with
  | ind i ih =>
    intro hi
    cases hl : listed.getD i false with
    | true => rfl
    | false =>
      exfalso
      have : i ∈ Region.ready .any ops listed := by
        rw [mem_ready]
        have ho : ops[i]? = some ops[i] := by simp [hi]
        refine ⟨by rw [getD_of_lt hty hcall ok (by omega)]; exact hl, ops[i], ho, fun e he hb => ?_⟩
        have := ok.edge i _ ho e he hb
        exact ih e.on this (by omega)
      rw [hr] at this; cases this

theorem all_ready {listed : Array Bool} (h : ∀ i, i < ops.size → listed.getD i false = true) (hz : listed.size = ops.size) : Region.ready .any ops listed = [] := by
  cases hr : Region.ready .any ops listed with
  | nil => rfl
  | cons i l =>
    exfalso
    have hi : i ∈ Region.ready .any ops listed := by rw [hr]; simp
    obtain ⟨h1, o, ho, _⟩ := mem_ready.1 hi
    have hlt : i < ops.size := (Array.getElem?_eq_some_iff.1 ho).1
    rw [getD_of_lt hty hcall ok (by omega), h i hlt] at h1
    cases h1

theorem PlanOk.any (hfin : ∀ D p ι a w, (∀ i, i < ops.size → D i) → Inv ops pl ι0 w0 ds D p ι a w → Q .normal a w) :
    ∀ (fuel : Nat) (listed : Array Bool) (p : Nat) (ι : Io) (a : Act) (w : World), listed.size = ops.size → listed.toList.count false ≤ fuel →
      Inv ops pl ι0 w0 ds (fun j => listed.getD j false = true) p ι a w → wpAny P .any ops Q fuel listed a w
  | 0, listed, p, ι, a, w, hz, hc, inv => by
    have hall : ∀ i, i < ops.size → listed.getD i false = true := by
      intro i hi
      cases hl : listed.getD i false with
      | true => rfl
      | false =>
        exfalso
        have h0 : listed.toList.count false = 0 := by omega
        rw [List.count_eq_zero] at h0
        apply h0
        have : listed[i]'(by omega) = false := by simpa [show i < listed.size by omega] using hl
        rw [← this]; simp
    exact ⟨all_ready hty hcall ok hall hz, hfin _ _ _ _ _ hall inv⟩
  | fuel + 1, listed, p, ι, a, w, hz, hc, inv => by
    refine ⟨fun hr => hfin _ _ _ _ _ (ready_nil hty hcall ok hz hr) inv, fun i hi => ?_⟩
    obtain ⟨h1, o, ho, hpre⟩ := mem_ready.1 hi
    have hlt : i < ops.size := (Array.getElem?_eq_some_iff.1 ho).1
    have hD : ¬ listed.getD i false = true := by
      rw [← getD_of_lt hty hcall ok (by omega), h1]; simp
    refine inv.one hty hcall ok ho hpre hD (fun p' ι' a' w' inv' => ?_)
    refine PlanOk.any hfin fuel _ p' ι' a' w' (by simpa using hz) ?_ ?_
    · have hlt' : i < listed.toList.length := by simpa using (by omega : i < listed.size)
      rw [Array.toList_setIfInBounds, List.count_set hlt']
      have : listed.toList[i] = false := by simpa [show i < listed.size by omega] using hD
      simp only [this, show (false == false) = true from rfl, show (true == false) = false from rfl, if_true, Bool.false_eq_true, if_false]
      omega
    · have : (fun j => (listed.setIfInBounds i true).getD j false = true) = (fun j => listed.getD j false = true ∨ j = i) := by
        funext j
        apply propext
        by_cases e : j = i
        · subst e; simp [show j < listed.size by omega]
        · rw [getD_set_ne false (Ne.symm e)]; simp [e]
      rw [this]; exact inv'

/-- The whole of a drawn region. -/
theorem PlanOk.region {fr' : Fr} {h' : Heap} {ι : Io} {a : Act} {w : World} (hm : P.follows .mixedOrders = true) (hfr : FrR ι pl.fr a.tmps) (rep : Rep ι w pl.h0) (hh : h' = pl.Hp pl.m)
    (hn : fr'.n = pl.fr.n) (ht : ∀ t v, fr'.t.get t = some v → (∃ j, pl.wr t = some j ∧ v = pl.val j) ∨ (pl.wr t = none ∧ pl.fr.t.get t = some v))
    (hf : Free ι pl.h0.next h'.next) (id : Nat) : (Code.region id ops true).wp P (RQ ι pl.h0 w a.defers (.nrm fr' h')) a w := by
  refine wp_region_any hm ?_
  have D0 : ∀ j, ¬ (Array.replicate ops.size false).getD j false = true := by
    intro j; by_cases e : j < ops.size <;> simp [e]
  refine PlanOk.any (ι0 := ι) (w0 := w) (ds := a.defers) hty hcall ok ?_ ops.size _ 0 ι a _ (by simp) (by simp) ?_
  · intro D p ι' a' w' hall inv
    refine ⟨rfl, ι', ⟨by rw [hn]; exact inv.size, fun t v hv => ?_⟩, inv.ds, ?_⟩
    · rcases ht t v hv with ⟨j, h1, rfl⟩ | ⟨h1, h2⟩
      · obtain ⟨oj, hoj, _⟩ := ok.wr2 j t h1
        exact inv.done t j h1 (hall j (Array.getElem?_eq_some_iff.1 hoj).1)
      · exact inv.old t h1 v h2
    · have hpm : p = pl.m := by
        rcases Nat.lt_or_ge p pl.m with h | h
        · obtain ⟨oe, hoe, _⟩ := ok.effect p h
          have := (inv.eff p h).1 (hall _ (Array.getElem?_eq_some_iff.1 hoe).1)
          omega
        · have := inv.pm; omega
      subst hpm
      have hG : ∀ b x, h'.get b = some x → b < h'.next ∧ pl.G D pl.m b x := by
        intro b x hx
        rw [hh] at hx ⊢
        rcases (ok.hp _ (Nat.le_refl _)).2 b x hx with h2 | ⟨j, hj, hal⟩
        · exact ⟨Nat.lt_of_lt_of_le (inv.lt b x h2) (ok.hp _ (Nat.le_refl _)).1, .inl h2⟩
        · obtain ⟨oj, hoj⟩ := ok.alO j _ hal
          have hid := (ok.alS j b x hal).2.2
          rw [hj] at hid
          exact ⟨hid, .inr ⟨j, hall j (Array.getElem?_eq_some_iff.1 hoj).1, by omega, hal⟩⟩
      refine ⟨inv.rep.rep hG, fun b hb => inv.ext b (by rw [hh] at hb; exact hb), ?_, fun c hc hn => inv.frame c hc hn, inv.grow, fun b x c N hx hb => inv.fresh b x c N (hG b x hx).2 hb, inv.tape, inv.os, inv.output⟩
      rw [hh, ← ok.start]
      exact Nat.le_trans (PlanOk.mono hty hcall ok _ _ (Nat.zero_le _) (Nat.le_refl _)) (ok.hp _ (Nat.le_refl _)).1
  · have rep' : Rep ι { w with drawn := w.drawn + 1 } pl.h0 := rep.same (fun _ _ => rfl) (Nat.le_refl _)
    have hG : ∀ b x, pl.G (fun j => (Array.replicate ops.size false).getD j false = true) 0 b x → pl.h0.get b = some x := by
      rintro b x (hx | ⟨j, hj, _⟩)
      · rw [ok.start] at hx; exact hx
      · exact absurd hj (D0 j)
    refine { cl := fun i o _ hd => absurd hd (D0 i), pm := Nat.zero_le _, eff := fun k hk => ⟨fun h => absurd h (D0 _), fun h => absurd h (Nat.not_lt_zero _)⟩,
             size := hfr.1, done := fun t j _ hd => absurd hd (D0 j), undone := fun t j _ _ v hv => hfr.2 t v hv, old := fun t _ v hv => hfr.2 t v hv, ds := rfl, lt := by rw [ok.start]; exact rep.lt,
             rep := ⟨fun b x hx => rep'.obj b x (hG b x hx), fun b b' x x' c N N' hx hx' => rep'.inj b b' x x' c N N' (hG b x hx) (hG b' x' hx'), rep'.dom⟩,
             ext := fun _ _ => rfl, free := fun b h1 h2 _ => hf b (by rw [ok.start] at h1; exact h1) (by rw [hh]; exact h2), frame := fun _ _ _ => rfl, grow := Nat.le_refl _,
             fresh := fun b x c N hx hb => .inl ⟨b, x, N, hG b x hx, hb⟩, tape := rfl, os := rfl, output := rfl }
end
end Go.Proofs.YtcdjgnpjapgoaaaGreat.Dm
