/- Regions whose order is drawn: what holds whatever order is drawn. -/
import Derived.Test.YtndbccpaccflcaaGreatDmWhole
set_option linter.unusedVariables false
set_option linter.unusedSimpArgs false
set_option linter.unusedSectionVars false
namespace Go.Proofs.YtndbccpaccflcaaGreat.Dm
open Go

/-- As 'Rep', of what is known of memory as a relation. -/
structure RepG (ι : Io) (w : World) (g : Nat → AO → Prop) : Prop where
  obj : ∀ b o, g b o → ∃ cb N, ι b = some (cb, N) ∧ OR ι o cb N w
  inj : ∀ b b' o o' c N N', g b o → g b' o' → ι b = some (c, N) → ι b' = some (c, N') → b = b'
  dom : ∀ b c N, ι b = some (c, N) → c < w.heap.size

theorem RepG.rep {ι : Io} {w : World} {g : Nat → AO → Prop} (r : RepG ι w g) {h : Heap} (hh : ∀ b o, h.get b = some o → b < h.next ∧ g b o) : Rep ι w h :=
  ⟨fun b o hb => (hh b o hb).1, fun b o hb => r.obj b o (hh b o hb).2, fun b b' o o' c N N' hb hb' => r.inj b b' o o' c N N' (hh b o hb).2 (hh b' o' hb').2, r.dom⟩

theorem RepG.mono {ι : Io} {w : World} {g g' : Nat → AO → Prop} (r : RepG ι w g) (hh : ∀ b o, g' b o → g b o) : RepG ι w g' :=
  ⟨fun b o hb => r.obj b o (hh b o hb), fun b b' o o' c N N' hb hb' => r.inj b b' o o' c N N' (hh b o hb) (hh b' o' hb'), r.dom⟩

theorem RepG.still {ι : Io} {w w' : World} {g : Nat → AO → Prop} {h : Heap} (r : RepG ι w g) (s : Still ι h w w') : RepG ι w' g := by
  refine ⟨fun b o hb => ?_, r.inj, fun b c N hb => by rw [s.size]; exact r.dom b c N hb⟩
  have hs : ∀ x y, (Heap.mk (b + 1) (Tr.e.put (some o) b)).get x = some y → x = b ∧ y = o := by
    intro x y hx
    have hx : (Tr.e.put (some o) b).get x = some y := hx
    rw [Tr.get_put] at hx
    by_cases e : x = b
    · rw [if_pos e] at hx; simp only [Option.some.injEq] at hx; exact ⟨e, hx.symm⟩
    · rw [if_neg e] at hx; cases hx
  have r1 : Rep ι w (Heap.mk (b + 1) (Tr.e.put (some o) b)) :=
    r.rep fun x y hx => by
      obtain ⟨e, e'⟩ := hs x y hx
      subst e; subst e'
      exact ⟨Nat.lt_succ_self _, hb⟩
  have r2 := s.rep ι _ r1
  exact r2.obj b o (by show (Tr.e.put (some o) b).get b = some o; rw [Tr.get_put, if_pos rfl])

/-- What the one run through a drawn region has fixed. -/
structure Plan where
  fr : Fr
  h0 : Heap
  m : Nat
  ev : Nat → Nat
  st : Nat → Nat
  val : Nat → AV
  wr : Nat → Option Nat
  before : Nat → Nat → Bool
  H : Nat → Heap
  Hp : Nat → Heap
  al : Nat → Option (Nat × AO)

noncomputable def Closed (ops : Array Oper) (D : Nat → Prop) : Prop := ∀ i o, ops[i]? = some o → D i → ∀ e ∈ o.after, Region.binds .any e = true → D e.on

/-- What operation i sees of the slots. -/
noncomputable def Plan.env (pl : Plan) (i : Nat) : Env
  | .tmp t => match pl.wr t with
    | none => pl.fr.t.get t
    | some j => cnd (pl.before i j) (some (pl.val j)) (cnd (Nat.beq j i || pl.before j i) (pl.fr.t.get t) none)
  | .const v => avOf v
  | .global _ => none
  | .func f => some (.cv (.sc (.fn f [] [])))

noncomputable def Plan.wants (pl : Plan) (ops : Array Oper) (i : Nat) (o : Oper) (b : Bool) : Prop :=
  match o.guard with
  | none => b = true
  | some (j, want) => pl.before i j = true ∧ ∃ oj d x, ops[j]? = some oj ∧ oj.dst = some d ∧ pl.val j = .cv (.sc (.b x)) ∧ b = (x == want)

structure PlanOk (ty : Ty) (call : CallK) (ops : Array Oper) (pl : Plan) : Prop where
  start : pl.H 0 = pl.h0
  edge : ∀ i o, ops[i]? = some o → ∀ e ∈ o.after, Region.binds .any e = true → e.on < i
  bef : ∀ D, Closed ops D → ∀ i o, ops[i]? = some o → (∀ e ∈ o.after, Region.binds .any e = true → D e.on) → ∀ j, pl.before i j = true → D j
  wr1 : ∀ i o d, ops[i]? = some o → o.dst = some d → pl.wr d = some i ∧ d < pl.fr.n
  wr2 : ∀ i d, pl.wr d = some i → ∃ o, ops[i]? = some o ∧ o.dst = some d
  chain : ∀ k, k + 1 < pl.m → pl.before (pl.ev (k + 1)) (pl.ev k) = true
  evi : ∀ k k', k < pl.m → k' < pl.m → pl.ev k = pl.ev k' → k = k'
  alE : ∀ k, k < pl.m → pl.al (pl.ev k) = none
  alO : ∀ i x, pl.al i = some x → ∃ o, ops[i]? = some o
  alS : ∀ i id ob, pl.al i = some (id, ob) → pl.st i ≤ pl.m ∧ (pl.H (pl.st i)).next ≤ id ∧ id < (pl.Hp (pl.st i)).next
  alI : ∀ i j id ob ob', pl.al i = some (id, ob) → pl.al j = some (id, ob') → i = j
  quiet : ∀ i o, ops[i]? = some o → (∀ k, k < pl.m → pl.ev k ≠ i) → pl.st i ≤ pl.m ∧ (pl.st i < pl.m → pl.before (pl.ev (pl.st i)) i = true) ∧
    ((pl.wants ops i o false ∧ pl.val i = .tu [] ∧ pl.al i = none) ∨
     (pl.wants ops i o true ∧ pl.al i = none ∧ ∃ lo, (0 < lo → lo - 1 < pl.m ∧ pl.before i (pl.ev (lo - 1)) = true) ∧ ∀ p, lo ≤ p → p ≤ pl.st i →
        ∃ Hq : Heap, (∀ b x, Hq.get b = some x → (pl.H p).get b = some x ∨ ∃ j, pl.before i j = true ∧ p ≤ pl.st j ∧ pl.al j = some (b, x)) ∧ qop ty (pl.env i) Hq o.op = some (pl.val i)) ∨
     (pl.wants ops i o true ∧ ∃ id ob f, pl.al i = some (id, ob) ∧ alop ty (pl.env i) o.op = some (ob, f) ∧ pl.val i = f id))
  effect : ∀ k, k < pl.m → ∃ o, ops[pl.ev k]? = some o ∧
    ((pl.wants ops (pl.ev k) o false ∧ pl.val (pl.ev k) = .tu [] ∧ pl.H (k + 1) = pl.Hp k) ∨
     (pl.wants ops (pl.ev k) o true ∧ ((eop ty (pl.env (pl.ev k)) (pl.Hp k) o.op = some (pl.val (pl.ev k), pl.H (k + 1))) ∨
        ∃ c f args, o.op = .call c ∧ callA (pl.env (pl.ev k)) c = some (f, args) ∧ call f args (pl.Hp k) = .ok (pl.val (pl.ev k)) (pl.H (k + 1)))))
  hp : ∀ k, k ≤ pl.m → (pl.H k).next ≤ (pl.Hp k).next ∧ ∀ b x, (pl.Hp k).get b = some x → (pl.H k).get b = some x ∨ ∃ i, pl.st i = k ∧ pl.al i = some (b, x)

section
variable {P : Program} {ty : Ty} (hty : TyOk P ty) {call : CallK} (hcall : CallOk P call) {ops : Array Oper} {pl : Plan} (ok : PlanOk ty call ops pl)
include hty hcall ok

theorem PlanOk.hnext {k : Nat} (hk : k < pl.m) : (pl.Hp k).next ≤ (pl.H (k + 1)).next := by
  obtain ⟨o, _, h⟩ := ok.effect k hk
  rcases h with ⟨_, _, h⟩ | ⟨_, h | ⟨c, f, args, _, _, h⟩⟩
  · rw [h]; exact Nat.le_refl _
  · exact eop_next h
  · exact (hcall _ _ _ _ _ h).2.1

theorem PlanOk.mono : ∀ (k' k : Nat), k ≤ k' → k' ≤ pl.m → (pl.H k).next ≤ (pl.H k').next
  | 0, k, h, _ => by obtain rfl : k = 0 := by omega
                     exact Nat.le_refl _
  | k' + 1, k, h, hm => by
    by_cases e : k = k' + 1
    · subst e; exact Nat.le_refl _
    · exact Nat.le_trans (PlanOk.mono k' k (by omega) (by omega)) (Nat.le_trans (ok.hp k' (by omega)).1 (PlanOk.hnext hty hcall ok (by omega)))

theorem PlanOk.mono' {k k' : Nat} (h : k < k') (hm : k' ≤ pl.m) : (pl.Hp k).next ≤ (pl.H k').next :=
  Nat.le_trans (PlanOk.hnext hty hcall ok (by omega)) (PlanOk.mono hty hcall ok k' (k + 1) h hm)

theorem PlanOk.nf {k : Nat} (hk : k ≤ pl.m) : (pl.Hp k).next ≤ (pl.Hp pl.m).next := by
  by_cases e : k = pl.m
  · subst e; exact Nat.le_refl _
  · exact Nat.le_trans (PlanOk.mono' hty hcall ok (k' := pl.m) (by omega) (Nat.le_refl _)) (ok.hp pl.m (Nat.le_refl _)).1
end

/-- What is known of memory once the operations in D are done, p effects among them. -/
noncomputable def Plan.G (pl : Plan) (D : Nat → Prop) (p : Nat) (b : Nat) (x : AO) : Prop := (pl.H p).get b = some x ∨ ∃ i, D i ∧ p ≤ pl.st i ∧ pl.al i = some (b, x)

structure Inv (ops : Array Oper) (pl : Plan) (ι0 : Io) (w0 : World) (ds : List Deferred) (D : Nat → Prop) (p : Nat) (ι : Io) (a : Act) (w : World) : Prop where
  cl : Closed ops D
  pm : p ≤ pl.m
  eff : ∀ k, k < pl.m → (D (pl.ev k) ↔ k < p)
  size : a.tmps.size = pl.fr.n
  done : ∀ t j, pl.wr t = some j → D j → ∃ V, a.tmps[t]? = some V ∧ AVR ι (pl.val j) V
  undone : ∀ t j, pl.wr t = some j → ¬ D j → ∀ v, pl.fr.t.get t = some v → ∃ V, a.tmps[t]? = some V ∧ AVR ι v V
  old : ∀ t, pl.wr t = none → ∀ v, pl.fr.t.get t = some v → ∃ V, a.tmps[t]? = some V ∧ AVR ι v V
  ds : a.defers = ds
  lt : ∀ b x, (pl.H p).get b = some x → b < (pl.H p).next
  rep : RepG ι w (pl.G D p)
  ext : ∀ b, (b < pl.h0.next ∨ (pl.Hp pl.m).next ≤ b) → ι b = ι0 b
  free : ∀ b, (pl.H p).next ≤ b → b < (pl.Hp pl.m).next → (∀ i o, D i → p ≤ pl.st i → pl.al i ≠ some (b, o)) → ι b = none
  frame : ∀ c, c < w0.heap.size → (∀ b o N, pl.h0.get b = some o → ι0 b ≠ some (c, N)) → w.heap[c]? = w0.heap[c]?
  grow : w0.heap.size ≤ w.heap.size
  fresh : ∀ b o c N, pl.G D p b o → ι b = some (c, N) → (∃ b0 o0 N0, pl.h0.get b0 = some o0 ∧ ι0 b0 = some (c, N0)) ∨ w0.heap.size ≤ c
  tape : w.tape = w0.tape
  os : w.os = w0.os
  output : w.output = w0.output

section
variable {P : Program} {ty : Ty} (hty : TyOk P ty) {call : CallK} (hcall : CallOk P call) {ops : Array Oper} {pl : Plan} (ok : PlanOk ty call ops pl)
  {ι0 : Io} {w0 : World} {ds : List Deferred} {D : Nat → Prop} {p : Nat} {ι : Io} {a : Act} {w : World} (inv : Inv ops pl ι0 w0 ds D p ι a w)
  {i : Nat} {o : Oper} (hi : ops[i]? = some o) (hpre : ∀ e ∈ o.after, Region.binds .any e = true → D e.on) (hD : ¬ D i)
include hty hcall ok inv hi hpre hD

theorem Inv.env : ER ι (pl.env i) a.eval := by
  intro x v hx
  cases x with
  | tmp t =>
    show AVR ι v (a.tmps.getD t undef)
    simp only [Plan.env] at hx
    have fin : (∃ V, a.tmps[t]? = some V ∧ AVR ι v V) → AVR ι v (a.tmps.getD t undef) := by
      rintro ⟨V, h1, h2⟩
      rw [Array.getD_eq_getD_getElem?, h1]; exact h2
    apply fin
    split at hx
    · rename_i hw; exact inv.old t hw v hx
    · rename_i j hw
      cases hb : pl.before i j with
      | true =>
        rw [hb] at hx; simp only [cnd_true, Option.some.injEq] at hx; subst hx
        exact inv.done t j hw (ok.bef D inv.cl i o hi hpre j hb)
      | false =>
        rw [hb] at hx; simp only [cnd_false] at hx
        cases hb2 : (Nat.beq j i || pl.before j i) with
        | false => rw [hb2] at hx; cases hx
        | true =>
          rw [hb2] at hx; simp only [cnd_true] at hx
          have hj : ¬ D j := by
            intro hj
            simp only [Bool.or_eq_true] at hb2
            rcases hb2 with hb2 | hb2
            · have := Nat.eq_of_beq_eq_true hb2; subst this; exact hD hj
            · obtain ⟨oj, hoj, _⟩ := ok.wr2 j t hw
              exact hD (ok.bef D inv.cl j oj hoj (inv.cl j oj hoj hj) i hb2)
          exact inv.undone t j hw hj v hx
  | const c =>
    simp only [Plan.env, avOf] at hx
    split at hx
    · rename_i cv hc; simp only [Option.some.injEq] at hx; subst hx; exact cvOf_rel ι hc
    · cases hx
  | global g => cases hx
  | func f => simp only [Plan.env, Option.some.injEq] at hx; subst hx; exact ⟨#[], #[], rfl, trivial, trivial⟩

theorem Inv.wanted {b : Bool} (hw : pl.wants ops i o b) : Region.wanted o (yielded ops a.tmps) = b := by
  unfold Plan.wants at hw
  unfold Region.wanted
  cases hg : o.guard with
  | none => rw [hg] at hw; exact hw.symm
  | some q =>
    obtain ⟨j, want⟩ := q
    rw [hg] at hw; simp only [] at hw
    obtain ⟨h1, oj, d, x, h2, h3, h4, rfl⟩ := hw
    obtain ⟨V, k1, k2⟩ := inv.done d j (ok.wr1 j oj d h2 h3).1 (ok.bef D inv.cl i o hi hpre j h1)
    rw [h4] at k2
    have k2 : V = .bool x := k2
    subst k2
    have hy : yielded ops a.tmps j = some x := by
      unfold yielded; rw [h2]; simp only [Option.bind_some, h3, k1]
    simp only [hy]; cases x <;> cases want <;> rfl

/-- The slots behind one more operation. -/
theorem Inv.slots {ι' : Io} (hs : Sub ι ι') {V : Value} (hv : AVR ι' (pl.val i) V) :
    (a.put o.dst V).tmps.size = pl.fr.n ∧
    (∀ t j, pl.wr t = some j → (D j ∨ j = i) → ∃ U, (a.put o.dst V).tmps[t]? = some U ∧ AVR ι' (pl.val j) U) ∧
    (∀ t j, pl.wr t = some j → ¬ (D j ∨ j = i) → ∀ v, pl.fr.t.get t = some v → ∃ U, (a.put o.dst V).tmps[t]? = some U ∧ AVR ι' v U) ∧
    (∀ t, pl.wr t = none → ∀ v, pl.fr.t.get t = some v → ∃ U, (a.put o.dst V).tmps[t]? = some U ∧ AVR ι' v U) := by
  have keep : ∀ t, (∀ d, o.dst = some d → t ≠ d) → (a.put o.dst V).tmps[t]? = a.tmps[t]? := by
    intro t ht
    cases hd : o.dst with
    | none => rfl
    | some d => simp only [Act.put, Array.getElem?_setIfInBounds]; rw [if_neg (Ne.symm (ht d hd))]
  have other : ∀ t, pl.wr t ≠ some i → ∀ d, o.dst = some d → t ≠ d := by
    intro t ht d hd e
    subst e
    exact ht (ok.wr1 i o t hi hd).1
  refine ⟨?_, ?_, ?_, ?_⟩
  · cases hd : o.dst with
    | none => exact inv.size
    | some d => simp [Act.put, inv.size]
  · intro t j hw hj
    by_cases e : j = i
    · subst e
      obtain ⟨o', ho', hd'⟩ := ok.wr2 j t hw
      rw [hi] at ho'; simp only [Option.some.injEq] at ho'; subst ho'
      have hlt := (ok.wr1 j o t hi hd').2
      refine ⟨V, ?_, hv⟩
      rw [hd']
      simp [Act.put, inv.size, hlt]
    · obtain ⟨U, h1, h2⟩ := inv.done t j hw (hj.resolve_right e)
      refine ⟨U, ?_, AVR.mono hs h2⟩
      rw [keep t (other t (by rw [hw]; simpa using e))]; exact h1
  · intro t j hw hj v hv'
    obtain ⟨U, h1, h2⟩ := inv.undone t j hw (fun h => hj (.inl h)) v hv'
    refine ⟨U, ?_, AVR.mono hs h2⟩
    rw [keep t (other t (by rw [hw]; simpa using fun h => hj (.inr h)))]; exact h1
  · intro t hw v hv'
    obtain ⟨U, h1, h2⟩ := inv.old t hw v hv'
    refine ⟨U, ?_, AVR.mono hs h2⟩
    rw [keep t (other t (by rw [hw]; simp))]; exact h1

theorem Inv.closed : Closed ops (fun j => D j ∨ j = i) := by
  intro j oj hj hd e he hb
  rcases hd with hd | rfl
  · exact .inl (inv.cl j oj hj hd e he hb)
  · rw [hi] at hj; simp only [Option.some.injEq] at hj; subst hj
    exact .inl (hpre e he hb)

/-- An operation that is none of the effects is behind as many effects as its stage lets it. -/
theorem Inv.stage (hq : ∀ k, k < pl.m → pl.ev k ≠ i) : p ≤ pl.st i := by
  rcases Nat.lt_or_ge (pl.st i) p with h | h
  · exfalso
    have hm : pl.st i < pl.m := Nat.lt_of_lt_of_le h inv.pm
    obtain ⟨oe, hoe, _⟩ := ok.effect _ hm
    have hde : D (pl.ev (pl.st i)) := (inv.eff _ hm).2 h
    exact hD (ok.bef D inv.cl _ oe hoe (inv.cl _ oe hoe hde) i ((ok.quiet i o hi hq).2.1 hm))
  · exact h

theorem Inv.quiet {h : Heap} {V : Value} {w' : World} (hh : ∀ b x, h.get b = some x → pl.G D p b x) (hal : pl.al i = none) (hq : ∀ k, k < pl.m → pl.ev k ≠ i) (hv : AVR ι (pl.val i) V) (s : Still ι h w w') :
    Inv ops pl ι0 w0 ds (fun j => D j ∨ j = i) p ι (a.put o.dst V) w' := by
  obtain ⟨s1, s2, s3, s4⟩ := inv.slots hty hcall ok hi hpre hD (Sub.refl ι) hv
  have hG : ∀ b x, pl.G (fun j => D j ∨ j = i) p b x → pl.G D p b x := by
    rintro b x (hx | ⟨j, hj | rfl, h1, h2⟩)
    · exact .inl hx
    · exact .inr ⟨j, hj, h1, h2⟩
    · rw [hal] at h2; cases h2
  refine { cl := inv.closed hty hcall ok hi hpre hD, pm := inv.pm, eff := fun k hk => ?_, size := s1, done := s2, undone := s3, old := s4, ds := ?_, lt := inv.lt,
           rep := (inv.rep.still s).mono hG, ext := inv.ext, free := fun b h1 h2 h3 => inv.free b h1 h2 (fun j x hj => h3 j x (.inl hj)),
           frame := fun c hc hn => ?_, grow := by rw [s.size]; exact inv.grow, fresh := fun b x c N hx => inv.fresh b x c N (hG b x hx),
           tape := by rw [s.tape]; exact inv.tape, os := by rw [s.os]; exact inv.os, output := by rw [s.output]; exact inv.output }
  · constructor
    · rintro (h1 | h1)
      · exact (inv.eff k hk).1 h1
      · exact absurd h1 (hq k hk)
    · exact fun h1 => .inl ((inv.eff k hk).2 h1)
  · rw [← inv.ds]; cases o.dst <;> rfl
  · rw [s.frame c ?_]
    · exact inv.frame c hc hn
    · intro b x N hx hb
      rcases inv.fresh b x c N (hh b x hx) hb with ⟨b0, o0, N0, k1, k2⟩ | k
      · exact hn b0 o0 N0 k1 k2
      · omega

theorem Inv.alloc {id : Nat} {ob : AO} {N : Nat} {O : Obj} {V : Value} (hal : pl.al i = some (id, ob)) (hq : ∀ k, k < pl.m → pl.ev k ≠ i)
    (hV : ∀ (ι' : Io) (w' : World), ι' id = some (w.heap.size, N) → Sub ι ι' → w'.heap[w.heap.size]? = some O → AVR ι' (pl.val i) V ∧ OR ι' ob w.heap.size N w') :
    ∃ ι', Inv ops pl ι0 w0 ds (fun j => D j ∨ j = i) p ι' (a.put o.dst V) { w with heap := w.heap.push O } := by
  have hst := inv.stage hty hcall ok hi hpre hD hq
  obtain ⟨hm, hlo, hup⟩ := ok.alS i id ob hal
  have hlo' : (pl.H p).next ≤ id := Nat.le_trans (PlanOk.mono hty hcall ok _ _ hst hm) hlo
  have hup' : id < (pl.Hp pl.m).next := Nat.lt_of_lt_of_le hup (PlanOk.nf hty hcall ok hm)
  have h0lo : pl.h0.next ≤ id := by rw [← ok.start]; exact Nat.le_trans (PlanOk.mono hty hcall ok _ _ (Nat.zero_le _) hm) hlo
  have hfree : ι id = none := inv.free id hlo' hup' (fun j x hj _ hx => hD (ok.alI j i id x ob hx hal ▸ hj))
  let ι' : Io := fun b => if b = id then some (w.heap.size, N) else ι b
  have hι : ∀ b, b ≠ id → ι' b = ι b := fun b hb => by simp only [ι', if_neg hb]
  have hid : ι' id = some (w.heap.size, N) := by simp [ι']
  have hs : Sub ι ι' := by
    intro b q hb
    by_cases e : b = id
    · subst e; rw [hfree] at hb; cases hb
    · rw [hι b e]; exact hb
  obtain ⟨hv, hor⟩ := hV ι' { w with heap := w.heap.push O } hid hs (by simp)
  obtain ⟨s1, s2, s3, s4⟩ := inv.slots hty hcall ok hi hpre hD hs hv
  have hpush : ∀ c, c < w.heap.size → (w.heap.push O)[c]? = w.heap[c]? := fun c hc => by rw [Array.getElem?_push, if_neg (by omega)]
  -- what was known is not of this name
  have hne : ∀ b x, pl.G D p b x → b ≠ id := by
    rintro b x hx rfl
    obtain ⟨cb, M, h1, _⟩ := inv.rep.obj b x hx
    rw [hfree] at h1; cases h1
  have hG : ∀ b x, pl.G (fun j => D j ∨ j = i) p b x → (b ≠ id ∧ pl.G D p b x) ∨ (b = id ∧ x = ob) := by
    rintro b x (hx | ⟨j, hj | rfl, h1, h2⟩)
    · exact .inl ⟨hne b x (.inl hx), .inl hx⟩
    · exact .inl ⟨hne b x (.inr ⟨j, hj, h1, h2⟩), .inr ⟨j, hj, h1, h2⟩⟩
    · rw [hal] at h2; simp only [Option.some.injEq, Prod.mk.injEq] at h2; exact .inr ⟨h2.1.symm, h2.2.symm⟩
  refine ⟨ι', { cl := inv.closed hty hcall ok hi hpre hD, pm := inv.pm, eff := fun k hk => ?_, size := s1, done := s2, undone := s3, old := s4, ds := ?_, lt := inv.lt,
                rep := ⟨fun b x hx => ?_, fun b b' x x' c M M' hx hx' h1 h2 => ?_, fun b c M hb => ?_⟩, ext := fun b hb => ?_, free := fun b h1 h2 h3 => ?_,
                frame := fun c hc hn => ?_, grow := ?_, fresh := fun b x c M hx hb => ?_,
                tape := inv.tape, os := inv.os, output := inv.output }⟩
  · constructor
    · rintro (h1 | h1)
      · exact (inv.eff k hk).1 h1
      · exact absurd h1 (hq k hk)
    · exact fun h1 => .inl ((inv.eff k hk).2 h1)
  · rw [← inv.ds]; cases o.dst <;> rfl
  · rcases hG b x hx with ⟨e, hx⟩ | ⟨rfl, rfl⟩
    · obtain ⟨cb, M, h1, h2⟩ := inv.rep.obj b x hx
      exact ⟨cb, M, by rw [hι b e]; exact h1, OR.mono hs (hpush cb (inv.rep.dom b cb M h1)) h2⟩
    · exact ⟨_, _, hid, hor⟩
  · rcases hG b x hx with ⟨e, hx⟩ | ⟨rfl, rfl⟩ <;> rcases hG b' x' hx' with ⟨e', hx'⟩ | ⟨rfl, rfl⟩
    · rw [hι b e] at h1; rw [hι b' e'] at h2; exact inv.rep.inj b b' x x' c M M' hx hx' h1 h2
    · rw [hι b e] at h1; rw [hid] at h2; simp only [Option.some.injEq, Prod.mk.injEq] at h2
      have := inv.rep.dom b c M h1; omega
    · rw [hι b' e'] at h2; rw [hid] at h1; simp only [Option.some.injEq, Prod.mk.injEq] at h1
      have := inv.rep.dom b' c M' h2; omega
    · rfl
  · show c < (w.heap.push O).size
    rw [Array.size_push]
    by_cases e : b = id
    · subst e; rw [hid] at hb; simp only [Option.some.injEq, Prod.mk.injEq] at hb; omega
    · rw [hι b e] at hb; have := inv.rep.dom b c M hb; omega
  · rw [hι b (by omega)]; exact inv.ext b hb
  · have e : b ≠ id := fun e => by subst e; exact h3 i ob (.inr rfl) hst hal
    rw [hι b e]; exact inv.free b h1 h2 (fun j x hj => h3 j x (.inl hj))
  · show (w.heap.push O)[c]? = _
    rw [hpush c (Nat.lt_of_lt_of_le hc inv.grow)]; exact inv.frame c hc hn
  · show _ ≤ (w.heap.push O).size
    rw [Array.size_push]; have := inv.grow; omega
  · rcases hG b x hx with ⟨e, hx⟩ | ⟨rfl, rfl⟩
    · rw [hι b e] at hb; exact inv.fresh b x c M hx hb
    · rw [hid] at hb; simp only [Option.some.injEq, Prod.mk.injEq] at hb
      right; have := inv.grow; omega

end
end Go.Proofs.YtndbccpaccflcaaGreat.Dm
