/- Regions whose order is drawn: the one run is a plan. -/
import Derived.Test.YtafkkicnfngpoaaGreatDmDr3
set_option linter.unusedVariables false
set_option linter.unusedSimpArgs false
set_option linter.unusedSectionVars false
namespace Go.Proofs.YtafkkicnfngpoaaGreat.Dm
open Go

noncomputable def planD (B W : Tr Nat) (fr : Fr) (h0 : Heap) (S : Ds) : Plan where
  fr := fr
  h0 := h0
  m := S.k
  ev := fun p => nat0 (S.evs.get p)
  st := fun j => nat0 (S.st.get j)
  val := fun j => (S.vals.get j).getD (.tu [])
  wr := W.get
  before := fun i j => bit (nat0 (B.get i)) j
  H := fun p => (S.Hs.get p).getD Heap.nil
  Hp := fun p => if p = S.k then S.cur else (S.Hps.get p).getD Heap.nil
  al := S.al.get

structure Agr (M : Nat) (pl pl' : Plan) : Prop where
  fr : pl'.fr = pl.fr
  wr : pl'.wr = pl.wr
  bf : pl'.before = pl.before
  m : pl.m ≤ pl'.m
  val : ∀ j, bit M j = true → pl'.val j = pl.val j
  st : ∀ j, bit M j = true → pl'.st j = pl.st j
  al : ∀ j, bit M j = true → pl'.al j = pl.al j
  ev : ∀ p, p < pl.m → pl'.ev p = pl.ev p
  H : ∀ p, p ≤ pl.m → pl'.H p = pl.H p
  Hp : ∀ p, p < pl.m → pl'.Hp p = pl.Hp p

noncomputable def QF (ty : Ty) (ops : Array Oper) (pl : Plan) (i : Nat) (o : Oper) : Prop :=
  pl.st i ≤ pl.m ∧ (pl.st i < pl.m → pl.before (pl.ev (pl.st i)) i = true) ∧
    ((pl.wants ops i o false ∧ pl.val i = .tu [] ∧ pl.al i = none) ∨
     (pl.wants ops i o true ∧ pl.al i = none ∧ ∃ lo, (0 < lo → lo - 1 < pl.m ∧ pl.before i (pl.ev (lo - 1)) = true) ∧ ∀ p, lo ≤ p → p ≤ pl.st i →
        ∃ Hq : Heap, (∀ b x, Hq.get b = some x → (pl.H p).get b = some x ∨ ∃ j, pl.before i j = true ∧ p ≤ pl.st j ∧ pl.al j = some (b, x)) ∧ qop ty (pl.env i) Hq o.op = some (pl.val i)) ∨
     (pl.wants ops i o true ∧ ∃ id ob f, pl.al i = some (id, ob) ∧ alop ty (pl.env i) o.op = some (ob, f) ∧ pl.val i = f id))

noncomputable def EF (ty : Ty) (call : CallK) (ops : Array Oper) (pl : Plan) (k : Nat) : Prop :=
  ∃ o, ops[pl.ev k]? = some o ∧
    ((pl.wants ops (pl.ev k) o false ∧ pl.val (pl.ev k) = .tu [] ∧ pl.H (k + 1) = pl.Hp k) ∨
     (pl.wants ops (pl.ev k) o true ∧ ((eop ty (pl.env (pl.ev k)) (pl.Hp k) o.op = some (pl.val (pl.ev k), pl.H (k + 1))) ∨
        ∃ c f args, o.op = .call c ∧ callA (pl.env (pl.ev k)) c = some (f, args) ∧ call f args (pl.Hp k) = .ok (pl.val (pl.ev k)) (pl.H (k + 1)))))

theorem Agr.env {M : Nat} {pl pl' : Plan} (g : Agr M pl pl') {i : Nat} (hB : ∀ j, pl.before i j = true → bit M j = true) : pl'.env i = pl.env i := by
  funext x
  cases x with
  | tmp t =>
    simp only [Plan.env, g.wr, g.fr, g.bf]
    cases pl.wr t with
    | none => rfl
    | some j =>
      simp only []
      cases hb : pl.before i j with
      | true => simp only [cnd_true]; rw [g.val j (hB j hb)]
      | false => rfl
  | _ => rfl

theorem Agr.wants {M : Nat} {pl pl' : Plan} (g : Agr M pl pl') {ops : Array Oper} {i : Nat} {o : Oper} {b : Bool} (hB : ∀ j, pl.before i j = true → bit M j = true) (h : pl.wants ops i o b) : pl'.wants ops i o b := by
  unfold Plan.wants at *
  cases hg : o.guard with
  | none => rw [hg] at h; exact h
  | some q =>
    obtain ⟨j, want⟩ := q
    rw [hg] at h
    obtain ⟨h1, oj, d, x, h2, h3, h4, h5⟩ := h
    exact ⟨by rw [g.bf]; exact h1, oj, d, x, h2, h3, by rw [g.val j (hB j h1)]; exact h4, h5⟩

theorem Agr.qf {M : Nat} {pl pl' : Plan} (g : Agr M pl pl') {ty : Ty} {ops : Array Oper} {i : Nat} {o : Oper} (hi : bit M i = true) (hB : ∀ j, pl.before i j = true → bit M j = true)
    (hs : pl.st i = pl.m → pl.m < pl'.m → pl.before (pl'.ev pl.m) i = true) (h : QF ty ops pl i o) : QF ty ops pl' i o := by
  obtain ⟨h1, h2, h3⟩ := h
  have henv := g.env hB
  refine ⟨by rw [g.st i hi]; exact Nat.le_trans h1 g.m, fun hlt => ?_, ?_⟩
  · rw [g.st i hi] at hlt ⊢
    rw [g.bf]
    by_cases e : pl.st i = pl.m
    · rw [e]; exact hs e (by omega)
    · rw [g.ev _ (by omega)]; exact h2 (by omega)
  · rw [g.val i hi, g.al i hi, henv, g.st i hi]
    rcases h3 with ⟨w, v, a⟩ | ⟨w, a, lo, hlo, hq⟩ | ⟨w, r⟩
    · exact .inl ⟨g.wants hB w, v, a⟩
    · refine .inr (.inl ⟨g.wants hB w, a, lo, fun hl => ?_, fun p p1 p2 => ?_⟩)
      · obtain ⟨l1, l2⟩ := hlo hl
        refine ⟨Nat.lt_of_lt_of_le l1 g.m, ?_⟩
        rw [g.bf, g.ev _ l1]; exact l2
      · obtain ⟨Hq, q1, q2⟩ := hq p p1 p2
        refine ⟨Hq, fun b x hx => ?_, q2⟩
        rw [g.H p (Nat.le_trans p2 h1)]
        rcases q1 b x hx with hx | ⟨j, j1, j2, j3⟩
        · exact .inl hx
        · exact .inr ⟨j, by rw [g.bf]; exact j1, by rw [g.st j (hB j j1)]; exact j2, by rw [g.al j (hB j j1)]; exact j3⟩
    · exact .inr (.inr ⟨g.wants hB w, r⟩)

theorem Agr.ef {M : Nat} {pl pl' : Plan} (g : Agr M pl pl') {ty : Ty} {call : CallK} {ops : Array Oper} {k : Nat} (hk : k < pl.m) (he : bit M (pl.ev k) = true) (hB : ∀ j, pl.before (pl.ev k) j = true → bit M j = true)
    (h : EF ty call ops pl k) : EF ty call ops pl' k := by
  obtain ⟨o, ho, h⟩ := h
  unfold EF
  rw [g.ev k hk, g.env hB, g.Hp k hk, g.H (k + 1) hk, g.val _ he]
  refine ⟨o, ho, ?_⟩
  rcases h with ⟨w, r⟩ | ⟨w, r⟩
  · exact .inl ⟨g.wants hB w, r⟩
  · exact .inr ⟨g.wants hB w, r⟩

structure Good (ty : Ty) (call : CallK) (ops : Array Oper) (B W : Tr Nat) (fr : Fr) (h0 : Heap) (S : Ds) : Prop where
  msk : ∀ j, bit S.M j = true → ∃ v, S.vals.get j = some v
  idx : ∀ j, bit S.M j = true → ∃ o, ops[j]? = some o
  als : ∀ j s id ob, (j, s, id, ob) ∈ S.als → bit S.M j = true ∧ S.st.get j = some s ∧ S.al.get j = some (id, ob)
  clo : ∀ j j', bit S.M j = true → bit (nat0 (B.get j)) j' = true → bit S.M j' = true
  evM : ∀ p, p < S.k → bit S.M ((planD B W fr h0 S).ev p) = true
  evl : ∀ q e, S.evl[q]? = some e → q < S.k ∧ (planD B W fr h0 S).ev (S.k - 1 - q) = e
  hk : S.Hs.get S.k = some S.H
  hz : S.Hs.get 0 = some h0
  alM : ∀ j x, S.al.get j = some x → bit S.M j = true
  alS : ∀ j id ob, S.al.get j = some (id, ob) → (planD B W fr h0 S).st j ≤ S.k ∧ ((planD B W fr h0 S).H ((planD B W fr h0 S).st j)).next ≤ id ∧ id < ((planD B W fr h0 S).Hp ((planD B W fr h0 S).st j)).next ∧ id < S.cur.next
  alI : ∀ i j id ob ob', S.al.get i = some (id, ob) → S.al.get j = some (id, ob') → i = j
  alE : ∀ p, p < S.k → S.al.get ((planD B W fr h0 S).ev p) = none
  evi : ∀ p p', p < S.k → p' < S.k → (planD B W fr h0 S).ev p = (planD B W fr h0 S).ev p' → p = p'
  chain : ∀ p, p + 1 < S.k → bit (nat0 (B.get ((planD B W fr h0 S).ev (p + 1)))) ((planD B W fr h0 S).ev p) = true
  hp : ∀ p, p ≤ S.k → ((planD B W fr h0 S).H p).next ≤ ((planD B W fr h0 S).Hp p).next ∧ ∀ b x, ((planD B W fr h0 S).Hp p).get b = some x →
    ((planD B W fr h0 S).H p).get b = some x ∨ ∃ i, bit S.M i = true ∧ (planD B W fr h0 S).st i = p ∧ (planD B W fr h0 S).al i = some (b, x)
  quiet : ∀ i o, ops[i]? = some o → bit S.M i = true → (∀ p, p < S.k → (planD B W fr h0 S).ev p ≠ i) → QF ty ops (planD B W fr h0 S) i o
  effect : ∀ p, p < S.k → EF ty call ops (planD B W fr h0 S) p

section
variable {ty : Ty} {call : CallK} {ops : Array Oper} {B W : Tr Nat} {fr : Fr} {h0 : Heap} {S : Ds}

theorem Good.start : Good ty call ops B W fr h0 (Ds.start h0) := by
  have hb : ∀ j, ¬ bit (Ds.start h0).M j = true := fun j h => by
    have h : bit 0 j = true := h
    rw [bit_zero] at h; cases h
  refine ⟨fun j h => absurd h (hb j), fun j h => absurd h (hb j), fun j s id ob h => (by cases h), fun j j' h => absurd h (hb j), fun p h => absurd h (Nat.not_lt_zero _), fun q e h => (by simp [Ds.start] at h), ?_, ?_, fun j x h => (by cases h), fun j id ob h => (by cases h), fun i j id ob ob' h => (by cases h),
    fun p h => absurd h (Nat.not_lt_zero _), fun p p' h => absurd h (Nat.not_lt_zero _), fun p h => absurd h (Nat.not_lt_zero _), fun p h => ?_, fun i o _ h => absurd h (hb i), fun p h => absurd h (Nat.not_lt_zero _)⟩
  · show (Tr.e.put (some h0) 0).get 0 = some h0
    rw [Tr.get_put, if_pos rfl]
  · show (Tr.e.put (some h0) 0).get 0 = some h0
    rw [Tr.get_put, if_pos rfl]
  · have hp : p = 0 := Nat.le_zero.1 h
    subst hp
    have e1 : (planD B W fr h0 (Ds.start h0)).H 0 = h0 := by
      show ((Tr.e.put (some h0) 0).get 0).getD Heap.nil = h0
      rw [Tr.get_put, if_pos rfl]; rfl
    have e2 : (planD B W fr h0 (Ds.start h0)).Hp 0 = h0 := rfl
    rw [e1, e2]
    exact ⟨Nat.le_refl _, fun b x hx => .inl hx⟩

variable (g : Good ty call ops B W fr h0 S)
include g

theorem Good.agrQ {i : Nat} {v : AV} {x : Option (Nat × AO)} {als : List (Nat × Nat × Nat × AO)} {cur : Heap} (hM : bit S.M i = false) : Agr S.M (planD B W fr h0 S) (planD B W fr h0 (S.quiet i v x als cur)) := by
  have hne : ∀ j, bit S.M j = true → j ≠ i := fun j hj e => by subst e; rw [hM] at hj; cases hj
  refine ⟨rfl, rfl, rfl, Nat.le_refl _, fun j hj => ?_, fun j hj => ?_, fun j hj => ?_, fun _ _ => rfl, fun _ _ => rfl, fun p hp => ?_⟩
  · show ((S.vals.put (some v) i).get j).getD _ = _
    rw [Tr.get_put, if_neg (hne j hj)]; rfl
  · show nat0 ((S.st.put (some S.k) i).get j) = _
    rw [Tr.get_put, if_neg (hne j hj)]; rfl
  · show (S.al.put x i).get j = _
    rw [Tr.get_put, if_neg (hne j hj)]; rfl
  · have hp : p < S.k := hp
    show (if p = S.k then cur else _) = (if p = S.k then S.cur else _)
    rw [if_neg (by omega), if_neg (by omega)]; rfl

theorem Good.put {i : Nat} {o : Oper} {v : AV} {x : Option (Nat × AO)} {als : List (Nat × Nat × Nat × AO)} {cur : Heap} (hi : ops[i]? = some o) (hM : bit S.M i = false)
    (hB : ∀ j, bit (nat0 (B.get i)) j = true → bit S.M j = true)
    (hx : (x = none ∧ als = S.als ∧ cur = S.cur) ∨ ∃ ob, x = some (S.cur.next, ob) ∧ als = (i, S.k, S.cur.next, ob) :: S.als ∧ cur = S.cur.push ob)
    (hq : QF ty ops (planD B W fr h0 (S.quiet i v x als cur)) i o) : Good ty call ops B W fr h0 (S.quiet i v x als cur) := by
  have ag := g.agrQ (v := v) (x := x) (als := als) (cur := cur) hM
  have hne : ∀ j, bit S.M j = true → j ≠ i := fun j hj e => by subst e; rw [hM] at hj; cases hj
  have hm : ∀ j, bit (S.quiet i v x als cur).M j = true ↔ bit S.M j = true ∨ j = i := fun j => bit_set _ _ _
  have hev : ∀ p, (planD B W fr h0 (S.quiet i v x als cur)).ev p = (planD B W fr h0 S).ev p := fun _ => rfl
  have hH : ∀ p, (planD B W fr h0 (S.quiet i v x als cur)).H p = (planD B W fr h0 S).H p := fun _ => rfl
  have hal : ∀ j, j ≠ i → (S.al.put x i).get j = S.al.get j := fun j hj => by rw [Tr.get_put, if_neg hj]
  have hali : (S.al.put x i).get i = x := by rw [Tr.get_put, if_pos rfl]
  have hsti : (S.st.put (some S.k) i).get i = some S.k := by rw [Tr.get_put, if_pos rfl]
  have hn : S.cur.next ≤ cur.next := by
    rcases hx with ⟨_, _, h⟩ | ⟨ob, _, _, h⟩ <;> rw [h]
    · exact Nat.le_refl _
    · exact Nat.le_succ _
  have hHpk : (planD B W fr h0 (S.quiet i v x als cur)).Hp S.k = cur := by
    show (if S.k = S.k then cur else _) = cur
    rw [if_pos rfl]
  have hHpk0 : (planD B W fr h0 S).Hp S.k = S.cur := by
    show (if S.k = S.k then S.cur else _) = S.cur
    rw [if_pos rfl]
  have hHp : ∀ p, p < S.k → (planD B W fr h0 (S.quiet i v x als cur)).Hp p = (planD B W fr h0 S).Hp p := ag.Hp
  have hsti' : (planD B W fr h0 (S.quiet i v x als cur)).st i = S.k := by
    show nat0 ((S.st.put (some S.k) i).get i) = _
    rw [hsti]; rfl
  have hHk : ((planD B W fr h0 S).H S.k).next ≤ S.cur.next := by
    have := (g.hp S.k (Nat.le_refl _)).1
    rw [hHpk0] at this; exact this
  refine ⟨fun j hj => ?_, fun j hj => ?_, fun j s id ob h => ?_, fun j j' hj hj' => ?_, fun p hp => ?_, g.evl, g.hk, g.hz, fun j y hj => ?_, fun j id ob hj => ?_, fun j j' id ob ob' h1 h2 => ?_,
    fun p hp => ?_, g.evi, g.chain, fun p hp => ?_, fun j oj hj hj2 hj3 => ?_, fun p hp => ?_⟩
  · show ∃ u, (S.vals.put (some v) i).get j = some u
    rw [Tr.get_put]
    by_cases e : j = i
    · rw [if_pos e]; exact ⟨v, rfl⟩
    · rw [if_neg e]; exact g.msk j (((hm j).1 hj).resolve_right e)
  · rcases (hm j).1 hj with hj | rfl
    · exact g.idx j hj
    · exact ⟨o, hi⟩
  · have old : (j, s, id, ob) ∈ S.als → _ := fun h => by
      obtain ⟨a, b, c⟩ := g.als j s id ob h
      exact (⟨(hm j).2 (.inl a), by show (S.st.put (some S.k) i).get j = _; rw [Tr.get_put, if_neg (hne j a)]; exact b, by show (S.al.put x i).get j = _; rw [hal j (hne j a)]; exact c⟩ :
        bit (S.quiet i v x als cur).M j = true ∧ (S.quiet i v x als cur).st.get j = some s ∧ (S.quiet i v x als cur).al.get j = some (id, ob))
    rcases hx with ⟨_, ha, _⟩ | ⟨ob2, hx, ha, _⟩
    · exact old (by rw [← ha]; exact h)
    · have h : (j, s, id, ob) ∈ als := h
      rw [ha] at h
      rcases List.mem_cons.1 h with h | h
      · simp only [Prod.mk.injEq] at h
        obtain ⟨rfl, rfl, rfl, rfl⟩ := h
        exact ⟨(hm j).2 (.inr rfl), hsti, by show (S.al.put x j).get j = _; rw [hali]; exact hx⟩
      · exact old h
  · rw [hm] at hj ⊢
    rcases hj with hj | rfl
    · exact .inl (g.clo j j' hj hj')
    · exact .inl (hB j' hj')
  · rw [hm]; exact .inl (g.evM p hp)
  · have hj : (S.al.put x i).get j = some y := hj
    rw [hm]
    by_cases e : j = i
    · exact .inr e
    · rw [hal j e] at hj; exact .inl (g.alM j y hj)
  · have hj : (S.al.put x i).get j = some (id, ob) := hj
    by_cases e : j = i
    · subst e
      rw [hali] at hj
      rcases hx with ⟨h, _, _⟩ | ⟨ob2, h, _, hc⟩
      · rw [h] at hj; cases hj
      · rw [h] at hj; simp only [Option.some.injEq, Prod.mk.injEq] at hj
        rw [hsti', hHpk, hH, ← hj.1]
        have : S.cur.next < cur.next := by rw [hc]; exact Nat.lt_succ_self _
        exact ⟨Nat.le_refl _, hHk, this, this⟩
    · rw [hal j e] at hj
      have hjM := g.alM j _ hj
      obtain ⟨a, b, c, d⟩ := g.alS j id ob hj
      rw [ag.st j hjM, hH]
      refine ⟨a, b, ?_, Nat.lt_of_lt_of_le d hn⟩
      by_cases e2 : (planD B W fr h0 S).st j = S.k
      · rw [e2, hHpk]; exact Nat.lt_of_lt_of_le d hn
      · rw [hHp _ (by omega)]; exact c
  · have h1 : (S.al.put x i).get j = some (id, ob) := h1
    have h2 : (S.al.put x i).get j' = some (id, ob') := h2
    have no : ∀ j ob, S.al.get j = some (S.cur.next, ob) → False := fun j ob h => by
      have := (g.alS j _ ob h).2.2.2; omega
    by_cases e : j = i <;> by_cases e' : j' = i
    · omega
    · exfalso
      subst e
      rw [hali] at h1; rw [hal j' e'] at h2
      rcases hx with ⟨h, _, _⟩ | ⟨ob2, h, _, _⟩
      · rw [h] at h1; cases h1
      · rw [h] at h1; simp only [Option.some.injEq, Prod.mk.injEq] at h1
        rw [← h1.1] at h2; exact no j' ob' h2
    · exfalso
      subst e'
      rw [hali] at h2; rw [hal j e] at h1
      rcases hx with ⟨h, _, _⟩ | ⟨ob2, h, _, _⟩
      · rw [h] at h2; cases h2
      · rw [h] at h2; simp only [Option.some.injEq, Prod.mk.injEq] at h2
        rw [← h2.1] at h1; exact no j ob h1
    · rw [hal j e] at h1; rw [hal j' e'] at h2
      exact g.alI j j' id ob ob' h1 h2
  · show (S.al.put x i).get ((planD B W fr h0 S).ev p) = none
    rw [hal _ (hne _ (g.evM p hp))]; exact g.alE p hp
  · rw [hH]
    have hp : p ≤ S.k := hp
    have lift : ∀ b y, (∃ j, bit S.M j = true ∧ (planD B W fr h0 S).st j = p ∧ (planD B W fr h0 S).al j = some (b, y)) →
        ∃ j, bit (S.quiet i v x als cur).M j = true ∧ (planD B W fr h0 (S.quiet i v x als cur)).st j = p ∧ (planD B W fr h0 (S.quiet i v x als cur)).al j = some (b, y) := by
      rintro b y ⟨j, a, b', c⟩
      exact ⟨j, (hm j).2 (.inl a), by rw [ag.st j a]; exact b', by rw [ag.al j a]; exact c⟩
    by_cases e : p = S.k
    · subst e
      rw [hHpk]
      obtain ⟨q1, q2⟩ := g.hp S.k (Nat.le_refl _)
      rw [hHpk0] at q1 q2
      refine ⟨Nat.le_trans q1 hn, fun b y hy => ?_⟩
      rcases hx with ⟨_, _, hc⟩ | ⟨ob2, hxx, _, hc⟩
      · rw [hc] at hy
        exact (q2 b y hy).imp id (lift b y)
      · rw [hc, Heap.get_push] at hy
        by_cases e2 : b = S.cur.next
        · rw [if_pos e2] at hy; simp only [Option.some.injEq] at hy; subst hy
          exact .inr ⟨i, (hm i).2 (.inr rfl), hsti', by show (S.al.put x i).get i = _; rw [hali, hxx, e2]⟩
        · rw [if_neg e2] at hy
          exact (q2 b y hy).imp id (lift b y)
    · rw [hHp p (by omega)]
      obtain ⟨q1, q2⟩ := g.hp p hp
      exact ⟨q1, fun b y hy => (q2 b y hy).imp id (lift b y)⟩
  · rcases (hm j).1 hj2 with hj2 | rfl
    · exact ag.qf hj2 (fun j' hj' => g.clo j j' hj2 hj') (fun _ h => absurd h (Nat.lt_irrefl _)) (g.quiet j oj hj hj2 hj3)
    · rw [hi] at hj; simp only [Option.some.injEq] at hj; subst hj; exact hq
  · exact ag.ef hp (g.evM p hp) (fun j hj => g.clo _ j (g.evM p hp) hj) (g.effect p hp)

theorem Good.eff {i : Nat} {o : Oper} {v : AV} {h : Heap} (hi : ops[i]? = some o) (hM : bit S.M i = false) (hB : S.M = nat0 (B.get i)) (hn : S.cur.next ≤ h.next)
    (he : EF ty call ops (planD B W fr h0 (S.eff i v h)) S.k) : Good ty call ops B W fr h0 (S.eff i v h) := by
  have hne : ∀ j, bit S.M j = true → j ≠ i := fun j hj e => by subst e; rw [hM] at hj; cases hj
  have hm : ∀ j, bit (S.eff i v h).M j = true ↔ bit S.M j = true ∨ j = i := fun j => bit_set _ _ _
  have hev : ∀ p, p ≠ S.k → (planD B W fr h0 (S.eff i v h)).ev p = (planD B W fr h0 S).ev p := fun p hp => by
    show nat0 ((S.evs.put (some i) S.k).get p) = _
    rw [Tr.get_put, if_neg hp]; rfl
  have hevk : (planD B W fr h0 (S.eff i v h)).ev S.k = i := by
    show nat0 ((S.evs.put (some i) S.k).get S.k) = _
    rw [Tr.get_put, if_pos rfl]; rfl
  have hH : ∀ p, p ≤ S.k → (planD B W fr h0 (S.eff i v h)).H p = (planD B W fr h0 S).H p := fun p hp => by
    show ((S.Hs.put (some h) (Nat.succ S.k)).get p).getD _ = _
    rw [Tr.get_put, if_neg (by omega)]; rfl
  have hHk : (planD B W fr h0 (S.eff i v h)).H (S.k + 1) = h := by
    show ((S.Hs.put (some h) (Nat.succ S.k)).get (S.k + 1)).getD _ = _
    rw [Tr.get_put, if_pos rfl]; rfl
  have hHp : ∀ p, p ≤ S.k → (planD B W fr h0 (S.eff i v h)).Hp p = (planD B W fr h0 S).Hp p := fun p hp => by
    show (if p = Nat.succ S.k then h else ((S.Hps.put (some S.cur) S.k).get p).getD _) = (if p = S.k then S.cur else _)
    rw [if_neg (by omega), Tr.get_put]
    by_cases e : p = S.k
    · rw [if_pos e, if_pos e]; rfl
    · rw [if_neg e, if_neg e]
  have hHpk : (planD B W fr h0 (S.eff i v h)).Hp (S.k + 1) = h := by
    show (if S.k + 1 = Nat.succ S.k then h else _) = h
    rw [if_pos rfl]
  have ag : Agr S.M (planD B W fr h0 S) (planD B W fr h0 (S.eff i v h)) := by
    refine ⟨rfl, rfl, rfl, Nat.le_succ _, fun j hj => ?_, fun j hj => ?_, fun j hj => rfl, fun p hp => hev p (Nat.ne_of_lt hp), hH, fun p hp => hHp p (Nat.le_of_lt hp)⟩
    · show ((S.vals.put (some v) i).get j).getD _ = _
      rw [Tr.get_put, if_neg (hne j hj)]; rfl
    · show nat0 ((S.st.put (some S.k) i).get j) = _
      rw [Tr.get_put, if_neg (hne j hj)]; rfl
  have hev2 : ∀ p, p < S.k + 1 → (p < S.k ∧ (planD B W fr h0 (S.eff i v h)).ev p = (planD B W fr h0 S).ev p) ∨ (p = S.k ∧ (planD B W fr h0 (S.eff i v h)).ev p = i) := fun p hp => by
    by_cases e : p = S.k
    · subst e; exact .inr ⟨rfl, hevk⟩
    · exact .inl ⟨by omega, hev p e⟩
  refine ⟨fun j hj => ?_, fun j hj => ?_, fun j s id ob hj => ?_, fun j j' hj hj' => ?_, fun p hp => ?_, fun q e hq => ?_, ?_, ?_, fun j y hj => ?_, fun j id ob hj => ?_, g.alI,
    fun p hp => ?_, fun p p' hp hp' hpp => ?_, fun p hp => ?_, fun p hp => ?_, fun j oj hj hj2 hj3 => ?_, fun p hp => ?_⟩
  · show ∃ u, (S.vals.put (some v) i).get j = some u
    rw [Tr.get_put]
    by_cases e : j = i
    · rw [if_pos e]; exact ⟨v, rfl⟩
    · rw [if_neg e]; exact g.msk j (((hm j).1 hj).resolve_right e)
  · rcases (hm j).1 hj with hj | rfl
    · exact g.idx j hj
    · exact ⟨o, hi⟩
  · obtain ⟨a, b, c⟩ := g.als j s id ob hj
    exact ⟨(hm j).2 (.inl a), by show (S.st.put (some S.k) i).get j = _; rw [Tr.get_put, if_neg (hne j a)]; exact b, c⟩
  · rw [hm] at hj ⊢
    rcases hj with hj | rfl
    · exact .inl (g.clo j j' hj hj')
    · exact .inl (by rw [hB]; exact hj')
  · rw [hm]
    rcases hev2 p hp with ⟨h1, h2⟩ | ⟨h1, h2⟩
    · rw [h2]; exact .inl (g.evM p h1)
    · exact .inr h2
  · have hq : (i :: S.evl)[q]? = some e := hq
    show q < S.k + 1 ∧ _ = e
    cases q with
    | zero =>
      simp only [List.getElem?_cons_zero, Option.some.injEq] at hq
      exact ⟨Nat.succ_pos _, by show (planD B W fr h0 (S.eff i v h)).ev (S.k + 1 - 1 - 0) = e; rw [show S.k + 1 - 1 - 0 = S.k by omega, hevk]; exact hq⟩
    | succ q =>
      rw [List.getElem?_cons_succ] at hq
      obtain ⟨q1, q2⟩ := g.evl q e hq
      exact ⟨by omega, by show (planD B W fr h0 (S.eff i v h)).ev (S.k + 1 - 1 - (q + 1)) = e; rw [show S.k + 1 - 1 - (q + 1) = S.k - 1 - q by omega, hev _ (by omega)]; exact q2⟩
  · show (S.Hs.put (some h) (Nat.succ S.k)).get (Nat.succ S.k) = some h
    rw [Tr.get_put, if_pos rfl]
  · show (S.Hs.put (some h) (Nat.succ S.k)).get 0 = some h0
    rw [Tr.get_put, if_neg (by omega)]; exact g.hz
  · exact (hm j).2 (.inl (g.alM j y hj))
  · have hjM := g.alM j _ hj
    obtain ⟨a, b, c, d⟩ := g.alS j id ob hj
    rw [ag.st j hjM, hH _ a, hHp _ a]
    exact ⟨Nat.le_succ_of_le a, b, c, Nat.lt_of_lt_of_le d hn⟩
  · show S.al.get _ = none
    rcases hev2 p hp with ⟨h1, h2⟩ | ⟨h1, h2⟩
    · rw [h2]; exact g.alE p h1
    · rw [h2]
      cases hx : S.al.get i with
      | none => rfl
      | some y => exact absurd rfl (hne i (g.alM i y hx))
  · rcases hev2 p hp with ⟨h1, h2⟩ | ⟨h1, h2⟩ <;> rcases hev2 p' hp' with ⟨h1', h2'⟩ | ⟨h1', h2'⟩
    · rw [h2, h2'] at hpp; exact g.evi p p' h1 h1' hpp
    · rw [h2, h2'] at hpp; exact absurd hpp (hne _ (g.evM p h1))
    · rw [h2, h2'] at hpp; exact absurd hpp.symm (hne _ (g.evM p' h1'))
    · omega
  · have hp : p + 1 < S.k + 1 := hp
    rcases hev2 (p + 1) hp with ⟨h1, h2⟩ | ⟨h1, h2⟩
    · rw [h2, hev p (by omega)]; exact g.chain p h1
    · rw [h2, hev p (by omega), ← hB]; exact g.evM p (by omega)
  · have lift : ∀ b y, (∃ j, bit S.M j = true ∧ (planD B W fr h0 S).st j = p ∧ (planD B W fr h0 S).al j = some (b, y)) →
        ∃ j, bit (S.eff i v h).M j = true ∧ (planD B W fr h0 (S.eff i v h)).st j = p ∧ (planD B W fr h0 (S.eff i v h)).al j = some (b, y) := by
      rintro b y ⟨j, a, b', c⟩
      exact ⟨j, (hm j).2 (.inl a), by rw [ag.st j a]; exact b', by rw [ag.al j a]; exact c⟩
    by_cases e : p = S.k + 1
    · subst e
      rw [hHk, hHpk]
      exact ⟨Nat.le_refl _, fun b y hy => .inl hy⟩
    · have hp : p ≤ S.k + 1 := hp
      rw [hH p (by omega), hHp p (by omega)]
      obtain ⟨q1, q2⟩ := g.hp p (by omega)
      exact ⟨q1, fun b y hy => (q2 b y hy).imp id (lift b y)⟩
  · rcases (hm j).1 hj2 with hj2 | rfl
    · refine ag.qf hj2 (fun j' hj' => g.clo j j' hj2 hj') (fun _ _ => ?_) (g.quiet j oj hj hj2 (fun p hp => ?_))
      · show bit (nat0 (B.get ((planD B W fr h0 (S.eff i v h)).ev S.k))) j = true
        rw [hevk, ← hB]; exact hj2
      · rw [← hev p (by omega)]; exact hj3 p (Nat.lt_succ_of_lt hp)
    · exact absurd hevk (hj3 S.k (Nat.lt_succ_self _))
  · by_cases e : p = S.k
    · subst e; exact he
    · have hp : p < S.k + 1 := hp
      exact ag.ef (by show p < S.k; omega) (g.evM p (by omega)) (fun j hj => g.clo _ j (g.evM p (by omega)) hj) (g.effect p (by omega))

end
end Go.Proofs.YtafkkicnfngpoaaGreat.Dm
