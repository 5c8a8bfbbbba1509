/- Regions whose order is drawn: effects, and the whole. -/
import Derived.Test.YtndbccpaccflcaaGreatDmDr1
set_option linter.unusedVariables false
set_option linter.unusedSimpArgs false
set_option linter.unusedSectionVars false
namespace Go.Proofs.YtndbccpaccflcaaGreat.Dm
open Go

/-- Quiet operations do not ask for the next name. -/
theorem qop_next (n : Nat) {ty : Ty} {ρ : Env} {h : Heap} {op : Op} : qop ty ρ h op = qop ty ρ (Heap.mk n h.t) op := by
  obtain ⟨m, t⟩ := h
  cases op <;> rfl

section
variable {P : Program} {ty : Ty} (hty : TyOk P ty) {call : CallK} (hcall : CallOk P call) {ops : Array Oper} {pl : Plan} (ok : PlanOk ty call ops pl)
  {ι0 : Io} {w0 : World} {ds : List Deferred} {D : Nat → Prop} {p : Nat} {ι : Io} {a : Act} {w : World} (inv : Inv ops pl ι0 w0 ds D p ι a w)
  {i : Nat} {o : Oper} (hi : ops[i]? = some o) (hpre : ∀ e ∈ o.after, Region.binds .any e = true → D e.on) (hD : ¬ D i)
include hty hcall ok inv hi hpre hD

theorem Inv.turn {k : Nat} (hk : k < pl.m) (he : pl.ev k = i) : p = k := by
  have h1 : ¬ k < p := fun h => hD (he ▸ (inv.eff k hk).2 h)
  cases k with
  | zero => omega
  | succ k =>
    have hb := ok.chain k hk
    rw [he] at hb
    have := (inv.eff k (by omega)).1 (ok.bef D inv.cl i o hi hpre _ hb)
    omega

/-- What the effect's own heap tells is known. -/
theorem Inv.hp {k : Nat} (hk : k < pl.m) (he : pl.ev k = i) : ∀ b x, (pl.Hp k).get b = some x → b < (pl.Hp k).next ∧ pl.G D k b x := by
  intro b x hx
  have hpk : p = k := inv.turn hty hcall ok hi hpre hD hk he
  rcases (ok.hp k (by omega)).2 b x hx with h2 | ⟨j, hj, hal⟩
  · have h3 := inv.lt b x (hpk ▸ h2)
    rw [hpk] at h3
    exact ⟨Nat.lt_of_lt_of_le h3 (ok.hp k (by omega)).1, .inl h2⟩
  · obtain ⟨oj, hoj⟩ := ok.alO j _ hal
    have hid := (ok.alS j b x hal).2.2
    rw [hj] at hid
    refine ⟨hid, ?_⟩
    have hq : ∀ k', k' < pl.m → pl.ev k' ≠ j := by
      intro k' hk' e
      have := ok.alE k' hk'
      rw [e, hal] at this; cases this
    have hb := (ok.quiet j oj hoj hq).2.1 (by omega)
    rw [hj, he] at hb
    exact .inr ⟨j, ok.bef D inv.cl i o hi hpre j hb, by omega, hal⟩

theorem Inv.effect {k : Nat} (hk : k < pl.m) (he : pl.ev k = i) {ι' : Io} {w' : World} {V : Value} (hpk : p = k)
    (hv : Free ι (pl.Hp k).next (pl.H (k + 1)).next → AVR ι' (pl.val i) V ∧ Post ι (pl.Hp k) (pl.H (k + 1)) w w' ι') :
    Inv ops pl ι0 w0 ds (fun j => D j ∨ j = i) (k + 1) ι' (a.put o.dst V) w' := by
  subst hpk
  have hG := inv.hp hty hcall ok hi hpre hD hk he
  have n1 : (pl.H p).next ≤ (pl.Hp p).next := (ok.hp p inv.pm).1
  have n2 : (pl.Hp p).next ≤ (pl.H (p + 1)).next := PlanOk.hnext hty hcall ok hk
  have n3 : (pl.H (p + 1)).next ≤ (pl.Hp pl.m).next := Nat.le_trans (ok.hp (p + 1) hk).1 (PlanOk.nf hty hcall ok hk)
  have n0 : pl.h0.next ≤ (pl.H p).next := by rw [← ok.start]; exact PlanOk.mono hty hcall ok _ _ (Nat.zero_le _) inv.pm
  have al1 : ∀ j b x, pl.al j = some (b, x) → p ≤ pl.st j → (pl.st j = p ∧ b < (pl.Hp p).next) ∨ (p + 1 ≤ pl.st j ∧ (pl.H (p + 1)).next ≤ b) := by
    intro j b x hal hst
    obtain ⟨s1, s2, s3⟩ := ok.alS j b x hal
    by_cases e : pl.st j = p
    · left; rw [e] at s3; exact ⟨e, s3⟩
    · right; exact ⟨by omega, Nat.le_trans (PlanOk.mono hty hcall ok _ _ (by omega) s1) s2⟩
  have hf : Free ι (pl.Hp p).next (pl.H (p + 1)).next := by
    intro b h1 h2
    refine inv.free b (by omega) (by omega) (fun j x hj hst hal => ?_)
    rcases al1 j b x hal hst with ⟨_, h⟩ | ⟨_, h⟩ <;> omega
  obtain ⟨hv, post⟩ := hv hf
  have hs : Sub ι ι' := post.sub hf
  have hali : pl.al i = none := he ▸ ok.alE p hk
  obtain ⟨s1, s2, s3, s4⟩ := inv.slots hty hcall ok hi hpre hD hs hv
  -- what is known behind it
  have split : ∀ b x, pl.G (fun j => D j ∨ j = i) (p + 1) b x → (pl.H (p + 1)).get b = some x ∨ ((pl.H (p + 1)).next ≤ b ∧ pl.G D p b x) := by
    rintro b x (hx | ⟨j, hj | rfl, h1, h2⟩)
    · exact .inl hx
    · obtain ⟨_, h⟩ | ⟨_, h⟩ := al1 j b x h2 (by omega)
      · omega
      · exact .inr ⟨h, .inr ⟨j, hj, by omega, h2⟩⟩
    · rw [hali] at h2; cases h2
  -- the rest lies where the effect does not reach
  have apart : ∀ b x b' x' c N N', (pl.H (p + 1)).next ≤ b → pl.G D p b x → ι b = some (c, N) → (pl.Hp p).get b' = some x' → ι b' ≠ some (c, N') := by
    intro b x b' x' c N N' hb hx h1 hx' h2
    obtain ⟨hlt, hg⟩ := hG b' x' hx'
    have := inv.rep.inj b b' x x' c N N' hx hg h1 h2
    omega
  refine { cl := inv.closed hty hcall ok hi hpre hD, pm := hk, eff := fun k hk' => ?_, size := s1, done := s2, undone := s3, old := s4, ds := ?_, lt := post.rep.lt,
           rep := ⟨fun b x hx => ?_, fun b b' x x' c M M' hx hx' h1 h2 => ?_, post.rep.dom⟩, ext := fun b hb => ?_, free := fun b h1 h2 h3 => ?_,
           frame := fun c hc hn => ?_, grow := Nat.le_trans inv.grow post.size, fresh := fun b x c M hx hb => ?_,
           tape := by rw [post.tape]; exact inv.tape, os := by rw [post.os]; exact inv.os, output := by rw [post.output]; exact inv.output }
  · constructor
    · rintro (h1 | h1)
      · have := (inv.eff k hk').1 h1; omega
      · have := ok.evi k p hk' hk (h1.trans he.symm); omega
    · intro h1
      by_cases e : k = p
      · subst e; exact .inr he
      · exact .inl ((inv.eff k hk').2 (by omega))
  · rw [← inv.ds]; cases o.dst <;> rfl
  · rcases split b x hx with hx | ⟨hb, hx⟩
    · exact post.rep.obj b x hx
    · obtain ⟨cb, M, h1, h2⟩ := inv.rep.obj b x hx
      exact ⟨cb, M, hs b _ h1, OR.mono hs (post.frame cb (inv.rep.dom b cb M h1) (fun b' x' N' hx' => apart b x b' x' cb M N' hb hx h1 hx')) h2⟩
  · have key : ∀ b x b' x' c M M', (pl.H (p + 1)).get b = some x → (pl.H (p + 1)).next ≤ b' → pl.G D p b' x' → ι' b = some (c, M) → ι' b' = some (c, M') → False := by
      intro b x b' x' c M M' hx hb' hx' h1 h2
      obtain ⟨cb, M2, k1, _⟩ := inv.rep.obj b' x' hx'
      have k2 := hs b' _ k1
      rw [h2] at k2; simp only [Option.some.injEq, Prod.mk.injEq] at k2
      obtain ⟨rfl, rfl⟩ := k2
      rcases post.fresh b x c M hx h1 with ⟨b0, o0, N0, g1, g2⟩ | g
      · exact apart b' x' b0 o0 c M' N0 hb' hx' k1 g1 g2
      · have := inv.rep.dom b' c M' k1; omega
    rcases split b x hx with hx | ⟨hb, hx⟩ <;> rcases split b' x' hx' with hx' | ⟨hb', hx'⟩
    · exact post.rep.inj b b' x x' c M M' hx hx' h1 h2
    · exact (key b x b' x' c M M' hx hb' hx' h1 h2).elim
    · exact (key b' x' b x c M' M hx' hb hx h2 h1).elim
    · obtain ⟨cb, M2, k1, _⟩ := inv.rep.obj b x hx
      obtain ⟨cb', M2', k1', _⟩ := inv.rep.obj b' x' hx'
      have k2 := hs b _ k1
      have k2' := hs b' _ k1'
      rw [h1] at k2; rw [h2] at k2'
      rw [← k2] at k1; rw [← k2'] at k1'
      exact inv.rep.inj b b' x x' c M M' hx hx' k1 k1'
  · rw [post.ext b (by omega)]; exact inv.ext b hb
  · rw [post.ext b (.inr h1)]
    refine inv.free b (by omega) h2 (fun j x hj hst hal => ?_)
    rcases al1 j b x hal hst with ⟨_, h⟩ | ⟨h, _⟩
    · omega
    · exact h3 j x (.inl hj) h hal
  · rw [post.frame c (Nat.lt_of_lt_of_le hc inv.grow) ?_]
    · exact inv.frame c hc hn
    · intro b x N hx hb
      rcases inv.fresh b x c N (hG b x hx).2 hb with ⟨b0, o0, N0, k1, k2⟩ | k
      · exact hn b0 o0 N0 k1 k2
      · omega
  · rcases split b x hx with hx | ⟨hb', hx⟩
    · rcases post.fresh b x c M hx hb with ⟨b0, o0, N0, g1, g2⟩ | g
      · exact inv.fresh b0 o0 c N0 (hG b0 o0 g1).2 g2
      · right; have := inv.grow; omega
    · obtain ⟨cb, M2, k1, _⟩ := inv.rep.obj b x hx
      have k2 := hs b _ k1
      rw [hb] at k2
      rw [← k2] at k1
      exact inv.fresh b x c M hx k1

/-- One operation, whenever it comes. -/
theorem Inv.one {K : Act → World → Prop} {Q : Exit → Act → World → Prop}
    (hK : ∀ p' ι' a' w', Inv ops pl ι0 w0 ds (fun j => D j ∨ j = i) p' ι' a' w' → K a' w') : wpOp P ops Q i K a w := by
  have henv := inv.env hty hcall ok hi hpre hD
  unfold wpOp
  rw [hi]; simp only []
  by_cases hq : ∀ k, k < pl.m → pl.ev k ≠ i
  · obtain ⟨q1, q2, q3⟩ := ok.quiet i o hi hq
    rcases q3 with ⟨hw, hval, hal⟩ | ⟨hw, hal, lo, hlo, hqs⟩ | ⟨hw, id, ob, f, hal, ha, hval⟩
    · rw [inv.wanted hty hcall ok hi hpre hD hw]
      simp only [Bool.false_eq_true, if_false]
      exact hK p ι _ w (inv.quiet hty hcall ok hi hpre hD (h := Heap.nil) (fun b x hx => by cases hx) hal hq (hval ▸ undef_rel ι) (Still.refl _ _ _))
    · rw [inv.wanted hty hcall ok hi hpre hD hw]
      simp only [if_true]
      left
      have hp1 : lo ≤ p := by
        rcases Nat.eq_zero_or_pos lo with e | e
        · omega
        · obtain ⟨l1, l2⟩ := hlo e
          have := (inv.eff _ l1).1 (ok.bef D inv.cl i o hi hpre _ l2)
          omega
      obtain ⟨Hq, hsub, hqo⟩ := hqs p hp1 (inv.stage hty hcall ok hi hpre hD hq)
      have hsub' : ∀ b x, (Heap.mk (pl.Hp pl.m).next Hq.t).get b = some x → b < (Heap.mk (pl.Hp pl.m).next Hq.t).next ∧ pl.G D p b x := by
        intro b x hx
        rcases hsub b x hx with h2 | ⟨j, h2, h3, h4⟩
        · exact ⟨Nat.lt_of_lt_of_le (inv.lt b x h2) (Nat.le_trans (ok.hp p inv.pm).1 (PlanOk.nf hty hcall ok inv.pm)), .inl h2⟩
        · obtain ⟨t1, t2, t3⟩ := ok.alS j b x h4
          exact ⟨Nat.lt_of_lt_of_le t3 (PlanOk.nf hty hcall ok t1), .inr ⟨j, ok.bef D inv.cl i o hi hpre j h2, h3, h4⟩⟩
      rw [qop_next (pl.Hp pl.m).next] at hqo
      obtain ⟨V, w', e1, e2, e3⟩ := qop_sound hty henv (inv.rep.rep hsub') hqo
      unfold Oper.wp; rw [e1]
      exact hK p ι _ w' (inv.quiet hty hcall ok hi hpre hD (fun b x hx => (hsub' b x hx).2) hal hq e2 e3)
    · rw [inv.wanted hty hcall ok hi hpre hD hw]
      simp only [if_true]
      left
      obtain ⟨V, N, O, e1, e2⟩ := alop_sound (P := P) (w := w) hty henv ha
      unfold Oper.wp; rw [e1]
      obtain ⟨ι', h⟩ := inv.alloc hty hcall ok hi hpre hD (N := N) (O := O) (V := V) hal hq (fun ι' w' h1 h2 h3 => by rw [hval]; exact e2 ι' id w' h1 h2 h3)
      exact hK p ι' _ _ h
  · have hq' : ∃ k, k < pl.m ∧ pl.ev k = i := by
      rcases Classical.em (∃ k, k < pl.m ∧ pl.ev k = i) with h | h
      · exact h
      · exact absurd (fun k hk e => h ⟨k, hk, e⟩) hq
    obtain ⟨k, hk, he⟩ := hq'
    have hpk := inv.turn hty hcall ok hi hpre hD hk he
    subst hpk
    have hrep : Rep ι w (pl.Hp p) := inv.rep.rep (inv.hp hty hcall ok hi hpre hD hk he)
    obtain ⟨o', ho', hc⟩ := ok.effect p hk
    rw [he, hi] at ho'; simp only [Option.some.injEq] at ho'; subst ho'
    rw [he] at hc
    -- the names are free
    have hf : Free ι (pl.Hp p).next (pl.H (p + 1)).next := by
      intro b h1 h2
      have n1 : (pl.H p).next ≤ (pl.Hp p).next := (ok.hp p inv.pm).1
      have n3 : (pl.H (p + 1)).next ≤ (pl.Hp pl.m).next := Nat.le_trans (ok.hp (p + 1) hk).1 (PlanOk.nf hty hcall ok hk)
      refine inv.free b (by omega) (by omega) (fun j x hj hst hal => ?_)
      obtain ⟨s1, s2, s3⟩ := ok.alS j b x hal
      by_cases e : pl.st j = p
      · rw [e] at s3; omega
      · have := PlanOk.mono hty hcall ok (pl.st j) (p + 1) (by omega) s1; omega
    rcases hc with ⟨hw, hval, hH⟩ | ⟨hw, hc⟩
    · rw [inv.wanted hty hcall ok hi hpre hD hw]
      simp only [Bool.false_eq_true, if_false]
      exact hK _ ι _ w (inv.effect hty hcall ok hi hpre hD hk he rfl (fun _ => ⟨hval ▸ undef_rel ι, by rw [hH]; exact Post.refl hrep⟩))
    · rw [inv.wanted hty hcall ok hi hpre hD hw]
      simp only [if_true]
      left
      rcases hc with hc | ⟨c, f, args, ho, hca, hcr⟩
      · obtain ⟨N, V, w', ι', e1, e2, e3, e4⟩ := eop_sound hty henv hrep hc hf
        unfold Oper.wp; rw [e1]
        rcases e2 with rfl | ⟨rfl, rfl⟩
        · exact hK _ ι' _ w' (inv.effect hty hcall ok hi hpre hD hk he rfl (fun _ => ⟨e3, e4⟩))
        · exact hK _ ι' _ w' (inv.effect hty hcall ok hi hpre hD hk he rfl (fun _ => ⟨e3, e4⟩))
      · obtain ⟨hen, hle, hc⟩ := hcall f args _ _ _ hcr
        obtain ⟨as, e1, e2⟩ := call_run henv ho hca hen w
        unfold Oper.wp; rw [e1]
        rw [Oper.upon_enter]
        refine (hc ι w as hrep e2 hf).mono ?_
        rintro e w' ⟨V, ι', rfl, h1, h2⟩
        exact hK _ ι' _ w' (inv.effect hty hcall ok hi hpre hD hk he rfl (fun _ => ⟨h1, h2⟩))
end

section
variable {P : Program} {ty : Ty} (hty : TyOk P ty) {call : CallK} (hcall : CallOk P call) {ops : Array Oper} {pl : Plan} (ok : PlanOk ty call ops pl)
  {ι0 : Io} {w0 : World} {ds : List Deferred} {Q : Exit → Act → World → Prop}
include hty hcall ok

theorem getD_of_lt {l : Array Bool} {i : Nat} (h : i < l.size) : l.getD i true = l.getD i false := by
  simp [h]

theorem ready_nil {listed : Array Bool} (hz : listed.size = ops.size) (hr : Region.ready .any ops listed = []) : ∀ i, i < ops.size → listed.getD i false = true := by
  intro i
  induction i using Nat.strongRecOn with
  | ind i ih =>
    intro hi
    cases hl : listed.getD i false with
    | true => rfl
    | false =>
      exfalso
      have : i ∈ Region.ready .any ops listed := by
        rw [mem_ready]
        have ho : ops[i]? = some ops[i] := by simp [hi]
        refine ⟨by rw [getD_of_lt hty hcall ok (by omega)]; exact hl, ops[i], ho, fun e he hb => ?_⟩
        have := ok.edge i _ ho e he hb
        exact ih e.on this (by omega)
      rw [hr] at this; cases this

theorem all_ready {listed : Array Bool} (h : ∀ i, i < ops.size → listed.getD i false = true) (hz : listed.size = ops.size) : Region.ready .any ops listed = [] := by
  cases hr : Region.ready .any ops listed with
  | nil => rfl
  | cons i l =>
    exfalso
    have hi : i ∈ Region.ready .any ops listed := by rw [hr]; simp
    obtain ⟨h1, o, ho, _⟩ := mem_ready.1 hi
    have hlt : i < ops.size := (Array.getElem?_eq_some_iff.1 ho).1
    rw [getD_of_lt hty hcall ok (by omega), h i hlt] at h1
    cases h1

theorem PlanOk.any (hfin : ∀ D p ι a w, (∀ i, i < ops.size → D i) → Inv ops pl ι0 w0 ds D p ι a w → Q .normal a w) :
    ∀ (fuel : Nat) (listed : Array Bool) (p : Nat) (ι : Io) (a : Act) (w : World), listed.size = ops.size → listed.toList.count false ≤ fuel →
      Inv ops pl ι0 w0 ds (fun j => listed.getD j false = true) p ι a w → wpAny P .any ops Q fuel listed a w
  | 0, listed, p, ι, a, w, hz, hc, inv => by
    have hall : ∀ i, i < ops.size → listed.getD i false = true := by
      intro i hi
      cases hl : listed.getD i false with
      | true => rfl
      | false =>
        exfalso
        have h0 : listed.toList.count false = 0 := by omega
        rw [List.count_eq_zero] at h0
        apply h0
        have : listed[i]'(by omega) = false := by simpa [show i < listed.size by omega] using hl
        rw [← this]; simp
    exact ⟨all_ready hty hcall ok hall hz, hfin _ _ _ _ _ hall inv⟩
  | fuel + 1, listed, p, ι, a, w, hz, hc, inv => by
    refine ⟨fun hr => hfin _ _ _ _ _ (ready_nil hty hcall ok hz hr) inv, fun i hi => ?_⟩
    obtain ⟨h1, o, ho, hpre⟩ := mem_ready.1 hi
    have hlt : i < ops.size := (Array.getElem?_eq_some_iff.1 ho).1
    have hD : ¬ listed.getD i false = true := by
      rw [← getD_of_lt hty hcall ok (by omega), h1]; simp
    refine inv.one hty hcall ok ho hpre hD (fun p' ι' a' w' inv' => ?_)
    refine PlanOk.any hfin fuel _ p' ι' a' w' (by simpa using hz) ?_ ?_
    · have hlt' : i < listed.toList.length := by simpa using (by omega : i < listed.size)
      rw [Array.toList_setIfInBounds, List.count_set hlt']
      have : listed.toList[i] = false := by simpa [show i < listed.size by omega] using hD
      simp only [this, show (false == false) = true from rfl, show (true == false) = false from rfl, if_true, Bool.false_eq_true, if_false]
      omega
    · have : (fun j => (listed.setIfInBounds i true).getD j false = true) = (fun j => listed.getD j false = true ∨ j = i) := by
        funext j
        apply propext
        by_cases e : j = i
        · subst e; simp [show j < listed.size by omega]
        · rw [getD_set_ne false (Ne.symm e)]; simp [e]
      rw [this]; exact inv'

/-- The whole of a drawn region. -/
theorem PlanOk.region {fr' : Fr} {h' : Heap} {ι : Io} {a : Act} {w : World} (hm : P.follows .mixedOrders = true) (hfr : FrR ι pl.fr a.tmps) (rep : Rep ι w pl.h0) (hh : h' = pl.Hp pl.m)
    (hn : fr'.n = pl.fr.n) (ht : ∀ t v, fr'.t.get t = some v → (∃ j, pl.wr t = some j ∧ v = pl.val j) ∨ (pl.wr t = none ∧ pl.fr.t.get t = some v))
    (hf : Free ι pl.h0.next h'.next) (id : Nat) : (Code.region id ops true).wp P (RQ ι pl.h0 w a.defers (.nrm fr' h')) a w := by
  refine wp_region_any hm ?_
  have D0 : ∀ j, ¬ (Array.replicate ops.size false).getD j false = true := by
    intro j; by_cases e : j < ops.size <;> simp [e]
  refine PlanOk.any (ι0 := ι) (w0 := w) (ds := a.defers) hty hcall ok ?_ ops.size _ 0 ι a _ (by simp) (by simp) ?_
  · intro D p ι' a' w' hall inv
    refine ⟨rfl, ι', ⟨by rw [hn]; exact inv.size, fun t v hv => ?_⟩, inv.ds, ?_⟩
    · rcases ht t v hv with ⟨j, h1, rfl⟩ | ⟨h1, h2⟩
      · obtain ⟨oj, hoj, _⟩ := ok.wr2 j t h1
        exact inv.done t j h1 (hall j (Array.getElem?_eq_some_iff.1 hoj).1)
      · exact inv.old t h1 v h2
    · have hpm : p = pl.m := by
        rcases Nat.lt_or_ge p pl.m with h | h
        · obtain ⟨oe, hoe, _⟩ := ok.effect p h
          have := (inv.eff p h).1 (hall _ (Array.getElem?_eq_some_iff.1 hoe).1)
          omega
        · have := inv.pm; omega
      subst hpm
      have hG : ∀ b x, h'.get b = some x → b < h'.next ∧ pl.G D pl.m b x := by
        intro b x hx
        rw [hh] at hx ⊢
        rcases (ok.hp _ (Nat.le_refl _)).2 b x hx with h2 | ⟨j, hj, hal⟩
        · exact ⟨Nat.lt_of_lt_of_le (inv.lt b x h2) (ok.hp _ (Nat.le_refl _)).1, .inl h2⟩
        · obtain ⟨oj, hoj⟩ := ok.alO j _ hal
          have hid := (ok.alS j b x hal).2.2
          rw [hj] at hid
          exact ⟨hid, .inr ⟨j, hall j (Array.getElem?_eq_some_iff.1 hoj).1, by omega, hal⟩⟩
      refine ⟨inv.rep.rep hG, fun b hb => inv.ext b (by rw [hh] at hb; exact hb), ?_, fun c hc hn => inv.frame c hc hn, inv.grow, fun b x c N hx hb => inv.fresh b x c N (hG b x hx).2 hb, inv.tape, inv.os, inv.output⟩
      rw [hh, ← ok.start]
      exact Nat.le_trans (PlanOk.mono hty hcall ok _ _ (Nat.zero_le _) (Nat.le_refl _)) (ok.hp _ (Nat.le_refl _)).1
  · have rep' : Rep ι { w with drawn := w.drawn + 1 } pl.h0 := rep.same (fun _ _ => rfl) (Nat.le_refl _)
    have hG : ∀ b x, pl.G (fun j => (Array.replicate ops.size false).getD j false = true) 0 b x → pl.h0.get b = some x := by
      rintro b x (hx | ⟨j, hj, _⟩)
      · rw [ok.start] at hx; exact hx
      · exact absurd hj (D0 j)
    refine { cl := fun i o _ hd => absurd hd (D0 i), pm := Nat.zero_le _, eff := fun k hk => ⟨fun h => absurd h (D0 _), fun h => absurd h (Nat.not_lt_zero _)⟩,
             size := hfr.1, done := fun t j _ hd => absurd hd (D0 j), undone := fun t j _ _ v hv => hfr.2 t v hv, old := fun t _ v hv => hfr.2 t v hv, ds := rfl, lt := by rw [ok.start]; exact rep.lt,
             rep := ⟨fun b x hx => rep'.obj b x (hG b x hx), fun b b' x x' c N N' hx hx' => rep'.inj b b' x x' c N N' (hG b x hx) (hG b' x' hx'), rep'.dom⟩,
             ext := fun _ _ => rfl, free := fun b h1 h2 _ => hf b (by rw [ok.start] at h1; exact h1) (by rw [hh]; exact h2), frame := fun _ _ _ => rfl, grow := Nat.le_refl _,
             fresh := fun b x c N hx hb => .inl ⟨b, x, N, hG b x hx, hb⟩, tape := rfl, os := rfl, output := rfl }
end
end Go.Proofs.YtndbccpaccflcaaGreat.Dm
