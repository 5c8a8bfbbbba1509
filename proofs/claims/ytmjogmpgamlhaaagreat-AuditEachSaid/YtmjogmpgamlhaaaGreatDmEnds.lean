/- bits.Get and bits.Put at a place that is known by its name: the overrides. -/
import Derived.Test.YtmjogmpgamlhaaaGreatDmSeat
import Derived.LoopN
set_option linter.unusedVariables false
set_option linter.unusedSimpArgs false
set_option linter.unusedSectionVars false
namespace Go.Proofs.YtmjogmpgamlhaaaGreat.Dm
open Go Go.RowKit

/-! ### what is still reached -/

noncomputable def pick {α : Type} (t : Tr α) : List Nat → Tr α
  | [] => .e
  | b :: l => match t.get b with
    | some o => (pick t l).put (some o) b
    | none => pick t l
theorem pick_get {α : Type} {t : Tr α} {b : Nat} {o : α} : ∀ {l : List Nat}, (pick t l).get b = some o → t.get b = some o
  | [], h => by cases h
  | c :: l, h => by
    unfold pick at h
    cases hc : t.get c with
    | none => rw [hc] at h; exact pick_get h
    | some x =>
      rw [hc] at h
      simp only [Tr.get_put] at h
      by_cases hb : b = c
      · rw [if_pos hb] at h; subst hb; rw [hc]; exact h
      · rw [if_neg hb] at h; exact pick_get h

noncomputable def Res.prune (L S : List Nat) : Res → Res
  | .nrm fr h => .nrm ⟨fr.n, pick fr.t S⟩ ⟨h.next, pick h.t L⟩
  | .exit id fr h => .exit id ⟨fr.n, pick fr.t S⟩ ⟨h.next, pick h.t L⟩
  | .ret fr h => .ret ⟨fr.n, pick fr.t S⟩ ⟨h.next, pick h.t L⟩
  | _ => .bad 77

theorem Rep.pick {ι : Io} {w : World} {h : Heap} {L : List Nat} (r : Rep ι w h) : Rep ι w ⟨h.next, pick h.t L⟩ :=
  ⟨fun b o hb => r.lt b o (pick_get hb), fun b o hb => r.obj b o (pick_get hb), fun b b' o o' c N N' h1 h2 h3 h4 => r.inj b b' o o' c N N' (pick_get h1) (pick_get h2) h3 h4, r.dom⟩

theorem Post.pick {ι ι' : Io} {h h' : Heap} {w w' : World} {L : List Nat} (p : Post ι h h' w w' ι') : Post ι h ⟨h'.next, Dm.pick h'.t L⟩ w w' ι' :=
  ⟨p.rep.pick, p.ext, p.le, p.frame, p.size, p.rep0, fun b o c N h1 h2 => p.fresh b o c N (pick_get h1) h2, p.tape, p.os, p.output, fun b o hb hn => p.back b o (pick_get hb) hn, fun b k es l cb N hb hι ho => p.keepM b k es l cb N hb hι (by obtain ⟨o', ho⟩ := ho; exact ⟨o', pick_get ho⟩)⟩

theorem Aft.pick {ι : Io} {h : Heap} {w : World} {ds : List Deferred} {fr' : Fr} {h' : Heap} {a' : Act} {w' : World} {L S : List Nat} (x : Aft ι h w ds fr' h' a' w') :
    Aft ι h w ds ⟨fr'.n, Dm.pick fr'.t S⟩ ⟨h'.next, Dm.pick h'.t L⟩ a' w' := by
  obtain ⟨ι', a, b, c⟩ := x
  exact ⟨ι', ⟨a.1, fun t v ht => a.2 t v (pick_get ht)⟩, b, c.pick⟩

theorem Runs.prune {P : Program} {c : Code} {fr : Fr} {h : Heap} {r r' : Res} {L S : List Nat} (hr : Runs P c fr h r) (he : r.prune L S = r') (hg : r'.good = true) : Runs P c fr h r' := by
  subst he
  cases r with
  | nrm fr1 h1 => exact ⟨hr.1, fun ι a w k1 k2 k3 => wp_mono (hr.2 ι a w k1 k2 k3) (fun e a' w' q => ⟨q.1, q.2.pick⟩)⟩
  | exit id fr1 h1 => exact ⟨hr.1, fun ι a w k1 k2 k3 => wp_mono (hr.2 ι a w k1 k2 k3) (fun e a' w' q => ⟨q.1, q.2.pick⟩)⟩
  | ret fr1 h1 => exact ⟨hr.1, fun ι a w k1 k2 k3 => wp_mono (hr.2 ι a w k1 k2 k3) (fun e a' w' q => ⟨q.1, q.2.pick⟩)⟩
  | goto l fr1 h1 => cases hg
  | bad n => cases hg

/-! ### what is left to do -/

inductive It where
  | code (c : Code)
  | rep (c : Code) (n : Nat)
  | blk (id : Nat)

abbrev Kont := Exit → Act → World → Prop

noncomputable def den (P : Program) (Q : Kont) : List It → Kont
  | [] => Q
  | .code c :: l => Exit.then (c.wp P (den P Q l)) (den P Q l)
  | .rep c n :: l => Exit.then (Code.rounds P c (den P Q l) n) (den P Q l)
  | .blk id :: l => Exit.inBlock id (den P Q l)

theorem rounds_mono {P : Program} {c : Code} {Q Q' : Kont} (hq : ∀ e a w, Q e a w → Q' e a w) : ∀ {n : Nat} {a : Act} {w : World}, Code.rounds P c Q n a w → Code.rounds P c Q' n a w
  | 0, _, _, h => h.elim
  | n + 1, a, w, h => by
    refine wp_mono (show c.wp P (Exit.then (Code.rounds P c Q n) Q) a w from h) ?_
    intro e a w k
    cases e <;> first | exact rounds_mono hq k | exact hq _ _ _ k

theorem den_mono {P : Program} {Q Q' : Kont} (hq : ∀ e a w, Q e a w → Q' e a w) : ∀ {l : List It} {e : Exit} {a : Act} {w : World}, den P Q l e a w → den P Q' l e a w
  | [], _, _, _, h => hq _ _ _ h
  | .code c :: l, e, a, w, h => by
    cases e <;> first | exact den_mono (l := l) hq h | exact wp_mono h (fun e a w k => den_mono (l := l) hq k)
  | .rep c n :: l, e, a, w, h => by
    cases e <;> first | exact den_mono (l := l) hq h | exact rounds_mono (fun e a w k => den_mono (l := l) hq k) h
  | .blk id :: l, e, a, w, h => by
    cases e with
    | exit id' =>
      show Exit.inBlock id (den P Q' l) (.exit id') a w
      have h : Exit.inBlock id (den P Q l) (.exit id') a w := h
      simp only [Exit.inBlock] at h ⊢
      split
      · rename_i hi; rw [if_pos hi] at h; exact den_mono (l := l) hq h
      · rename_i hi; rw [if_neg hi] at h; exact den_mono (l := l) hq h
    | _ => exact den_mono (l := l) hq h

theorem den_ret {P : Program} {Q : Kont} {a : Act} {w : World} (h : Q .ret a w) : ∀ l : List It, den P Q l .ret a w
  | [] => h
  | .code _ :: l => den_ret h l
  | .rep _ _ :: l => den_ret h l
  | .blk _ :: l => den_ret h l

structure Kept (ι : Io) (h : Heap) (w w' : World) : Prop where
  frame : ∀ c, c < w.heap.size → (∀ b o N, h.get b = some o → ι b ≠ some (c, N)) → w'.heap[c]? = w.heap[c]?
  size : w.heap.size ≤ w'.heap.size
  tape : w'.tape = w.tape
  os : w'.os = w.os
  output : w'.output = w.output

theorem Kept.trans {ι ι1 : Io} {h h1 : Heap} {w w1 w2 : World} (p : Post ι h h1 w w1 ι1) (k : Kept ι1 h1 w1 w2) : Kept ι h w w2 where
  frame c hc hn := by
    rw [k.frame c (Nat.lt_of_lt_of_le hc p.size) (fun b o N h1 h2 => ?_), p.frame c hc hn]
    rcases p.fresh b o c N h1 h2 with ⟨b0, o0, N0, g1, g2⟩ | g
    · exact hn b0 o0 N0 g1 g2
    · omega
  size := Nat.le_trans p.size k.size
  tape := k.tape.trans p.tape
  os := k.os.trans p.os
  output := k.output.trans p.output

noncomputable def Fin (ι : Io) (h : Heap) (w : World) (ds : List Deferred) (frT : Fr) : Kont := fun e a' w' => e = .ret ∧ a'.defers = ds ∧ FrR (fun _ => none) frT a'.tmps ∧ Kept ι h w w'

/-- The stack, begun in this state, ends with 'return' and says true. z: no name is given yet. -/
noncomputable def Ends (P : Program) (z : Bool) (frT : Fr) (st : List It) (fr : Fr) (h : Heap) : Prop :=
  ∀ ι a w, FrR ι fr a.tmps → Rep ι w h → Free ι h.next (atomKey 0) → (z = true → ι (atomKey 0) = none) → den P (Fin ι h w a.defers frT) st .normal a w

section
variable {P : Program} {z : Bool} {frT : Fr} {st : List It} {fr fr1 : Fr} {h h1 : Heap}

theorem Ends.seq {x y : Code} (k : Ends P z frT (.code x :: .code y :: st) fr h) : Ends P z frT (.code (x.seq y) :: st) fr h :=
  fun ι a w g1 g2 g3 g4 => wp_seq (k ι a w g1 g2 g3 g4)
theorem Ends.block {c : Code} {id : Nat} (k : Ends P z frT (.code c :: .blk id :: st) fr h) : Ends P z frT (.code (.block id c) :: st) fr h :=
  fun ι a w g1 g2 g3 g4 => wp_block (k ι a w g1 g2 g3 g4)
theorem Ends.loop {c : Code} (n : Nat) (k : Ends P z frT (.rep c n :: st) fr h) : Ends P z frT (.code (.loop c) :: st) fr h :=
  fun ι a w g1 g2 g3 g4 => wp_loop_rounds n (k ι a w g1 g2 g3 g4)
theorem Ends.rep {c : Code} {n : Nat} (k : Ends P z frT (.code c :: .rep c n :: st) fr h) : Ends P z frT (.rep c (n + 1) :: st) fr h :=
  fun ι a w g1 g2 g3 g4 => k ι a w g1 g2 g3 g4
theorem Ends.blk {id : Nat} (k : Ends P z frT st fr h) : Ends P z frT (.blk id :: st) fr h :=
  fun ι a w g1 g2 g3 g4 => k ι a w g1 g2 g3 g4

theorem Ends.go {ι : Io} {a a' : Act} {w w' : World} (hn : Nat.ble h1.next (atomKey 0) = true) (hf : Free ι h.next (atomKey 0)) (hz : z = true → ι (atomKey 0) = none)
    (q : Aft ι h w a.defers fr1 h1 a' w') (k : Ends P z frT st fr1 h1) : den P (Fin ι h w a.defers frT) st .normal a' w' := by
  obtain ⟨ι', g1, g2, g3⟩ := q
  refine den_mono ?_ (k ι' a' w' g1 g3.rep (g3.free hf) (fun hh => ?_))
  · rintro e b v ⟨rfl, k1, k2, k3⟩
    exact ⟨rfl, k1.trans g2, k2, k3.trans g3⟩
  · rw [g3.ext _ (.inr (Nat.le_of_ble_eq_true hn))]
    exact hz hh

theorem Free.upto {ι : Io} {a b c : Nat} (h : Free ι a c) (hb : Nat.ble b c = true) : Free ι a b := h.mono (Nat.le_of_ble_eq_true hb)

theorem Ends.step {c : Code} (r : Runs P c fr h (.nrm fr1 h1)) (hn : Nat.ble h1.next (atomKey 0) = true) (k : Ends P z frT st fr1 h1) : Ends P z frT (.code c :: st) fr h :=
  fun ι a w g1 g2 g3 g4 => wp_mono (r.2 ι a w g1 g2 (g3.upto hn)) (by
    rintro e a' w' ⟨rfl, q⟩
    exact Ends.go hn g3 g4 q k)

/-- The loop is left for its block's end. -/
theorem Ends.leave {c : Code} {n id : Nat} (r : Runs P c fr h (.exit id fr1 h1)) (hn : Nat.ble h1.next (atomKey 0) = true) (k : Ends P z frT st fr1 h1) : Ends P z frT (.rep c (n + 1) :: .blk id :: st) fr h :=
  fun ι a w g1 g2 g3 g4 => wp_mono (r.2 ι a w g1 g2 (g3.upto hn)) (by
    rintro e a' w' ⟨rfl, q⟩
    show Exit.inBlock id _ (.exit id) a' w'
    simp only [Exit.inBlock, if_true]
    exact Ends.go hn g3 g4 q k)

theorem Ends.last {c : Code} {n s : Nat} {h' : Heap} (r : Runs P c fr h (.ret ⟨n, (Tr.e).put (some (.cv (.sc (.b true)))) s⟩ h')) (hn : Nat.ble h'.next (atomKey 0) = true) :
    Ends P z ⟨n, (Tr.e).put (some (.cv (.sc (.b true)))) s⟩ (.code c :: st) fr h :=
  fun ι a w g1 g2 g3 g4 => wp_mono (r.2 ι a w g1 g2 (g3.upto hn)) (by
    rintro e a' w' ⟨rfl, ι', k1, k2, k3⟩
    refine den_ret ⟨rfl, k2, ⟨k1.1, fun t v ht => ?_⟩, ⟨k3.frame, k3.size, k3.tape, k3.os, k3.output⟩⟩ st
    obtain ⟨V, e1, e2⟩ := k1.2 t v ht
    simp only [Tr.get_put] at ht
    by_cases hb : t = s
    · rw [if_pos hb] at ht
      simp only [Option.some.injEq] at ht
      subst ht
      exact ⟨V, e1, e2⟩
    · rw [if_neg hb] at ht; cases ht)

/-- A number of which the bounds are known is given a name. -/
theorem Ends.atom {n s b0 hi : Nat} {o0 : AO} {t : Tr AV} {X : Int} (hs : t.get s = some (.cv (.sc (.i .i64 X)))) (h0 : 0 ≤ X) (h1 : X ≤ hi) (hb : h.get b0 = some o0) (hn : Nat.ble h.next (atomKey 0) = true)
    (k : Ends P false frT st ⟨n, t.put (some (.cv (.sc (.at .i64 0 hi 0)))) s⟩ h) : Ends P true frT st ⟨n, t⟩ h := by
  intro ι a w g1 g2 g3 g4
  obtain ⟨cb, N, e0, _⟩ := g2.obj b0 o0 hb
  have hdom := g2.dom _ _ _ e0
  have hn := Nat.le_of_ble_eq_true hn
  have hfree := g4 rfl
  let ι1 : Io := fun b => if b = atomKey 0 then some (cb, X.toNat) else ι b
  have i1 : ι1 (atomKey 0) = some (cb, X.toNat) := if_pos rfl
  have i2 : ∀ b, b ≠ atomKey 0 → ι1 b = ι b := fun b hb => if_neg hb
  have sub : Sub ι ι1 := by
    intro b p hp
    by_cases h : b = atomKey 0
    · subst h; rw [hfree] at hp; cases hp
    · rw [i2 b h]; exact hp
  have hlt : ∀ b o, h.get b = some o → b ≠ atomKey 0 := fun b o hb => by
    have := g2.lt b o hb
    omega
  have rep : Rep ι1 w h := ⟨g2.lt, fun b o hb => by
      obtain ⟨c, N, h1, h2⟩ := g2.obj b o hb
      exact ⟨c, N, sub _ _ h1, OR.mono sub rfl h2⟩,
    fun b b' o o' c N N' h1 h2 h3 h4 => by
      rw [i2 b (hlt b o h1)] at h3
      rw [i2 b' (hlt b' o' h2)] at h4
      exact g2.inj b b' o o' c N N' h1 h2 h3 h4,
    fun b c N hb => by
      by_cases h : b = atomKey 0
      · subst h; rw [i1] at hb; simp only [Option.some.injEq, Prod.mk.injEq] at hb; rw [← hb.1]; exact hdom
      · rw [i2 b h] at hb; exact g2.dom b c N hb⟩
  refine den_mono ?_ (k ι1 a w ⟨g1.1, fun t' v ht => ?_⟩ rep (fun b hb hb' => by rw [i2 b (by omega)]; exact g3 b hb hb') (fun hh => (by cases hh)))
  · rintro e b v ⟨rfl, k1, k2, k3⟩
    exact ⟨rfl, k1, k2, ⟨fun c hc hx => k3.frame c hc (fun b o N h1 h2 => hx b o N h1 (by rw [i2 b (hlt b o h1)] at h2; exact h2)), k3.size, k3.tape, k3.os, k3.output⟩⟩
  · simp only [Tr.get_put] at ht
    by_cases hb : t' = s
    · subst hb
      rw [if_pos rfl] at ht
      simp only [Option.some.injEq] at ht
      subst ht
      obtain ⟨V, e1, e2⟩ := g1.2 t' _ hs
      have e2 : V = .int .i64 X := e2
      refine ⟨V, e1, cb, X.toNat, i1, ?_, Nat.zero_le _, by omega⟩
      rw [e2, Int.toNat_of_nonneg h0]
    · rw [if_neg hb] at ht
      obtain ⟨V, e1, e2⟩ := g1.2 t' v ht
      exact ⟨V, e1, AVR.mono sub e2⟩

end

/-! ### a machine over the stack -/

noncomputable def popTo (id : Nat) : List It → Option (List It)
  | [] => none
  | .blk i :: l => cnd (Nat.beq i id) (some l) (popTo id l)
  | .code _ :: l => popTo id l
  | .rep _ _ :: l => popTo id l

theorem den_exit {P : Program} {Q : Kont} {id : Nat} {a : Act} {w : World} : ∀ {l l' : List It}, popTo id l = some l' → den P Q l' .normal a w → den P Q l (.exit id) a w
  | [], _, h, _ => by cases h
  | .blk i :: l, l', h, k => by
    unfold popTo at h
    show Exit.inBlock i _ (.exit id) a w
    simp only [Exit.inBlock]
    cases hb : Nat.beq i id with
    | true =>
      rw [hb] at h; simp only [cnd_true, Option.some.injEq] at h
      subst h
      rw [if_pos (Nat.eq_of_beq_eq_true hb).symm]; exact k
    | false =>
      rw [hb] at h; simp only [cnd_false] at h
      rw [if_neg (fun e => by subst e; simp at hb)]
      exact den_exit h k
  | .code _ :: l, _, h, k => den_exit (l := l) h k
  | .rep _ _ :: l, _, h, k => den_exit (l := l) h k

theorem Ends.exit {P : Program} {z : Bool} {frT : Fr} {st st' : List It} {fr fr1 : Fr} {h h1 : Heap} {c : Code} {id : Nat} (r : Runs P c fr h (.exit id fr1 h1)) (hn : Nat.ble h1.next (atomKey 0) = true) (hp : popTo id st = some st')
    (k : Ends P z frT st' fr1 h1) : Ends P z frT (.code c :: st) fr h :=
  fun ι a w g1 g2 g3 g4 => wp_mono (r.2 ι a w g1 g2 (g3.upto hn)) (by
    rintro e a' w' ⟨rfl, q⟩
    exact den_exit hp (Ends.go hn g3 g4 q k))

inductive CS where
  | st (s : List It) (fr : Fr) (h : Heap)
  | bad (n : Nat)

noncomputable def leaf (kk : K) (c : Code) (l : List It) (fr : Fr) (h : Heap) : CS :=
  match kk c fr h with
  | .nrm fr1 h1 => .st l fr1 h1
  | .exit id fr1 h1 => match popTo id l with
    | some l' => .st l' fr1 h1
    | none => .bad 80
  | _ => .bad 81

noncomputable def cek1 (kk : K) (s : List It) (fr : Fr) (h : Heap) : CS :=
  match s with
  | [] => .bad 82
  | .blk _ :: l => .st l fr h
  | .rep c n :: l => match n with
    | 0 => .bad 83
    | n + 1 => .st (.code c :: .rep c n :: l) fr h
  | .code c :: l => match c with
    | .seq x y => .st (.code x :: .code y :: l) fr h
    | .block id b => .st (.code b :: .blk id :: l) fr h
    | .loop b => .st (.rep b 5000 :: l) fr h
    | c => leaf kk c l fr h

noncomputable def cek (kk : K) : Nat → List It → Fr → Heap → CS
  | 0, s, fr, h => .st s fr h
  | n + 1, s, fr, h => match cek1 kk s fr h with
    | .st s1 fr1 h1 => cek kk n s1 fr1 h1
    | .bad n => .bad n

noncomputable def CS.prune (L S : List Nat) : CS → CS
  | .st s fr h => .st s ⟨fr.n, pick fr.t S⟩ ⟨h.next, pick h.t L⟩
  | .bad n => .bad n

/-- Where the code lies in a body. -/
noncomputable def sub : Code → List Nat → Code
  | c, [] => c
  | c, x :: l => match c with
    | .seq a b => match x with
      | 0 => sub a l
      | _ => sub b l
    | .cond _ a b => match x with
      | 0 => sub a l
      | _ => sub b l
    | .block _ b => sub b l
    | .loop b => sub b l
    | .scope b => sub b l
    | c => c

section
variable {P : Program} {z : Bool} {frT : Fr}

theorem leaf_next {kk : K} (hk : KOk P kk) {c : Code} {l s1 : List It} {fr fr1 : Fr} {h h1 : Heap} (hr : leaf kk c l fr h = .st s1 fr1 h1) : h.next ≤ h1.next := by
  unfold leaf at hr
  split at hr
  · rename_i he
    simp only [CS.st.injEq] at hr
    obtain ⟨rfl, rfl, rfl⟩ := hr
    exact (Runs.of hk he rfl).1
  · rename_i he
    split at hr
    · simp only [CS.st.injEq] at hr
      obtain ⟨rfl, rfl, rfl⟩ := hr
      exact (Runs.of hk he rfl).1
    · cases hr
  · cases hr

theorem cek1_next {kk : K} (hk : KOk P kk) {s s1 : List It} {fr fr1 : Fr} {h h1 : Heap} (hr : cek1 kk s fr h = .st s1 fr1 h1) : h.next ≤ h1.next := by
  unfold cek1 at hr
  split at hr
  · cases hr
  · simp only [CS.st.injEq] at hr; rw [hr.2.2]; exact Nat.le_refl _
  · split at hr
    · cases hr
    · simp only [CS.st.injEq] at hr; rw [hr.2.2]; exact Nat.le_refl _
  · split at hr
    · simp only [CS.st.injEq] at hr; rw [hr.2.2]; exact Nat.le_refl _
    · simp only [CS.st.injEq] at hr; rw [hr.2.2]; exact Nat.le_refl _
    · simp only [CS.st.injEq] at hr; rw [hr.2.2]; exact Nat.le_refl _
    · exact leaf_next hk hr

theorem leaf_ends {kk : K} (hk : KOk P kk) {c : Code} {l s1 : List It} {fr fr1 : Fr} {h h1 : Heap} (hr : leaf kk c l fr h = .st s1 fr1 h1) (hn : Nat.ble h1.next (atomKey 0) = true) (k : Ends P z frT s1 fr1 h1) :
    Ends P z frT (.code c :: l) fr h := by
  unfold leaf at hr
  split at hr
  · rename_i he
    simp only [CS.st.injEq] at hr
    obtain ⟨rfl, rfl, rfl⟩ := hr
    exact Ends.step (Runs.of hk he rfl) hn k
  · rename_i he
    split at hr
    · rename_i hp
      simp only [CS.st.injEq] at hr
      obtain ⟨rfl, rfl, rfl⟩ := hr
      exact Ends.exit (Runs.of hk he rfl) hn hp k
    · cases hr
  · cases hr

theorem cek1_ends {kk : K} (hk : KOk P kk) {s s1 : List It} {fr fr1 : Fr} {h h1 : Heap} (hr : cek1 kk s fr h = .st s1 fr1 h1) (hn : Nat.ble h1.next (atomKey 0) = true) (k : Ends P z frT s1 fr1 h1) :
    Ends P z frT s fr h := by
  unfold cek1 at hr
  split at hr
  · cases hr
  · simp only [CS.st.injEq] at hr
    obtain ⟨rfl, rfl, rfl⟩ := hr
    exact Ends.blk k
  · split at hr
    · cases hr
    · simp only [CS.st.injEq] at hr
      obtain ⟨rfl, rfl, rfl⟩ := hr
      exact Ends.rep k
  · split at hr
    · simp only [CS.st.injEq] at hr
      obtain ⟨rfl, rfl, rfl⟩ := hr
      exact Ends.seq k
    · simp only [CS.st.injEq] at hr
      obtain ⟨rfl, rfl, rfl⟩ := hr
      exact Ends.block k
    · simp only [CS.st.injEq] at hr
      obtain ⟨rfl, rfl, rfl⟩ := hr
      exact Ends.loop 5000 k
    · exact leaf_ends hk hr hn k

theorem cek_next {kk : K} (hk : KOk P kk) : ∀ {n : Nat} {s s1 : List It} {fr fr1 : Fr} {h h1 : Heap}, cek kk n s fr h = .st s1 fr1 h1 → h.next ≤ h1.next
  | 0, s, s1, fr, fr1, h, h1, hr => by simp only [cek, CS.st.injEq] at hr; rw [hr.2.2]; exact Nat.le_refl _
  | n + 1, s, s1, fr, fr1, h, h1, hr => by
    unfold cek at hr
    split at hr
    · rename_i he
      exact Nat.le_trans (cek1_next hk he) (cek_next hk hr)
    · cases hr

theorem cek_ends {kk : K} (hk : KOk P kk) : ∀ {n : Nat} {s s1 : List It} {fr fr1 : Fr} {h h1 : Heap}, cek kk n s fr h = .st s1 fr1 h1 → Nat.ble h1.next (atomKey 0) = true → Ends P z frT s1 fr1 h1 → Ends P z frT s fr h
  | 0, s, s1, fr, fr1, h, h1, hr, hn, k => by
    simp only [cek, CS.st.injEq] at hr
    obtain ⟨rfl, rfl, rfl⟩ := hr
    exact k
  | n + 1, s, s1, fr, fr1, h, h1, hr, hn, k => by
    unfold cek at hr
    split at hr
    · rename_i he
      refine cek1_ends hk he ?_ (cek_ends hk hr hn k)
      exact Nat.ble_eq_true_of_le (Nat.le_trans (cek_next hk hr) (Nat.le_of_ble_eq_true hn))
    · cases hr

theorem Ends.pruned {st : List It} {fr : Fr} {h : Heap} {L S : List Nat} (k : Ends P z frT st ⟨fr.n, pick fr.t S⟩ ⟨h.next, pick h.t L⟩) : Ends P z frT st fr h := by
  intro ι a w g1 g2 g3 g4
  refine den_mono ?_ (k ι a w ⟨g1.1, fun t v ht => g1.2 t v (pick_get ht)⟩ g2.pick g3 g4)
  rintro e b v ⟨rfl, k1, k2, k3⟩
  exact ⟨rfl, k1, k2, k3.trans (Post.refl g2).pick⟩

/-- A piece: so many steps of the machine, and what is still reached. -/
theorem Ends.piece {kk : K} (hk : KOk P kk) {n : Nat} {L S : List Nat} {s s1 : List It} {fr fr1 : Fr} {h h1 : Heap} (hr : (cek kk n s fr h).prune L S = .st s1 fr1 h1) (hn : Nat.ble h1.next (atomKey 0) = true)
    (k : Ends P z frT s1 fr1 h1) : Ends P z frT s fr h := by
  cases hc : cek kk n s fr h with
  | bad m => rw [hc] at hr; cases hr
  | st s2 fr2 h2 =>
    rw [hc] at hr
    simp only [CS.prune, CS.st.injEq] at hr
    obtain ⟨rfl, rfl, rfl⟩ := hr
    exact cek_ends hk hc hn (Ends.pruned k)

/-- The last piece: it comes back with true. -/
noncomputable def lastK (kk : K) (n : Nat) (s : List It) (fr : Fr) (h : Heap) : Res :=
  match cek kk n s fr h with
  | .st (.code c :: _) fr1 h1 => kk c fr1 h1
  | _ => .bad 84

theorem Ends.end_ {kk : K} (hk : KOk P kk) {n m S : Nat} {s : List It} {fr : Fr} {h h1 : Heap} (hr : (lastK kk n s fr h).prune [] [S] = .ret ⟨m, (Tr.e).put (some (.cv (.sc (.b true)))) S⟩ h1) (hn : Nat.ble h1.next (atomKey 0) = true) :
    Ends P z ⟨m, (Tr.e).put (some (.cv (.sc (.b true)))) S⟩ s fr h := by
  unfold lastK at hr
  split at hr
  · rename_i c l fr1 h2 hc
    have r := Runs.prune (Runs.of hk (r := kk c fr1 h2) rfl (by cases hx : kk c fr1 h2 <;> rw [hx] at hr <;> first | rfl | cases hr)) hr rfl
    refine cek_ends hk hc ?_ (Ends.last r hn)
    exact Nat.ble_eq_true_of_le (Nat.le_trans r.1 (Nat.le_of_ble_eq_true hn))
  · cases hr

end

/-- The whole call. -/
theorem calls_of_ends {P : Program} {f : FuncId} {fn : Func} {b : Code} (h1 : P.funcs[f]? = some fn) (h2 : fn.body = some b) {args : List AV} {as : Array Value} (hlen : args.length ≤ fn.ntmps)
    (hargs : ARs (fun _ => none) args as.toList) {frT : Fr} {z : Bool} (hr : Ends P z frT [.code b] ⟨fn.ntmps, argsIn 0 args .e⟩ Heap.nil)
    (hd : fnDone (tiOf P) ⟨fn.ntmps, fn.results.toList, b⟩ frT Heap.nil = .ok (.cv (.sc (.b true))) Heap.nil) (w : World) :
    Calls P f as w fun e w' => e = .returned (.bool true) ∧ Below w.heap.size w w' := by
  refine calls_of_wp h1 h2 ?_
  have hent := enter_rel hargs hlen
  have rep0 : ∀ w, Rep (fun _ => none) w Heap.nil := fun w => ⟨fun b o h => (by cases h), fun b o h => (by cases h), fun b b' o o' c N N' h => (by cases h), fun b c N h => (by cases h)⟩
  have hw : b.wp P _ _ _ := hr (fun _ => none) { tmps := as ++ Array.replicate (fn.ntmps - as.size) undef, defers := [] } w hent (rep0 w) (fun _ _ _ => rfl) (fun _ => rfl)
  refine wp_mono hw ?_
  rintro e a' w' ⟨rfl, g1, g2, g3⟩
  obtain ⟨_, V, k1, k2⟩ := done_sound (P := P) (fn := fn) (tiOf_ok P) g2 (rep0 w') rfl hd
  have k2 : V = .bool true := k2
  subst k2
  exact ⟨g1, _, k1, rfl, g3.os, g3.tape, g3.output, g3.size, fun k hk => g3.frame k hk (fun b o N h => by cases h)⟩

end Go.Proofs.YtmjogmpgamlhaaaGreat.Dm

namespace Go.Proofs.YtmjogmpgamlhaaaGreat.Dm
open Go Go.RowKit

/-! ### a stack that ends with what is told -/

noncomputable def EndsR (P : Program) (r : Res) (st : List It) (fr : Fr) (h : Heap) : Prop :=
  h.next ≤ r.next h.next ∧ ∀ ι a w, FrR ι fr a.tmps → Rep ι w h → Free ι h.next (r.next h.next) → den P (RQ ι h w a.defers r) st .normal a w

theorem next_eq {r : Res} (hg : r.good = true) (a b : Nat) : r.next a = r.next b := by
  cases r <;> first | rfl | cases hg

section
variable {P : Program} {r : Res} {st : List It} {fr fr1 : Fr} {h h1 : Heap}

theorem EndsR.seq {x y : Code} (k : EndsR P r (.code x :: .code y :: st) fr h) : EndsR P r (.code (x.seq y) :: st) fr h :=
  ⟨k.1, fun ι a w g1 g2 g3 => wp_seq (k.2 ι a w g1 g2 g3)⟩
theorem EndsR.block {c : Code} {id : Nat} (k : EndsR P r (.code c :: .blk id :: st) fr h) : EndsR P r (.code (.block id c) :: st) fr h :=
  ⟨k.1, fun ι a w g1 g2 g3 => wp_block (k.2 ι a w g1 g2 g3)⟩
theorem EndsR.loop {c : Code} (n : Nat) (k : EndsR P r (.rep c n :: st) fr h) : EndsR P r (.code (.loop c) :: st) fr h :=
  ⟨k.1, fun ι a w g1 g2 g3 => wp_loop_rounds n (k.2 ι a w g1 g2 g3)⟩
theorem EndsR.rep {c : Code} {n : Nat} (k : EndsR P r (.code c :: .rep c n :: st) fr h) : EndsR P r (.rep c (n + 1) :: st) fr h :=
  ⟨k.1, fun ι a w g1 g2 g3 => k.2 ι a w g1 g2 g3⟩
theorem EndsR.blk {id : Nat} (k : EndsR P r st fr h) : EndsR P r (.blk id :: st) fr h :=
  ⟨k.1, fun ι a w g1 g2 g3 => k.2 ι a w g1 g2 g3⟩

theorem EndsR.go (hg : r.good = true) {ι : Io} {a a' : Act} {w w' : World} (hf : Free ι h.next (r.next h1.next)) (q : Aft ι h w a.defers fr1 h1 a' w') (k : EndsR P r st fr1 h1) :
    den P (RQ ι h w a.defers r) st .normal a' w' := by
  obtain ⟨ι', g1, g2, g3⟩ := q
  refine den_mono ?_ (k.2 ι' a' w' g1 g3.rep (g3.free hf))
  intro e b v x
  rw [g2] at x
  exact x.trans g3

theorem EndsR.step (hg : r.good = true) {c : Code} (q : Runs P c fr h (.nrm fr1 h1)) (k : EndsR P r st fr1 h1) : EndsR P r (.code c :: st) fr h := by
  have hn : h.next ≤ h1.next := q.1
  have hk := k.1
  refine ⟨by rw [next_eq hg h.next h1.next]; omega, fun ι a w g1 g2 g3 => ?_⟩
  rw [next_eq hg h.next h1.next] at g3
  exact wp_mono (q.2 ι a w g1 g2 (g3.mono hk)) (by
    rintro e a' w' ⟨rfl, q⟩
    exact EndsR.go hg g3 q k)

theorem EndsR.exit (hg : r.good = true) {st' : List It} {c : Code} {id : Nat} (q : Runs P c fr h (.exit id fr1 h1)) (hp : popTo id st = some st') (k : EndsR P r st' fr1 h1) : EndsR P r (.code c :: st) fr h := by
  have hn : h.next ≤ h1.next := q.1
  have hk := k.1
  refine ⟨by rw [next_eq hg h.next h1.next]; omega, fun ι a w g1 g2 g3 => ?_⟩
  rw [next_eq hg h.next h1.next] at g3
  exact wp_mono (q.2 ι a w g1 g2 (g3.mono hk)) (by
    rintro e a' w' ⟨rfl, q⟩
    exact den_exit hp (EndsR.go hg g3 q k))

theorem EndsR.last {frT : Fr} {hT : Heap} {c : Code} (q : Runs P c fr h (.ret frT hT)) : EndsR P (.ret frT hT) (.code c :: st) fr h :=
  ⟨q.1, fun ι a w g1 g2 g3 => wp_mono (q.2 ι a w g1 g2 g3) (by
    rintro e a' w' ⟨rfl, q⟩
    exact den_ret ⟨rfl, q⟩ st)⟩

/-- The code is at its end. -/
theorem EndsR.done : EndsR P (.nrm fr h) [] fr h :=
  ⟨Nat.le_refl _, fun ι a w g1 g2 g3 => ⟨rfl, ι, g1, rfl, Post.refl g2⟩⟩

theorem leaf_endsR (hg : r.good = true) {kk : K} (hk : KOk P kk) {c : Code} {l s1 : List It} (hr : leaf kk c l fr h = .st s1 fr1 h1) (k : EndsR P r s1 fr1 h1) :
    EndsR P r (.code c :: l) fr h := by
  unfold leaf at hr
  split at hr
  · rename_i he
    simp only [CS.st.injEq] at hr
    obtain ⟨rfl, rfl, rfl⟩ := hr
    exact EndsR.step hg (Runs.of hk he rfl) k
  · rename_i he
    split at hr
    · rename_i hp
      simp only [CS.st.injEq] at hr
      obtain ⟨rfl, rfl, rfl⟩ := hr
      exact EndsR.exit hg (Runs.of hk he rfl) hp k
    · cases hr
  · cases hr

theorem cek1_endsR (hg : r.good = true) {kk : K} (hk : KOk P kk) {s s1 : List It} (hr : cek1 kk s fr h = .st s1 fr1 h1) (k : EndsR P r s1 fr1 h1) :
    EndsR P r s fr h := by
  unfold cek1 at hr
  split at hr
  · cases hr
  · simp only [CS.st.injEq] at hr
    obtain ⟨rfl, rfl, rfl⟩ := hr
    exact EndsR.blk k
  · split at hr
    · cases hr
    · simp only [CS.st.injEq] at hr
      obtain ⟨rfl, rfl, rfl⟩ := hr
      exact EndsR.rep k
  · split at hr
    · simp only [CS.st.injEq] at hr
      obtain ⟨rfl, rfl, rfl⟩ := hr
      exact EndsR.seq k
    · simp only [CS.st.injEq] at hr
      obtain ⟨rfl, rfl, rfl⟩ := hr
      exact EndsR.block k
    · simp only [CS.st.injEq] at hr
      obtain ⟨rfl, rfl, rfl⟩ := hr
      exact EndsR.loop 5000 k
    · exact leaf_endsR hg hk hr k

theorem EndsR.pruned {L S : List Nat} (k : EndsR P r st ⟨fr.n, pick fr.t S⟩ ⟨h.next, pick h.t L⟩) : EndsR P r st fr h := by
  refine ⟨k.1, fun ι a w g1 g2 g3 => ?_⟩
  refine den_mono ?_ (k.2 ι a w ⟨g1.1, fun t v ht => g1.2 t v (pick_get ht)⟩ g2.pick g3)
  intro e b v x
  exact x.trans (Post.refl g2).pick

theorem cek_endsR (hg : r.good = true) {kk : K} (hk : KOk P kk) : ∀ {n : Nat} {s s1 : List It} {fr fr1 : Fr} {h h1 : Heap}, cek kk n s fr h = .st s1 fr1 h1 → EndsR P r s1 fr1 h1 → EndsR P r s fr h
  | 0, s, s1, fr, fr1, h, h1, hr, k => by
    simp only [cek, CS.st.injEq] at hr
    obtain ⟨rfl, rfl, rfl⟩ := hr
    exact k
  | n + 1, s, s1, fr, fr1, h, h1, hr, k => by
    unfold cek at hr
    split at hr
    · rename_i he
      exact cek1_endsR hg hk he (cek_endsR hg hk hr k)
    · cases hr

theorem EndsR.piece (hg : r.good = true) {kk : K} (hk : KOk P kk) {n : Nat} {L S : List Nat} {s s1 : List It} (hr : (cek kk n s fr h).prune L S = .st s1 fr1 h1) (k : EndsR P r s1 fr1 h1) : EndsR P r s fr h := by
  cases hc : cek kk n s fr h with
  | bad m => rw [hc] at hr; cases hr
  | st s2 fr2 h2 =>
    rw [hc] at hr
    simp only [CS.prune, CS.st.injEq] at hr
    obtain ⟨rfl, rfl, rfl⟩ := hr
    exact cek_endsR hg hk hc (EndsR.pruned k)

theorem EndsR.end_ {frT : Fr} {hT : Heap} {kk : K} (hk : KOk P kk) {n : Nat} {L S : List Nat} {s : List It} (hr : (lastK kk n s fr h).prune L S = .ret frT hT) : EndsR P (.ret frT hT) s fr h := by
  unfold lastK at hr
  split at hr
  · rename_i c l fr1 h2 hc
    have q := Runs.prune (Runs.of hk (r := kk c fr1 h2) rfl (by cases hx : kk c fr1 h2 <;> rw [hx] at hr <;> first | rfl | cases hr)) hr rfl
    exact cek_endsR rfl hk hc (EndsR.last q)
  · cases hr

end

/-! ### a call that is known -/

/-- What a call tells and leaves, begun with these blocks. -/
noncomputable def KnownH (P : Program) (f : FuncId) (args : List AV) (h : Heap) (v : AV) (h' : Heap) : Prop := Enters P f ∧ h.next ≤ h'.next ∧
  ∀ ι w (as : Array Value), Rep ι w h → ARs ι args as.toList → Free ι h.next h'.next → Calls P f as w fun e w' => ∃ V ι', e = .returned V ∧ AVR ι' v V ∧ Post ι h h' w w' ι'

theorem knownH_of {P : Program} {f : FuncId} {fn : Func} {b : Code} (hE : Enters P f) (h1 : P.funcs[f]? = some fn) (h2 : fn.body = some b) {args : List AV} (hlen : args.length ≤ fn.ntmps) {frT : Fr} {h hT : Heap} {v : AV}
    (hr : EndsR P (.ret frT hT) [.code b] ⟨fn.ntmps, argsIn 0 args .e⟩ h ∨ EndsR P (.nrm frT hT) [.code b] ⟨fn.ntmps, argsIn 0 args .e⟩ h) (hd : fnDone (tiOf P) ⟨fn.ntmps, fn.results.toList, b⟩ frT hT = .ok v hT) : KnownH P f args h v hT := by
  have hle : h.next ≤ hT.next := by
    rcases hr with hr | hr
    · exact hr.1
    · exact hr.1
  refine ⟨hE, hle, fun ι w as rep has hf => calls_of_wp h1 h2 ?_⟩
  have hent := enter_rel has hlen
  rcases hr with hr | hr
  · have hw : b.wp P _ _ _ := hr.2 ι { tmps := as ++ Array.replicate (fn.ntmps - as.size) undef, defers := [] } w hent rep hf
    refine wp_mono hw ?_
    rintro e a' w' ⟨rfl, ι', g1, g2, g3⟩
    obtain ⟨_, V, k1, k2⟩ := done_sound (P := P) (fn := fn) (tiOf_ok P) g1 g3.rep rfl hd
    exact ⟨g2, V, k1, V, ι', rfl, k2, g3⟩
  · have hw : b.wp P _ _ _ := hr.2 ι { tmps := as ++ Array.replicate (fn.ntmps - as.size) undef, defers := [] } w hent rep hf
    refine wp_mono hw ?_
    rintro e a' w' ⟨rfl, ι', g1, g2, g3⟩
    obtain ⟨_, V, k1, k2⟩ := done_sound (P := P) (fn := fn) (tiOf_ok P) g1 g3.rep rfl hd
    exact ⟨g2, V, k1, V, ι', rfl, k2, g3⟩

/-! ### heaps that are alike -/

noncomputable def treq : Tr SV → Tr SV → Bool
  | .e, .e => true
  | .n none l r, .n none l' r' => treq l l' && treq r r'
  | .n (some v) l r, .n (some v') l' r' => sveq v v' && (treq l l' && treq r r')
  | _, _ => false
theorem treq_eq : ∀ {a b : Tr SV}, treq a b = true → a = b
  | .e, .e, _ => rfl
  | .n none l r, .n none l' r', h => by
    simp only [treq, Bool.and_eq_true] at h
    rw [treq_eq h.1, treq_eq h.2]
  | .n (some v) l r, .n (some v') l' r', h => by
    simp only [treq, Bool.and_eq_true] at h
    rw [sveq_eq h.1, treq_eq h.2.1, treq_eq h.2.2]
  | .e, .n _ _ _, h => by cases h
  | .n none _ _, .e, h => by cases h
  | .n (some _) _ _, .e, h => by cases h
  | .n none _ _, .n (some _) _ _, h => by cases h
  | .n (some _) _ _, .n none _ _, h => by cases h

noncomputable def meseq : List ME → List ME → Bool
  | [], [] => true
  | a :: l, b :: r => cveq a.key b.key && (cveq a.val b.val && (Nat.beq a.born b.born && meseq l r))
  | _, _ => false
theorem meseq_eq : ∀ {a b : List ME}, meseq a b = true → a = b
  | [], [], _ => rfl
  | [], _ :: _, h => by cases h
  | _ :: _, [], h => by cases h
  | ⟨k, v, n⟩ :: l, ⟨k', v', n'⟩ :: r, h => by
    simp only [meseq, Bool.and_eq_true] at h
    have h1 := cveq_eq h.1
    have h2 := cveq_eq h.2.1
    have h3 := Nat.eq_of_beq_eq_true h.2.2.1
    rw [h1, h2, h3, meseq_eq h.2.2.2]

noncomputable def aoeq : AO → AO → Bool
  | .cells r ro, .cells r' ro' => Nat.beq r.n r'.n && (beqB ro ro' && (sveq r.d r'.d && treq r.t r'.t))
  | .map es ck, .map es' ck' => Nat.beq ck ck' && meseq es es'
  | _, _ => false
theorem aoeq_eq {a b : AO} (h : aoeq a b = true) : a = b := by
  unfold aoeq at h
  split at h
  · rename_i r ro r' ro'
    simp only [Bool.and_eq_true] at h
    obtain ⟨h1, h2, h3, h4⟩ := h
    cases r; cases r'
    simp only at h1 h3 h4
    rw [Nat.eq_of_beq_eq_true h1, beqB_true h2, sveq_eq h3, treq_eq h4]
  · simp only [Bool.and_eq_true] at h
    rw [Nat.eq_of_beq_eq_true h.1, meseq_eq h.2]
  · cases h

/-- The blocks of these names are alike in both. -/
noncomputable def agree (t t' : Tr AO) : List Nat → Bool
  | [] => true
  | b :: l => (match t.get b with
    | none => match t'.get b with
      | none => agree t t' l
      | some _ => false
    | some x => match t'.get b with
      | none => false
      | some y => cnd (aoeq x y) (agree t t' l) false)
theorem agree_get {t t' : Tr AO} : ∀ {l : List Nat}, agree t t' l = true → ∀ b ∈ l, t.get b = t'.get b
  | [], _, b, hb => by cases hb
  | c :: l, h, b, hb => by
    unfold agree at h
    split at h
    · split at h
      · rename_i h1 _ h2
        rcases List.mem_cons.1 hb with rfl | hb
        · rw [h1, h2]
        · exact agree_get h b hb
      · cases h
    · split at h
      · cases h
      · rename_i x h1 _ y h2
        cases ha : aoeq x y with
        | false => rw [ha] at h; cases h
        | true =>
          rw [ha] at h; simp only [cnd_true] at h
          rcases List.mem_cons.1 hb with rfl | hb
          · rw [h1, h2, aoeq_eq ha]
          · exact agree_get h b hb

/-- The blocks of these names are put as they are in the other heap. -/
noncomputable def patch (t t' : Tr AO) : List Nat → Tr AO
  | [] => t
  | b :: l => (patch t t' l).put (t'.get b) b
theorem patch_get {t t' : Tr AO} {b : Nat} : ∀ {l : List Nat}, (patch t t' l).get b = if b ∈ l then t'.get b else t.get b
  | [] => by simp [patch]
  | c :: l => by
    unfold patch
    rw [Tr.get_put, patch_get (l := l)]
    by_cases h : b = c
    · subst h; simp
    · simp [h]

/-- A call that is known: its function, its arguments, what it begins with, what it tells and leaves, and the names of all blocks of both. -/
structure KC where
  f : FuncId
  args : List AV
  h : Heap
  v : AV
  h' : Heap
  L : List Nat

noncomputable def KC.ok (P : Program) (k : KC) : Prop := KnownH P k.f k.args k.h k.v k.h' ∧ pick k.h.t k.L = k.h.t ∧ pick k.h'.t k.L = k.h'.t

noncomputable def ovKC (k : KC) (call : CallK) : CallK := fun f args h => cnd (Nat.beq f k.f)
  (cnd (Nat.beq h.next k.h.next) (cnd (avseq args k.args) (cnd (agree h.t k.h.t k.L) (.ok k.v ⟨k.h'.next, patch h.t k.h'.t k.L⟩) (call f args h)) (call f args h)) (call f args h)) (call f args h)

theorem pick_mem {α : Type} {t : Tr α} {b : Nat} {o : α} : ∀ {l : List Nat}, (pick t l).get b = some o → b ∈ l
  | [], h => by cases h
  | c :: l, h => by
    unfold pick at h
    cases hc : t.get c with
    | none => rw [hc] at h; exact List.mem_cons_of_mem _ (pick_mem h)
    | some x =>
      rw [hc] at h
      simp only [Tr.get_put] at h
      by_cases hb : b = c
      · exact hb ▸ List.mem_cons_self
      · rw [if_neg hb] at h; exact List.mem_cons_of_mem _ (pick_mem h)

theorem ovKC_ok {P : Program} {k : KC} (hk : k.ok P) : OvOk P (ovKC k) := by
  intro call hc f args h v h' hr
  unfold ovKC at hr
  cases hb : Nat.beq f k.f with
  | false => rw [hb] at hr; exact hc f args h v h' hr
  | true =>
  rw [hb] at hr; simp only [cnd_true] at hr
  cases hn : Nat.beq h.next k.h.next with
  | false => rw [hn] at hr; exact hc f args h v h' hr
  | true =>
  rw [hn] at hr; simp only [cnd_true] at hr
  cases ha : avseq args k.args with
  | false => rw [ha] at hr; exact hc f args h v h' hr
  | true =>
  rw [ha] at hr; simp only [cnd_true] at hr
  cases hg : agree h.t k.h.t k.L with
  | false => rw [hg] at hr; exact hc f args h v h' hr
  | true =>
  rw [hg] at hr; simp only [cnd_true, CRes.ok.injEq] at hr
  obtain ⟨rfl, rfl⟩ := hr
  obtain rfl := Nat.eq_of_beq_eq_true hb
  have hn := Nat.eq_of_beq_eq_true hn
  obtain rfl := avseq_eq ha
  obtain ⟨⟨hE, hle, hx⟩, p1, p2⟩ := hk
  have hag := agree_get hg
  have m1 : ∀ b o, k.h.get b = some o → b ∈ k.L := fun b o hb => by
    have : (pick k.h.t k.L).get b = some o := by rw [p1]; exact hb
    exact pick_mem this
  have m2 : ∀ b o, k.h'.get b = some o → b ∈ k.L := fun b o hb => by
    have : (pick k.h'.t k.L).get b = some o := by rw [p2]; exact hb
    exact pick_mem this
  have sub : ∀ b o, k.h.get b = some o → h.get b = some o := fun b o hb => by
    have := hag b (m1 b o hb)
    show h.t.get b = some o
    rw [this]; exact hb
  have get' : ∀ b, (⟨k.h'.next, patch h.t k.h'.t k.L⟩ : Heap).get b = if b ∈ k.L then k.h'.get b else h.get b := fun b => patch_get
  refine ⟨hE, by show h.next ≤ k.h'.next; omega, fun ι w as rep has hf => ?_⟩
  have rep0 : Rep ι w k.h := ⟨fun b o hb => by rw [← hn]; exact rep.lt b o (sub b o hb), fun b o hb => rep.obj b o (sub b o hb), fun b b' o o' c N N' h1 h2 h3 h4 => rep.inj b b' o o' c N N' (sub _ _ h1) (sub _ _ h2) h3 h4, rep.dom⟩
  have hf0 : Free ι k.h.next k.h'.next := by rw [← hn]; exact hf
  refine (hx ι w as rep0 has hf0).mono ?_
  rintro e w' ⟨V, ι', rfl, hv, p⟩
  refine ⟨V, ι', rfl, hv, ?_⟩
  have hs : Sub ι ι' := p.sub hf0
  have old : ∀ b o, h.get b = some o → ι' b = ι b := fun b o hb => p.ext b (.inl (by rw [← hn]; exact rep.lt b o hb))
  have same : ∀ b o c N, b ∉ k.L → h.get b = some o → ι b = some (c, N) → w'.heap[c]? = w.heap[c]? := fun b o c N hb ho hι =>
    p.frame c (rep.dom b c N hι) (fun b0 o0 N0 g1 g2 => hb (by
      rw [rep.inj b b0 o o0 c N N0 ho (sub _ _ g1) hι g2]
      exact m1 b0 o0 g1))
  have apart : ∀ b b' o o' c N N', b ∈ k.L → b' ∉ k.L → k.h'.get b = some o → h.get b' = some o' → ι' b = some (c, N) → ι' b' = some (c, N') → False := by
    intro b b' o o' c N N' hb hb' g1 g2 g3 g4
    rw [old b' o' g2] at g4
    rcases p.fresh b o c N g1 g3 with ⟨b0, o0, N0, k1, k2⟩ | hh
    · exact hb' (by rw [rep.inj b' b0 o' o0 c N' N0 g2 (sub _ _ k1) g4 k2]; exact m1 b0 o0 k1)
    · have := rep.dom b' c N' g4
      omega
  refine ⟨⟨?_, ?_, ?_, p.rep.dom⟩, ?_, by show h.next ≤ k.h'.next; omega, ?_, p.size, rep.lt, ?_, p.tape, p.os, p.output, fun b o hb hlt => ?_, fun b kk es l cb N hb hι ho n hn' V => ?_⟩
  rotate_right 2
  · rw [get'] at hb
    by_cases hm : b ∈ k.L
    · rw [if_pos hm] at hb
      obtain ⟨o0, h0, k0⟩ := p.back b o hb (by rw [← hn]; exact hlt)
      exact ⟨o0, sub b o0 h0, k0⟩
    · rw [if_neg hm] at hb; exact ⟨o, hb, SamK.refl o⟩
  · obtain ⟨o', ho⟩ := ho
    rw [get'] at ho
    by_cases hm : b ∈ k.L
    · rw [if_pos hm] at ho
      have hk' : k.h.get b = some (.pm kk es l) := by
        have := hag b hm
        have hb' : h.t.get b = some (.pm kk es l) := hb
        rw [this] at hb'; exact hb'
      exact p.keepM b kk es l cb N hk' hι ⟨o', ho⟩ n hn' V
    · exact HasM.same (same b _ cb N hm hb hι) kk n V
  · intro b o hb
    rw [get'] at hb
    by_cases hm : b ∈ k.L
    · rw [if_pos hm] at hb; exact p.rep.lt b o hb
    · rw [if_neg hm] at hb
      have := rep.lt b o hb
      show b < k.h'.next
      omega
  · intro b o hb
    rw [get'] at hb
    by_cases hm : b ∈ k.L
    · rw [if_pos hm] at hb; exact p.rep.obj b o hb
    · rw [if_neg hm] at hb
      obtain ⟨c, N, g1, g2⟩ := rep.obj b o hb
      exact ⟨c, N, hs _ _ g1, OR.mono hs (same b o c N hm hb g1) g2⟩
  · intro b b' o o' c N N' g1 g2 g3 g4
    rw [get'] at g1 g2
    by_cases hm : b ∈ k.L <;> by_cases hm' : b' ∈ k.L
    · rw [if_pos hm] at g1; rw [if_pos hm'] at g2; exact p.rep.inj b b' o o' c N N' g1 g2 g3 g4
    · rw [if_pos hm] at g1; rw [if_neg hm'] at g2; exact (apart b b' o o' c N N' hm hm' g1 g2 g3 g4).elim
    · rw [if_neg hm] at g1; rw [if_pos hm'] at g2; exact (apart b' b o' o c N' N hm' hm g2 g1 g4 g3).elim
    · rw [if_neg hm] at g1; rw [if_neg hm'] at g2
      rw [old b o g1] at g3; rw [old b' o' g2] at g4
      exact rep.inj b b' o o' c N N' g1 g2 g3 g4
  · intro b hb
    refine p.ext b ?_
    rcases hb with hb | hb
    · exact .inl (by rw [← hn]; exact hb)
    · exact .inr hb
  · intro c hc hx
    exact p.frame c hc (fun b o N h1 h2 => hx b o N (sub b o h1) h2)
  · intro b o c N hb hι
    rw [get'] at hb
    by_cases hm : b ∈ k.L
    · rw [if_pos hm] at hb
      rcases p.fresh b o c N hb hι with ⟨b0, o0, N0, k1, k2⟩ | hh
      · exact .inl ⟨b0, o0, N0, sub _ _ k1, k2⟩
      · exact .inr hh
    · rw [if_neg hm] at hb
      rw [old b o hb] at hι
      exact .inl ⟨b, o, N, hb, hι⟩

end Go.Proofs.YtmjogmpgamlhaaaGreat.Dm

namespace Go.Proofs.YtmjogmpgamlhaaaGreat.Dm
open Go Go.RowKit

/-- A new block, wherever it lies behind the old ones. -/
theorem Post.pushAt {ι : Io} {w w' : World} {h : Heap} (o : AO) (g N : Nat) (r : Rep ι w h) (hf : Free ι h.next (h.push o).next)
    (hw : ∀ c, c < w.heap.size → w'.heap[c]? = w.heap[c]?) (hg : w.heap.size ≤ g) (hgl : g < w'.heap.size) (hz : w.heap.size ≤ w'.heap.size)
    (ht : w'.tape = w.tape) (ho : w'.os = w.os) (hp : w'.output = w.output)
    (hr : OR (fun b => if b = h.next then some (g, N) else ι b) o g N w') :
    Post ι h (h.push o) w w' (fun b => if b = h.next then some (g, N) else ι b) := by
  have hn : ι h.next = none := hf h.next (Nat.le_refl _) (Nat.lt_succ_self _)
  have hs : Sub ι (fun b => if b = h.next then some (g, N) else ι b) := by
    intro b p hb
    by_cases e : b = h.next
    · subst e; rw [hn] at hb; cases hb
    · simp only [if_neg e]; exact hb
  refine ⟨⟨?_, ?_, ?_, ?_⟩, ?_, Nat.le_succ _, fun c hc _ => hw c hc, hz, r.lt, ?_, ht, ho, hp, fun b x hb hlt => ?_, fun b k es l cb M hb hι _ n _ V => HasM.same (hw cb (r.dom b cb M hι)) k n V⟩
  rotate_left 6
  · rw [Heap.get_push, if_neg (by omega)] at hb
    exact ⟨x, hb, SamK.refl x⟩
  · intro b x hb
    rw [Heap.get_push] at hb
    show b < h.next + 1
    by_cases e : b = h.next
    · omega
    · rw [if_neg e] at hb; have := r.lt b x hb; omega
  · intro b x hb
    rw [Heap.get_push] at hb
    by_cases e : b = h.next
    · rw [if_pos e] at hb
      simp only [Option.some.injEq] at hb; subst hb
      exact ⟨g, N, by simp only [if_pos e], hr⟩
    · rw [if_neg e] at hb
      obtain ⟨cb, M, h1, h2⟩ := r.obj b x hb
      exact ⟨cb, M, by simp only [if_neg e]; exact h1, OR.mono hs (hw cb (r.dom b cb M h1)) h2⟩
  · intro b b' x x' c M M' hb hb' h1 h2
    rw [Heap.get_push] at hb hb'
    by_cases e : b = h.next <;> by_cases e' : b' = h.next
    · omega
    · rw [if_pos e] at h1; rw [if_neg e'] at h2
      simp only [Option.some.injEq, Prod.mk.injEq] at h1
      have := r.dom b' c M' h2; omega
    · rw [if_neg e] at h1; rw [if_pos e'] at h2
      simp only [Option.some.injEq, Prod.mk.injEq] at h2
      have := r.dom b c M h1; omega
    · rw [if_neg e] at h1 hb; rw [if_neg e'] at h2 hb'
      exact r.inj b b' x x' c M M' hb hb' h1 h2
  · intro b c M h1
    by_cases e : b = h.next
    · rw [if_pos e] at h1; simp only [Option.some.injEq, Prod.mk.injEq] at h1; omega
    · rw [if_neg e] at h1; have := r.dom b c M h1; omega
  · intro b hb
    have : b ≠ h.next := by
      rcases hb with hb | hb
      · omega
      · have : h.next + 1 ≤ b := hb; omega
    simp only [if_neg this]
  · intro b x c M hb h1
    rw [Heap.get_push] at hb
    by_cases e : b = h.next
    · subst e
      simp only [if_true, Option.some.injEq, Prod.mk.injEq] at h1
      exact .inr (by omega)
    · rw [if_neg e] at hb
      simp only [if_neg e] at h1
      exact .inl ⟨b, x, M, hb, h1⟩

noncomputable def isE : Tr SV → Bool
  | .e => true
  | _ => false
noncomputable def zeroRow (r : Row) : Bool := Nat.beq r.n 4096 && (sveq r.d (.i .u8 (.ofNat 0)) && isE r.t)
noncomputable def okPl (k : IntKind) (n z o : Nat) (hi m r s : Nat) : Bool := keq k .i64 && (Nat.beq z 1 && (Nat.beq o 0 && (Nat.beq n 4096 && (szOk s && (Nat.beq (Nat.mod m s) 0 && (Nat.beq (Nat.mod r s) 0 && Nat.ble (Nat.add hi s) 4096))))))

noncomputable def getRA (args : List AV) (h : Heap) : Option AV :=
  match args with
  | [.cv (.sc (.sl b o n cap z ex)), .cv (.sc (.rg k id ops lo hi m r)), .cv (.sc (.i .i64 (.ofNat s)))] =>
    cnd (okPl k n z o hi m r s)
      (match h.get b with
      | some (.cells r0 _) => cnd (zeroRow r0) (some (.tu [.sc (.i .u64 (.ofNat 0)), .sc (.i .i64 0)])) none
      | some (.by zz p) => some (.tu [.sc (.gt zz p id ops s), .sc (.i .i64 0)])
      | _ => none) none
  | _ => none

noncomputable def putRA (args : List AV) (h : Heap) : Option (AV × Heap) :=
  match args with
  | [.cv (.sc (.sl b o n cap z ex)), .cv (.sc (.rg k id ops lo hi m r)), .cv (.sc (.i .i64 (.ofNat s))), .cv (.sc (.rg .u64 iv [] _ _ _ _))] =>
    cnd (okPl k n z o hi m r s)
      (match h.get b with
      | some (.cells r0 _) => cnd (zeroRow r0) (some (.tu [.sc (.sl h.next 0 4096 4096 1 false), .sc (.i .i64 0)], h.push (.by true [(id, ops, s, iv)]))) none
      | some (.by zz p) => some (.tu [.sc (.sl h.next 0 4096 4096 1 false), .sc (.i .i64 0)], h.push (.by zz ((id, ops, s, iv) :: p)))
      | _ => none) none
  | _ => none

noncomputable def ovRg (g q : FuncId) (call : CallK) : CallK := fun f args h => cnd (Nat.beq f g)
  (match getRA args h with
  | some v => .ok v h
  | none => call f args h) (cnd (Nat.beq f q)
  (match putRA args h with
  | some (v, h') => .ok v h'
  | none => call f args h) (call f args h))

/-- What the contract of bits.Put says. -/
def PutOk (P : Program) (g : FuncId) : Prop := Enters P g ∧ ∀ {cb c at_ s v : Nat} {f : Nat → Nat}, (s = 1 ∨ s = 2 ∨ s = 4 ∨ s = 8) → at_ % s = 0 → at_ + s ≤ 4096 → ∀ (w : World),
  (∀ i, i < 4096 → f i < 256 ∧ w.cell? ⟨cb, i, none⟩ = some (.int .u8 (f i : Nat))) →
  Calls P g #[.slice (some ⟨cb, 0, none⟩) 4096 c, .int .i64 (at_ : Int), .int .i64 (s : Int), .int .u64 (v : Int)] w fun e w' => ∃ (nb capc : Nat) (cs : Array Value) (el : TypeId),
    e = .returned (.tuple #[.slice (some ⟨nb, 0, none⟩) 4096 capc, .int .i64 0]) ∧ w'.heap[nb]? = some (.cells cs el (0, 0)) ∧ 4096 ≤ capc ∧ capc ≤ cs.size ∧ capc ≤ 9223372036854775807 ∧
    (∀ i, i < 4096 → cs[i]? = some (.int .u8 (putF f at_ s v i : Nat))) ∧ w.heap.size ≤ nb ∧ nb < w'.heap.size ∧ Below w.heap.size w w'

theorem putF_lt {f : Nat → Nat} {x s v i : Nat} (h : f i < 256) : putF f x s v i < 256 := by
  unfold putF
  split
  · exact Nat.mod_lt _ (by decide)
  · exact h

theorem BY.lt {ι : Io} {z : Bool} : ∀ {p : Puts} {f : Nat → Nat}, BY ι z p f → ∀ i, i < 4096 → f i < 256
  | [], f, h, i, hi => by
    cases z
    · exact (h i hi).choose_spec.2
    · rw [h i]; decide
  | _ :: _, f, ⟨g, c, a, c', v, h1, h2, h3, h4⟩, i, hi => by
    subst h4
    exact putF_lt (BY.lt h1 i hi)

theorem szOk_iff {s : Nat} (h : szOk s = true) : s = 1 ∨ s = 2 ∨ s = 4 ∨ s = 8 := by
  unfold szOk at h
  simp only [Bool.or_eq_true] at h
  rcases h with ((h | h) | h) | h <;> have := Nat.eq_of_beq_eq_true h <;> omega

theorem zeroRow_get {r : Row} (h : zeroRow r = true) : r.n = 4096 ∧ ∀ i, i < 4096 → r.get i = some (.i .u8 0) := by
  unfold zeroRow at h
  simp only [Bool.and_eq_true] at h
  obtain ⟨h1, h2, h3⟩ := h
  have hn := Nat.eq_of_beq_eq_true h1
  refine ⟨hn, fun i hi => ?_⟩
  obtain ⟨n, d, t⟩ := r
  simp only at hn h2 h3
  obtain rfl := sveq_eq h2
  unfold Row.get
  simp only
  rw [show Nat.blt i n = true from Nat.ble_eq_true_of_le (by rw [hn]; exact hi), cnd_true]
  cases t with
  | e => rfl
  | n => cases h3

/-- A page's bytes, as its block has them. -/
theorem page_of {ι : Io} {w : World} {h : Heap} (rep : Rep ι w h) {b : Nat} {o : AO} (hb : h.get b = some o) {cb N : Nat} (hi : ι b = some (cb, N)) :
    (∀ r ro, o = .cells r ro → zeroRow r = true → ∀ i, i < 4096 → w.cell? ⟨cb, i, none⟩ = some (.int .u8 (0 : Nat))) ∧
    (∀ z p, o = .by z p → ∃ f, BY ι z p f ∧ ∀ i, i < 4096 → w.cell? ⟨cb, i, none⟩ = some (.int .u8 (f i : Nat))) := by
  obtain ⟨cb', N', g1, g2⟩ := rep.obj b o hb
  rw [hi] at g1
  simp only [Option.some.injEq, Prod.mk.injEq] at g1
  obtain ⟨rfl, rfl⟩ := g1
  refine ⟨fun r ro e hz i hi => ?_, fun z p e => ?_⟩
  · subst e
    obtain ⟨cs, el, fr, k1, k2, k3, k4, k5⟩ := g2
    obtain ⟨V, v1, v2⟩ := k4 i _ ((zeroRow_get hz).2 i hi)
    obtain rfl : V = .int .u8 0 := v2
    simp only [World.cell?, k1]; simpa using v1
  · subst e
    obtain ⟨cs, el, fr, f, k1, k2, k3, k4, k5, k6⟩ := g2
    exact ⟨f, k5, fun i hi => by simp only [World.cell?, k1]; simpa using k6 i hi⟩

theorem leNat_leF (f : Nat → Nat) (x : Nat) : ∀ s, leNat ((List.range' x s).map f) = leF f x s
  | 0 => rfl
  | s + 1 => by
    show f x + 256 * leNat ((List.range' (x + 1) s).map f) = f x + 256 * leF f (x + 1) s
    rw [leNat_leF f (x + 1) s]

theorem leF_zero (x : Nat) : ∀ s, leF (fun _ => 0) x s = 0
  | 0 => rfl
  | s + 1 => by simp [leF, leF_zero (x + 1) s]

theorem getRg_ok {P : Program} {g : FuncId} (hG : GetOk P g) {args : List AV} {h : Heap} {v : AV} (hr : getRA args h = some v) :
    Enters P g ∧ h.next ≤ h.next ∧ ∀ ι w (as : Array Value), Rep ι w h → ARs ι args as.toList → Free ι h.next h.next → Calls P g as w fun e w' => ∃ V ι', e = .returned V ∧ AVR ι' v V ∧ Post ι h h w w' ι' := by
  unfold getRA at hr
  split at hr
  · rename_i b o n cap z ex k id ops lo hi m r s
    cases hcd : okPl k n z o hi m r s with
    | false => rw [hcd] at hr; cases hr
    | true =>
      rw [hcd] at hr; simp only [cnd_true] at hr
      unfold okPl at hcd
      simp only [Bool.and_eq_true] at hcd
      obtain ⟨c1, c2, c3, c4, c5, c6, c7, c8⟩ := hcd
      obtain rfl := keq_iff.1 c1
      obtain rfl := Nat.eq_of_beq_eq_true c2
      obtain rfl := Nat.eq_of_beq_eq_true c3
      obtain rfl := Nat.eq_of_beq_eq_true c4
      have hs := szOk_iff c5
      have hms : m % s = 0 := Nat.eq_of_beq_eq_true c6
      have hrs : r % s = 0 := Nat.eq_of_beq_eq_true c7
      have hhi : hi + s ≤ 4096 := Nat.le_of_ble_eq_true c8
      refine ⟨hG.1, Nat.le_refl _, fun ι w aa rep has hf => ?_⟩
      obtain ⟨aa⟩ := aa
      obtain ⟨a1, a2, a3, rfl⟩ : ∃ a1 a2 a3, aa = [a1, a2, a3] := by
        match aa, has with
        | [a1, a2, a3], _ => exact ⟨a1, a2, a3, rfl⟩
        | [], h => exact h.elim
        | [_], h => exact h.2.elim
        | [_, _], h => exact h.2.2.elim
        | _ :: _ :: _ :: _ :: _, h => exact h.2.2.2.elim
      obtain ⟨h1, h2, h3, -⟩ := has
      obtain ⟨cb, N, o', capc, e1, rfl, k0, k1, k2⟩ := (show VR ι (.sl b 0 4096 cap 1 ex) a1 from h1)
      obtain ⟨c0, a, q1, rfl, q2, q3, q4⟩ := (show VR ι (.rg .i64 id ops lo hi m r) a2 from h2)
      obtain rfl : a3 = .int .i64 (s : Int) := h3
      obtain rfl : o' = 0 := by
        cases ex with
        | true => exact (k1 rfl).1
        | false => exact ((k2 rfl).2.1).resolve_left (by omega)
      have hal : evalO ops a % s = 0 := by
        rw [← Nat.mod_mod_of_dvd (evalO ops a) (Nat.dvd_of_mod_eq_zero hms), q4]; exact hrs
      have run : ∀ f : Nat → Nat, (∀ i, i < 4096 → f i < 256 ∧ w.cell? ⟨cb, i, none⟩ = some (.int .u8 (f i : Nat))) →
          Calls P g #[.slice (some ⟨cb, 0, none⟩) (4096 : Nat) capc, .int .i64 (evalO ops a : Nat), .int .i64 (s : Int)] w fun e w' => e = .returned (.tuple #[.int .u64 (leF f (evalO ops a) s : Nat), .int .i64 0]) ∧ Below w.heap.size w w' := by
        intro f hfc
        have := hG.2 (cb := cb) (o := 0) (n := 4096) (c := capc) (at_ := evalO ops a) (s := s) (l := (List.range' (evalO ops a) s).map f) hs hal (by omega) (by decide) w (by simp) (fun x hx => by
          simp only [List.mem_map, List.mem_range'_1] at hx
          obtain ⟨i, hi, rfl⟩ := hx
          exact (hfc i (by omega)).1) (fun j x hj => by
          rw [List.getElem?_map, Option.map_eq_some_iff] at hj
          obtain ⟨i, hi, rfl⟩ := hj
          have hj : j < s := by
            have := (List.getElem?_eq_some_iff.1 hi).1
            simpa using this
          rw [List.getElem?_range' (by exact hj)] at hi
          simp only [Option.some.injEq] at hi
          have hi : evalO ops a + j = i := by omega
          rw [show 0 + (evalO ops a + j) = i by omega]
          exact (hfc i (by omega)).2)
        rw [leNat_leF] at this
        exact this
      split at hr
      · rename_i r0 ro hgb
        cases hz : zeroRow r0 with
        | false => rw [hz] at hr; cases hr
        | true =>
          rw [hz] at hr; simp only [cnd_true, Option.some.injEq] at hr
          subst hr
          refine (run (fun _ => 0) (fun i hi => ⟨by decide, (page_of rep hgb e1).1 _ _ rfl hz i hi⟩)).mono ?_
          rintro e w' ⟨rfl, hb⟩
          rw [leF_zero]
          exact ⟨_, ι, rfl, ⟨_, rfl, rfl, rfl, trivial⟩, post_below rep hb⟩
      · rename_i zz p hgb
        simp only [Option.some.injEq] at hr
        subst hr
        obtain ⟨f, f1, f2⟩ := (page_of rep hgb e1).2 _ _ rfl
        refine (run f (fun i hi => ⟨f1.lt i hi, f2 i hi⟩)).mono ?_
        rintro e w' ⟨rfl, hb⟩
        exact ⟨_, ι, rfl, ⟨_, rfl, ⟨f, c0, a, f1, q1, rfl⟩, rfl, trivial⟩, post_below rep hb⟩
      · cases hr
  · cases hr

theorem putRg_ok {P : Program} {g : FuncId} (hG : PutOk P g) {args : List AV} {h h' : Heap} {v : AV} (hr : putRA args h = some (v, h')) :
    Enters P g ∧ h.next ≤ h'.next ∧ ∀ ι w (as : Array Value), Rep ι w h → ARs ι args as.toList → Free ι h.next h'.next → Calls P g as w fun e w' => ∃ V ι', e = .returned V ∧ AVR ι' v V ∧ Post ι h h' w w' ι' := by
  unfold putRA at hr
  split at hr
  · rename_i b o n cap z ex k id ops lo hi m r s iv lo2 hi2 m2 r2
    cases hcd : okPl k n z o hi m r s with
    | false => rw [hcd] at hr; cases hr
    | true =>
      rw [hcd] at hr; simp only [cnd_true] at hr
      unfold okPl at hcd
      simp only [Bool.and_eq_true] at hcd
      obtain ⟨c1, c2, c3, c4, c5, c6, c7, c8⟩ := hcd
      obtain rfl := keq_iff.1 c1
      obtain rfl := Nat.eq_of_beq_eq_true c2
      obtain rfl := Nat.eq_of_beq_eq_true c3
      obtain rfl := Nat.eq_of_beq_eq_true c4
      have hs := szOk_iff c5
      have hms : m % s = 0 := Nat.eq_of_beq_eq_true c6
      have hrs : r % s = 0 := Nat.eq_of_beq_eq_true c7
      have hhi : hi + s ≤ 4096 := Nat.le_of_ble_eq_true c8
      have main : ∀ zz p, (∀ ι w cb N, Rep ι w h → ι b = some (cb, N) → ∃ f, BY ι zz p f ∧ ∀ i, i < 4096 → w.cell? ⟨cb, i, none⟩ = some (.int .u8 (f i : Nat))) →
          (v, h') = (.tu [.sc (.sl h.next 0 4096 4096 1 false), .sc (.i .i64 0)], h.push (.by zz ((id, ops, s, iv) :: p))) →
          Enters P g ∧ h.next ≤ h'.next ∧ ∀ ι w (as : Array Value), Rep ι w h → ARs ι [.cv (.sc (.sl b 0 4096 cap 1 ex)), .cv (.sc (.rg .i64 id ops lo hi m r)), .cv (.sc (.i .i64 (.ofNat s))), .cv (.sc (.rg .u64 iv [] lo2 hi2 m2 r2))] as.toList → Free ι h.next h'.next →
            Calls P g as w fun e w' => ∃ V ι', e = .returned V ∧ AVR ι' v V ∧ Post ι h h' w w' ι' := by
        intro zz p hpg he
        simp only [Prod.mk.injEq] at he
        obtain ⟨rfl, rfl⟩ := he
        refine ⟨hG.1, Nat.le_succ _, fun ι w aa rep has hf => ?_⟩
        obtain ⟨aa⟩ := aa
        obtain ⟨a1, a2, a3, a4, rfl⟩ : ∃ a1 a2 a3 a4, aa = [a1, a2, a3, a4] := by
          match aa, has with
          | [a1, a2, a3, a4], _ => exact ⟨a1, a2, a3, a4, rfl⟩
          | [], h => exact h.elim
          | [_], h => exact h.2.elim
          | [_, _], h => exact h.2.2.elim
          | [_, _, _], h => exact h.2.2.2.elim
          | _ :: _ :: _ :: _ :: _ :: _, h => exact h.2.2.2.2.elim
        obtain ⟨h1, h2, h3, h4, -⟩ := has
        obtain ⟨cb, N, o', capc, e1, rfl, k0, k1, k2⟩ := (show VR ι (.sl b 0 4096 cap 1 ex) a1 from h1)
        obtain ⟨c0, a, q1, rfl, q2, q3, q4⟩ := (show VR ι (.rg .i64 id ops lo hi m r) a2 from h2)
        obtain rfl : a3 = .int .i64 (s : Int) := h3
        obtain ⟨c9, vv, t1, rfl, -⟩ := (show VR ι (.rg .u64 iv [] lo2 hi2 m2 r2) a4 from h4)
        obtain rfl : o' = 0 := by
          cases ex with
          | true => exact (k1 rfl).1
          | false => exact ((k2 rfl).2.1).resolve_left (by omega)
        have hal : evalO ops a % s = 0 := by
          rw [← Nat.mod_mod_of_dvd (evalO ops a) (Nat.dvd_of_mod_eq_zero hms), q4]; exact hrs
        obtain ⟨f, f1, f2⟩ := hpg ι w cb N rep e1
        refine (hG.2 (cb := cb) (c := capc) (at_ := evalO ops a) (s := s) (v := evalO [] vv) (f := f) hs hal (by omega) w (fun i hi => ⟨f1.lt i hi, f2 i hi⟩)).mono ?_
        rintro e w' ⟨nb, capn, cs, el, rfl, g1, g2, g3, g4, g5, g6, g7, hbl⟩
        have hsub : Sub ι (fun y => if y = h.next then some (nb, cs.size) else ι y) := by
          intro y p hy
          by_cases eb : y = h.next
          · subst eb; rw [hf h.next (Nat.le_refl _) (Nat.lt_succ_self _)] at hy; cases hy
          · simp only [if_neg eb]; exact hy
        have hOR : OR (fun y => if y = h.next then some (nb, cs.size) else ι y) (.by zz ((id, ops, s, iv) :: p)) nb cs.size w' :=
          ⟨cs, el, (0, 0), _, g1, rfl, by omega, rfl, ⟨f, c0, a, c9, vv, f1.mono hsub, hsub _ _ q1, hsub _ _ t1, rfl⟩, g5⟩
        exact ⟨_, _, rfl, ⟨_, rfl, ⟨nb, cs.size, 0, capn, by simp, rfl, Nat.le_refl _, fun hh => (by cases hh), fun _ => ⟨g2, .inr rfl, by omega, g4⟩⟩, rfl, trivial⟩,
          Post.pushAt _ nb cs.size rep hf (fun c hc => hbl.block c hc) g6 g7 hbl.size hbl.tape hbl.os hbl.output hOR⟩
      split at hr
      · rename_i r0 ro hgb
        cases hz : zeroRow r0 with
        | false => rw [hz] at hr; cases hr
        | true =>
          rw [hz] at hr; simp only [cnd_true, Option.some.injEq] at hr
          exact main true [] (fun ι w cb N rep hi => ⟨fun _ => 0, fun _ => rfl, fun i hi' => (page_of rep hgb hi).1 _ _ rfl hz i hi'⟩) hr.symm
      · rename_i zz p hgb
        simp only [Option.some.injEq] at hr
        exact main zz p (fun ι w cb N rep hi => (page_of rep hgb hi).2 _ _ rfl) hr.symm
      · cases hr
  · cases hr

theorem ovRg_ok {P : Program} {g q : FuncId} (hG : GetOk P g) (hQ : PutOk P q) : OvOk P (ovRg g q) := by
  intro call hc f args h v h' hr
  unfold ovRg at hr
  cases hb : Nat.beq f g with
  | true =>
    rw [hb] at hr; simp only [cnd_true] at hr
    obtain rfl := Nat.eq_of_beq_eq_true hb
    split at hr
    · rename_i u hu
      simp only [CRes.ok.injEq] at hr
      obtain ⟨rfl, rfl⟩ := hr
      exact getRg_ok hG hu
    · exact hc f args h v h' hr
  | false =>
    rw [hb] at hr; simp only [cnd_false] at hr
    cases hb2 : Nat.beq f q with
    | false => rw [hb2] at hr; exact hc f args h v h' hr
    | true =>
      rw [hb2] at hr; simp only [cnd_true] at hr
      obtain rfl := Nat.eq_of_beq_eq_true hb2
      split at hr
      · rename_i u h0 hu
        simp only [CRes.ok.injEq] at hr
        obtain ⟨rfl, rfl⟩ := hr
        exact putRg_ok hQ hu
      · exact hc f args h v h' hr
end Go.Proofs.YtmjogmpgamlhaaaGreat.Dm
