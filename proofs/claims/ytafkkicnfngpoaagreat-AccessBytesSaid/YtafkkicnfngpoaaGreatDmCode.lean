/- Running code. -/
import Derived.Test.YtafkkicnfngpoaaGreatDmRun
import Derived.ScopeJumps
set_option linter.unusedVariables false
set_option linter.unusedSimpArgs false
set_option linter.unusedSectionVars false
namespace Go.Proofs.YtafkkicnfngpoaaGreat.Dm
open Go

noncomputable def Aft (ι : Io) (h : Heap) (w : World) (ds : List Deferred) (fr' : Fr) (h' : Heap) (a' : Act) (w' : World) : Prop :=
  ∃ ι', FrR ι' fr' a'.tmps ∧ a'.defers = ds ∧ Post ι h h' w w' ι'

noncomputable def RQ (ι : Io) (h : Heap) (w : World) (ds : List Deferred) (r : Res) (e : Exit) (a' : Act) (w' : World) : Prop :=
  match r with
  | .nrm fr' h' => e = .normal ∧ Aft ι h w ds fr' h' a' w'
  | .exit id fr' h' => e = .exit id ∧ Aft ι h w ds fr' h' a' w'
  | .goto l fr' h' => e = .goto l ∧ Aft ι h w ds fr' h' a' w'
  | .ret fr' h' => e = .ret ∧ Aft ι h w ds fr' h' a' w'
  | .bad _ => False

/-- The heap that a good end leaves has so many names; the start at least. -/
noncomputable def Res.next (r : Res) (n : Nat) : Nat :=
  match r with
  | .nrm _ h => h.next
  | .exit _ _ h => h.next
  | .goto _ _ h => h.next
  | .ret _ h => h.next
  | .bad _ => n
noncomputable def Res.good : Res → Bool
  | .bad _ => false
  | _ => true

theorem Aft.trans {ι ι1 : Io} {h h1 : Heap} {w w1 : World} {ds : List Deferred} {fr' : Fr} {h' : Heap} {a' : Act} {w' : World} (p : Post ι h h1 w w1 ι1) (q : Aft ι1 h1 w1 ds fr' h' a' w') :
    Aft ι h w ds fr' h' a' w' := by
  obtain ⟨ι', a, b, c⟩ := q
  exact ⟨ι', a, b, p.trans c⟩

theorem RQ.trans {ι ι1 : Io} {h h1 : Heap} {w w1 : World} {ds : List Deferred} {r : Res} {e : Exit} {a' : Act} {w' : World} (p : Post ι h h1 w w1 ι1) (q : RQ ι1 h1 w1 ds r e a' w') :
    RQ ι h w ds r e a' w' := by
  cases r <;> first | exact ⟨q.1, q.2.trans p⟩ | exact ⟨q.1, Aft.trans p q.2⟩ | exact q

theorem put_nrm {fr : Fr} {d : Option Tmp} {v : AV} {h : Heap} {why : Nat} {r : Res} (hr : put? fr d v h why = r) (hg : r.good = true) : ∃ fr' h', r = .nrm fr' h' := by
  cases d with
  | none => exact ⟨fr, h, hr.symm⟩
  | some d =>
    simp only [put?] at hr
    cases hp : fr.put d v with
    | some fr2 => rw [hp] at hr; exact ⟨fr2, h, hr.symm⟩
    | none => rw [hp] at hr; subst hr; cases hg

theorem runOp_nrm {ty : Ty} {call : CallK} {dstOf : Nat → Option Tmp} {o : Oper} {fr : Fr} {h : Heap} {r : Res} (hr : runOp ty call dstOf o fr h = r) (hg : r.good = true) : ∃ fr' h', r = .nrm fr' h' := by
  unfold runOp at hr
  split at hr
  · subst hr; cases hg
  · exact put_nrm hr hg
  · split at hr
    · exact put_nrm hr hg
    · split at hr
      · exact put_nrm hr hg
      · split at hr
        · exact put_nrm hr hg
        · split at hr
          · split at hr
            · split at hr
              · exact put_nrm hr hg
              · subst hr; cases hg
            · subst hr; cases hg
          · subst hr; cases hg

theorem runOps_nrm {ty : Ty} {call : CallK} {dstOf : Nat → Option Tmp} : ∀ {l : List Oper} {fr : Fr} {h : Heap} {r : Res}, runOps ty call dstOf l fr h = r → r.good = true → ∃ fr' h', r = .nrm fr' h'
  | [], fr, h, r, hr, hg => ⟨fr, h, hr.symm⟩
  | o :: l, fr, h, r, hr, hg => by
    simp only [runOps] at hr
    split at hr
    · exact runOps_nrm hr hg
    · exact runOp_nrm hr hg

section
variable {P : Program} {ty : Ty} (hty : TyOk P ty) {call : CallK} (hcall : CallOk P call) {ops : Array Oper} {Q : Exit → Act → World → Prop}
include hty hcall

theorem runOps_next : ∀ {l : List Oper} {fr fr' : Fr} {h h' : Heap} {dstOf : Nat → Option Tmp}, runOps ty call dstOf l fr h = .nrm fr' h' → h.next ≤ h'.next
  | [], fr, fr', h, h', dstOf, hr => by simp only [runOps, Res.nrm.injEq] at hr; rw [hr.2]; exact Nat.le_refl _
  | o :: l, fr, fr', h, h', dstOf, hr => by
    simp only [runOps] at hr
    split at hr
    · rename_i fr1 h1 h2
      exact Nat.le_trans (runOp_next hcall h2) (runOps_next hr)
    · rename_i r hn
      exact absurd hr (hn fr' h')

theorem runOps_sound : ∀ (l : List Oper) (i : Nat) (fr fr' : Fr) (h h' : Heap) (ι : Io) (a : Act) (w : World), ops.toList.drop i = l →
    runOps ty call (fun j => (ops.toList[j]?).bind (·.dst)) l fr h = .nrm fr' h' → FrR ι fr a.tmps → Rep ι w h → Free ι h.next h'.next →
    (∀ ι' a' w', FrR ι' fr' a'.tmps → a'.defers = a.defers → Post ι h h' w w' ι' → Q .normal a' w') → wpOps P ops Q (List.range' i l.length) a w
  | [], i, fr, fr', h, h', ι, a, w, hl, hr, hfr, rep, hf, hK => by
    simp only [runOps, Res.nrm.injEq] at hr
    obtain ⟨rfl, rfl⟩ := hr
    exact hK ι a w hfr rfl (Post.refl rep)
  | o :: l, i, fr, fr', h, h', ι, a, w, hl, hr, hfr, rep, hf, hK => by
    simp only [runOps] at hr
    split at hr
    · rename_i fr1 h1 h2
      have n1 := runOp_next hcall h2
      have n2 := runOps_next hty hcall hr
      have ho : ops[i]? = some o := by
        rw [← Array.getElem?_toList]
        have : (ops.toList.drop i)[0]? = some o := by rw [hl]; rfl
        simpa using this
      have hl' : ops.toList.drop (i + 1) = l := by
        have : (ops.toList.drop i).drop 1 = l := by rw [hl]; rfl
        simpa [List.drop_drop] using this
      rw [List.length_cons, List.range'_succ, wpOps_cons]
      unfold wpOp
      rw [ho]
      simp only []
      exact runOp_sound hty hcall h2 hfr rep (hf.mono n2) (fun ι1 a1 w1 g1 g2 g3 =>
        runOps_sound l (i + 1) fr1 fr' h1 h' ι1 a1 w1 hl' hr g1 g3.rep (g3.free hf) (fun ι' a' w' k1 k2 k3 => hK ι' a' w' k1 (k2.trans g2) (g3.trans k3)))
    · rename_i r hn
      exact absurd hr (hn fr' h')
end

/-- A run of a piece of code is the model's. -/
noncomputable def KOk (P : Program) (k : K) : Prop := ∀ c fr h r, k c fr h = r → r.good = true → h.next ≤ r.next h.next ∧
  ∀ ι a w, FrR ι fr a.tmps → Rep ι w h → Free ι h.next (r.next h.next) → c.wp P (RQ ι h w a.defers r) a w ∧
    ∀ b0, c = .loop b0 → ∀ (b : Frame) (k : List Item) (cs : List Frame), ∃ e a' w', RQ ι h w a.defers r e a' w' ∧ Arrives P (lone (b.at a (.inLoop b0 :: k)) cs w) b k cs e a' w'

noncomputable def ScOk (P : Program) (sc : Code → K) : Prop := ∀ whole c fr h r, sc whole c fr h = r → r.good = true → h.next ≤ r.next h.next ∧
  ∀ ι a w, FrR ι fr a.tmps → Rep ι w h → Free ι h.next (r.next h.next) →
    ∀ (b : Frame) (k : List Item) (cs : List Frame), ∃ e a' w', RQ ι h w a.defers r e a' w' ∧ Arrives P (lone (b.at a (.code c :: .inScope whole :: k)) cs w) b k cs e a' w'

/-- Regions whose order is drawn. -/
noncomputable def DrOk (P : Program) (ty : Ty) (call : CallK) (dr : Array Oper → Fr → Heap → Res) : Prop := (∀ ops fr h r, dr ops fr h = r → r.good = true → ∃ fr' h', r = .nrm fr' h') ∧ ∀ id ops fr h fr' h', dr ops fr h = .nrm fr' h' → h.next ≤ h'.next ∧
  ∀ ι a w, FrR ι fr a.tmps → Rep ι w h → Free ι h.next h'.next → (Code.region id ops true).wp P (RQ ι h w a.defers (.nrm fr' h')) a w

theorem not_loop {P : Program} {Q : Exit → Act → World → Prop} {a : Act} {w : World} {c : Code} (h : ∀ b, c ≠ .loop b) :
    ∀ b0, c = .loop b0 → ∀ (b : Frame) (k : List Item) (cs : List Frame), ∃ e a' w', Q e a' w' ∧ Arrives P (lone (b.at a (.inLoop b0 :: k)) cs w) b k cs e a' w' :=
  fun b0 e => absurd e (h b0)

theorem cond_rel {ι : Io} {fr : Fr} {a : Act} (h : FrR ι fr a.tmps) {x : Operand} {t : Bool} (hx : evS fr.ev x = some (.b t)) : a.eval x = .bool t := evS_rel h.env hx

section
variable {P : Program} {ty : Ty} (hty : TyOk P ty) {call : CallK} (hcall : CallOk P call) {dr : Array Oper → Fr → Heap → Res} (hdr : DrOk P ty call dr)
  {ih : K} (hk : KOk P ih) {sc : Code → K} (hsc : ScOk P sc)
include hty hcall hdr hk hsc

theorem seq_next {x y : Code} {fr : Fr} {h : Heap} {r : Res} (hr : (match ih x fr h with | .nrm fr h => ih y fr h | r => r) = r) (hg : r.good = true) : h.next ≤ r.next h.next := by
  split at hr
  · rename_i fr1 h1 h2
    have n1 := (hk x fr h _ h2 rfl).1
    have n2 := (hk y fr1 h1 r hr hg).1
    cases r <;> first | exact Nat.le_trans n1 n2 | (cases hg)
  · rename_i hn
    exact (hk x fr h r hr hg).1

/-- One piece behind another one. -/
theorem seq_sound {x y : Code} {fr : Fr} {h : Heap} {r : Res} (hr : (match ih x fr h with | .nrm fr h => ih y fr h | r => r) = r) (hg : r.good = true)
    {ι : Io} {a : Act} {w : World} (hfr : FrR ι fr a.tmps) (rep : Rep ι w h) (hf : Free ι h.next (r.next h.next)) {K : Act → World → Prop}
    (hK : ∀ fr1 h1 ι1 a1 w1, ih y fr1 h1 = r → h1.next ≤ r.next h.next → FrR ι1 fr1 a1.tmps → a1.defers = a.defers → Post ι h h1 w w1 ι1 → Free ι1 h1.next (r.next h.next) → K a1 w1) :
    x.wp P (Exit.then K (RQ ι h w a.defers r)) a w := by
  split at hr
  · rename_i fr1 h1 h2
    have n2 := (hk y fr1 h1 r hr hg).1
    have n2' : h1.next ≤ r.next h.next := by cases r <;> first | exact n2 | (cases hg)
    obtain ⟨n1, hx⟩ := hk x fr h _ h2 rfl
    obtain ⟨hw, _⟩ := hx ι a w hfr rep (hf.mono n2')
    refine wp_mono hw ?_
    rintro e a' w' ⟨rfl, ι', g1, g2, g3⟩
    exact hK fr1 h1 ι' a' w' hr n2' g1 g2 g3 (g3.free hf)
  · rename_i hn
    obtain ⟨n1, hx⟩ := hk x fr h r hr hg
    obtain ⟨hw, _⟩ := hx ι a w hfr rep hf
    refine wp_mono hw ?_
    intro e a' w' hq
    cases e with
    | normal =>
      cases r with
      | nrm fr' h' => exact absurd hr (hn fr' h')
      | _ => simp only [RQ, reduceCtorEq, false_and] at hq
    | _ => exact hq

theorem step_sound : KOk P (step ty call dr ih sc) := by
  intro c fr h r hr hg
  cases c with
  | skip =>
    subst hr
    exact ⟨Nat.le_refl _, fun ι a w hfr rep hf => ⟨wp_skip ⟨rfl, ι, hfr, rfl, Post.refl rep⟩, not_loop (by simp)⟩⟩
  | label l =>
    subst hr
    exact ⟨Nat.le_refl _, fun ι a w hfr rep hf => ⟨wp_label ⟨rfl, ι, hfr, rfl, Post.refl rep⟩, not_loop (by simp)⟩⟩
  | exit id =>
    subst hr
    exact ⟨Nat.le_refl _, fun ι a w hfr rep hf => ⟨wp_exit ⟨rfl, ι, hfr, rfl, Post.refl rep⟩, not_loop (by simp)⟩⟩
  | goto l =>
    subst hr
    exact ⟨Nat.le_refl _, fun ι a w hfr rep hf => ⟨wp_goto ⟨rfl, ι, hfr, rfl, Post.refl rep⟩, not_loop (by simp)⟩⟩
  | ret =>
    subst hr
    exact ⟨Nat.le_refl _, fun ι a w hfr rep hf => ⟨wp_ret ⟨rfl, ι, hfr, rfl, Post.refl rep⟩, not_loop (by simp)⟩⟩
  | region id ops d =>
    cases d with
    | true =>
      have hr' : dr ops fr h = r := hr
      obtain ⟨fr', h', rfl⟩ := hdr.1 ops fr h r hr' hg
      obtain ⟨n1, h2⟩ := hdr.2 id ops fr h fr' h' hr'
      exact ⟨n1, fun ι a w hfr rep hf => ⟨h2 ι a w hfr rep hf, not_loop (by simp)⟩⟩
    | false =>
      have hr' : runOps ty call (fun j => (ops.toList[j]?).bind (·.dst)) ops.toList fr h = r := hr
      obtain ⟨fr', h', rfl⟩ := runOps_nrm hr' hg
      refine ⟨runOps_next hty hcall hr', fun ι a w hfr rep hf => ⟨wp_region ?_, not_loop (by simp)⟩⟩
      have := runOps_sound (Q := RQ ι h w a.defers (.nrm fr' h')) hty hcall ops.toList 0 fr fr' h h' ι a w (by simp) hr' hfr rep hf (fun ι' a' w' g1 g2 g3 => ⟨rfl, ι', g1, g2, g3⟩)
      rw [List.range_eq_range']; simpa using this
  | seq x y =>
    have hr' : (match ih x fr h with | .nrm fr h => ih y fr h | r => r) = r := hr
    refine ⟨seq_next hty hcall hdr hk hsc hr' hg, fun ι a w hfr rep hf => ⟨wp_seq ?_, not_loop (by simp)⟩⟩
    exact seq_sound hty hcall hdr hk hsc hr' hg hfr rep hf (fun fr1 h1 ι1 a1 w1 k1 k2 k3 k4 k5 k6 => by
      have k6' : Free ι1 h1.next (r.next h1.next) := by cases r <;> first | exact k6 | (cases hg)
      have := ((hk y fr1 h1 r k1 hg).2 ι1 a1 w1 k3 k5.rep k6').1
      rw [k4] at this
      exact wp_mono this (fun e a' w' hq => hq.trans k5))
  | cond x t e =>
    have hr' : (match evS fr.ev x with | some (.b b) => cnd b (ih t fr h) (ih e fr h) | _ => .bad 10) = r := hr
    split at hr'
    · rename_i b hx
      cases b with
      | true =>
        obtain ⟨n1, h2⟩ := hk t fr h r hr' hg
        exact ⟨n1, fun ι a w hfr rep hf => ⟨wp_cond_true (cond_rel hfr hx) (h2 ι a w hfr rep hf).1, not_loop (by simp)⟩⟩
      | false =>
        obtain ⟨n1, h2⟩ := hk e fr h r hr' hg
        exact ⟨n1, fun ι a w hfr rep hf => ⟨wp_cond_false (cond_rel hfr hx) (h2 ι a w hfr rep hf).1, not_loop (by simp)⟩⟩
    · subst hr'; cases hg
  | block id b =>
    have hr' : exitOf id (ih b fr h) = r := hr
    cases hb : ih b fr h with
    | nrm fr' h' =>
      rw [hb] at hr'; have hr' : Res.nrm fr' h' = r := hr'; subst hr'
      obtain ⟨n1, h2⟩ := hk b fr h _ hb rfl
      refine ⟨n1, fun ι a w hfr rep hf => ⟨wp_block (wp_mono (h2 ι a w hfr rep hf).1 ?_), not_loop (by simp)⟩⟩
      rintro e a' w' ⟨rfl, hq⟩; exact ⟨rfl, hq⟩
    | exit id' fr' h' =>
      rw [hb] at hr'
      have hr' : cnd (Nat.beq id' id) (Res.nrm fr' h') (Res.exit id' fr' h') = r := hr'
      obtain ⟨n1, h2⟩ := hk b fr h _ hb rfl
      cases hid : Nat.beq id' id with
      | true =>
        rw [hid] at hr'; have hr' : Res.nrm fr' h' = r := hr'; subst hr'
        refine ⟨n1, fun ι a w hfr rep hf => ⟨wp_block (wp_mono (h2 ι a w hfr rep hf).1 ?_), not_loop (by simp)⟩⟩
        rintro e a' w' ⟨rfl, hq⟩
        simp only [Exit.inBlock, Nat.eq_of_beq_eq_true hid, if_true]
        exact ⟨rfl, hq⟩
      | false =>
        rw [hid] at hr'; have hr' : Res.exit id' fr' h' = r := hr'; subst hr'
        refine ⟨n1, fun ι a w hfr rep hf => ⟨wp_block (wp_mono (h2 ι a w hfr rep hf).1 ?_), not_loop (by simp)⟩⟩
        rintro e a' w' ⟨rfl, hq⟩
        simp only [Exit.inBlock, Nat.ne_of_beq_eq_false hid, if_false]
        exact ⟨rfl, hq⟩
    | goto l fr' h' =>
      rw [hb] at hr'; have hr' : Res.goto l fr' h' = r := hr'; subst hr'
      obtain ⟨n1, h2⟩ := hk b fr h _ hb rfl
      refine ⟨n1, fun ι a w hfr rep hf => ⟨wp_block (wp_mono (h2 ι a w hfr rep hf).1 ?_), not_loop (by simp)⟩⟩
      rintro e a' w' ⟨rfl, hq⟩; exact ⟨rfl, hq⟩
    | ret fr' h' =>
      rw [hb] at hr'; have hr' : Res.ret fr' h' = r := hr'; subst hr'
      obtain ⟨n1, h2⟩ := hk b fr h _ hb rfl
      refine ⟨n1, fun ι a w hfr rep hf => ⟨wp_block (wp_mono (h2 ι a w hfr rep hf).1 ?_), not_loop (by simp)⟩⟩
      rintro e a' w' ⟨rfl, hq⟩; exact ⟨rfl, hq⟩
    | bad n => rw [hb] at hr'; have hr' : Res.bad n = r := hr'; subst hr'; cases hg
  | loop b =>
    have hr' : (match ih b fr h with | .nrm fr h => ih (.loop b) fr h | r => r) = r := hr
    refine ⟨seq_next hty hcall hdr hk hsc hr' hg, fun ι a w hfr rep hf => ?_⟩
    -- from the body's start on
    have body : ∀ (b0 : Frame) (k : List Item) (cs : List Frame), ∃ e a' w', RQ ι h w a.defers r e a' w' ∧ Arrives P (lone (b0.at a (.code b :: .inLoop b :: k)) cs w) b0 k cs e a' w' := by
      intro b0 k cs
      have hs := seq_sound hty hcall hdr hk hsc hr' hg hfr rep hf (K := fun a1 w1 => ∀ (b0 : Frame) (k : List Item) (cs : List Frame), ∃ e a' w', RQ ι h w a.defers r e a' w' ∧ Arrives P (lone (b0.at a1 (.inLoop b :: k)) cs w1) b0 k cs e a' w')
        (fun fr1 h1 ι1 a1 w1 k1 k2 k3 k4 k5 k6 => by
          have k6' : Free ι1 h1.next (r.next h1.next) := by cases r <;> first | exact k6 | (cases hg)
          have := ((hk (.loop b) fr1 h1 r k1 hg).2 ι1 a1 w1 k3 k5.rep k6').2 b rfl
          rw [k4] at this
          intro b0 k cs
          obtain ⟨e, a', w', q1, q2⟩ := this b0 k cs
          exact ⟨e, a', w', q1.trans k5, q2⟩)
      obtain ⟨e, a1, w1, hq, harr⟩ := hs b0 (.inLoop b :: k) cs
      cases e with
      | normal =>
        obtain ⟨e2, a2, w2, q2, harr2⟩ := hq b0 k cs
        exact ⟨e2, a2, w2, q2, .of_steps harr harr2⟩
      | exit id => exact ⟨_, a1, w1, hq, .pass (x := .inLoop b) rfl (fun _ _ => .inl (by simp)) harr⟩
      | goto l => exact ⟨_, a1, w1, hq, .pass (x := .inLoop b) rfl (fun _ _ => .inl (by simp)) harr⟩
      | ret => exact ⟨_, a1, w1, hq, .pass (x := .inLoop b) rfl (fun _ _ => .inl (by simp)) harr⟩
      | panic ch => exact ⟨_, a1, w1, hq, .pass (x := .inLoop b) rfl (fun _ _ => .inl (by simp)) harr⟩
      | outgrown => exact ⟨_, a1, w1, hq, .pass (x := .inLoop b) rfl (fun _ _ => .inl (by simp)) harr⟩
    refine ⟨fun b0 k cs => ?_, fun b1 e1 b0 k cs => ?_⟩
    · obtain ⟨e, a', w', q, harr⟩ := body b0 k cs
      exact ⟨e, a', w', q, .of_steps (.one step_loop) harr⟩
    · obtain rfl : b = b1 := by simpa using e1
      obtain ⟨e, a', w', q, harr⟩ := body b0 k cs
      exact ⟨e, a', w', q, .of_steps (.one step_inLoop) harr⟩
  | scope b =>
    have hr' : sc b b fr h = r := hr
    obtain ⟨n1, h2⟩ := hsc b b fr h r hr' hg
    refine ⟨n1, fun ι a w hfr rep hf => ⟨fun b0 k cs => ?_, not_loop (by simp)⟩⟩
    obtain ⟨e, a', w', q, harr⟩ := h2 ι a w hfr rep hf b0 k cs
    exact ⟨e, a', w', q, .of_steps (.one step_scope) harr⟩
  | rangeFunc f ps as bd =>
    have hr' : Res.bad 11 = r := hr
    subst hr'; cases hg
  | refuse s =>
    have hr' : Res.bad 11 = r := hr
    subst hr'; cases hg

end
end Go.Proofs.YtafkkicnfngpoaaGreat.Dm
