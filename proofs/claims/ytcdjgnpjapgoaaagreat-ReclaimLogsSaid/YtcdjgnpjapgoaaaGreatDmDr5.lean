/- Regions whose order is drawn: what the evaluator does, and that it is right. -/
import Derived.Test.YtcdjgnpjapgoaaaGreatDmDr3
set_option linter.unusedVariables false
set_option linter.unusedSimpArgs false
set_option linter.unusedSectionVars false
namespace Go.Proofs.YtcdjgnpjapgoaaaGreat.Dm
open Go

theorem adds_spec {Bi p : Nat} : ∀ {l : List (Nat × Nat × Nat × AO)} {t : Tr AO} {b : Nat} {x : AO}, (adds Bi p l t).get b = some x →
    t.get b = some x ∨ ∃ j s, (j, s, b, x) ∈ l ∧ bit Bi j = true ∧ p ≤ s
  | [], t, b, x, h => .inl h
  | (j, s, id, ob) :: l, t, b, x, h => by
    have rest : (adds Bi p l t).get b = some x → t.get b = some x ∨ ∃ j' s', (j', s', b, x) ∈ (j, s, id, ob) :: l ∧ bit Bi j' = true ∧ p ≤ s' := fun h => by
      rcases adds_spec h with h | ⟨j', s', h1, h2⟩
      · exact .inl h
      · exact .inr ⟨j', s', List.mem_cons_of_mem _ h1, h2⟩
    simp only [adds] at h
    cases hc : (bit Bi j && Nat.ble p s) with
    | false => rw [hc] at h; exact rest h
    | true =>
      rw [hc] at h; simp only [cnd_true] at h
      rw [Tr.get_put] at h
      by_cases e : b = id
      · rw [if_pos e] at h; simp only [Option.some.injEq] at h
        simp only [Bool.and_eq_true] at hc
        subst e; subst h
        exact .inr ⟨j, s, List.mem_cons_self, hc.1, Nat.le_of_ble_eq_true hc.2⟩
      · rw [if_neg e] at h; exact rest h

theorem loD_spec {Bi : Nat} : ∀ {l : List Nat} {k : Nat}, 0 < loD Bi l k → ∃ q e, l[q]? = some e ∧ bit Bi e = true ∧ loD Bi l k = k - q
  | [], k, h => by simp [loD] at h
  | e :: l, k, h => by
    simp only [loD] at h ⊢
    cases hb : bit Bi e with
    | true => exact ⟨0, e, rfl, hb, by simp⟩
    | false =>
      rw [hb] at h; simp only [cnd_false] at h ⊢
      obtain ⟨q, e', h1, h2, h3⟩ := loD_spec h
      refine ⟨q + 1, e', by simpa using h1, h2, ?_⟩
      rw [h3, Nat.pred_eq_sub_one]; omega

theorem rechk_spec {f : Nat → Option AV} {v : AV} : ∀ {n p : Nat}, rechk f v n p = true → ∀ q, p ≤ q → q < p + n → f q = some v
  | 0, p, _, q, h1, h2 => by omega
  | n + 1, p, h, q, h1, h2 => by
    simp only [rechk] at h
    split at h
    · rename_i u hu
      simp only [Bool.and_eq_true] at h
      by_cases e : q = p
      · subst e; rw [hu, aveq_eq h.1]
      · exact rechk_spec h.2 q (by omega) (by omega)
    · cases h

section
variable {ty : Ty} {call : CallK} {ops : Array Oper} {B W : Tr Nat} {fr : Fr} {h0 : Heap} {S S' : Ds} (g : Good ty call ops B W fr h0 S)
include g

/-- The slots as the run sees them are those of the plan behind it. -/
theorem Good.env {i : Nat} {pl : Plan} (hfr : pl.fr = fr) (hwr : pl.wr = W.get) (hbf : pl.before = fun i j => bit (nat0 (B.get i)) j) (hB : ∀ j, bit (nat0 (B.get i)) j = true → bit S.M j = true)
    (hv : ∀ j, bit S.M j = true → pl.val j = (S.vals.get j).getD (.tu [])) : envD B W fr S.vals (nat0 (B.get i)) i = pl.env i := by
  funext x
  cases x with
  | tmp t =>
    simp only [envD, Plan.env, hfr, hwr, hbf]
    cases W.get t with
    | none => rfl
    | some j =>
      simp only []
      cases hb : bit (nat0 (B.get i)) j with
      | true =>
        obtain ⟨v, h⟩ := g.msk j (hB j hb)
        simp only [cnd_true]
        rw [hv j (hB j hb), h]; rfl
      | false => rfl
  | _ => rfl

theorem Good.wants {i : Nat} {o : Oper} {b : Bool} {pl : Plan} (hbf : pl.before = fun i j => bit (nat0 (B.get i)) j) (hB : ∀ j, bit (nat0 (B.get i)) j = true → bit S.M j = true)
    (hv : ∀ j, bit S.M j = true → pl.val j = (S.vals.get j).getD (.tu [])) (hw : wantD ops.toList S.vals (nat0 (B.get i)) o.guard = some b) : pl.wants ops i o b := by
  unfold Plan.wants
  cases hg : o.guard with
  | none => rw [hg] at hw; simp only [wantD, Option.some.injEq] at hw; exact hw.symm
  | some q =>
    obtain ⟨j, want⟩ := q
    rw [hg] at hw
    simp only [wantD] at hw
    cases hb : bit (nat0 (B.get i)) j with
    | false => rw [hb] at hw; cases hw
    | true =>
      rw [hb] at hw; simp only [cnd_true] at hw
      split at hw
      · rename_i oj hoj
        split at hw
        · rename_i d hd
          split at hw
          · rename_i x hx
            simp only [Option.some.injEq] at hw
            refine ⟨by rw [hbf]; exact hb, oj, d, x, by rw [← Array.getElem?_toList]; exact hoj, hd, by rw [hv j (hB j hb), hx]; rfl, ?_⟩
            rw [← hw, beqB_eq]
          · cases hw
        · cases hw
      · cases hw

theorem Good.stepQ {i : Nat} {o : Oper} (hi : ops[i]? = some o) (hs : stepQ ty ops.toList B W fr S (nat0 (B.get i)) i o = some S') : Good ty call ops B W fr h0 S' := by
  unfold Dm.stepQ at hs
  cases hc : (Nat.beq (Nat.land (nat0 (B.get i)) S.M) (nat0 (B.get i)) && !(bit S.M i)) with
  | false => rw [hc] at hs; cases hs
  | true =>
    rw [hc] at hs; simp only [cnd_true] at hs
    simp only [Bool.and_eq_true, Bool.not_eq_true'] at hc
    obtain ⟨hc1, hM⟩ := hc
    have hB : ∀ j, bit (nat0 (B.get i)) j = true → bit S.M j = true := fun j hj => bit_sub hc1 hj
    have hne : ∀ j, bit S.M j = true → j ≠ i := fun j hj e => by subst e; rw [hM] at hj; cases hj
    have hv : ∀ (v : AV) (x : Option (Nat × AO)) (als : List (Nat × Nat × Nat × AO)) (cur : Heap) j, bit S.M j = true → (planD B W fr h0 (S.quiet i v x als cur)).val j = (S.vals.get j).getD (.tu []) := by
      intro v x als cur j hj
      show ((S.vals.put (some v) i).get j).getD _ = _
      rw [Tr.get_put, if_neg (hne j hj)]
    have hvi : ∀ (v : AV) (x : Option (Nat × AO)) (als : List (Nat × Nat × Nat × AO)) (cur : Heap), (planD B W fr h0 (S.quiet i v x als cur)).val i = v := by
      intro v x als cur
      show ((S.vals.put (some v) i).get i).getD _ = _
      rw [Tr.get_put, if_pos rfl]; rfl
    have hst : ∀ (v : AV) (x : Option (Nat × AO)) (als : List (Nat × Nat × Nat × AO)) (cur : Heap), (planD B W fr h0 (S.quiet i v x als cur)).st i = S.k := by
      intro v x als cur
      show nat0 ((S.st.put (some S.k) i).get i) = _
      rw [Tr.get_put, if_pos rfl]; rfl
    have hal : ∀ (v : AV) (x : Option (Nat × AO)) (als : List (Nat × Nat × Nat × AO)) (cur : Heap), (planD B W fr h0 (S.quiet i v x als cur)).al i = x := by
      intro v x als cur
      show (S.al.put x i).get i = _
      rw [Tr.get_put, if_pos rfl]
    have stage : ∀ (v : AV) (x : Option (Nat × AO)) (als : List (Nat × Nat × Nat × AO)) (cur : Heap) {R : Prop}, R →
        (planD B W fr h0 (S.quiet i v x als cur)).st i ≤ (planD B W fr h0 (S.quiet i v x als cur)).m ∧
        ((planD B W fr h0 (S.quiet i v x als cur)).st i < (planD B W fr h0 (S.quiet i v x als cur)).m → (planD B W fr h0 (S.quiet i v x als cur)).before ((planD B W fr h0 (S.quiet i v x als cur)).ev ((planD B W fr h0 (S.quiet i v x als cur)).st i)) i = true) ∧ R := by
      intro v x als cur R hR
      rw [hst]
      exact ⟨Nat.le_refl _, fun h => absurd h (Nat.lt_irrefl _), hR⟩
    split at hs
    · rename_i hw
      -- it runs
      have hwt : ∀ (v : AV) (x : Option (Nat × AO)) (als : List (Nat × Nat × Nat × AO)) (cur : Heap), (planD B W fr h0 (S.quiet i v x als cur)).wants ops i o true := fun v x als cur =>
        g.wants rfl hB (hv v x als cur) hw
      have henv : ∀ (v : AV) (x : Option (Nat × AO)) (als : List (Nat × Nat × Nat × AO)) (cur : Heap), envD B W fr S.vals (nat0 (B.get i)) i = (planD B W fr h0 (S.quiet i v x als cur)).env i := fun v x als cur =>
        g.env rfl rfl rfl hB (hv v x als cur)
      unfold quietVal at hs
      split at hs
      · rename_i v hq
        cases hr : rechk (valAt ty S (envD B W fr S.vals (nat0 (B.get i)) i) (nat0 (B.get i)) o.op) v (Nat.sub S.k (loD (nat0 (B.get i)) S.evl S.k)) (loD (nat0 (B.get i)) S.evl S.k) with
        | false => rw [hr] at hs; cases hs
        | true =>
          rw [hr] at hs; simp only [cnd_true, Option.some.injEq] at hs; subst hs
          refine g.put hi hM hB (.inl ⟨rfl, rfl, rfl⟩) (stage _ _ _ _ (.inr (.inl ⟨hwt _ _ _ _, hal _ _ _ _, loD (nat0 (B.get i)) S.evl S.k, fun hl => ?_, fun p p1 p2 => ?_⟩)))
          · obtain ⟨q, e, h1, h2, h3⟩ := loD_spec hl
            obtain ⟨k1, k2⟩ := g.evl q e h1
            rw [h3]
            refine ⟨by show S.k - q - 1 < S.k; omega, ?_⟩
            have : (planD B W fr h0 (S.quiet i v none S.als S.cur)).ev (S.k - q - 1) = e := by
              rw [← k2, show S.k - q - 1 = S.k - 1 - q by omega]; rfl
            show bit (nat0 (B.get i)) ((planD B W fr h0 (S.quiet i v none S.als S.cur)).ev (S.k - q - 1)) = true
            rw [this]; exact h2
          · rw [hst] at p2
            rw [hvi, ← henv]
            have hsub : ∀ (h : Heap), (planD B W fr h0 (S.quiet i v none S.als S.cur)).H p = h → ∀ b x, (Heap.mk 0 (adds (nat0 (B.get i)) p S.als h.t)).get b = some x →
                ((planD B W fr h0 (S.quiet i v none S.als S.cur)).H p).get b = some x ∨ ∃ j, (planD B W fr h0 (S.quiet i v none S.als S.cur)).before i j = true ∧ p ≤ (planD B W fr h0 (S.quiet i v none S.als S.cur)).st j ∧ (planD B W fr h0 (S.quiet i v none S.als S.cur)).al j = some (b, x) := by
              intro h hh b x hx
              rw [hh]
              rcases adds_spec hx with hx | ⟨j, s, j1, j2, j3⟩
              · exact .inl hx
              · obtain ⟨a1, a2, a3⟩ := g.als j s b x j1
                refine .inr ⟨j, j2, ?_, ?_⟩
                · show p ≤ nat0 ((S.st.put (some S.k) i).get j)
                  rw [Tr.get_put, if_neg (hne j a1), a2]; exact j3
                · show (S.al.put none i).get j = _
                  rw [Tr.get_put, if_neg (hne j a1)]; exact a3
            by_cases e : p = S.k
            · subst e
              have hH : (planD B W fr h0 (S.quiet i v none S.als S.cur)).H S.k = S.H := by
                show (S.Hs.get S.k).getD Heap.nil = S.H
                rw [g.hk]; rfl
              exact ⟨_, hsub S.H hH, hq⟩
            · have hf := rechk_spec hr p p1 (by show p < _ + (S.k - _); omega)
              unfold valAt at hf
              split at hf
              · rename_i h hh
                have hH : (planD B W fr h0 (S.quiet i v none S.als S.cur)).H p = h := by
                  show (S.Hs.get p).getD Heap.nil = h
                  rw [hh]; rfl
                exact ⟨_, hsub h hH, hf⟩
              · cases hf
      · split at hs
        · rename_i ob f ha
          simp only [Option.some.injEq] at hs; subst hs
          refine g.put hi hM hB (.inr ⟨ob, rfl, rfl, rfl⟩) (stage _ _ _ _ (.inr (.inr ⟨hwt _ _ _ _, S.cur.next, ob, f, hal _ _ _ _, ?_, hvi _ _ _ _⟩)))
          rw [← henv]; exact ha
        · cases hs
    · rename_i hw
      simp only [Option.some.injEq] at hs; subst hs
      exact g.put hi hM hB (.inl ⟨rfl, rfl, rfl⟩) (stage _ _ _ _ (.inl ⟨g.wants rfl hB (hv _ _ _ _) hw, hvi _ _ _ _, hal _ _ _ _⟩))
    · cases hs

omit g in
theorem Good.runQ : ∀ {l : List Nat} {S S' : Ds}, Good ty call ops B W fr h0 S → runQ ty ops.toList B W fr l S = some S' → Good ty call ops B W fr h0 S'
  | [], S, S', g, h => by simp only [Dm.runQ, Option.some.injEq] at h; subst h; exact g
  | i :: l, S, S', g, h => by
    simp only [Dm.runQ] at h
    split at h
    · rename_i o ho
      split at h
      · rename_i S1 h1
        exact Good.runQ (g.stepQ (by rw [← Array.getElem?_toList]; exact ho) h1) h
      · cases h
    · cases h

theorem Good.stepE {P : Program} (hcall : CallOk P call) {i : Nat} {o : Oper} (hi : ops[i]? = some o) (hs : stepE ty call ops.toList B W fr S (nat0 (B.get i)) i o = some S') : Good ty call ops B W fr h0 S' := by
  unfold Dm.stepE at hs
  cases hc : (Nat.beq S.M (nat0 (B.get i)) && !(bit S.M i)) with
  | false => rw [hc] at hs; cases hs
  | true =>
    rw [hc] at hs; simp only [cnd_true] at hs
    simp only [Bool.and_eq_true, Bool.not_eq_true'] at hc
    obtain ⟨hc1, hM⟩ := hc
    have hMB : S.M = nat0 (B.get i) := Nat.eq_of_beq_eq_true hc1
    have hB : ∀ j, bit (nat0 (B.get i)) j = true → bit S.M j = true := fun j hj => by rw [hMB]; exact hj
    have hne : ∀ j, bit S.M j = true → j ≠ i := fun j hj e => by subst e; rw [hM] at hj; cases hj
    have hv : ∀ (v : AV) (h : Heap) j, bit S.M j = true → (planD B W fr h0 (S.eff i v h)).val j = (S.vals.get j).getD (.tu []) := by
      intro v h j hj
      show ((S.vals.put (some v) i).get j).getD _ = _
      rw [Tr.get_put, if_neg (hne j hj)]
    have hvi : ∀ (v : AV) (h : Heap), (planD B W fr h0 (S.eff i v h)).val i = v := by
      intro v h
      show ((S.vals.put (some v) i).get i).getD _ = _
      rw [Tr.get_put, if_pos rfl]; rfl
    have hev : ∀ (v : AV) (h : Heap), (planD B W fr h0 (S.eff i v h)).ev S.k = i := by
      intro v h
      show nat0 ((S.evs.put (some i) S.k).get S.k) = i
      rw [Tr.get_put, if_pos rfl]; rfl
    have hH : ∀ (v : AV) (h : Heap), (planD B W fr h0 (S.eff i v h)).H (S.k + 1) = h := by
      intro v h
      show ((S.Hs.put (some h) (Nat.succ S.k)).get (S.k + 1)).getD _ = h
      rw [Tr.get_put, if_pos rfl]; rfl
    have hHp : ∀ (v : AV) (h : Heap), (planD B W fr h0 (S.eff i v h)).Hp S.k = S.cur := by
      intro v h
      show (if S.k = Nat.succ S.k then h else ((S.Hps.put (some S.cur) S.k).get S.k).getD _) = S.cur
      rw [if_neg (by omega), Tr.get_put, if_pos rfl]; rfl
    split at hs
    · rename_i hw
      have hwt : ∀ (v : AV) (h : Heap), (planD B W fr h0 (S.eff i v h)).wants ops i o true := fun v h => g.wants rfl hB (hv v h) hw
      have henv : ∀ (v : AV) (h : Heap), envD B W fr S.vals (nat0 (B.get i)) i = (planD B W fr h0 (S.eff i v h)).env i := fun v h => g.env rfl rfl rfl hB (hv v h)
      unfold effVal at hs
      split at hs
      · rename_i v h he
        simp only [Option.some.injEq] at hs; subst hs
        refine g.eff hi hM hMB (eop_next he) ⟨o, by rw [hev]; exact hi, .inr ⟨by rw [hev]; exact hwt _ _, .inl ?_⟩⟩
        rw [hev, hHp, hH, hvi, ← henv]; exact he
      · split at hs
        · rename_i c ho
          split at hs
          · rename_i f args hca
            split at hs
            · rename_i v h hcr
              simp only [Option.some.injEq] at hs; subst hs
              refine g.eff hi hM hMB (hcall _ _ _ _ _ hcr).2.1 ⟨o, by rw [hev]; exact hi, .inr ⟨by rw [hev]; exact hwt _ _, .inr ⟨c, f, args, ho, ?_, ?_⟩⟩⟩
              · rw [hev, ← henv]; exact hca
              · rw [hev, hHp, hH, hvi]; exact hcr
            · cases hs
          · cases hs
        · cases hs
    · rename_i hw
      simp only [Option.some.injEq] at hs; subst hs
      refine g.eff hi hM hMB (Nat.le_refl _) ⟨o, by rw [hev]; exact hi, .inl ⟨by rw [hev]; exact g.wants rfl hB (hv _ _) hw, by rw [hev]; exact hvi _ _, by rw [hH, hHp]⟩⟩
    · cases hs

omit g in
theorem Good.runE {P : Program} (hcall : CallOk P call) : ∀ {l : List (List Nat × Nat)} {S S' : Ds}, Good ty call ops B W fr h0 S → runE ty call ops.toList B W fr l S = some S' → Good ty call ops B W fr h0 S'
  | [], S, S', g, h => by simp only [Dm.runE, Option.some.injEq] at h; subst h; exact g
  | (l, e) :: r, S, S', g, h => by
    simp only [Dm.runE] at h
    split at h
    · rename_i S1 h1
      have g1 := Good.runQ g h1
      split at h
      · rename_i o ho
        split at h
        · rename_i S2 h2
          exact Good.runE hcall (g1.stepE hcall (by rw [← Array.getElem?_toList]; exact ho) h2) h
        · cases h
      · cases h
    · cases h
end
end Go.Proofs.YtcdjgnpjapgoaaaGreat.Dm

namespace Go.Proofs.YtcdjgnpjapgoaaaGreat.Dm
open Go

/-- Operations that change memory. -/
noncomputable def isEff (op : Op) : Bool :=
  match op with
  | .store .. => true
  | .mapUpdate .. => true
  | .mapEntry .. => true
  | .entryStore .. => true
  | .range .. => true
  | .next .. => true
  | .call c => match c.callee with
    | .builtin b => match b with
      | .append => true
      | .copy => true
      | .delete => true
      | .clear => true
      | _ => false
    | _ => true
  | _ => false

noncomputable def effs : List Oper → Nat → List Nat
  | [], _ => []
  | o :: l, i => cnd (isEff o.op) (i :: effs l (Nat.succ i)) (effs l (Nat.succ i))
noncomputable def pickQ (m : Nat) : List Oper → Nat → List Nat
  | [], _ => []
  | o :: l, i => cnd (bit m i && !(isEff o.op)) (i :: pickQ m l (Nat.succ i)) (pickQ m l (Nat.succ i))
noncomputable def stagesD (ops : List Oper) (B : Tr Nat) : List Nat → Nat → List (List Nat × Nat)
  | [], _ => []
  | e :: r, M => (pickQ (Nat.xor (Nat.lor (nat0 (B.get e)) M) M) ops 0, e) :: stagesD ops B r (setBit (nat0 (B.get e)) e)

noncomputable def drawEnd (S : Ds) (ops : List Oper) (fr : Fr) : Res :=
  cnd (Nat.beq S.M (Nat.sub (Nat.pow 2 ops.length) 1))
    (match finish S.vals ops 0 fr with
    | some fr => .nrm fr S.cur
    | none => .bad 31) (.bad 32)

noncomputable def drawRun (ty : Ty) (call : CallK) (ops : List Oper) (B W : Tr Nat) (fr : Fr) (h : Heap) : Res :=
  cnd (chkOps B W ops 0)
    (match runE ty call ops B W fr (stagesD ops B (effs ops 0) 0) (Ds.start h) with
    | some S => match runQ ty ops B W fr (pickQ (Nat.xor (Nat.sub (Nat.pow 2 ops.length) 1) S.M) ops 0) S with
      | some S => drawEnd S ops fr
      | none => .bad 33
    | none => .bad 34) (.bad 35)

noncomputable def drawA (ty : Ty) (call : CallK) (ops : Array Oper) (fr : Fr) (h : Heap) : Res :=
  drawRun ty call ops.toList (mkB ops.toList 0 .e) (mkW ops.toList 0 .e) fr h

theorem finish_spec {vals : Tr AV} : ∀ {l : List Oper} {i : Nat} {fr fr' : Fr}, finish vals l i fr = some fr' → fr'.n = fr.n ∧
    (∀ (j : Nat) (o : Oper) (d : Tmp), l[j]? = some o → o.dst = some d → d < fr.n) ∧
    ∀ t v, fr'.t.get t = some v → (∃ (j : Nat) (o : Oper), l[j]? = some o ∧ o.dst = some t ∧ vals.get (i + j) = some v) ∨ ((∀ (j : Nat) (o : Oper), l[j]? = some o → o.dst ≠ some t) ∧ fr.t.get t = some v)
  | [], i, fr, fr', h => by
    simp only [finish, Option.some.injEq] at h; subst h
    exact ⟨rfl, fun j o d hj => by simp at hj, fun t v hv => .inr ⟨fun j o hj => by simp at hj, hv⟩⟩
  | o :: l, i, fr, fr', h => by
    simp only [finish] at h
    split at h
    · rename_i u hu
      split at h
      · rename_i hd
        obtain ⟨h1, h2, h3⟩ := finish_spec h
        refine ⟨h1, fun j o' d hj hd' => ?_, fun t v hv => ?_⟩
        · cases j with
          | zero => simp at hj; subst hj; rw [hd] at hd'; cases hd'
          | succ j => exact h2 j o' d (by simpa using hj) hd'
        · rcases h3 t v hv with ⟨j, o', a, b, c⟩ | ⟨a, b⟩
          · exact .inl ⟨j + 1, o', by simpa using a, b, by rwa [Nat.succ_add_eq_add_succ] at c⟩
          · refine .inr ⟨fun j o' hj => ?_, b⟩
            cases j with
            | zero => simp at hj; subst hj; rw [hd]; simp
            | succ j => exact a j o' (by simpa using hj)
      · rename_i d hd
        split at h
        · rename_i fr2 hp
          obtain ⟨h1, h2, h3⟩ := finish_spec h
          rw [Fr.put_eq] at hp
          cases hb : Nat.blt d fr.n with
          | false => rw [hb] at hp; cases hp
          | true =>
            rw [hb] at hp; simp only [cnd_true, Option.some.injEq] at hp; subst hp
            refine ⟨h1, fun j o' d' hj hd' => ?_, fun t v hv => ?_⟩
            · cases j with
              | zero => simp at hj; subst hj; rw [hd] at hd'; simp only [Option.some.injEq] at hd'; subst hd'; exact Nat.le_of_ble_eq_true hb
              | succ j => exact h2 j o' d' (by simpa using hj) hd'
            · rcases h3 t v hv with ⟨j, o', a, b, c⟩ | ⟨a, b⟩
              · exact .inl ⟨j + 1, o', by simpa using a, b, by rwa [Nat.succ_add_eq_add_succ] at c⟩
              · have b : (fr.t.put (some u) d).get t = some v := b
                rw [Tr.get_put] at b
                by_cases e : t = d
                · subst e
                  rw [if_pos rfl] at b; simp only [Option.some.injEq] at b; subst b
                  exact .inl ⟨0, o, rfl, hd, hu⟩
                · rw [if_neg e] at b
                  refine .inr ⟨fun j o' hj => ?_, b⟩
                  cases j with
                  | zero => simp at hj; subst hj; rw [hd]; simpa using Ne.symm e
                  | succ j => exact a j o' (by simpa using hj)
        · cases h
    · cases h

theorem full_bit {n i : Nat} (h : i < n) : bit (Nat.sub (Nat.pow 2 n) 1) i = true := by
  rw [bit_eq]
  show (2 ^ n - 1).testBit i = true
  rw [Nat.testBit_two_pow_sub_one]; simpa using h

theorem drawA_plan {P : Program} {ty : Ty} {call : CallK} (hcall : CallOk P call) {ops : Array Oper} {fr fr' : Fr} {h h' : Heap} (hr : drawA ty call ops fr h = .nrm fr' h') :
    ∃ pl, PlanOk ty call ops pl ∧ pl.fr = fr ∧ pl.h0 = h ∧ h' = pl.Hp pl.m ∧ fr'.n = pl.fr.n ∧
      ∀ t v, fr'.t.get t = some v → (∃ j, pl.wr t = some j ∧ v = pl.val j) ∨ (pl.wr t = none ∧ pl.fr.t.get t = some v) := by
  unfold drawA drawRun at hr
  cases hc : chkOps (mkB ops.toList 0 .e) (mkW ops.toList 0 .e) ops.toList 0 with
  | false => rw [hc] at hr; cases hr
  | true =>
    rw [hc] at hr; simp only [cnd_true] at hr
    generalize hB : mkB ops.toList 0 .e = B at hr hc
    generalize hW : mkW ops.toList 0 .e = W at hr hc
    split at hr
    · rename_i S1 h1
      split at hr
      · rename_i S h2
        have g : Good ty call ops B W fr h S := Good.runQ (Good.runE hcall Good.start h1) h2
        unfold drawEnd at hr
        cases hf : Nat.beq S.M (Nat.sub (Nat.pow 2 ops.toList.length) 1) with
        | false => rw [hf] at hr; cases hr
        | true =>
          rw [hf] at hr; simp only [cnd_true] at hr
          have hM := Nat.eq_of_beq_eq_true hf
          split at hr
          · rename_i fr2 hfin
            simp only [Res.nrm.injEq] at hr
            obtain ⟨rfl, rfl⟩ := hr
            obtain ⟨f1, f2, f3⟩ := finish_spec hfin
            have hop : ∀ (i : Nat) (o : Oper), ops[i]? = some o → chkOp B W i o = true := fun i o ho => by
              have := chkOps_spec hc i o (by rw [Array.getElem?_toList]; exact ho)
              rwa [Nat.zero_add] at this
            have hall : ∀ (i : Nat) (o : Oper), ops[i]? = some o → bit S.M i = true := fun i o ho => by
              rw [hM]
              exact full_bit (by rw [Array.length_toList]; exact (Array.getElem?_eq_some_iff.1 ho).1)
            have wr1 : ∀ (i : Nat) (o : Oper) (d : Tmp), ops[i]? = some o → o.dst = some d → W.get d = some i := fun i o d ho hd => by
              have := hop i o ho
              simp only [chkOp, Bool.and_eq_true, hd] at this
              have := this.2
              split at this
              · rename_i j hj; rw [hj, Nat.eq_of_beq_eq_true this]
              · cases this
            have wr2 : ∀ (i : Nat) (d : Tmp), W.get d = some i → ∃ o : Oper, ops[i]? = some o ∧ o.dst = some d := fun i d hd => by
              rw [← hW] at hd
              rcases mkW_get hd with h | ⟨k, o, k1, k2, k3⟩
              · cases h
              · rw [Nat.zero_add] at k3; subst k3
                exact ⟨o, by rw [← Array.getElem?_toList]; exact k1, k2⟩
            refine ⟨planD B W fr h S, ?_, rfl, rfl, ?_, f1, fun t v hv => ?_⟩
            · refine { start := ?_, edge := fun i o ho e he hb => ?_, bef := fun D hD i o ho hpre j hj => before_spec hc hD i o ho hpre j hj, wr1 := fun i o d ho hd => ⟨wr1 i o d ho hd, ?_⟩, wr2 := wr2,
                       chain := g.chain, evi := g.evi, alE := g.alE, alO := fun i x hx => g.idx i (g.alM i x hx), alS := fun i id ob hx => ?_, alI := g.alI,
                       quiet := fun i o ho hq => g.quiet i o ho (hall i o ho) hq, effect := g.effect, hp := fun k hk => ?_ }
              · show (S.Hs.get 0).getD Heap.nil = h
                rw [g.hz]; rfl
              · have := hop i o ho
                simp only [chkOp, Bool.and_eq_true] at this
                exact edge_lt this.1.1 e (by simpa using he) hb
              · exact f2 i o d (by rw [Array.getElem?_toList]; exact ho) hd
              · obtain ⟨a, b, c, _⟩ := g.alS i id ob hx
                exact ⟨a, b, c⟩
              · obtain ⟨a, b⟩ := g.hp k hk
                refine ⟨a, fun x y hx => (b x y hx).imp id ?_⟩
                rintro ⟨i, _, i2, i3⟩
                exact ⟨i, i2, i3⟩
            · show S.cur = (if S.k = S.k then S.cur else _)
              rw [if_pos rfl]
            · rcases f3 t v hv with ⟨j, o, j1, j2, j3⟩ | ⟨a, b⟩
              · refine .inl ⟨j, wr1 j o t (by rw [← Array.getElem?_toList]; exact j1) j2, ?_⟩
                show v = (S.vals.get j).getD _
                rw [Nat.zero_add] at j3; rw [j3]; rfl
              · refine .inr ⟨?_, b⟩
                show W.get t = none
                cases hw : W.get t with
                | none => rfl
                | some j =>
                  obtain ⟨o, o1, o2⟩ := wr2 j t hw
                  exact absurd o2 (a j o (by rw [Array.getElem?_toList]; exact o1))
          · cases hr
      · cases hr
    · cases hr

theorem drawA_nrm {ty : Ty} {call : CallK} {ops : Array Oper} {fr : Fr} {h : Heap} {r : Res} (hr : drawA ty call ops fr h = r) (hg : r.good = true) : ∃ fr' h', r = .nrm fr' h' := by
  unfold drawA drawRun drawEnd at hr
  simp only [cnd_eq_ite] at hr
  repeat' split at hr
  all_goals first
    | (subst hr; cases hg; done)
    | exact ⟨_, _, hr.symm⟩

theorem draw_ok {P : Program} {ty : Ty} (hty : TyOk P ty) (hm : P.follows .mixedOrders = true) {call : CallK} (hcall : CallOk P call) : DrOk P ty call (drawA ty call) := by
  refine ⟨fun ops fr h r hr hg => drawA_nrm hr hg, fun id ops fr h fr' h' hr => ?_⟩
  obtain ⟨pl, ok, rfl, rfl, hh, hn, ht⟩ := drawA_plan hcall hr
  refine ⟨?_, fun ι a w hfr rep hf => ok.region hty hcall hm hfr rep hh hn ht hf id⟩
  rw [hh, ← ok.start]
  exact Nat.le_trans (PlanOk.mono hty hcall ok _ _ (Nat.zero_le _) (Nat.le_refl _)) (ok.hp _ (Nat.le_refl _)).1

/-- The evaluator with all regions: its calls are the model's. -/
theorem calls_ok {P : Program} {ty : Ty} (hty : TyOk P ty) (hm : P.follows .mixedOrders = true) {fs : Fns} (hfs : FnsOk P fs) {ov : CallK → CallK} (hov : OvOk P ov) (n : Nat) :
    CallOk P (ks ty fs (drawA ty) ov n).c :=
  (ks_sound hty hfs (fun call hcall => draw_ok hty hm hcall) hov n).2.2

end Go.Proofs.YtcdjgnpjapgoaaaGreat.Dm
