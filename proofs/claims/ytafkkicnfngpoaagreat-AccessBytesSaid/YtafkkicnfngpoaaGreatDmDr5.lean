/- Regions whose order is drawn: the run, and what it tells. -/
import Derived.Test.YtafkkicnfngpoaaGreatDmDr4
set_option linter.unusedVariables false
set_option linter.unusedSimpArgs false
set_option linter.unusedSectionVars false
namespace Go.Proofs.YtafkkicnfngpoaaGreat.Dm
open Go

theorem adds_spec {Bi p : Nat} : ∀ {l : List (Nat × Nat × Nat × AO)} {t : Tr AO} {b : Nat} {x : AO}, (adds Bi p l t).get b = some x →
    t.get b = some x ∨ ∃ j s, (j, s, b, x) ∈ l ∧ bit Bi j = true ∧ p ≤ s
  | [], t, b, x, h => .inl h
  | (j, s, id, ob) :: l, t, b, x, h => by
    have rest : (adds Bi p l t).get b = some x → t.get b = some x ∨ ∃ j' s', (j', s', b, x) ∈ (j, s, id, ob) :: l ∧ bit Bi j' = true ∧ p ≤ s' := fun h => by
      rcases adds_spec h with h | ⟨j', s', h1, h2⟩
      · exact .inl h
      · exact .inr ⟨j', s', List.mem_cons_of_mem _ h1, h2⟩
    simp only [adds] at h
    cases hc : (bit Bi j && Nat.ble p s) with
    | false => rw [hc] at h; exact rest h
    | true =>
      rw [hc] at h; simp only [cnd_true] at h
      rw [Tr.get_put] at h
      by_cases e : b = id
      · rw [if_pos e] at h; simp only [Option.some.injEq] at h
        simp only [Bool.and_eq_true] at hc
        subst e; subst h
        exact .inr ⟨j, s, List.mem_cons_self, hc.1, Nat.le_of_ble_eq_true hc.2⟩
      · rw [if_neg e] at h; exact rest h

theorem loD_spec {Bi : Nat} : ∀ {l : List Nat} {k : Nat}, 0 < loD Bi l k → ∃ q e, l[q]? = some e ∧ bit Bi e = true ∧ loD Bi l k = k - q
  | [], k, h => by simp [loD] at h
  | e :: l, k, h => by
    simp only [loD] at h ⊢
    cases hb : bit Bi e with
    | true => exact ⟨0, e, rfl, hb, by simp⟩
    | false =>
      rw [hb] at h; simp only [cnd_false] at h ⊢
      obtain ⟨q, e', h1, h2, h3⟩ := loD_spec h
      refine ⟨q + 1, e', by simpa using h1, h2, ?_⟩
      rw [h3, Nat.pred_eq_sub_one]; omega

theorem rechk_spec {f : Nat → Option AV} {v : AV} : ∀ {n p : Nat}, rechk f v n p = true → ∀ q, p ≤ q → q < p + n → f q = some v
  | 0, p, _, q, h1, h2 => by omega
  | n + 1, p, h, q, h1, h2 => by
    simp only [rechk] at h
    split at h
    · rename_i u hu
      simp only [Bool.and_eq_true] at h
      by_cases e : q = p
      · subst e; rw [hu, aveq_eq h.1]
      · exact rechk_spec h.2 q (by omega) (by omega)
    · cases h

section
variable {ty : Ty} {call : CallK} {ops : Array Oper} {B W : Tr Nat} {fr : Fr} {h0 : Heap} {S S' : Ds} (g : Good ty call ops B W fr h0 S)
include g

/-- The slots as the run sees them are those of the plan behind it. -/
theorem Good.env {i : Nat} {pl : Plan} (hfr : pl.fr = fr) (hwr : pl.wr = W.get) (hbf : pl.before = fun i j => bit (nat0 (B.get i)) j) (hB : ∀ j, bit (nat0 (B.get i)) j = true → bit S.M j = true)
    (hv : ∀ j, bit S.M j = true → pl.val j = (S.vals.get j).getD (.tu [])) : envD B W fr S.vals (nat0 (B.get i)) i = pl.env i := by
  funext x
  cases x with
  | tmp t =>
    simp only [envD, Plan.env, hfr, hwr, hbf]
    cases W.get t with
    | none => rfl
    | some j =>
      simp only []
      cases hb : bit (nat0 (B.get i)) j with
      | true =>
        obtain ⟨v, h⟩ := g.msk j (hB j hb)
        simp only [cnd_true]
        rw [hv j (hB j hb), h]; rfl
      | false => rfl
  | _ => rfl

theorem Good.wants {i : Nat} {o : Oper} {b : Bool} {pl : Plan} (hbf : pl.before = fun i j => bit (nat0 (B.get i)) j) (hB : ∀ j, bit (nat0 (B.get i)) j = true → bit S.M j = true)
    (hv : ∀ j, bit S.M j = true → pl.val j = (S.vals.get j).getD (.tu [])) (hw : wantD ops.toList S.vals (nat0 (B.get i)) o.guard = some b) : pl.wants ops i o b := by
  unfold Plan.wants
  cases hg : o.guard with
  | none => rw [hg] at hw; simp only [wantD, Option.some.injEq] at hw; exact hw.symm
  | some q =>
    obtain ⟨j, want⟩ := q
    rw [hg] at hw
    simp only [wantD] at hw
    cases hb : bit (nat0 (B.get i)) j with
    | false => rw [hb] at hw; cases hw
    | true =>
      rw [hb] at hw; simp only [cnd_true] at hw
      split at hw
      · rename_i oj hoj
        split at hw
        · rename_i d hd
          split at hw
          · rename_i x hx
            simp only [Option.some.injEq] at hw
            refine ⟨by rw [hbf]; exact hb, oj, d, x, by rw [← Array.getElem?_toList]; exact hoj, hd, by rw [hv j (hB j hb), hx]; rfl, ?_⟩
            rw [← hw, beqB_eq]
          · cases hw
        · cases hw
      · cases hw

theorem Good.stepQ {i : Nat} {o : Oper} (hi : ops[i]? = some o) (hs : stepQ ty ops.toList B W fr S (nat0 (B.get i)) i o = some S') : Good ty call ops B W fr h0 S' := by
  unfold Dm.stepQ at hs
  cases hc : (Nat.beq (Nat.land (nat0 (B.get i)) S.M) (nat0 (B.get i)) && !(bit S.M i)) with
  | false => rw [hc] at hs; cases hs
  | true =>
    rw [hc] at hs; simp only [cnd_true] at hs
    simp only [Bool.and_eq_true, Bool.not_eq_true'] at hc
    obtain ⟨hc1, hM⟩ := hc
    have hB : ∀ j, bit (nat0 (B.get i)) j = true → bit S.M j = true := fun j hj => bit_sub hc1 hj
    have hne : ∀ j, bit S.M j = true → j ≠ i := fun j hj e => by subst e; rw [hM] at hj; cases hj
    have hv : ∀ (v : AV) (x : Option (Nat × AO)) (als : List (Nat × Nat × Nat × AO)) (cur : Heap) j, bit S.M j = true → (planD B W fr h0 (S.quiet i v x als cur)).val j = (S.vals.get j).getD (.tu []) := by
      intro v x als cur j hj
      show ((S.vals.put (some v) i).get j).getD _ = _
      rw [Tr.get_put, if_neg (hne j hj)]
    have hvi : ∀ (v : AV) (x : Option (Nat × AO)) (als : List (Nat × Nat × Nat × AO)) (cur : Heap), (planD B W fr h0 (S.quiet i v x als cur)).val i = v := by
      intro v x als cur
      show ((S.vals.put (some v) i).get i).getD _ = _
      rw [Tr.get_put, if_pos rfl]; rfl
    have hst : ∀ (v : AV) (x : Option (Nat × AO)) (als : List (Nat × Nat × Nat × AO)) (cur : Heap), (planD B W fr h0 (S.quiet i v x als cur)).st i = S.k := by
      intro v x als cur
      show nat0 ((S.st.put (some S.k) i).get i) = _
      rw [Tr.get_put, if_pos rfl]; rfl
    have hal : ∀ (v : AV) (x : Option (Nat × AO)) (als : List (Nat × Nat × Nat × AO)) (cur : Heap), (planD B W fr h0 (S.quiet i v x als cur)).al i = x := by
      intro v x als cur
      show (S.al.put x i).get i = _
      rw [Tr.get_put, if_pos rfl]
    have stage : ∀ (v : AV) (x : Option (Nat × AO)) (als : List (Nat × Nat × Nat × AO)) (cur : Heap) {R : Prop}, R →
        (planD B W fr h0 (S.quiet i v x als cur)).st i ≤ (planD B W fr h0 (S.quiet i v x als cur)).m ∧
        ((planD B W fr h0 (S.quiet i v x als cur)).st i < (planD B W fr h0 (S.quiet i v x als cur)).m → (planD B W fr h0 (S.quiet i v x als cur)).before ((planD B W fr h0 (S.quiet i v x als cur)).ev ((planD B W fr h0 (S.quiet i v x als cur)).st i)) i = true) ∧ R := by
      intro v x als cur R hR
      rw [hst]
      exact ⟨Nat.le_refl _, fun h => absurd h (Nat.lt_irrefl _), hR⟩
    split at hs
    · rename_i hw
      -- it runs
      have hwt : ∀ (v : AV) (x : Option (Nat × AO)) (als : List (Nat × Nat × Nat × AO)) (cur : Heap), (planD B W fr h0 (S.quiet i v x als cur)).wants ops i o true := fun v x als cur =>
        g.wants rfl hB (hv v x als cur) hw
      have henv : ∀ (v : AV) (x : Option (Nat × AO)) (als : List (Nat × Nat × Nat × AO)) (cur : Heap), envD B W fr S.vals (nat0 (B.get i)) i = (planD B W fr h0 (S.quiet i v x als cur)).env i := fun v x als cur =>
        g.env rfl rfl rfl hB (hv v x als cur)
      unfold quietVal at hs
      split at hs
      · rename_i v hq
        cases hr : rechk (valAt ty S (envD B W fr S.vals (nat0 (B.get i)) i) (nat0 (B.get i)) o.op) v (Nat.sub S.k (loD (nat0 (B.get i)) S.evl S.k)) (loD (nat0 (B.get i)) S.evl S.k) with
        | false => rw [hr] at hs; cases hs
        | true =>
          rw [hr] at hs; simp only [cnd_true, Option.some.injEq] at hs; subst hs
          refine g.put hi hM hB (.inl ⟨rfl, rfl, rfl⟩) (stage _ _ _ _ (.inr (.inl ⟨hwt _ _ _ _, hal _ _ _ _, loD (nat0 (B.get i)) S.evl S.k, fun hl => ?_, fun p p1 p2 => ?_⟩)))
          · obtain ⟨q, e, h1, h2, h3⟩ := loD_spec hl
            obtain ⟨k1, k2⟩ := g.evl q e h1
            rw [h3]
            refine ⟨by show S.k - q - 1 < S.k; omega, ?_⟩
            have : (planD B W fr h0 (S.quiet i v none S.als S.cur)).ev (S.k - q - 1) = e := by
              rw [← k2, show S.k - q - 1 = S.k - 1 - q by omega]; rfl
            show bit (nat0 (B.get i)) ((planD B W fr h0 (S.quiet i v none S.als S.cur)).ev (S.k - q - 1)) = true
            rw [this]; exact h2
          · rw [hst] at p2
            rw [hvi, ← henv]
            have hsub : ∀ (h : Heap), (planD B W fr h0 (S.quiet i v none S.als S.cur)).H p = h → ∀ b x, (Heap.mk 0 (adds (nat0 (B.get i)) p S.als h.t)).get b = some x →
                ((planD B W fr h0 (S.quiet i v none S.als S.cur)).H p).get b = some x ∨ ∃ j, (planD B W fr h0 (S.quiet i v none S.als S.cur)).before i j = true ∧ p ≤ (planD B W fr h0 (S.quiet i v none S.als S.cur)).st j ∧ (planD B W fr h0 (S.quiet i v none S.als S.cur)).al j = some (b, x) := by
              intro h hh b x hx
              rw [hh]
              rcases adds_spec hx with hx | ⟨j, s, j1, j2, j3⟩
              · exact .inl hx
              · obtain ⟨a1, a2, a3⟩ := g.als j s b x j1
                refine .inr ⟨j, j2, ?_, ?_⟩
                · show p ≤ nat0 ((S.st.put (some S.k) i).get j)
                  rw [Tr.get_put, if_neg (hne j a1), a2]; exact j3
                · show (S.al.put none i).get j = _
                  rw [Tr.get_put, if_neg (hne j a1)]; exact a3
            by_cases e : p = S.k
            · subst e
              have hH : (planD B W fr h0 (S.quiet i v none S.als S.cur)).H S.k = S.H := by
                show (S.Hs.get S.k).getD Heap.nil = S.H
                rw [g.hk]; rfl
              exact ⟨_, hsub S.H hH, hq⟩
            · have hf := rechk_spec hr p p1 (by show p < _ + (S.k - _); omega)
              unfold valAt at hf
              split at hf
              · rename_i h hh
                have hH : (planD B W fr h0 (S.quiet i v none S.als S.cur)).H p = h := by
                  show (S.Hs.get p).getD Heap.nil = h
                  rw [hh]; rfl
                exact ⟨_, hsub h hH, hf⟩
              · cases hf
      · split at hs
        · rename_i ob f ha
          simp only [Option.some.injEq] at hs; subst hs
          refine g.put hi hM hB (.inr ⟨ob, rfl, rfl, rfl⟩) (stage _ _ _ _ (.inr (.inr ⟨hwt _ _ _ _, S.cur.next, ob, f, hal _ _ _ _, ?_, hvi _ _ _ _⟩)))
          rw [← henv]; exact ha
        · cases hs
    · rename_i hw
      simp only [Option.some.injEq] at hs; subst hs
      exact g.put hi hM hB (.inl ⟨rfl, rfl, rfl⟩) (stage _ _ _ _ (.inl ⟨g.wants rfl hB (hv _ _ _ _) hw, hvi _ _ _ _, hal _ _ _ _⟩))
    · cases hs

omit g in
theorem Good.runQ : ∀ {l : List Nat} {S S' : Ds}, Good ty call ops B W fr h0 S → runQ ty ops.toList B W fr l S = some S' → Good ty call ops B W fr h0 S'
  | [], S, S', g, h => by simp only [Dm.runQ, Option.some.injEq] at h; subst h; exact g
  | i :: l, S, S', g, h => by
    simp only [Dm.runQ] at h
    split at h
    · rename_i o ho
      split at h
      · rename_i S1 h1
        exact Good.runQ (g.stepQ (by rw [← Array.getElem?_toList]; exact ho) h1) h
      · cases h
    · cases h

theorem Good.stepE {P : Program} (hcall : CallOk P call) {i : Nat} {o : Oper} (hi : ops[i]? = some o) (hs : stepE ty call ops.toList B W fr S (nat0 (B.get i)) i o = some S') : Good ty call ops B W fr h0 S' := by
  unfold Dm.stepE at hs
  cases hc : (Nat.beq S.M (nat0 (B.get i)) && !(bit S.M i)) with
  | false => rw [hc] at hs; cases hs
  | true =>
    rw [hc] at hs; simp only [cnd_true] at hs
    simp only [Bool.and_eq_true, Bool.not_eq_true'] at hc
    obtain ⟨hc1, hM⟩ := hc
    have hMB : S.M = nat0 (B.get i) := Nat.eq_of_beq_eq_true hc1
    have hB : ∀ j, bit (nat0 (B.get i)) j = true → bit S.M j = true := fun j hj => by rw [hMB]; exact hj
    have hne : ∀ j, bit S.M j = true → j ≠ i := fun j hj e => by subst e; rw [hM] at hj; cases hj
    have hv : ∀ (v : AV) (h : Heap) j, bit S.M j = true → (planD B W fr h0 (S.eff i v h)).val j = (S.vals.get j).getD (.tu []) := by
      intro v h j hj
      show ((S.vals.put (some v) i).get j).getD _ = _
      rw [Tr.get_put, if_neg (hne j hj)]
    have hvi : ∀ (v : AV) (h : Heap), (planD B W fr h0 (S.eff i v h)).val i = v := by
      intro v h
      show ((S.vals.put (some v) i).get i).getD _ = _
      rw [Tr.get_put, if_pos rfl]; rfl
    have hev : ∀ (v : AV) (h : Heap), (planD B W fr h0 (S.eff i v h)).ev S.k = i := by
      intro v h
      show nat0 ((S.evs.put (some i) S.k).get S.k) = i
      rw [Tr.get_put, if_pos rfl]; rfl
    have hH : ∀ (v : AV) (h : Heap), (planD B W fr h0 (S.eff i v h)).H (S.k + 1) = h := by
      intro v h
      show ((S.Hs.put (some h) (Nat.succ S.k)).get (S.k + 1)).getD _ = h
      rw [Tr.get_put, if_pos rfl]; rfl
    have hHp : ∀ (v : AV) (h : Heap), (planD B W fr h0 (S.eff i v h)).Hp S.k = S.cur := by
      intro v h
      show (if S.k = Nat.succ S.k then h else ((S.Hps.put (some S.cur) S.k).get S.k).getD _) = S.cur
      rw [if_neg (by omega), Tr.get_put, if_pos rfl]; rfl
    split at hs
    · rename_i hw
      have hwt : ∀ (v : AV) (h : Heap), (planD B W fr h0 (S.eff i v h)).wants ops i o true := fun v h => g.wants rfl hB (hv v h) hw
      have henv : ∀ (v : AV) (h : Heap), envD B W fr S.vals (nat0 (B.get i)) i = (planD B W fr h0 (S.eff i v h)).env i := fun v h => g.env rfl rfl rfl hB (hv v h)
      unfold effVal at hs
      split at hs
      · rename_i v h he
        simp only [Option.some.injEq] at hs; subst hs
        refine g.eff hi hM hMB (eop_next he) ⟨o, by rw [hev]; exact hi, .inr ⟨by rw [hev]; exact hwt _ _, .inl ?_⟩⟩
        rw [hev, hHp, hH, hvi, ← henv]; exact he
      · split at hs
        · rename_i c ho
          split at hs
          · rename_i f args hca
            split at hs
            · rename_i v h hcr
              simp only [Option.some.injEq] at hs; subst hs
              refine g.eff hi hM hMB (hcall _ _ _ _ _ hcr).2.1 ⟨o, by rw [hev]; exact hi, .inr ⟨by rw [hev]; exact hwt _ _, .inr ⟨c, f, args, ho, ?_, ?_⟩⟩⟩
              · rw [hev, ← henv]; exact hca
              · rw [hev, hHp, hH, hvi]; exact hcr
            · cases hs
          · cases hs
        · cases hs
    · rename_i hw
      simp only [Option.some.injEq] at hs; subst hs
      refine g.eff hi hM hMB (Nat.le_refl _) ⟨o, by rw [hev]; exact hi, .inl ⟨by rw [hev]; exact g.wants rfl hB (hv _ _) hw, by rw [hev]; exact hvi _ _, by rw [hH, hHp]⟩⟩
    · cases hs

omit g in
theorem Good.runE {P : Program} (hcall : CallOk P call) : ∀ {l : List (List Nat × Nat)} {S S' : Ds}, Good ty call ops B W fr h0 S → runE ty call ops.toList B W fr l S = some S' → Good ty call ops B W fr h0 S'
  | [], S, S', g, h => by simp only [Dm.runE, Option.some.injEq] at h; subst h; exact g
  | (l, e) :: r, S, S', g, h => by
    simp only [Dm.runE] at h
    split at h
    · rename_i S1 h1
      have g1 := Good.runQ g h1
      split at h
      · rename_i o ho
        split at h
        · rename_i S2 h2
          exact Good.runE hcall (g1.stepE hcall (by rw [← Array.getElem?_toList]; exact ho) h2) h
        · cases h
      · cases h
    · cases h
end
end Go.Proofs.YtafkkicnfngpoaaGreat.Dm
