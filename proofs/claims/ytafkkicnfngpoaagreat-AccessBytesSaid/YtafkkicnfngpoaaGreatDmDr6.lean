/- Regions whose order is drawn: what the evaluator does, and that it is right. -/
import Derived.Test.YtafkkicnfngpoaaGreatDmDr5
set_option linter.unusedVariables false
set_option linter.unusedSimpArgs false
set_option linter.unusedSectionVars false
namespace Go.Proofs.YtafkkicnfngpoaaGreat.Dm
open Go

/-- Operations that change memory. -/
noncomputable def isEff (op : Op) : Bool :=
  match op with
  | .store .. => true
  | .mapUpdate .. => true
  | .mapEntry .. => true
  | .entryStore .. => true
  | .range .. => true
  | .next .. => true
  | .call c => match c.callee with
    | .builtin b => match b with
      | .append => true
      | .copy => true
      | .delete => true
      | .clear => true
      | _ => false
    | _ => true
  | _ => false

noncomputable def effs : List Oper → Nat → List Nat
  | [], _ => []
  | o :: l, i => cnd (isEff o.op) (i :: effs l (Nat.succ i)) (effs l (Nat.succ i))
noncomputable def pickQ (m : Nat) : List Oper → Nat → List Nat
  | [], _ => []
  | o :: l, i => cnd (bit m i && !(isEff o.op)) (i :: pickQ m l (Nat.succ i)) (pickQ m l (Nat.succ i))
noncomputable def stagesD (ops : List Oper) (B : Tr Nat) : List Nat → Nat → List (List Nat × Nat)
  | [], _ => []
  | e :: r, M => (pickQ (Nat.xor (Nat.lor (nat0 (B.get e)) M) M) ops 0, e) :: stagesD ops B r (setBit (nat0 (B.get e)) e)

noncomputable def drawEnd (S : Ds) (ops : List Oper) (fr : Fr) : Res :=
  cnd (Nat.beq S.M (Nat.sub (Nat.pow 2 ops.length) 1))
    (match finish S.vals ops 0 fr with
    | some fr => .nrm fr S.cur
    | none => .bad 31) (.bad 32)

noncomputable def drawRun (ty : Ty) (call : CallK) (ops : List Oper) (B W : Tr Nat) (fr : Fr) (h : Heap) : Res :=
  cnd (chkOps B W ops 0)
    (match runE ty call ops B W fr (stagesD ops B (effs ops 0) 0) (Ds.start h) with
    | some S => match runQ ty ops B W fr (pickQ (Nat.xor (Nat.sub (Nat.pow 2 ops.length) 1) S.M) ops 0) S with
      | some S => drawEnd S ops fr
      | none => .bad 33
    | none => .bad 34) (.bad 35)

noncomputable def drawA (ty : Ty) (call : CallK) (ops : Array Oper) (fr : Fr) (h : Heap) : Res :=
  drawRun ty call ops.toList (mkB ops.toList 0 .e) (mkW ops.toList 0 .e) fr h

theorem finish_spec {vals : Tr AV} : ∀ {l : List Oper} {i : Nat} {fr fr' : Fr}, finish vals l i fr = some fr' → fr'.n = fr.n ∧
    (∀ (j : Nat) (o : Oper) (d : Tmp), l[j]? = some o → o.dst = some d → d < fr.n) ∧
    ∀ t v, fr'.t.get t = some v → (∃ (j : Nat) (o : Oper), l[j]? = some o ∧ o.dst = some t ∧ vals.get (i + j) = some v) ∨ ((∀ (j : Nat) (o : Oper), l[j]? = some o → o.dst ≠ some t) ∧ fr.t.get t = some v)
  | [], i, fr, fr', h => by
    simp only [finish, Option.some.injEq] at h; subst h
    exact ⟨rfl, fun j o d hj => by simp at hj, fun t v hv => .inr ⟨fun j o hj => by simp at hj, hv⟩⟩
  | o :: l, i, fr, fr', h => by
    simp only [finish] at h
    split at h
    · rename_i u hu
      split at h
      · rename_i hd
        obtain ⟨h1, h2, h3⟩ := finish_spec h
        refine ⟨h1, fun j o' d hj hd' => ?_, fun t v hv => ?_⟩
        · cases j with
          | zero => simp at hj; subst hj; rw [hd] at hd'; cases hd'
          | succ j => exact h2 j o' d (by simpa using hj) hd'
        · rcases h3 t v hv with ⟨j, o', a, b, c⟩ | ⟨a, b⟩
          · exact .inl ⟨j + 1, o', by simpa using a, b, by rwa [Nat.succ_add_eq_add_succ] at c⟩
          · refine .inr ⟨fun j o' hj => ?_, b⟩
            cases j with
            | zero => simp at hj; subst hj; rw [hd]; simp
            | succ j => exact a j o' (by simpa using hj)
      · rename_i d hd
        split at h
        · rename_i fr2 hp
          obtain ⟨h1, h2, h3⟩ := finish_spec h
          rw [Fr.put_eq] at hp
          cases hb : Nat.blt d fr.n with
          | false => rw [hb] at hp; cases hp
          | true =>
            rw [hb] at hp; simp only [cnd_true, Option.some.injEq] at hp; subst hp
            refine ⟨h1, fun j o' d' hj hd' => ?_, fun t v hv => ?_⟩
            · cases j with
              | zero => simp at hj; subst hj; rw [hd] at hd'; simp only [Option.some.injEq] at hd'; subst hd'; exact Nat.le_of_ble_eq_true hb
              | succ j => exact h2 j o' d' (by simpa using hj) hd'
            · rcases h3 t v hv with ⟨j, o', a, b, c⟩ | ⟨a, b⟩
              · exact .inl ⟨j + 1, o', by simpa using a, b, by rwa [Nat.succ_add_eq_add_succ] at c⟩
              · have b : (fr.t.put (some u) d).get t = some v := b
                rw [Tr.get_put] at b
                by_cases e : t = d
                · subst e
                  rw [if_pos rfl] at b; simp only [Option.some.injEq] at b; subst b
                  exact .inl ⟨0, o, rfl, hd, hu⟩
                · rw [if_neg e] at b
                  refine .inr ⟨fun j o' hj => ?_, b⟩
                  cases j with
                  | zero => simp at hj; subst hj; rw [hd]; simpa using Ne.symm e
                  | succ j => exact a j o' (by simpa using hj)
        · cases h
    · cases h

theorem full_bit {n i : Nat} (h : i < n) : bit (Nat.sub (Nat.pow 2 n) 1) i = true := by
  rw [bit_eq]
  show (2 ^ n - 1).testBit i = true
  rw [Nat.testBit_two_pow_sub_one]; simpa using h

theorem drawA_plan {P : Program} {ty : Ty} {call : CallK} (hcall : CallOk P call) {ops : Array Oper} {fr fr' : Fr} {h h' : Heap} (hr : drawA ty call ops fr h = .nrm fr' h') :
    ∃ pl, PlanOk ty call ops pl ∧ pl.fr = fr ∧ pl.h0 = h ∧ h' = pl.Hp pl.m ∧ fr'.n = pl.fr.n ∧
      ∀ t v, fr'.t.get t = some v → (∃ j, pl.wr t = some j ∧ v = pl.val j) ∨ (pl.wr t = none ∧ pl.fr.t.get t = some v) := by
  unfold drawA drawRun at hr
  cases hc : chkOps (mkB ops.toList 0 .e) (mkW ops.toList 0 .e) ops.toList 0 with
  | false => rw [hc] at hr; cases hr
  | true =>
    rw [hc] at hr; simp only [cnd_true] at hr
    generalize hB : mkB ops.toList 0 .e = B at hr hc
    generalize hW : mkW ops.toList 0 .e = W at hr hc
    split at hr
    · rename_i S1 h1
      split at hr
      · rename_i S h2
        have g : Good ty call ops B W fr h S := Good.runQ (Good.runE hcall Good.start h1) h2
        unfold drawEnd at hr
        cases hf : Nat.beq S.M (Nat.sub (Nat.pow 2 ops.toList.length) 1) with
        | false => rw [hf] at hr; cases hr
        | true =>
          rw [hf] at hr; simp only [cnd_true] at hr
          have hM := Nat.eq_of_beq_eq_true hf
          split at hr
          · rename_i fr2 hfin
            simp only [Res.nrm.injEq] at hr
            obtain ⟨rfl, rfl⟩ := hr
            obtain ⟨f1, f2, f3⟩ := finish_spec hfin
            have hop : ∀ (i : Nat) (o : Oper), ops[i]? = some o → chkOp B W i o = true := fun i o ho => by
              have := chkOps_spec hc i o (by rw [Array.getElem?_toList]; exact ho)
              rwa [Nat.zero_add] at this
            have hall : ∀ (i : Nat) (o : Oper), ops[i]? = some o → bit S.M i = true := fun i o ho => by
              rw [hM]
              exact full_bit (by rw [Array.length_toList]; exact (Array.getElem?_eq_some_iff.1 ho).1)
            have wr1 : ∀ (i : Nat) (o : Oper) (d : Tmp), ops[i]? = some o → o.dst = some d → W.get d = some i := fun i o d ho hd => by
              have := hop i o ho
              simp only [chkOp, Bool.and_eq_true, hd] at this
              have := this.2
              split at this
              · rename_i j hj; rw [hj, Nat.eq_of_beq_eq_true this]
              · cases this
            have wr2 : ∀ (i : Nat) (d : Tmp), W.get d = some i → ∃ o : Oper, ops[i]? = some o ∧ o.dst = some d := fun i d hd => by
              rw [← hW] at hd
              rcases mkW_get hd with h | ⟨k, o, k1, k2, k3⟩
              · cases h
              · rw [Nat.zero_add] at k3; subst k3
                exact ⟨o, by rw [← Array.getElem?_toList]; exact k1, k2⟩
            refine ⟨planD B W fr h S, ?_, rfl, rfl, ?_, f1, fun t v hv => ?_⟩
            · refine { start := ?_, edge := fun i o ho e he hb => ?_, bef := fun D hD i o ho hpre j hj => before_spec hc hD i o ho hpre j hj, wr1 := fun i o d ho hd => ⟨wr1 i o d ho hd, ?_⟩, wr2 := wr2,
                       chain := g.chain, evi := g.evi, alE := g.alE, alO := fun i x hx => g.idx i (g.alM i x hx), alS := fun i id ob hx => ?_, alI := g.alI,
                       quiet := fun i o ho hq => g.quiet i o ho (hall i o ho) hq, effect := g.effect, hp := fun k hk => ?_ }
              · show (S.Hs.get 0).getD Heap.nil = h
                rw [g.hz]; rfl
              · have := hop i o ho
                simp only [chkOp, Bool.and_eq_true] at this
                exact edge_lt this.1.1 e (by simpa using he) hb
              · exact f2 i o d (by rw [Array.getElem?_toList]; exact ho) hd
              · obtain ⟨a, b, c, _⟩ := g.alS i id ob hx
                exact ⟨a, b, c⟩
              · obtain ⟨a, b⟩ := g.hp k hk
                refine ⟨a, fun x y hx => (b x y hx).imp id ?_⟩
                rintro ⟨i, _, i2, i3⟩
                exact ⟨i, i2, i3⟩
            · show S.cur = (if S.k = S.k then S.cur else _)
              rw [if_pos rfl]
            · rcases f3 t v hv with ⟨j, o, j1, j2, j3⟩ | ⟨a, b⟩
              · refine .inl ⟨j, wr1 j o t (by rw [← Array.getElem?_toList]; exact j1) j2, ?_⟩
                show v = (S.vals.get j).getD _
                rw [Nat.zero_add] at j3; rw [j3]; rfl
              · refine .inr ⟨?_, b⟩
                show W.get t = none
                cases hw : W.get t with
                | none => rfl
                | some j =>
                  obtain ⟨o, o1, o2⟩ := wr2 j t hw
                  exact absurd o2 (a j o (by rw [Array.getElem?_toList]; exact o1))
          · cases hr
      · cases hr
    · cases hr

theorem drawA_nrm {ty : Ty} {call : CallK} {ops : Array Oper} {fr : Fr} {h : Heap} {r : Res} (hr : drawA ty call ops fr h = r) (hg : r.good = true) : ∃ fr' h', r = .nrm fr' h' := by
  unfold drawA drawRun drawEnd at hr
  simp only [cnd_eq_ite] at hr
  repeat' split at hr
  all_goals first
    | (subst hr; cases hg; done)
    | exact ⟨_, _, hr.symm⟩

theorem draw_ok {P : Program} {ty : Ty} (hty : TyOk P ty) (hm : P.follows .mixedOrders = true) {call : CallK} (hcall : CallOk P call) : DrOk P ty call (drawA ty call) := by
  refine ⟨fun ops fr h r hr hg => drawA_nrm hr hg, fun id ops fr h fr' h' hr => ?_⟩
  obtain ⟨pl, ok, rfl, rfl, hh, hn, ht⟩ := drawA_plan hcall hr
  refine ⟨?_, fun ι a w hfr rep hf => ok.region hty hcall hm hfr rep hh hn ht hf id⟩
  rw [hh, ← ok.start]
  exact Nat.le_trans (PlanOk.mono hty hcall ok _ _ (Nat.zero_le _) (Nat.le_refl _)) (ok.hp _ (Nat.le_refl _)).1

/-- The evaluator with all regions: its calls are the model's. -/
theorem calls_ok {P : Program} {ty : Ty} (hty : TyOk P ty) (hm : P.follows .mixedOrders = true) {fs : Fns} (hfs : FnsOk P fs) {ov : CallK → CallK} (hov : OvOk P ov) (n : Nat) :
    CallOk P (ks ty fs (drawA ty) ov n).c :=
  (ks_sound hty hfs (fun call hcall => draw_ok hty hm hcall) hov n).2.2

end Go.Proofs.YtafkkicnfngpoaaGreat.Dm
