/- The machine is made: what the calls do in the world. -/
import Derived.Test.YtafkkicnfngpoaaGreatY8
set_option linter.unusedVariables false
set_option linter.unusedSimpArgs false
set_option linter.unusedSectionVars false
namespace Go.Proofs.YtafkkicnfngpoaaGreat
open Go Go.RowKit Go.Lib Go.Proofs.YtafkkicnfngpoaaGreat.Dm

theorem cfg_rel : ARs (fun _ => none) [cfgA] (#[.agg #[.int .i64 30, .int .i64 10, .int .i64 0, .int .i64 2, .int .i64 1, .int .i64 1]] : Array Value).toList :=
  ⟨⟨_, rfl, rfl, rfl, rfl, rfl, rfl, rfl, trivial⟩, trivial⟩

theorem okB_v {v : AV} (h : okB v = true) : v = .tu [.sc (.p 222 0), .sc (.b true)] := by
  unfold okB at h
  split at h
  · rfl
  · cases h
theorem okC_t {t : Tr AO} (h : okC t = true) : ∃ r ro, t.get 222 = some (.cells r ro) ∧ r.get 0 = some (.p 11 0) := by
  unfold okC at h
  split at h
  · rename_i r ro hr
    split at h
    · rename_i hp
      exact ⟨r, ro, hr, hp⟩
    · cases h
  · cases h
theorem okN_v {v : AV} (h : okN v = true) : v = .cv (.sc (.i .i64 (.ofNat 0))) := by
  unfold okN at h
  split at h
  · rfl
  · cases h

/-- What lies ahead of the machine, and the pair's block. -/
def Ah (n pb : Nat) (c : Nat) : Prop := c < n ∨ c = pb

theorem nn_some {i a b : Nat} (h : i < 1) (hd : nn i = some (a, b)) : False := by
  obtain rfl : i = 0 := by omega
  cases hd

theorem Begun_Y (w : World) : Calls Tryz.prog 7 #[.agg #[.int .i64 30, .int .i64 10, .int .i64 0, .int .i64 2, .int .i64 1, .int .i64 1]] w fun e w' => ∃ cb pb, e = .returned (.tuple #[.pointer (some ⟨pb, 0, none⟩), .bool true]) ∧
    w.heap.size ≤ pb ∧ pb < w'.heap.size ∧ w'.cell? ⟨pb, 0, none⟩ = some (.pointer (some ⟨cb, 0, none⟩)) ∧ Wy (Ah w.heap.size pb) cb D0 (fun _ => 0) w' ∧ Below w.heap.size w w' := by
  have hck : chkB = true := cB
  unfold chkB at hck
  generalize hx0 : (evH 600).c 7 [cfgA] Heap.nil = x0 at hck
  cases x0 with
  | bad n => cases hck
  | ok v h =>
    have hr := hx0
    simp only [Bool.and_eq_true] at hck
    obtain ⟨h1, h2, h3, h4, h5, h6⟩ := hck
    obtain rfl := okB_v h1
    obtain ⟨r, ro, hpr, hp0⟩ := okC_t h2
    obtain ⟨hE, hle, hx⟩ := (evH_ok 600).2 7 [cfgA] Heap.nil _ h hr
    refine (hx (fun _ => none) w _ ⟨fun b o h => (by cases h), fun b o h => (by cases h), fun b b' o o' c N N' h => (by cases h), fun b c N h => (by cases h)⟩ cfg_rel (fun _ _ _ => rfl)).mono ?_
    rintro e w' ⟨V, ι', rfl, hv, p⟩
    obtain ⟨a, rfl, hv⟩ := hv
    obtain ⟨a⟩ := a
    obtain ⟨a1, a2, rfl⟩ : ∃ a1 a2, a = [a1, a2] := by
      match a, hv with
      | [a1, a2], _ => exact ⟨a1, a2, rfl⟩
      | [], h => exact h.elim
      | [_], h => exact h.2.elim
      | _ :: _ :: _ :: _, h => exact h.2.2.elim
    obtain ⟨⟨pb, N, g1, rfl⟩, e2, -⟩ := hv
    obtain rfl : a2 = .bool true := e2
    obtain ⟨pb', N', g2, cs, el, fr, g3, g4, g5, g6, g7⟩ := p.rep.obj 222 _ hpr
    rw [g1] at g2
    simp only [Option.some.injEq, Prod.mk.injEq] at g2
    obtain ⟨rfl, rfl⟩ := g2
    obtain ⟨V, v1, cb, Nc, v2, rfl⟩ := g6 0 _ hp0
    have hm := mtAll_get h5
    have old : ∀ b o c N, h.get b = some o → ι' b = some (c, N) → w.heap.size ≤ c := fun b o c N k1 k2 => by
      rcases p.fresh b o c N k1 k2 with ⟨b0, o0, N0, hh, _⟩ | hh
      · cases hh
      · exact hh
    have hd0 : D0.next ≤ atomKey 0 := by decide
    have hcb := p.rep.dom _ _ _ v2
    have hpbs := p.rep.dom _ _ _ g1
    have hnone : ∀ m, ι' (atomKey m) = none := fun m => p.ext _ (.inr (Nat.le_trans (Nat.le_of_ble_eq_true h3) (atom_ge m)))
    have m : Mt ι' (io3 D0.next noS 0 0 cb (fun _ => 0) ι') noS nn D0.next (false, []) := by
      refine ⟨fun f hf => ?_, fun b hb => io3_lt hb, fun k a b hk hd => (nn_some hk hd).elim, fun k hk hd => ?_⟩
      · obtain ⟨c, q1, -⟩ := hf 0 (by decide)
        rw [hnone] at q1; cases q1
      · obtain rfl : k = 0 := by omega
        exact ⟨⟨cb, io3_2 hd0⟩, cb, io3_3 hd0⟩
    refine ⟨cb, pb, rfl, old _ _ _ _ hpr g1, hpbs, ?_, ⟨io3 D0.next noS 0 0 cb (fun _ => 0) ι', Rep.mt p.rep m (fun b o hb => l_of pD0 hb) ?_ h4 h5, ⟨Nc, ?_⟩, io3_free hd0, ⟨cb, 0, io3_2 hd0⟩, ⟨cb, 0, io3_3 hd0⟩, fun i hi => ⟨cb, io3_b hd0 hi, by show 0 < 256; omega⟩, ?_⟩, ⟨p.os, p.tape, p.output, p.size, fun k hk => p.frame k hk (fun b o N h => by cases h)⟩⟩
    · simp only [World.cell?, g3]; simpa using v1
    · intro b c N hb
      unfold io3 at hb
      split at hb
      · exact p.rep.dom _ _ _ hb
      · split at hb
        · simp only [Option.some.injEq, Prod.mk.injEq] at hb; rw [← hb.1]; exact hcb
        · split at hb
          · simp only [Option.some.injEq, Prod.mk.injEq] at hb; rw [← hb.1]; exact hcb
          · split at hb
            · simp only [Option.some.injEq, Prod.mk.injEq] at hb; rw [← hb.1]; exact hcb
            · cases hb
    · rw [io3_lt (by decide)]; exact v2
    · intro b o c N hb hι hAc
      have hbL := l_of pD0 hb
      obtain ⟨k1, x, y, k2, k3, k4⟩ := hm b hbL
      rw [io3_lt k1] at hι
      have k2 : h.get b = some x := k2
      have hι : ι' b = some (c, N) := hι
      rcases hAc with hc | rfl
      · have := old b x c N k2 hι; omega
      · have hne := p.rep.inj b 222 x _ _ _ _ k2 hpr hι g1
        subst hne
        have : (DL0.any fun b => Nat.beq b 222) = true := List.any_eq_true.2 ⟨222, hbL, rfl⟩
        rw [this] at h6; cases h6

theorem Donate_Y {A : Nat → Prop} {cb : Nat} {w : World} (hA : ∀ c, A c → c < w.heap.size) (hw : Wy A cb D0 (fun _ => 0) w) :
    Calls Tryz.prog 8 #[.pointer (some ⟨cb, 0, none⟩), .int .i64 1, .int .u64 6] w fun e w' => e = .returned (.int .i64 0) ∧ Wy A cb (ST 0) (fun _ => 0) w' ∧ Kp A w w' := by
  have hck : chkD 6 D0 S0 L0 nn = true := cD6
  unfold chkD at hck
  generalize hx0 : (evH 600).c 8 [pN, nI 1, nU 6] D0 = x0 at hck
  cases x0 with
  | bad n => cases hck
  | ok v h =>
    simp only [Bool.and_eq_true] at hck
    obtain ⟨h1, h2, h3, h4⟩ := hck
    obtain rfl := okN_v h1
    obtain ⟨ι, rep, ⟨N1, i1⟩, hf, ⟨c2, r2, q2⟩, ⟨c3, r3, q3⟩, hby, hno⟩ := hw
    obtain ⟨hE, hle, hx⟩ := (evH_ok 600).2 8 [pN, nI 1, nU 6] D0 _ h hx0
    have hn := Nat.le_of_ble_eq_true h2
    have hd0 : S0.next ≤ atomKey 0 := by decide
    refine (hx ι w #[.pointer (some ⟨cb, 0, none⟩), .int .i64 1, .int .u64 6] rep ⟨⟨cb, N1, i1, rfl⟩, rfl, rfl, trivial⟩ (hf.mono hn)).mono ?_
    rintro e w' ⟨U, ι', rfl, hv, p⟩
    obtain rfl : U = .int .i64 0 := hv
    have hcb : cb < w'.heap.size := Nat.lt_of_lt_of_le (rep.dom _ _ _ i1) p.size
    have up : ∀ m, ι' (atomKey m) = ι (atomKey m) := fun m => p.ext _ (.inr (Nat.le_trans hn (atom_ge m)))
    have m : Mt ι' (io3 S0.next noS 0 0 cb (fun _ => 0) ι') noS nn S0.next (false, []) := by
      refine ⟨fun f hf i hi => ?_, fun b hb => io3_lt hb, fun k a b hk hd => (nn_some hk hd).elim, fun k hk hd => ?_⟩
      · obtain ⟨c, k1, k2⟩ := hf i hi
        obtain ⟨c', k3, -⟩ := hby i hi
        rw [up, k3] at k1
        simp only [Option.some.injEq, Prod.mk.injEq] at k1
        rw [← k1.2]
        exact ⟨cb, io3_b hd0 hi, by decide⟩
      · obtain rfl : k = 0 := by omega
        exact ⟨⟨cb, io3_2 hd0⟩, cb, io3_3 hd0⟩
    have hm := mtAll_get h4
    refine ⟨rfl, ⟨io3 S0.next noS 0 0 cb (fun _ => 0) ι', Rep.mt p.rep m (fun b o hb => l_of l0 hb) ?_ h3 h4, ⟨N1, ?_⟩, io3_free hd0, ⟨cb, 0, io3_2 hd0⟩, ⟨cb, 0, io3_3 hd0⟩, fun i hi => ⟨cb, io3_b hd0 hi, by show 0 < 256; omega⟩, ?_⟩, ⟨p.os, p.tape, p.output, p.size, fun c hAc => p.frame c (hA c hAc) (fun b o N hb hι => hno b o c N hb hι hAc)⟩⟩
    · intro b c N hb
      unfold io3 at hb
      split at hb
      · exact p.rep.dom _ _ _ hb
      · split at hb
        · simp only [Option.some.injEq, Prod.mk.injEq] at hb; rw [← hb.1]; exact hcb
        · split at hb
          · simp only [Option.some.injEq, Prod.mk.injEq] at hb; rw [← hb.1]; exact hcb
          · split at hb
            · simp only [Option.some.injEq, Prod.mk.injEq] at hb; rw [← hb.1]; exact hcb
            · cases hb
    · rw [io3_lt (by decide)]
      show ι' 11 = _
      rw [p.ext 11 (.inl (by decide))]; exact i1
    · intro b o c N hb hι hAc
      obtain ⟨k1, x, y, k2, k3, k4⟩ := hm b (l_of l0 hb)
      rw [io3_lt k1] at hι
      rcases p.fresh (noS b) x c N k2 hι with ⟨b0, o0, N0, g1, g2⟩ | hh
      · exact hno b0 o0 c N0 g1 g2 hAc
      · have := hA c hAc; omega
end Go.Proofs.YtafkkicnfngpoaaGreat
