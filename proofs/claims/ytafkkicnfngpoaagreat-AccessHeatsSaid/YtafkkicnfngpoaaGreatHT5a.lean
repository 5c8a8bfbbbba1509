/- The machine's states in the model's world, and what a call makes of them. -/
import Derived.Test.YtafkkicnfngpoaaGreatHRL
set_option linter.unusedVariables false
set_option linter.unusedSimpArgs false
set_option linter.unusedSectionVars false
namespace Go.Proofs.YtafkkicnfngpoaaGreat
open Go Go.RowKit Go.Lib Go.Proofs.YtafkkicnfngpoaaGreat.Dm

/-- The machine in the world: its state, how often its pages were read and stored to; A: blocks that are not its own. -/
def Wm (A : Nat → Prop) (cb gb : Nat) (g : Heap) (R S : Nat → Nat) (w : World) : Prop :=
  ∃ ι, Rep ι w g ∧ (∃ N, ι 11 = some (cb, N)) ∧ (∃ N, ι 204 = some (gb, N)) ∧ Free ι g.next (atomKey 0) ∧
    (∀ k, k < 3 → (∃ c, ι (atomKey (2 * k + 2)) = some (c, R k)) ∧ ∃ c, ι (atomKey (2 * k + 3)) = some (c, S k)) ∧
    (∀ b o c N, g.get b = some o → ι b = some (c, N) → ¬ A c)

/-- What a call keeps. -/
structure Kp (A : Nat → Prop) (w w' : World) : Prop where
  os : w'.os = w.os
  tape : w'.tape = w.tape
  output : w'.output = w.output
  size : w.heap.size ≤ w'.heap.size
  block : ∀ c, A c → w'.heap[c]? = w.heap[c]?

theorem st_next (i : Nat) : (ST i).next = 1000 := by unfold ST; split <;> rfl

theorem allL (i : Nat) (h : i ≤ 16) : chkL i := by
  match i, h with
  | 0, _ => exact l0
  | 1, _ => exact l1
  | 2, _ => exact l2
  | 3, _ => exact l3
  | 4, _ => exact l4
  | 5, _ => exact l5
  | 6, _ => exact l6
  | 7, _ => exact l7
  | 8, _ => exact l8
  | 9, _ => exact l9
  | 10, _ => exact l10
  | 11, _ => exact l11
  | 12, _ => exact l12
  | 13, _ => exact l13
  | 14, _ => exact l14
  | 15, _ => exact l15
  | 16, _ => exact l16
  | n + 17, h => exact absurd h (by omega)

theorem l_of {g : Heap} {L : List Nat} (hp : pick g.t L = g.t) {b : Nat} {o : AO} (h : g.get b = some o) : b ∈ L := by
  refine pick_mem (t := g.t) (o := o) ?_
  rw [hp]; exact h

/-- What a count is behind a call. -/
noncomputable def bump (δ : Nat → Option (Nat × Nat)) (m r : Nat) : Nat :=
  if m % 2 = 0 then (match δ (m / 2 - 1) with
    | some d => r + d.1
    | none => 0) else (match δ ((m - 3) / 2) with
    | some d => r + d.2
    | none => 0)

noncomputable def io2 (n : Nat) (σ : Nat → Nat) (δ : Nat → Option (Nat × Nat)) (ι : Io) : Io := fun b =>
  if b < n then ι (σ b) else if atomKey 0 ≤ b then (match ι b with
    | some (c, r) => some (c, bump δ (b - atomKey 0) r)
    | none => none) else none

theorem io2_lt {n : Nat} {σ : Nat → Nat} {δ : Nat → Option (Nat × Nat)} {ι : Io} {b : Nat} (h : b < n) : io2 n σ δ ι b = ι (σ b) := if_pos h
theorem io2_at {n : Nat} {σ : Nat → Nat} {δ : Nat → Option (Nat × Nat)} {ι : Io} {m c r : Nat} (hn : n ≤ atomKey 0) (h : ι (atomKey m) = some (c, r)) : io2 n σ δ ι (atomKey m) = some (c, bump δ m r) := by
  unfold io2
  have e1 : ¬ atomKey m < n := fun h => by
    have : atomKey 0 ≤ atomKey m := Nat.add_le_add_left (Nat.zero_le m) _
    omega
  have e2 : atomKey 0 ≤ atomKey m := Nat.add_le_add_left (Nat.zero_le m) _
  have e3 : atomKey m - atomKey 0 = m := by show 1000000000000 + m - (1000000000000 + 0) = m; omega
  rw [if_neg e1, if_pos e2, h, e3]
theorem bump_r (δ : Nat → Option (Nat × Nat)) (k r : Nat) : bump δ (2 * k + 2) r = match δ k with
    | some d => r + d.1
    | none => 0 := by
  unfold bump
  rw [if_pos (by omega), show (2 * k + 2) / 2 - 1 = k by omega]
theorem bump_s (δ : Nat → Option (Nat × Nat)) (k r : Nat) : bump δ (2 * k + 3) r = match δ k with
    | some d => r + d.2
    | none => 0 := by
  unfold bump
  rw [if_neg (by omega), show (2 * k + 3 - 3) / 2 = k by omega]

noncomputable def upR (δ : Nat → Option (Nat × Nat)) (R : Nat → Nat) (k : Nat) : Nat := match δ k with
  | some d => R k + d.1
  | none => 0
noncomputable def upS (δ : Nat → Option (Nat × Nat)) (R : Nat → Nat) (k : Nat) : Nat := match δ k with
  | some d => R k + d.2
  | none => 0
theorem up_zero {δ : Nat → Option (Nat × Nat)} (hz : ∀ k, δ k = none ∨ δ k = some (0, 0)) : upR δ (fun _ => 0) = (fun _ => 0) ∧ upS δ (fun _ => 0) = fun _ => 0 := by
  refine ⟨funext fun k => ?_, funext fun k => ?_⟩
  · unfold upR
    rcases hz k with h | h <;> simp [h]
  · unfold upS
    rcases hz k with h | h <;> simp [h]

/-- What is checked of a call that leads from a state to another one. -/
theorem step_gen {ev : CallK} (hev : CallOk Tryz.prog ev) {f : FuncId} {args : List AV} {g g' : Heap} {L : List Nat} {σ : Nat → Nat} {δ : Nat → Option (Nat × Nat)} {v : AV} {h : Heap} (hp : pick g'.t L = g'.t) (hr : ev f args g = .ok v h) (hn : Nat.ble h.next (atomKey 0) = true)
    (hi : injL (mapN σ L) = true) (hc : mtAll σ δ g'.next h.t g'.t L = true) (hg : 204 < g.next) (hg' : 204 < g'.next) (hg0 : g'.next ≤ atomKey 0) (s1 : σ 11 = 11) (s2 : σ 204 = 204)
    {A : Nat → Prop} {cb gb : Nat} {R S : Nat → Nat} {w : World} (hA : ∀ c, A c → c < w.heap.size) (hw : Wm A cb gb g R S w) (hd : ∀ k, 3 ≤ k → δ k ≠ none) {vs : Array Value}
    (has : ∀ ι, (∃ N, ι 11 = some (cb, N)) → (∃ N, ι 204 = some (gb, N)) → ARs ι args vs.toList) :
    Calls Tryz.prog f vs w fun e w' => ∃ V ι', e = .returned V ∧ AVR ι' v V ∧ (∃ N, ι' 204 = some (gb, N)) ∧
      (∀ k, k < 3 → (∃ c, ι' (atomKey (2 * k + 2)) = some (c, R k)) ∧ ∃ c, ι' (atomKey (2 * k + 3)) = some (c, S k)) ∧
      Wm A cb gb g' (upR δ R) (upS δ S) w' ∧ Kp A w w' := by
  obtain ⟨ι, rep, ⟨N1, i1⟩, ⟨N2, i2⟩, hf, hat, hno⟩ := hw
  obtain ⟨hE, hle, hx⟩ := hev f args g v h hr
  have hn := Nat.le_of_ble_eq_true hn
  refine (hx ι w vs rep (has ι ⟨N1, i1⟩ ⟨N2, i2⟩) (hf.mono hn)).mono ?_
  rintro e w' ⟨V, ι', rfl, hv, p⟩
  have lo : ∀ b, b < g.next → ι' b = ι b := fun b hb => p.ext b (.inl hb)
  have up : ∀ m, ι' (atomKey m) = ι (atomKey m) := fun m => p.ext _ (.inr (Nat.le_trans hn (Nat.add_le_add_left (Nat.zero_le m) _)))
  have hat' : ∀ k, k < 3 → (∃ c, ι' (atomKey (2 * k + 2)) = some (c, R k)) ∧ ∃ c, ι' (atomKey (2 * k + 3)) = some (c, S k) := fun k hk => by
    rw [up, up]; exact hat k hk
  have m : Mt ι' (io2 g'.next σ δ ι') σ δ g'.next := by
    refine ⟨fun b hb => io2_lt hb, fun k a b hd c c' r s e1 e2 => ?_, fun k hd0 => ?_⟩
    · refine ⟨⟨c, ?_⟩, c', ?_⟩
      · rw [io2_at hg0 e1, bump_r, hd]
      · rw [io2_at hg0 e2, bump_s, hd]
    · have hk : k < 3 := by
        by_cases hk : k < 3
        · exact hk
        · exact absurd hd0 (hd k (by omega))
      obtain ⟨⟨c, e1⟩, c', e2⟩ := hat' k hk
      refine ⟨⟨c, ?_⟩, c', ?_⟩
      · rw [io2_at hg0 e1, bump_r, hd0]
      · rw [io2_at hg0 e2, bump_s, hd0]
  have hdom : ∀ b c N, io2 g'.next σ δ ι' b = some (c, N) → c < w'.heap.size := by
    intro b c N hb
    unfold io2 at hb
    split at hb
    · exact p.rep.dom _ _ _ hb
    · split at hb
      · split at hb
        · rename_i c1 r1 he
          simp only [Option.some.injEq, Prod.mk.injEq] at hb
          obtain ⟨rfl, _⟩ := hb
          exact p.rep.dom _ _ _ he
        · cases hb
      · cases hb
  refine ⟨V, ι', rfl, hv, ⟨N2, by rw [lo 204 hg]; exact i2⟩, hat', ⟨io2 g'.next σ δ ι', Rep.mt p.rep m (fun b o hb => l_of hp hb) hdom hi hc, ⟨N1, ?_⟩, ⟨N2, ?_⟩, ?_, ?_, ?_⟩, ?_⟩
  · rw [io2_lt (by omega), s1, lo 11 (by omega)]; exact i1
  · rw [io2_lt (by omega), s2, lo 204 (by omega)]; exact i2
  · intro b hb hb'
    unfold io2
    rw [if_neg (by omega), if_neg (by omega)]
  · intro k hk
    obtain ⟨⟨c, e1⟩, c', e2⟩ := hat' k hk
    exact ⟨⟨c, by rw [io2_at hg0 e1, bump_r]; rfl⟩, c', by rw [io2_at hg0 e2, bump_s]; rfl⟩
  · intro b o c N hb hι hAc
    obtain ⟨k1, x, y, k2, k3, k4⟩ := mtAll_get hc b (l_of hp hb)
    rw [io2_lt k1] at hι
    rcases p.fresh (σ b) x c N k2 hι with ⟨b0, o0, N0, g1, g2⟩ | hh
    · exact hno b0 o0 c N0 g1 g2 hAc
    · have := hA c hAc; omega
  · exact ⟨p.os, p.tape, p.output, p.size, fun c hAc => p.frame c (hA c hAc) (fun b o N hb hι => hno b o c N hb hι hAc)⟩
end Go.Proofs.YtafkkicnfngpoaaGreat
