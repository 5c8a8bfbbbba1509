/- The machine's states in the model's world, and what a call makes of them. -/
import Derived.Test.YtafkkicnfngpoaaGreatY5a
import Derived.Test.YtafkkicnfngpoaaGreatY5b
import Derived.Test.YtafkkicnfngpoaaGreatY6
set_option linter.unusedVariables false
set_option linter.unusedSimpArgs false
set_option linter.unusedSectionVars false
namespace Go.Proofs.YtafkkicnfngpoaaGreat
open Go Go.RowKit Go.Lib Go.Proofs.YtafkkicnfngpoaaGreat.Dm

/-- The machine in the world: its state, the bytes of its page; A: blocks that are not its own. -/
def Wy (A : Nat → Prop) (cb : Nat) (g : Heap) (f : Nat → Nat) (w : World) : Prop :=
  ∃ ι, Rep ι w g ∧ (∃ N, ι 11 = some (cb, N)) ∧ Free ι g.next (atomKey 0) ∧ (∃ c r, ι (atomKey 2) = some (c, r)) ∧ (∃ c s, ι (atomKey 3) = some (c, s)) ∧
    (∀ i, i < 4096 → ∃ c, ι (atomKey (1000 + i)) = some (c, f i) ∧ f i < 256) ∧ (∀ b o c N, g.get b = some o → ι b = some (c, N) → ¬ A c)

/-- What a call keeps. -/
structure Kp (A : Nat → Prop) (w w' : World) : Prop where
  os : w'.os = w.os
  tape : w'.tape = w.tape
  output : w'.output = w.output
  size : w.heap.size ≤ w'.heap.size
  block : ∀ c, A c → w'.heap[c]? = w.heap[c]?

theorem st_next (i : Nat) : (ST i).next = 1000 := by unfold ST; split <;> rfl

theorem l_of {g : Heap} {L : List Nat} (hp : pick g.t L = g.t) {b : Nat} {o : AO} (h : g.get b = some o) : b ∈ L := by
  refine pick_mem (t := g.t) (o := o) ?_
  rw [hp]; exact h

theorem atom_ge (m : Nat) : atomKey 0 ≤ atomKey m := Nat.add_le_add_left (Nat.zero_le m) _
theorem atom_ne {m n : Nat} (h : m ≠ n) : atomKey m ≠ atomKey n := fun e => h (Nat.add_left_cancel (show 1000000000000 + m = 1000000000000 + n from e))

/-- Names behind a call. -/
noncomputable def io3 (n : Nat) (σ : Nat → Nat) (r s c : Nat) (F : Nat → Nat) (ι : Io) : Io := fun b =>
  if b < n then ι (σ b) else if b = atomKey 2 then some (c, r) else if b = atomKey 3 then some (c, s) else if atomKey 1000 ≤ b ∧ b < atomKey 5096 then some (c, F (b - atomKey 1000)) else none

section
variable {n : Nat} {σ : Nat → Nat} {r s c : Nat} {F : Nat → Nat} {ι : Io} (hn : n ≤ atomKey 0)
theorem io3_lt {b : Nat} (h : b < n) : io3 n σ r s c F ι b = ι (σ b) := if_pos h
include hn
theorem io3_2 : io3 n σ r s c F ι (atomKey 2) = some (c, r) := by
  unfold io3
  rw [if_neg (by have := atom_ge 2; omega), if_pos rfl]
theorem io3_3 : io3 n σ r s c F ι (atomKey 3) = some (c, s) := by
  unfold io3
  rw [if_neg (by have := atom_ge 3; omega), if_neg (atom_ne (by decide)), if_pos rfl]
theorem io3_b {i : Nat} (h : i < 4096) : io3 n σ r s c F ι (atomKey (1000 + i)) = some (c, F i) := by
  unfold io3
  have e1 : atomKey 1000 ≤ atomKey (1000 + i) := Nat.add_le_add_left (Nat.le_add_right _ _) _
  have e2 : atomKey (1000 + i) < atomKey 5096 := Nat.add_lt_add_left (by omega) _
  have e3 : atomKey (1000 + i) - atomKey 1000 = i := by show 1000000000000 + (1000 + i) - (1000000000000 + 1000) = i; omega
  rw [if_neg (by have := atom_ge (1000 + i); omega), if_neg (atom_ne (by omega)), if_neg (atom_ne (by omega)), if_pos ⟨e1, e2⟩, e3]
theorem io3_free : Free (io3 n σ r s c F ι) n (atomKey 0) := by
  intro b hb hb'
  have h2 := atom_ge 2
  have h3 := atom_ge 3
  have h4 := atom_ge 1000
  unfold io3
  rw [if_neg (by omega), if_neg (by omega), if_neg (by omega), if_neg (by omega)]
end

/-- Names of a place and of what is stored, ahead of a call. -/
noncomputable def io1 (va V c : Nat) (ι : Io) : Io := fun b => if b = atomKey 1 then some (c, va) else if b = atomKey 5 then some (c, V) else ι b

theorem io1_lt {va V c b : Nat} {ι : Io} (h : b < atomKey 0) : io1 va V c ι b = ι b := by
  unfold io1
  rw [if_neg (by have := atom_ge 1; omega), if_neg (by have := atom_ge 5; omega)]
theorem io1_at {va V c m : Nat} {ι : Io} (h : m ≠ 1 ∧ m ≠ 5) : io1 va V c ι (atomKey m) = ι (atomKey m) := by
  unfold io1
  rw [if_neg (atom_ne h.1), if_neg (atom_ne h.2)]

theorem BY.base {ι ι' : Io} {f : Nat → Nat} (hb : ∀ i, i < 4096 → ι' (atomKey (1000 + i)) = ι (atomKey (1000 + i))) (h : BY ι false [] f) : BY ι' false [] f := by
  intro i hi
  obtain ⟨c, h1, h2⟩ := h i hi
  exact ⟨c, by rw [hb i hi]; exact h1, h2⟩

/-- A call on the machine, as it is checked. -/
theorem stepY {ev : CallK} (hev : CallOk Tryz.prog ev) {fn : FuncId} {args : List AV} {g g' : Heap} {L Lg : List Nat} {σ : Nat → Nat} {a b : Nat} {ep : Bool × Puts} {v : AV} {h : Heap} (hp : pick g'.t L = g'.t) (hpg : pick g.t Lg = g.t)
    (hr : ev fn args g = .ok v h) (hn : Nat.ble h.next (atomKey 0) = true) (hi : injL (mapN σ L) = true) (hc : mtAll ep σ (dl a b) g'.next h.t g'.t L = true)
    (hself : mtAll (false, []) noS (dl 0 0) g.next g.t g.t Lg = true) (hselfi : injL (mapN noS Lg) = true)
    (hg : 11 < g.next) (hg' : 11 < g'.next) (hg0 : g'.next ≤ atomKey 0) (s1 : σ 11 = 11)
    {A : Nat → Prop} {cb : Nat} {f F : Nat → Nat} {w : World} (hA : ∀ c, A c → c < w.heap.size) (hw : Wy A cb g f w) (va V : Nat)
    (hF : ∀ ι' : Io, (∃ c, ι' (atomKey 1) = some (c, va)) → (∃ c, ι' (atomKey 5) = some (c, V)) → BY ι' false [] f → BY ι' ep.1 ep.2 F)
    (hFu : ∀ ι' : Io, (∃ c, ι' (atomKey 1) = some (c, va)) → (∃ c, ι' (atomKey 5) = some (c, V)) → BY ι' false [] f → ∀ F', BY ι' ep.1 ep.2 F' → ∀ i, i < 4096 → F' i = F i)
    {vs : Array Value} (has : ∀ ι, (∃ N, ι 11 = some (cb, N)) → (∃ c, ι (atomKey 1) = some (c, va)) → (∃ c, ι (atomKey 5) = some (c, V)) → ARs ι args vs.toList) :
    Calls Tryz.prog fn vs w fun e w' => ∃ U ι', e = .returned U ∧ AVR ι' v U ∧ (∃ c, ι' (atomKey 1) = some (c, va)) ∧ BY ι' false [] f ∧ Wy A cb g' F w' ∧ Kp A w w' := by
  obtain ⟨ι, rep, ⟨N1, i1⟩, hf, ⟨c2, r2, h2⟩, ⟨c3, r3, h3⟩, hby, hno⟩ := hw
  obtain ⟨hE, hle, hx⟩ := hev fn args g v h hr
  have hn := Nat.le_of_ble_eq_true hn
  have hgn : g.next ≤ atomKey 0 := Nat.le_trans hle hn
  have hcb := rep.dom _ _ _ i1
  have j1 : io1 va V cb ι (atomKey 1) = some (cb, va) := if_pos rfl
  have j5 : io1 va V cb ι (atomKey 5) = some (cb, V) := by
    unfold io1
    rw [if_neg (atom_ne (by decide)), if_pos rfl]
  have m1 : Mt ι (io1 va V cb ι) noS (dl 0 0) g.next (false, []) := by
    refine ⟨fun q hq => BY.base (fun i hi => io1_at (by omega)) hq, fun q hq => io1_lt (by omega), fun i x y hi0 hd c c' r s e1 e2 => ?_, fun i hi0 hd => by simp [dl] at hd⟩
    obtain rfl : i = 0 := by omega
    simp only [dl, Option.some.injEq] at hd
    have hxy : (0, 0) = (x, y) := hd
    simp only [Prod.mk.injEq] at hxy
    obtain ⟨rfl, rfl⟩ := hxy
    exact ⟨⟨c, by rw [io1_at (by omega)]; exact e1⟩, c', by rw [io1_at (by omega)]; exact e2⟩
  have rep1 : Rep (io1 va V cb ι) w g := Rep.mt rep m1 (fun q o hq => l_of hpg hq) (fun q c N hq => by
    unfold io1 at hq
    split at hq
    · simp only [Option.some.injEq, Prod.mk.injEq] at hq; rw [← hq.1]; exact hcb
    · split at hq
      · simp only [Option.some.injEq, Prod.mk.injEq] at hq; rw [← hq.1]; exact hcb
      · exact rep.dom _ _ _ hq) hselfi hself
  refine (hx (io1 va V cb ι) w vs rep1 (has _ ⟨N1, by rw [io1_lt (by omega)]; exact i1⟩ ⟨cb, j1⟩ ⟨cb, j5⟩) (fun q hq hq' => by rw [io1_lt (by omega)]; exact hf q hq (by omega))).mono ?_
  rintro e w' ⟨U, ι', rfl, hv, p⟩
  have lo : ∀ q, q < g.next → ι' q = ι q := fun q hq => by rw [p.ext q (.inl hq), io1_lt (by omega)]
  have up : ∀ m, ι' (atomKey m) = io1 va V cb ι (atomKey m) := fun m => p.ext _ (.inr (Nat.le_trans hn (atom_ge m)))
  have k1 : ∃ c, ι' (atomKey 1) = some (c, va) := ⟨cb, by rw [up]; exact j1⟩
  have k5 : ∃ c, ι' (atomKey 5) = some (c, V) := ⟨cb, by rw [up]; exact j5⟩
  have k2 : ι' (atomKey 2) = some (c2, r2) := by rw [up, io1_at (by omega)]; exact h2
  have k3 : ι' (atomKey 3) = some (c3, r3) := by rw [up, io1_at (by omega)]; exact h3
  have kb : BY ι' false [] f := fun i hi => by
    obtain ⟨c, q1, q2⟩ := hby i hi
    exact ⟨c, by rw [up, io1_at (by omega)]; exact q1, q2⟩
  have hFb := hF ι' k1 k5 kb
  let ι2 := io3 g'.next σ (r2 + a) (r3 + b) cb F ι'
  have m : Mt ι' ι2 σ (dl a b) g'.next ep := by
    refine ⟨fun q hq i hi => ⟨cb, ?_, hq.lt i hi⟩, fun q hq => io3_lt hq, fun i x y hi0 hd c c' r s e1 e2 => ?_, fun i hi0 hd => by simp [dl] at hd⟩
    · rw [hFu ι' k1 k5 kb q hq i hi]
      exact io3_b hg0 hi
    · obtain rfl : i = 0 := by omega
      simp only [dl, Option.some.injEq] at hd
      have hxy : (a, b) = (x, y) := hd
      simp only [Prod.mk.injEq] at hxy
      obtain ⟨rfl, rfl⟩ := hxy
      have e1 : ι' (atomKey 2) = some (c, r) := e1
      have e2 : ι' (atomKey 3) = some (c', s) := e2
      rw [k2] at e1
      rw [k3] at e2
      simp only [Option.some.injEq, Prod.mk.injEq] at e1 e2
      obtain ⟨-, rfl⟩ := e1
      obtain ⟨-, rfl⟩ := e2
      exact ⟨⟨cb, io3_2 hg0⟩, cb, io3_3 hg0⟩
  have hcb' : cb < w'.heap.size := Nat.lt_of_lt_of_le hcb p.size
  have hdom : ∀ q c N, ι2 q = some (c, N) → c < w'.heap.size := by
    intro q c N hq
    have hq : io3 g'.next σ (r2 + a) (r3 + b) cb F ι' q = some (c, N) := hq
    unfold io3 at hq
    split at hq
    · exact p.rep.dom _ _ _ hq
    · split at hq
      · simp only [Option.some.injEq, Prod.mk.injEq] at hq; rw [← hq.1]; exact hcb'
      · split at hq
        · simp only [Option.some.injEq, Prod.mk.injEq] at hq; rw [← hq.1]; exact hcb'
        · split at hq
          · simp only [Option.some.injEq, Prod.mk.injEq] at hq; rw [← hq.1]; exact hcb'
          · cases hq
  refine ⟨U, ι', rfl, hv, k1, kb, ⟨ι2, Rep.mt p.rep m (fun q o hq => l_of hp hq) hdom hi hc, ⟨N1, ?_⟩, io3_free hg0, ⟨cb, _, io3_2 hg0⟩, ⟨cb, _, io3_3 hg0⟩, fun i hi => ⟨cb, io3_b hg0 hi, hFb.lt i hi⟩, ?_⟩, ?_⟩
  · show io3 _ _ _ _ _ _ _ 11 = _
    rw [io3_lt hg', s1, lo 11 hg]; exact i1
  · intro q o c N hq hι hAc
    obtain ⟨q1, x, y, q2, q3, q4⟩ := mtAll_get hc q (l_of hp hq)
    have hι : io3 g'.next σ (r2 + a) (r3 + b) cb F ι' q = some (c, N) := hι
    rw [io3_lt q1] at hι
    rcases p.fresh (σ q) x c N q2 hι with ⟨b0, o0, N0, g1, g2⟩ | hh
    · have := rep.lt b0 o0 g1
      rw [io1_lt (by omega)] at g2
      exact hno b0 o0 c N0 g1 g2 hAc
    · have := hA c hAc; omega
  · exact ⟨p.os, p.tape, p.output, p.size, fun c hAc => p.frame c (hA c hAc) (fun q o N hq hι => by
      have := rep.lt q o hq
      rw [io1_lt (by omega)] at hι
      exact hno q o c N hq hι hAc)⟩
end Go.Proofs.YtafkkicnfngpoaaGreat
