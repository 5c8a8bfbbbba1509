/- A step of the loop's body, in the world. -/
import Derived.Test.YtmjogmpgamlhaaaGreatRM
import Derived.Below
import Derived.Test.YtmjogmpgamlhaaaGreatWMD0
import Derived.OwnWalk
import Derived.Deep.LoopGhost
import Derived.BigRegion
import Derived.Test.YtmjogmpgamlhaaaGreatWK
set_option linter.unusedVariables false
set_option linter.unusedSimpArgs false
set_option linter.unusedSectionVars false
namespace Go.Proofs.YtmjogmpgamlhaaaGreat.Dm
open Go Go.RowKit

/-- The first name that no state uses: the law's arguments' rows have it and the next one. -/
noncomputable def argB : Nat := 100000000000

/-- The state is there, in blocks that came behind the first n ones; the arguments' rows have their names. -/
structure Inn (n : Nat) (q0 q1 : Option (Nat × Nat)) (g : Heap) (ι : Io) (w : World) : Prop where
  rep : Rep ι w g
  free : Free ι g.next argB
  a0 : ι argB = q0
  a1 : ι (argB + 1) = q1
  old : ∀ b o c N, g.get b = some o → ι b = some (c, N) → n ≤ c

/-- What is kept of the world. -/
structure Kpt (n : Nat) (w w' : World) : Prop where
  os : w'.os = w.os
  tape : w'.tape = w.tape
  output : w'.output = w.output
  size : w.heap.size ≤ w'.heap.size
  block : ∀ c, c < n → w'.heap[c]? = w.heap[c]?
theorem Kpt.refl (n : Nat) (w : World) : Kpt n w w := ⟨rfl, rfl, rfl, Nat.le_refl _, fun _ _ => rfl⟩
theorem Kpt.trans {n : Nat} {w w' w'' : World} (x : Kpt n w w') (y : Kpt n w' w'') : Kpt n w w'' :=
  ⟨y.os.trans x.os, y.tape.trans x.tape, y.output.trans x.output, Nat.le_trans x.size y.size, fun c hc => (y.block c hc).trans (x.block c hc)⟩

theorem Inn.post {n : Nat} {q0 q1 : Option (Nat × Nat)} {h h1 : Heap} {ι ι' : Io} {w w' : World} (x : Inn n q0 q1 h ι w) (hw : n ≤ w.heap.size) (hn : h1.next ≤ argB) (p : Post ι h h1 w w' ι') : Inn n q0 q1 h1 ι' w' ∧ Kpt n w w' := by
  refine ⟨⟨p.rep, ?_, ?_, ?_, fun b o c N hb hι => ?_⟩, ⟨p.os, p.tape, p.output, p.size, fun c hc => p.frame c (by omega) (fun b o N hb hι => ?_)⟩⟩
  · intro b hb hb'
    rw [p.ext b (.inr hb)]
    exact x.free b (Nat.le_trans p.le hb) hb'
  · rw [p.ext argB (.inr hn)]; exact x.a0
  · rw [p.ext (argB + 1) (.inr (by omega))]; exact x.a1
  · rcases p.fresh b o c N hb hι with ⟨b0, o0, N0, g1, g2⟩ | g
    · exact x.old b0 o0 c N0 g1 g2
    · omega
  · have := x.old b o c N hb hι
    omega

/-- A run of a part of the code. -/
theorem Inn.run {P : Program} {c : Code} {fr fr1 : Fr} {h h1 : Heap} (g : Goes P [.code c] fr h [] fr1 h1) {n : Nat} {q0 q1 : Option (Nat × Nat)} {ι : Io} {a : Act} {w : World} (x : Inn n q0 q1 h ι w) (hw : n ≤ w.heap.size)
    (hn : Nat.ble h1.next argB = true) (hf : FrR ι fr a.tmps) {Q : Kont}
    (k : ∀ a' w' ι', FrR ι' fr1 a'.tmps → a'.defers = a.defers → Inn n q0 q1 h1 ι' w' → Kpt n w w' → (∀ b, b < h.next → ι' b = ι b) → Q .normal a' w') : c.wp P Q a w := by
  have hn := Nat.le_of_ble_eq_true hn
  refine Goes.wp g hf x.rep (x.free.mono hn) ?_
  rintro a' w' ⟨ι', g1, g2, g3⟩
  obtain ⟨k1, k2⟩ := x.post hw hn g3
  exact k a' w' ι' g1 g2 k1 k2 (fun b hb => g3.ext b (.inl hb))

/-- The names behind. -/
noncomputable def tellI (ι : Io) (σ : Nat → Nat) (δ : Nat → Option (Nat × Nat)) (n c0 : Nat) : Io := fun b =>
  if b < n then ι (σ b) else if b = argB ∨ b = argB + 1 then ι b else
  if h : ∃ i, i < 4 ∧ (b = atomKey (2 * i + 2) ∨ b = atomKey (2 * i + 3)) then
    match δ h.choose with
    | some (x, y) => (ι b).map fun (c, r) => (c, r + if b = atomKey (2 * h.choose + 2) then x else y)
    | none => some (c0, 0)
  else none

theorem atomKey_inj {a b : Nat} (h : atomKey a = atomKey b) : a = b := by
  unfold atomKey at h
  omega

theorem Inn.tell {n : Nat} {q0 q1 : Option (Nat × Nat)} {h g : Heap} {ι : Io} {w : World} (x : Inn n q0 q1 h ι w) {σ : Nat → Nat} {δ : Nat → Option (Nat × Nat)} (hg : Nat.ble g.next argB = true) (hz : 0 < w.heap.size)
    (hc : mfB (svW σ δ g.next) σ h g = true) : ∃ ι', Inn n q0 q1 g ι' w ∧ ∀ b, b < g.next → ι' b = ι (σ b) := by
  have hg := Nat.le_of_ble_eq_true hg
  have hA : argB < atomKey 0 := by decide
  have hAk : ∀ k, argB + 1 < atomKey k := fun k => by
    show 100000000000 + 1 < 1000000000000 + k
    omega
  have e1 : ∀ b, b < g.next → tellI ι σ δ g.next 0 b = ι (σ b) := fun b hb => by unfold tellI; rw [if_pos hb]
  have e2 : ∀ b, (b = argB ∨ b = argB + 1) → tellI ι σ δ g.next 0 b = ι b := fun b hb => by
    unfold tellI
    rw [if_neg (by omega), if_pos hb]
  have e3 : ∀ b, g.next ≤ b → b ≠ argB → b ≠ argB + 1 → (¬ ∃ i, i < 4 ∧ (b = atomKey (2 * i + 2) ∨ b = atomKey (2 * i + 3))) → tellI ι σ δ g.next 0 b = none := fun b h1 h2 h3 h4 => by
    unfold tellI
    rw [if_neg (by omega), if_neg (by omega), dif_neg h4]
  have e4 : ∀ i, i < 4 → ∀ s, (s = 2 ∨ s = 3) → tellI ι σ δ g.next 0 (atomKey (2 * i + s)) = match δ i with
      | some (x, y) => (ι (atomKey (2 * i + s))).map fun (c, r) => (c, r + if s = 2 then x else y)
      | none => some (0, 0) := by
    intro i hi s hs
    have hb := hAk (2 * i + s)
    have hex : ∃ j, j < 4 ∧ (atomKey (2 * i + s) = atomKey (2 * j + 2) ∨ atomKey (2 * i + s) = atomKey (2 * j + 3)) := ⟨i, hi, by rcases hs with rfl | rfl <;> simp⟩
    have hch : hex.choose = i := by
      obtain ⟨h1, h2⟩ := hex.choose_spec
      rcases h2 with h2 | h2
      · have := atomKey_inj h2; rcases hs with rfl | rfl <;> omega
      · have := atomKey_inj h2; rcases hs with rfl | rfl <;> omega
    unfold tellI
    rw [if_neg (by omega), if_neg (by omega), dif_pos hex, hch]
    cases δ i with
    | none => rfl
    | some xy =>
      obtain ⟨x, y⟩ := xy
      have : (atomKey (2 * i + s) = atomKey (2 * i + 2)) ↔ s = 2 := ⟨fun h => by have := atomKey_inj h; omega, fun h => by rw [h]⟩
      simp only [this]
  refine ⟨tellI ι σ δ g.next 0, ⟨Rep.mfB x.rep e1 (svW_sound ⟨e1, ?_, ?_⟩) ?_ hc, ?_, ?_, ?_, ?_⟩, e1⟩
  · intro i a b hi hd c c' r s h1 h2
    rw [e4 i hi 2 (.inl rfl), e4 i hi 3 (.inr rfl), hd]
    simp only [h1, h2, Option.map_some]
    exact ⟨⟨c, rfl⟩, ⟨c', rfl⟩⟩
  · intro i hi hd
    rw [e4 i hi 2 (.inl rfl), e4 i hi 3 (.inr rfl), hd]
    exact ⟨⟨0, rfl⟩, ⟨0, rfl⟩⟩
  · intro b c N hb
    by_cases h1 : b < g.next
    · rw [e1 b h1] at hb; exact x.rep.dom _ _ _ hb
    by_cases h2 : b = argB ∨ b = argB + 1
    · rw [e2 b h2] at hb; exact x.rep.dom _ _ _ hb
    by_cases h3 : ∃ i, i < 4 ∧ (b = atomKey (2 * i + 2) ∨ b = atomKey (2 * i + 3))
    · have key : ∀ i s, i < 4 → (s = 2 ∨ s = 3) → b = atomKey (2 * i + s) → c < w.heap.size := by
        intro i s hi hs hbe
        subst hbe
        rw [e4 i hi s hs] at hb
        cases hd : δ i with
        | none =>
          rw [hd] at hb
          simp only [Option.some.injEq, Prod.mk.injEq] at hb
          omega
        | some xy =>
          obtain ⟨x0, y0⟩ := xy
          rw [hd] at hb
          simp only [Option.map_eq_some_iff, Prod.exists, Prod.mk.injEq] at hb
          obtain ⟨c1, r1, g1, g2, g3⟩ := hb
          subst g2
          exact x.rep.dom _ _ _ g1
      obtain ⟨i, hi, hb' | hb'⟩ := h3
      · exact key i 2 hi (.inl rfl) hb'
      · exact key i 3 hi (.inr rfl) hb'
    · rw [e3 b (by omega) (fun h => h2 (.inl h)) (fun h => h2 (.inr h)) h3] at hb; cases hb
  · intro b hb hb'
    refine e3 b hb (by omega) (by omega) ?_
    rintro ⟨i, hi, h | h⟩
    · have := hAk (2 * i + 2); omega
    · have := hAk (2 * i + 3); omega
  · rw [e2 argB (.inl rfl)]; exact x.a0
  · rw [e2 (argB + 1) (.inr rfl)]; exact x.a1
  · intro b o c N hb hι
    unfold Dm.mfB at hc
    rw [Bool.and_eq_true] at hc
    obtain ⟨hlt, o1, o2, g1, g2, g3⟩ := mtF_get hc.1 b (keysT_mem hb)
    rw [e1 b hlt] at hι
    exact x.old (σ b) o1 c N g1 hι
end Go.Proofs.YtmjogmpgamlhaaaGreat.Dm

set_option maxRecDepth 100000
namespace Go.Proofs.YtmjogmpgamlhaaaGreat
open Go Go.RowKit Go.Lib Go.Proofs.YtmjogmpgamlhaaaGreat.Dm

/-- What is told of the law's slots at its loop. -/
structure Fz (V0 V1 V6 V11 V12 : Value) (ds : List Deferred) (a : Act) : Prop where
  sz : a.tmps.size = 167
  ds : a.defers = ds
  t0 : a.tmps[0]? = some V0
  t1 : a.tmps[1]? = some V1
  t6 : a.tmps[6]? = some V6
  t11 : a.tmps[11]? = some V11
  t12 : a.tmps[12]? = some V12

theorem lit_list {α : Type} (d : α) (l : List α) : l = (List.range l.length).map fun i => l.getD i d := by
  apply List.ext_getElem
  · simp
  · intro i h1 h2
    simp [List.getD, List.getElem?_eq_getElem h1]
theorem getD_of {a : Array Value} {i : Nat} {V d : Value} (h : a[i]? = some V) : a.toList.getD i d = V := by
  rw [List.getD, Array.getElem?_toList, h]; rfl

theorem Fz.lit {V0 V1 V6 V11 V12 : Value} {ds : List Deferred} {a : Act} (h : Fz V0 V1 V6 V11 V12 ds a) : ∃ x : Nat → Value, a = ⟨#[V0, V1, (x 2), (x 3), (x 4), (x 5), V6, (x 7), (x 8), (x 9), (x 10), V11, V12, (x 13), (x 14), (x 15), (x 16), (x 17), (x 18), (x 19), (x 20), (x 21), (x 22), (x 23), (x 24), (x 25), (x 26), (x 27), (x 28), (x 29), (x 30), (x 31), (x 32), (x 33), (x 34), (x 35), (x 36), (x 37), (x 38), (x 39), (x 40), (x 41), (x 42), (x 43), (x 44), (x 45), (x 46), (x 47), (x 48), (x 49), (x 50), (x 51), (x 52), (x 53), (x 54), (x 55), (x 56), (x 57), (x 58), (x 59), (x 60), (x 61), (x 62), (x 63), (x 64), (x 65), (x 66), (x 67), (x 68), (x 69), (x 70), (x 71), (x 72), (x 73), (x 74), (x 75), (x 76), (x 77), (x 78), (x 79), (x 80), (x 81), (x 82), (x 83), (x 84), (x 85), (x 86), (x 87), (x 88), (x 89), (x 90), (x 91), (x 92), (x 93), (x 94), (x 95), (x 96), (x 97), (x 98), (x 99), (x 100), (x 101), (x 102), (x 103), (x 104), (x 105), (x 106), (x 107), (x 108), (x 109), (x 110), (x 111), (x 112), (x 113), (x 114), (x 115), (x 116), (x 117), (x 118), (x 119), (x 120), (x 121), (x 122), (x 123), (x 124), (x 125), (x 126), (x 127), (x 128), (x 129), (x 130), (x 131), (x 132), (x 133), (x 134), (x 135), (x 136), (x 137), (x 138), (x 139), (x 140), (x 141), (x 142), (x 143), (x 144), (x 145), (x 146), (x 147), (x 148), (x 149), (x 150), (x 151), (x 152), (x 153), (x 154), (x 155), (x 156), (x 157), (x 158), (x 159), (x 160), (x 161), (x 162), (x 163), (x 164), (x 165), (x 166)], ds⟩ := by
  obtain ⟨tm, d⟩ := a
  obtain ⟨h1, rfl, h2, h3, h4, h5, h6⟩ := h
  have e := lit_list undef tm.toList
  rw [show tm.toList.length = 167 from h1] at e
  have e2 : tm = ((List.range 167).map fun i => tm.toList.getD i undef).toArray := by
    apply Array.toList_inj.1
    simpa using e
  refine ⟨fun i => tm.toList.getD i undef, ?_⟩
  rw [← getD_of (d := undef) h2, ← getD_of (d := undef) h3, ← getD_of (d := undef) h4, ← getD_of (d := undef) h5, ← getD_of (d := undef) h6]
  congr 1
end Go.Proofs.YtmjogmpgamlhaaaGreat

set_option maxRecDepth 100000
namespace Go.Proofs.YtmjogmpgamlhaaaGreat
open Go Go.RowKit Go.Lib Go.Proofs.YtmjogmpgamlhaaaGreat.Dm

noncomputable def pB : List Nat := [1,1,1,1,1,1,1,1,1,0,1, 0,0]
noncomputable def c24 : Code := sub wmbody3 [1,1,1,1,1,1,1,1,1,0,1, 0,0, 0,0]
noncomputable def c25 : Code := sub wmbody3 [1,1,1,1,1,1,1,1,1,0,1, 0,0, 1,1]
noncomputable def c26 : Code := sub wmbody3 [1,1,1,1,1,1,1,1,1,0,1, 0,0, 1,0,0, 0]
noncomputable def c27 : Code := sub wmbody3 [1,1,1,1,1,1,1,1,1,0,1, 0,0, 1,0,0, 1,0,0]
noncomputable def c28 : Code := sub wmbody3 [1,1,1,1,1,1,1,1,1,0,1, 0,0, 1,0,0, 1,0,1,0,0]

theorem w25 {V0 V1 V6 V11 : Value} {i : Nat} (hi : i < 1000) {ds : List Deferred} {a : Act} (h : Fz V0 V1 V6 V11 (.int .i64 (i : Int)) ds a) (w : World) {Q : Kont}
    (k : ∀ a', Fz V0 V1 V6 V11 (.int .i64 ((i + 1 : Nat) : Int)) ds a' → Q .normal a' w) : c25.wp Tryz.prog Q a w := by
  obtain ⟨x, rfl⟩ := h.lit
  have HK : Aside (∀ a', Fz V0 V1 V6 V11 (.int .i64 ((i + 1 : Nat) : Int)) ds a' → Q .normal a' w) := k
  clear k h
  unfold c25
  conv => arg 2; whnf
  go_wp2
  refine HK.out _ ⟨rfl, rfl, rfl, rfl, rfl, rfl, ?_⟩
  show some _ = some _
  congr 2

theorem w27 {V0 V6 V11 V12 : Value} {p : Option Addr} {n cap : Nat} {i : Nat} {ds : List Deferred} {a : Act} (h : Fz V0 (.slice p n cap) V6 V11 (.int .i64 (i : Int)) ds a) (w : World) {Q : Kont}
    {z : Value} (hz : a.tmps[13]? = some z)
    (k : ∀ a', Fz V0 (.slice p n cap) V6 V11 (.int .i64 (i : Int)) ds a' → a'.tmps[13]? = some z → a'.tmps[91]? = some (.bool (decide (i < n))) → Q .normal a' w) : c27.wp Tryz.prog Q a w := by
  obtain ⟨x, rfl⟩ := h.lit
  have HK : Aside (∀ a', Fz V0 (.slice p n cap) V6 V11 (.int .i64 (i : Int)) ds a' → a'.tmps[13]? = some z → a'.tmps[91]? = some (.bool (decide (i < n))) → Q .normal a' w) := k
  have hz' : some (x 13) = some z := hz
  clear k h hz
  unfold c27
  conv => arg 2; whnf
  go_wp2
  exact HK.out _ ⟨rfl, rfl, rfl, rfl, rfl, rfl, rfl⟩ hz' rfl

theorem w24 {V1 V6 V11 V12 : Value} {p : Option Addr} {n cap : Nat} {i : Nat} {ds : List Deferred} {a : Act} (h : Fz (.slice p n cap) V1 V6 V11 (.int .i64 (i : Int)) ds a) (w : World) {Q : Kont}
    (k : ∀ a', Fz (.slice p n cap) V1 V6 V11 (.int .i64 (i : Int)) ds a' → a'.tmps[79]? = some (.bool (decide (i < n) && decide (i < 40))) → Q .normal a' w) : c24.wp Tryz.prog Q a w := by
  obtain ⟨x, rfl⟩ := h.lit
  have HK : Aside (∀ a', Fz (.slice p n cap) V1 V6 V11 (.int .i64 (i : Int)) ds a' → a'.tmps[79]? = some (.bool (decide (i < n) && decide (i < 40))) → Q .normal a' w) := k
  clear k h
  unfold c24
  conv => arg 2; whnf
  by_cases h1 : (i : Int) < (n : Int)
  · go_wp2
    refine HK.out _ ⟨rfl, rfl, rfl, rfl, rfl, rfl, rfl⟩ ?_
    show some _ = some _
    rw [decide_eq_true (show i < n by omega)]
    first | rfl | (simp; done) | (simp; omega)
  · go_wp2
    refine HK.out _ ⟨rfl, rfl, rfl, rfl, rfl, rfl, rfl⟩ ?_
    show some _ = some _
    rw [decide_eq_false (show ¬ i < n by omega)]
    first | rfl | (simp; done)

theorem maskL (m : Nat) (hm : m < 32) (z : Int) : ∃ r : Nat, r ≤ m ∧ bits .and .i64 z (m : Int) = (r : Int) := by
  have e : bits .and .i64 z (m : Int) = IntKind.wrap .i64 ((BitVec.ofInt 64 z &&& BitVec.ofInt 64 (m : Int)).toNat : Int) := rfl
  have h : (BitVec.ofInt 64 z &&& BitVec.ofInt 64 (m : Int)).toNat ≤ m := by
    rw [BitVec.toNat_and]
    refine Nat.le_trans Nat.and_le_right ?_
    rw [BitVec.toNat_ofInt]
    omega
  refine ⟨(BitVec.ofInt 64 z &&& BitVec.ofInt 64 (m : Int)).toNat, h, ?_⟩
  rw [e]
  generalize (BitVec.ofInt 64 z &&& BitVec.ofInt 64 (m : Int)).toNat = r at h
  simp [IntKind.wrap, IntKind.signed, IntKind.bits]
  omega

theorem w26 {V1 V6 V11 : Value} {b o n cap : Nat} {i : Nat} {z : Int} {ds : List Deferred} {a : Act} (h : Fz (.slice (some ⟨b, o, none⟩) n cap) V1 V6 V11 (.int .i64 (i : Int)) ds a) (w : World) (hi : i < n) (hc : w.cell? ⟨b, o + i, none⟩ = some (.int .i64 z)) {Q : Kont}
    (k : ∀ a' (r : Nat), r < 4 → Fz (.slice (some ⟨b, o, none⟩) n cap) V1 V6 V11 (.int .i64 (i : Int)) ds a' → a'.tmps[13]? = some (.int .u64 (r : Int)) → Q .normal a' w) : c26.wp Tryz.prog Q a w := by
  obtain ⟨x, rfl⟩ := h.lit
  have HK : Aside (∀ a' (r : Nat), r < 4 → Fz (.slice (some ⟨b, o, none⟩) n cap) V1 V6 V11 (.int .i64 (i : Int)) ds a' → a'.tmps[13]? = some (.int .u64 (r : Int)) → Q .normal a' w) := k
  obtain ⟨r, hr, hm⟩ := maskL 3 (by omega) z
  have hm : bits .and .i64 z 3 = (r : Int) := hm
  clear k h
  unfold c26
  conv => arg 2; whnf
  go_wp2
  refine HK.out _ r (by omega) ⟨rfl, rfl, rfl, rfl, rfl, rfl, rfl⟩ ?_
  show some _ = some _
  have : (r = 0 ∨ r = 1 ∨ r = 2 ∨ r = 3) := by omega
  rcases this with rfl | rfl | rfl | rfl <;> first | rfl | (simp [IntKind.wrap, IntKind.signed, IntKind.bits]; done)

theorem w28 {V0 V6 V11 : Value} {b o n cap : Nat} {i : Nat} {z : Int} {ds : List Deferred} {a : Act} (h : Fz V0 (.slice (some ⟨b, o, none⟩) n cap) V6 V11 (.int .i64 (i : Int)) ds a) (w : World) (hi : i < n) (hc : w.cell? ⟨b, o + i, none⟩ = some (.int .i64 z)) {u : Value} (hu : a.tmps[13]? = some u) {Q : Kont}
    (k : ∀ a' (r : Nat), r < 16 → Fz V0 (.slice (some ⟨b, o, none⟩) n cap) V6 V11 (.int .i64 (i : Int)) ds a' → a'.tmps[13]? = some u → a'.tmps[96]? = some (.int .i64 (r : Int)) → Q .normal a' w) : c28.wp Tryz.prog Q a w := by
  obtain ⟨x, rfl⟩ := h.lit
  have HK : Aside (∀ a' (r : Nat), r < 16 → Fz V0 (.slice (some ⟨b, o, none⟩) n cap) V6 V11 (.int .i64 (i : Int)) ds a' → a'.tmps[13]? = some u → a'.tmps[96]? = some (.int .i64 (r : Int)) → Q .normal a' w) := k
  obtain ⟨r, hr, hm⟩ := maskL 15 (by omega) z
  have hm : bits .and .i64 z 15 = (r : Int) := hm
  have hu' : Aside (some (x 13) = some u) := hu
  clear k h hu
  unfold c28
  conv => arg 2; whnf
  go_wp2
  exact HK.out _ r (by omega) ⟨rfl, rfl, rfl, rfl, rfl, rfl, rfl⟩ hu'.out rfl
end Go.Proofs.YtmjogmpgamlhaaaGreat

set_option maxRecDepth 100000
namespace Go.Proofs.YtmjogmpgamlhaaaGreat
open Go Go.RowKit Go.Lib Go.Proofs.YtmjogmpgamlhaaaGreat.Dm

noncomputable def iA (i : Nat) : AV := .cv (.sc (.i .i64 (.ofNat i)))

/-- The run of a part of the code from one state to what another one tells. -/
noncomputable def StepG (m : Nat) (c : Code) (f0 f1 : AV → AV → AV → Fr) (h g : Heap) : Prop := ∀ X0 X1 X2 : AV, ∃ h1 L S, (cek kkW m [.code c] (f0 X0 X1 X2) h).prune L S = .st [] (f1 X0 X1 X2) h1 ∧ Nat.ble h1.next argB = true ∧ Nat.ble g.next argB = true ∧ Nat.blt 7107 h.next = true ∧
  ∃ σ δ, σ 4061 = 4061 ∧ σ 7107 = 7107 ∧ Nat.blt 7107 g.next = true ∧ mfB (svW σ δ g.next) σ h1 g = true

structure Ar (V0 V1 : Value) (X0 X1 : AV) (q0 q1 : Option (Nat × Nat)) : Prop where
  to0 : ∀ ι : Io, ι argB = q0 → AVR ι X0 V0
  of0 : ∀ (ι : Io) V, ι argB = q0 → AVR ι X0 V → V = V0
  to1 : ∀ ι : Io, ι (argB + 1) = q1 → AVR ι X1 V1
  of1 : ∀ (ι : Io) V, ι (argB + 1) = q1 → AVR ι X1 V → V = V1

/-- The names' blocks. -/
structure Nm (q0 q1 : Option (Nat × Nat)) (pb qb : Nat) (ι : Io) : Prop where
  a0 : ι argB = q0
  a1 : ι (argB + 1) = q1
  p : ∃ N, ι 4061 = some (pb, N)
  q : ∃ N, ι 7107 = some (qb, N)
noncomputable def At (n : Nat) (q0 q1 : Option (Nat × Nat)) (pb qb : Nat) (g : Heap) (w : World) : Prop := ∃ ι, Inn n q0 q1 g ι w ∧ Nm q0 q1 pb qb ι

abbrev ptrV (b : Nat) : Value := .pointer (some ⟨b, 0, none⟩)

theorem FrR.putS {ι : Io} {n : Nat} {t : Tr AV} {tm : Array Value} {k : Nat} {v : AV} {V : Value} (h : FrR ι ⟨n, t⟩ tm) (hk : tm[k]? = some V) (hv : AVR ι v V) : FrR ι ⟨n, t.put (some v) k⟩ tm := by
  refine ⟨h.1, fun s u hs => ?_⟩
  simp only [Tr.get_put] at hs
  by_cases e : s = k
  · rw [if_pos e] at hs
    obtain rfl := Option.some.inj hs
    exact ⟨V, by rw [e]; exact hk, hv⟩
  · rw [if_neg e] at hs
    exact h.2 s u hs

section
variable {V0 V1 : Value} {X0 X1 : AV} {q0 q1 : Option (Nat × Nat)} (A : Ar V0 V1 X0 X1 q0 q1) {pb qb i : Nat} {ds : List Deferred}
include A

theorem frT_to {ι : Io} (m : Nm q0 q1 pb qb ι) {a : Act} (h : Fz V0 V1 (ptrV pb) (ptrV qb) (.int .i64 (i : Int)) ds a) : FrR ι (frE X0 X1 (iA i)) a.tmps := by
  obtain ⟨N, hp⟩ := m.p
  obtain ⟨M, hq⟩ := m.q
  unfold frE frT
  refine FrR.putS (FrR.putS (FrR.putS (FrR.putS (FrR.putS (t := Tr.e) ⟨h.sz, fun t v ht => ?_⟩ h.t12 ?_) h.t11 ?_) h.t6 ?_) h.t1 (A.to1 ι m.a1)) h.t0 (A.to0 ι m.a0)
  · rw [Tr.get_e] at ht; cases ht
  · rfl
  · exact ⟨qb, M, hq, rfl⟩
  · exact ⟨pb, N, hp, rfl⟩

theorem fr_of {ι : Io} (m : Nm q0 q1 pb qb ι) {a : Act} {fr : Fr} (hn : fr.n = 167) (g0 : fr.t.get 0 = some X0) (g1 : fr.t.get 1 = some X1) (g6 : fr.t.get 6 = some (.cv (.sc (.p 4061 0)))) (g11 : fr.t.get 11 = some (.cv (.sc (.p 7107 0)))) (g12 : fr.t.get 12 = some (iA i))
    (h : FrR ι fr a.tmps) (hd : a.defers = ds) : Fz V0 V1 (ptrV pb) (ptrV qb) (.int .i64 (i : Int)) ds a := by
  obtain ⟨N, hp⟩ := m.p
  obtain ⟨M, hq⟩ := m.q
  obtain ⟨U0, a0, b0⟩ := h.2 _ _ g0
  obtain ⟨U1, a1, b1⟩ := h.2 _ _ g1
  obtain ⟨U6, a6, b6⟩ := h.2 _ _ g6
  obtain ⟨U11, a11, b11⟩ := h.2 _ _ g11
  obtain ⟨U12, a12, b12⟩ := h.2 _ _ g12
  obtain rfl := A.of0 ι _ m.a0 b0
  obtain rfl := A.of1 ι _ m.a1 b1
  obtain ⟨cb, N', e1, rfl⟩ := b6
  rw [hp] at e1; simp only [Option.some.injEq, Prod.mk.injEq] at e1
  obtain ⟨rfl, rfl⟩ := e1
  obtain ⟨cb', M', e2, rfl⟩ := b11
  rw [hq] at e2; simp only [Option.some.injEq, Prod.mk.injEq] at e2
  obtain ⟨rfl, rfl⟩ := e2
  obtain rfl : U12 = .int .i64 (i : Int) := b12
  exact ⟨h.1.trans hn, hd, a0, a1, a6, a11, a12⟩
end

theorem step_go {m : Nat} {c : Code} {f0 f1 : AV → AV → AV → Fr} {h g : Heap} (s : StepG m c f0 f1 h g) {n : Nat} {q0 q1 : Option (Nat × Nat)} {pb qb : Nat} {w : World} (x : At n q0 q1 pb qb h w) (hw : n ≤ w.heap.size) (hz : 0 < w.heap.size) (X0 X1 X2 : AV) {a : Act}
    (hf : ∀ ι, Nm q0 q1 pb qb ι → FrR ι (f0 X0 X1 X2) a.tmps) {Q : Kont}
    (k : ∀ a' w', (∃ ι, Nm q0 q1 pb qb ι ∧ FrR ι (f1 X0 X1 X2) a'.tmps) → a'.defers = a.defers → At n q0 q1 pb qb g w' → Kpt n w w' → Q .normal a' w') : c.wp Tryz.prog Q a w := by
  obtain ⟨h1, L, S, hr, hb1, hb2, hb3, σ, δ, s1, s2, hb4, hm⟩ := s X0 X1 X2
  obtain ⟨ι, hin, nm⟩ := x
  have hb3 : 7107 < h.next := Nat.le_of_ble_eq_true hb3
  have hb4 : 7107 < g.next := Nat.le_of_ble_eq_true hb4
  refine Inn.run (Goes.piece kkW_ok hr) hin hw hb1 (hf ι nm) ?_
  intro a' w' ι' k1 k2 k3 k4 k5
  have nm' : Nm q0 q1 pb qb ι' := ⟨k3.a0, k3.a1, by rw [k5 4061 (by omega)]; exact nm.p, by rw [k5 7107 (by omega)]; exact nm.q⟩
  obtain ⟨ι2, j1, j2⟩ := k3.tell hb2 (by have := k4.size; omega) hm
  refine k a' w' ⟨ι', nm', k1⟩ k2 ⟨ι2, j1, j1.a0, j1.a1, ?_, ?_⟩ k4
  · rw [j2 4061 (by omega), s1]; exact nm'.p
  · rw [j2 7107 (by omega), s2]; exact nm'.q

section
variable {V0 V1 : Value} {X0 X1 : AV} {q0 q1 : Option (Nat × Nat)} (A : Ar V0 V1 X0 X1 q0 q1) {pb qb i n k : Nat} {ds : List Deferred} {h g : Heap} {w : World} {a : Act}
include A

theorem goZ (s : StepG 7 cZ (fun X0 X1 X2 => frK X0 X1 X2 (kA k)) frE h g) (x : At n q0 q1 pb qb h w) (hw : n ≤ w.heap.size) (hz : 0 < w.heap.size) (hf : Fz V0 V1 (ptrV pb) (ptrV qb) (.int .i64 (i : Int)) ds a) (hk : a.tmps[13]? = some (.int .u64 (k : Int))) {Q : Kont}
    (kk : ∀ a' w', Fz V0 V1 (ptrV pb) (ptrV qb) (.int .i64 (i : Int)) ds a' → At n q0 q1 pb qb g w' → Kpt n w w' → Q .normal a' w') : cZ.wp Tryz.prog Q a w := by
  refine step_go s x hw hz X0 X1 (iA i) (fun ι m => ?_) ?_
  · exact FrR.putS (frT_to A m hf) hk rfl
  · rintro a' w' ⟨ι, m, k1⟩ k2 k3 k4
    exact kk a' w' (fr_of A m rfl rfl rfl rfl rfl rfl k1 (k2.trans hf.ds)) k3 k4

theorem goY {how : Nat} (s : StepG 5 cY (fun X0 X1 X2 => frY X0 X1 X2 (kA k) how) (fun X0 X1 X2 => frK X0 X1 X2 (kA k)) h g) (x : At n q0 q1 pb qb h w) (hw : n ≤ w.heap.size) (hz : 0 < w.heap.size) (hf : Fz V0 V1 (ptrV pb) (ptrV qb) (.int .i64 (i : Int)) ds a)
    (hk : a.tmps[13]? = some (.int .u64 (k : Int))) (hh : a.tmps[96]? = some (.int .i64 (how : Int))) {Q : Kont}
    (kk : ∀ a' w', Fz V0 V1 (ptrV pb) (ptrV qb) (.int .i64 (i : Int)) ds a' → a'.tmps[13]? = some (.int .u64 (k : Int)) → At n q0 q1 pb qb g w' → Kpt n w w' → Q .normal a' w') : cY.wp Tryz.prog Q a w := by
  refine step_go s x hw hz X0 X1 (iA i) (fun ι m => ?_) ?_
  · exact FrR.putS (FrR.putS (frT_to A m hf) hk rfl) hh rfl
  · rintro a' w' ⟨ι, m, k1⟩ k2 k3 k4
    obtain ⟨U, e1, e2⟩ := k1.2 13 (kA k) rfl
    obtain rfl : U = .int .u64 (k : Int) := e2
    exact kk a' w' (fr_of A m rfl rfl rfl rfl rfl rfl k1 (k2.trans hf.ds)) e1 k3 k4
end
end Go.Proofs.YtmjogmpgamlhaaaGreat
