/- The rows' arguments, opened. -/
import Derived.Test.YtdlnipimljpmgaaIW16
import Derived.ProofKit
import Derived.ChangeShapes
import Derived.ChangeSlices
import Derived.WideShapes
import Derived.RowKit
import Derived.Deep.Slices
import Derived.Deep.Grids
set_option linter.unusedVariables false
set_option linter.unusedSimpArgs false
set_option linter.unusedSectionVars false
set_option linter.unnecessarySimpa false
namespace Go.Proofs.Ytdlnipimljpmgaa
open Go Go.Im Go.ChangeShapes Go.WideShapes Go.Deep

section
variable {H : Type} {enc : TypeId × Value → H} {w : World} {base : Nat}

theorem k3 : Try.prog.cellsOf 3 = 1 := by kernel_rfl
theorem k4 : Try.prog.cellsOf 4 = 1 := by kernel_rfl
theorem k5 : Try.prog.cellsOf 5 = 1 := by kernel_rfl
theorem k22 : Try.prog.cellsOf 22 = 1 := by kernel_rfl
theorem k32 : Try.prog.cellsOf 32 = 1 := by kernel_rfl
theorem k64 : Try.prog.cellsOf 64 = 1 := by kernel_rfl
theorem k66 : Try.prog.cellsOf 66 = 6 := by kernel_rfl

theorem cell_plain {a : Addr} {v : Value} (h : w.cell? a = some v) : a = ⟨a.block, a.off, none⟩ ∧ a.block < w.heap.size := by
  obtain ⟨b, o, s⟩ := a
  unfold World.cell? at h
  split at h
  · rename_i c t fr hb
    refine ⟨?_, ?_⟩
    · cases s with
      | none => rfl
      | some x => simp at h
    · show b < w.heap.size
      by_cases hlt : b < w.heap.size
      · exact hlt
      · rw [Array.getElem?_eq_none (Nat.le_of_not_lt hlt)] at hb
        cases hb
  · cases h

theorem open_nums {t e : TypeId} {k : IntKind} {n : Nat} {c : Value} {y : DataW H × List MemPlace} (ht : Try.prog.underlying t = some (.slice e)) (he : Try.prog.underlying e = some (.int k)) (hc : Try.prog.cellsOf e = 1)
    (h : DataW.trod enc Try.prog w base (fun _ => true) true n t [c] = some y) :
    ∃ (l : List Int) (a : Option Addr) (cap : Nat), c = .slice a l.length cap ∧ l.length ≤ cap ∧ cap ≤ maxLen ∧
      (l = [] ∨ ∃ b off, a = some ⟨b, off, none⟩ ∧ b < w.heap.size ∧ ∀ j u, (l.map (Value.int k))[j]? = some u → w.cell? ⟨b, off + j, none⟩ = some u) ∧ (∀ x ∈ l, (Lit.int k x).wf = true) := by
  rcases open_ints ht he hc h with ⟨hc, _⟩ | ⟨a, len, cap, zs, hc, hb, hl, hm, hz, _, hcell, hwf⟩
  · simp only [List.cons.injEq, and_true] at hc
    subst hc
    exact ⟨[], none, 0, rfl, Nat.le_refl _, Nat.zero_le _, .inl rfl, fun x hx => by cases hx⟩
  · simp only [List.cons.injEq, and_true] at hc
    subst hc
    simp only [if_true] at hz
    have hlen : (zs.take len).length = len := by simp; omega
    refine ⟨zs.take len, some a, cap, by rw [hlen], by omega, hm, ?_, fun x hx => hwf x (List.mem_of_mem_take hx)⟩
    by_cases h0 : len = 0
    · subst h0
      exact .inl (by simp)
    · right
      have h2 : w.cell? a = some (.int k (zs.getD 0 0)) := by simpa [Addr.add] using hcell 0 (by omega)
      obtain ⟨ha, hlt⟩ := cell_plain h2
      refine ⟨a.block, a.off, by rw [← ha], hlt, fun j u hj => ?_⟩
      have hj' : j < len := by
        by_cases hj' : j < len
        · exact hj'
        · rw [List.getElem?_eq_none (by simp; omega)] at hj; cases hj
      have h3 := hcell j (by omega)
      rw [ha, Addr.add_lit] at h3
      rw [h3]
      rw [List.getElem?_map, List.getElem?_take, if_pos hj'] at hj
      have hg : zs[j]? = some (zs.getD j 0) := by
        rw [List.getElem?_eq_getElem (by omega)]
        simp [List.getD, List.getElem?_eq_getElem (show j < zs.length by omega)]
      rw [hg] at hj
      simpa using hj

theorem open_bytes {n : Nat} {c : Value} {y : DataW H × List MemPlace} (h : DataW.trod enc Try.prog w base (fun _ => true) true n 32 [c] = some y) :
    ∃ (l : List Int) (a : Option Addr) (cap : Nat), c = .slice a l.length cap ∧ l.length ≤ maxLen ∧ Bs w.heap.size w c l ∧ Byte l := by
  obtain ⟨l, a, cap, rfl, h1, h2, h3, h4⟩ := open_nums Try.underlying32 Try.underlying5 k5 h
  refine ⟨l, a, cap, rfl, by omega, ⟨a, cap, rfl, h3⟩, fun x hx => ?_⟩
  have := h4 x hx
  simp [Lit.wf, IntKind.min, IntKind.max, IntKind.bits, IntKind.signed] at this
  omega

theorem open_nints {n : Nat} {c : Value} {y : DataW H × List MemPlace} (h : DataW.trod enc Try.prog w base (fun _ => true) true n 64 [c] = some y) :
    ∃ (l : List Int), Is w.heap.size w c l ∧ l.length ≤ maxLen := by
  obtain ⟨l, a, cap, rfl, h1, h2, h3, h4⟩ := open_nums Try.underlying64 Try.underlying3 k3 h
  exact ⟨l, ⟨a, cap, rfl, h3⟩, by omega⟩

theorem num_of (a : Nat) (h : a ≤ maxLen) : a ≤ 9223372036854775807 := by unfold maxLen at h; omega

set_option maxRecDepth 100000 in
theorem open_leaf {n : Nat} {cs : List Value} {x : DataW H × List MemPlace} (h : DataW.trod enc Try.prog w base (fun _ => true) true n 66 cs = some x) :
    ∃ (s : Ln) (f g : Value), cs = s.cells f g ∧ (0 ≤ s.page ∧ s.page < 18446744073709551616) ∧ Byte s.b ∧ s.ats.length ≤ 9223372036854775807 ∧ s.b.length ≤ 9223372036854775807 ∧ Is w.heap.size w f s.ats ∧ Bs w.heap.size w g s.b := by
  obtain ⟨xs, m, _, _, hl, hlen, hf⟩ := DataW.trod_struct Try.underlying66 h
  rw [k66] at hl
  match cs, hl with
  | [c0, c1, c2, c3, c4, c5], _ =>
  match xs, hlen with
  | [y0, y1, y2, y3, y4, y5], _ =>
  have g0 : DataW.trod enc Try.prog w base (fun _ => true) true m 22 (([c0, c1, c2, c3, c4, c5].drop 0).take (Try.prog.cellsOf 22)) = some y0 := hf 0 _ rfl
  have g1 : DataW.trod enc Try.prog w base (fun _ => true) true m 3 (([c0, c1, c2, c3, c4, c5].drop 1).take (Try.prog.cellsOf 3)) = some y1 := hf 1 _ rfl
  have g2 : DataW.trod enc Try.prog w base (fun _ => true) true m 4 (([c0, c1, c2, c3, c4, c5].drop 2).take (Try.prog.cellsOf 4)) = some y2 := hf 2 _ rfl
  have g3 : DataW.trod enc Try.prog w base (fun _ => true) true m 64 (([c0, c1, c2, c3, c4, c5].drop 3).take (Try.prog.cellsOf 64)) = some y3 := hf 3 _ rfl
  have g4 : DataW.trod enc Try.prog w base (fun _ => true) true m 32 (([c0, c1, c2, c3, c4, c5].drop 4).take (Try.prog.cellsOf 32)) = some y4 := hf 4 _ rfl
  have g5 : DataW.trod enc Try.prog w base (fun _ => true) true m 4 (([c0, c1, c2, c3, c4, c5].drop 5).take (Try.prog.cellsOf 4)) = some y5 := hf 5 _ rfl
  rw [k22] at g0
  rw [k3] at g1
  rw [k4] at g2 g5
  rw [k64] at g3
  rw [k32] at g4
  obtain ⟨n0, e0, _, w0⟩ := DataW.trod_int Try.underlying22 g0
  obtain ⟨n1, e1, _, _⟩ := DataW.trod_int Try.underlying3 g1
  obtain ⟨b2, e2, _⟩ := DataW.trod_bool Try.underlying4 g2
  obtain ⟨l3, i3, m3⟩ := open_nints (by simpa using g3)
  obtain ⟨l4, a4, cap4, e4, m4, b4, by4⟩ := open_bytes (by simpa using g4)
  obtain ⟨b5, e5, _⟩ := DataW.trod_bool Try.underlying4 g5
  simp at e0 e1 e2 e5
  subst e0 e1 e2 e5
  have w0 : 0 ≤ n0 ∧ n0 < 18446744073709551616 := by
    simp [Lit.wf, IntKind.min, IntKind.max, IntKind.bits, IntKind.signed] at w0
    omega
  exact ⟨⟨n0, n1, b2, l3, l4, b5⟩, _, _, rfl, w0, by4, num_of _ m3, num_of _ m4, i3, b4⟩

set_option maxRecDepth 100000 in
theorem open_leaves {b0 : Nat} {v : Value} {d : DataW H} {ps : List MemPlace} (hval : Value.okWide Try.prog w .any b0 23 v) (h : DataW.Trod enc Try.prog w 0 (fun _ => true) true 23 v d ps) :
    ∃ (a : Option Addr) (cap : Nat) (l : List Ln), v = .slice a l.length cap ∧ Lns w.heap.size w v l := by
  obtain ⟨a, len, cap, rfl⟩ := okWide_slice Try.underlying23 hval
  obtain ⟨fuel, hf⟩ := h
  rcases open_slice Try.underlying23 hf with ⟨h0, _⟩ | ⟨ad, len', cap', m, n, D, Pl, hc, hb, hl, hm, hmm, _, hx⟩
  · simp [Value.cells] at h0
    obtain ⟨rfl, rfl, rfl⟩ := h0
    exact ⟨none, 0, [], rfl, none, 0, rfl, .inl rfl⟩
  · simp [Value.cells] at hc
    obtain ⟨rfl, rfl, rfl⟩ := hc
    simp only [if_true] at hmm
    subst hmm
    have hhas : ad.spot = none ∧ ad.block < w.heap.size := by
      simp only [Value.okWide, Try.underlying23, Cell.okWide, Cell.ok] at hval
      obtain ⟨_, _, _, hs, row, cells, hsh, _⟩ := hval
      refine ⟨hs, ?_⟩
      by_cases hlt : ad.block < w.heap.size
      · exact hlt
      · unfold World.shape? at hsh
        rw [Array.getElem?_eq_none (by omega)] at hsh
        cases hsh
    have each : ∀ i, i < m → ∃ y : Ln, (0 ≤ y.page ∧ y.page < 18446744073709551616) ∧ Byte y.b ∧ y.ats.length ≤ 9223372036854775807 ∧ y.b.length ≤ 9223372036854775807 ∧ ∃ f g, (∀ j, j < 6 → w.cell? (ad.add (i * 6 + j)) = (y.cells f g)[j]?) ∧ Is w.heap.size w f y.ats ∧ Bs w.heap.size w g y.b := by
      intro i hi
      obtain ⟨cs', h1, h2⟩ := hx i hi
      obtain ⟨s, f, g, rfl, q1, q2, q3, q4, q5, q6⟩ := open_leaf h2
      refine ⟨s, q1, q2, q3, q4, f, g, fun j hj => ?_, q5, q6⟩
      rw [k66] at h1
      obtain ⟨_, hl, hc⟩ := World.cells?_some h1
      have := hc j (by omega)
      rw [Go.Deep.add_add] at this
      exact this
    haveI : Inhabited Ln := ⟨⟨0, 0, false, [], [], false⟩⟩
    obtain ⟨y, hy⟩ := choose_lt each
    have hn : ((List.range len).map y).length = len := by simp
    refine ⟨some ad, m, (List.range len).map y, by rw [hn], some ad, m, by rw [hn], .inr ?_⟩
    obtain ⟨b, o, sp⟩ := ad
    obtain ⟨h1, h2⟩ := hhas
    simp only at h1
    subst h1
    refine ⟨b, o, rfl, h2, fun i s hi => ?_⟩
    have hil : i < len := by
      have := (List.getElem?_eq_some_iff.1 hi).1
      simpa using this
    simp [hil] at hi
    subst hi
    obtain ⟨q1, q2, q3, q4, f, g, q5, q6, q7⟩ := hy i (by omega)
    refine ⟨q1, q2, q3, q4, f, g, fun j hj => ?_, q6, q7⟩
    have := q5 j hj
    rw [Addr.add_lit, ← Nat.add_assoc] at this
    exact this
end
end Go.Proofs.Ytdlnipimljpmgaa
