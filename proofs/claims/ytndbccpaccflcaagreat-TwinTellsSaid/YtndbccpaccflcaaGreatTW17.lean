import Derived.Test.YtndbccpaccflcaaGreatProg
import Derived.Test.YtndbccpaccflcaaGreatTS1
import Derived.ProofKit
import Derived.ChangeShapes
import Derived.WideShapes
import Derived.RowKit
import Derived.Deep.Slices
import Derived.Deep.Grids
set_option linter.unusedVariables false
set_option linter.unusedSimpArgs false
set_option linter.unusedSectionVars false
/-! The row's argument, a slice of steps, opened. -/
namespace Go.Proofs.YtndbccpaccflcaaGreat
open Go Go.Tw Go.ChangeShapes Go.WideShapes Go.Deep

section
variable {H : Type} {enc : TypeId × Value → H} {w : World} {base : Nat}

theorem k3 : Tryz.prog.cellsOf 3 = 1 := by kernel_rfl
theorem k4 : Tryz.prog.cellsOf 4 = 1 := by kernel_rfl
theorem k23 : Tryz.prog.cellsOf 23 = 1 := by kernel_rfl
theorem k29 : Tryz.prog.cellsOf 29 = 1 := by kernel_rfl
theorem k31 : Tryz.prog.cellsOf 31 = 12 := by kernel_rfl

theorem cell_plain {a : Addr} {v : Value} (h : w.cell? a = some v) : a = ⟨a.block, a.off, none⟩ ∧ a.block < w.heap.size := by
  obtain ⟨b, o, s⟩ := a
  unfold World.cell? at h
  split at h
  · rename_i c t fr hb
    refine ⟨?_, ?_⟩
    · cases s with
      | none => rfl
      | some x => simp at h
    · show b < w.heap.size
      by_cases hlt : b < w.heap.size
      · exact hlt
      · rw [Array.getElem?_eq_none (Nat.le_of_not_lt hlt)] at hb
        cases hb
  · cases h

theorem open_fails {n : Nat} {c : Value} {y : DataW H × List MemPlace} (h : DataW.trod enc Tryz.prog w base (fun _ => true) true n 29 [c] = some y) :
    ∃ (l : List Bool) (a : Option Addr) (cap : Nat), c = .slice a l.length cap ∧ l.length ≤ cap ∧ cap ≤ maxLen ∧ Bools w.heap.size w c l := by
  rcases open_bools Tryz.underlying29 Tryz.underlying4 k4 h with ⟨hc, _⟩ | ⟨a, len, cap, B, hc, hb, hl, hm, _, hcell⟩
  · simp only [List.cons.injEq, and_true] at hc
    subst hc
    exact ⟨[], none, 0, rfl, Nat.le_refl _, Nat.zero_le _, none, 0, rfl, .inl rfl⟩
  · simp only [List.cons.injEq, and_true] at hc
    subst hc
    have hlen : ((List.range len).map B).length = len := by simp
    refine ⟨(List.range len).map B, some a, cap, by rw [hlen], by omega, hm, some a, cap, by rw [hlen], ?_⟩
    by_cases h0 : len = 0
    · subst h0
      exact .inl rfl
    · right
      have h1 := hcell 0 (by omega)
      have h2 : w.cell? a = some (.bool (B 0)) := by simpa [Addr.add] using h1
      obtain ⟨ha, hlt⟩ := cell_plain h2
      refine ⟨a.block, a.off, by rw [← ha], hlt, fun j u hj => ?_⟩
      have hj' : j < len := by
        by_cases hj' : j < len
        · exact hj'
        · rw [List.getElem?_eq_none (by simp; omega)] at hj; cases hj
      have h3 := hcell j (by omega)
      rw [ha, Addr.add_lit] at h3
      rw [h3]
      simpa [hj'] using hj

set_option maxRecDepth 100000 in
theorem open_step {n : Nat} {cs : List Value} {x : DataW H × List MemPlace} (h : DataW.trod enc Tryz.prog w base (fun _ => true) true n 31 cs = some x) :
    ∃ (s : St) (f : Value), cs = s.cells f ∧ Bools w.heap.size w f s.fails ∧ ((Lit.int .i64 s.page).wf = true ∧ (Lit.int .u64 s.value).wf = true) ∧ (∀ a n c, f = .slice a n c → n ≤ c) ∧ s.fails.length ≤ maxLen := by
  obtain ⟨xs, m, _, _, hl, hlen, hf⟩ := DataW.trod_struct Tryz.underlying31 h
  rw [k31] at hl
  match cs, hl with
  | [c0, c1, c2, c3, c4, c5, c6, c7, c8, c9, c10, c11], _ =>
  match xs, hlen with
  | [y0, y1, y2, y3, y4, y5, y6, y7, y8, y9, y10, y11], _ =>
  have g0 : DataW.trod enc Tryz.prog w base (fun _ => true) true m 3 (([c0, c1, c2, c3, c4, c5, c6, c7, c8, c9, c10, c11].drop 0).take (Tryz.prog.cellsOf 3)) = some y0 := hf 0 _ rfl
  have g1 : DataW.trod enc Tryz.prog w base (fun _ => true) true m 3 (([c0, c1, c2, c3, c4, c5, c6, c7, c8, c9, c10, c11].drop 1).take (Tryz.prog.cellsOf 3)) = some y1 := hf 1 _ rfl
  have g2 : DataW.trod enc Tryz.prog w base (fun _ => true) true m 23 (([c0, c1, c2, c3, c4, c5, c6, c7, c8, c9, c10, c11].drop 2).take (Tryz.prog.cellsOf 23)) = some y2 := hf 2 _ rfl
  have g3 : DataW.trod enc Tryz.prog w base (fun _ => true) true m 3 (([c0, c1, c2, c3, c4, c5, c6, c7, c8, c9, c10, c11].drop 3).take (Tryz.prog.cellsOf 3)) = some y3 := hf 3 _ rfl
  have g4 : DataW.trod enc Tryz.prog w base (fun _ => true) true m 23 (([c0, c1, c2, c3, c4, c5, c6, c7, c8, c9, c10, c11].drop 4).take (Tryz.prog.cellsOf 23)) = some y4 := hf 4 _ rfl
  have g5 : DataW.trod enc Tryz.prog w base (fun _ => true) true m 3 (([c0, c1, c2, c3, c4, c5, c6, c7, c8, c9, c10, c11].drop 5).take (Tryz.prog.cellsOf 3)) = some y5 := hf 5 _ rfl
  have g6 : DataW.trod enc Tryz.prog w base (fun _ => true) true m 4 (([c0, c1, c2, c3, c4, c5, c6, c7, c8, c9, c10, c11].drop 6).take (Tryz.prog.cellsOf 4)) = some y6 := hf 6 _ rfl
  have g7 : DataW.trod enc Tryz.prog w base (fun _ => true) true m 3 (([c0, c1, c2, c3, c4, c5, c6, c7, c8, c9, c10, c11].drop 7).take (Tryz.prog.cellsOf 3)) = some y7 := hf 7 _ rfl
  have g8 : DataW.trod enc Tryz.prog w base (fun _ => true) true m 3 (([c0, c1, c2, c3, c4, c5, c6, c7, c8, c9, c10, c11].drop 8).take (Tryz.prog.cellsOf 3)) = some y8 := hf 8 _ rfl
  have g9 : DataW.trod enc Tryz.prog w base (fun _ => true) true m 3 (([c0, c1, c2, c3, c4, c5, c6, c7, c8, c9, c10, c11].drop 9).take (Tryz.prog.cellsOf 3)) = some y9 := hf 9 _ rfl
  have g10 : DataW.trod enc Tryz.prog w base (fun _ => true) true m 3 (([c0, c1, c2, c3, c4, c5, c6, c7, c8, c9, c10, c11].drop 10).take (Tryz.prog.cellsOf 3)) = some y10 := hf 10 _ rfl
  have g11 : DataW.trod enc Tryz.prog w base (fun _ => true) true m 29 (([c0, c1, c2, c3, c4, c5, c6, c7, c8, c9, c10, c11].drop 11).take (Tryz.prog.cellsOf 29)) = some y11 := hf 11 _ rfl
  rw [k3] at g0 g1 g3 g5 g7 g8 g9 g10
  rw [k23] at g2 g4
  rw [k4] at g6
  rw [k29] at g11
  obtain ⟨n0, e0, _, _⟩ := DataW.trod_int Tryz.underlying3 g0
  obtain ⟨n1, e1, _, _⟩ := DataW.trod_int Tryz.underlying3 g1
  obtain ⟨n2, e2, _, _⟩ := DataW.trod_int Tryz.underlying23 g2
  obtain ⟨n3, e3, _, _⟩ := DataW.trod_int Tryz.underlying3 g3
  obtain ⟨n4, e4, _, w4⟩ := DataW.trod_int Tryz.underlying23 g4
  obtain ⟨n5, e5, _, w5⟩ := DataW.trod_int Tryz.underlying3 g5
  obtain ⟨b6, e6, _⟩ := DataW.trod_bool Tryz.underlying4 g6
  obtain ⟨n7, e7, _, _⟩ := DataW.trod_int Tryz.underlying3 g7
  obtain ⟨n8, e8, _, _⟩ := DataW.trod_int Tryz.underlying3 g8
  obtain ⟨n9, e9, _, _⟩ := DataW.trod_int Tryz.underlying3 g9
  obtain ⟨n10, e10, _, _⟩ := DataW.trod_int Tryz.underlying3 g10
  obtain ⟨l, a, cap, e11, hl11, hm11, hb11⟩ := open_fails (by simpa using g11)
  simp at e0 e1 e2 e3 e4 e5 e6 e7 e8 e9 e10
  subst e0 e1 e2 e3 e4 e5 e6 e7 e8 e9 e10 e11
  refine ⟨⟨n0, n1, n2, n3, n4, n5, b6, n7, n8, n9, n10, l⟩, _, rfl, hb11, ⟨w5, w4⟩, ?_, by show l.length ≤ _; omega⟩
  intro a' n' c' e
  cases e
  exact hl11

theorem flat_at : ∀ (S : Nat → St) (F : Nat → Value) (n j : Nat), j < n * 12 → (flat ((List.range n).map S) ((List.range n).map F))[j]? = ((S (j / 12)).cells (F (j / 12)))[j % 12]? := by
  intro S F n j hj
  have h1 : j / 12 < n := by omega
  have := flat_get ((List.range n).map S) ((List.range n).map F) (j / 12) (S (j / 12)) (F (j / 12)) (j % 12) (by simp [h1]) (by simp [h1]) (by omega)
  rw [← this]
  congr 1
  omega

set_option maxRecDepth 100000 in
theorem open_steps {b0 : Nat} {v : Value} {d : DataW H} {ps : List MemPlace} (hval : Value.okWide Tryz.prog w .any b0 22 v) (h : DataW.Trod enc Tryz.prog w 0 (fun _ => true) true 22 v d ps) :
    ∃ (a : Option Addr) (cap : Nat) (l : List St) (fs : List Value), v = .slice a l.length cap ∧ l.length ≤ maxLen ∧ StepsF w.heap.size w v l fs ∧ (∀ s ∈ l, (Lit.int .i64 s.page).wf = true ∧ (Lit.int .u64 s.value).wf = true) ∧
      (∀ f ∈ fs, ∀ a n c, f = .slice a n c → n ≤ c) ∧ ∀ s ∈ l, s.fails.length ≤ maxLen := by
  obtain ⟨a, len, cap, rfl⟩ := okWide_slice Tryz.underlying22 hval
  obtain ⟨fuel, hf⟩ := h
  rcases open_slice Tryz.underlying22 hf with ⟨h0, _⟩ | ⟨ad, len', cap', m, n, D, Pl, hc, hb, hl, hm, hmm, _, hx⟩
  · simp [Value.cells] at h0
    obtain ⟨rfl, rfl, rfl⟩ := h0
    exact ⟨none, 0, [], [], rfl, Nat.zero_le _, ⟨rfl, fun i s f h => by simp at h, none, 0, rfl, .inl ⟨rfl, rfl⟩⟩, fun s h => (by cases h), fun f h => (by cases h), fun s h => (by cases h)⟩
  · simp [Value.cells] at hc
    obtain ⟨rfl, rfl, rfl⟩ := hc
    simp only [if_true] at hmm
    subst hmm
    have hhas : ad.spot = none ∧ ad.block < w.heap.size := by
      simp only [Value.okWide, Tryz.underlying22, Cell.okWide, Cell.ok] at hval
      obtain ⟨_, _, _, hs, row, cells, hsh, _⟩ := hval
      refine ⟨hs, ?_⟩
      by_cases hlt : ad.block < w.heap.size
      · exact hlt
      · unfold World.shape? at hsh
        rw [Array.getElem?_eq_none (by omega)] at hsh
        cases hsh
    have each : ∀ i, i < m → ∃ y : St × Value, (∀ j, j < 12 → w.cell? (ad.add (i * 12 + j)) = (y.1.cells y.2)[j]?) ∧ Bools w.heap.size w y.2 y.1.fails ∧ ((Lit.int .i64 y.1.page).wf = true ∧ (Lit.int .u64 y.1.value).wf = true) ∧ (∀ a n c, y.2 = .slice a n c → n ≤ c) ∧ y.1.fails.length ≤ maxLen := by
      intro i hi
      obtain ⟨cs', h1, h2⟩ := hx i hi
      obtain ⟨s, f, rfl, hb, hw, hcap, hfl⟩ := open_step h2
      refine ⟨(s, f), fun j hj => ?_, hb, hw, hcap, hfl⟩
      rw [k31] at h1
      obtain ⟨_, hl, hc⟩ := World.cells?_some h1
      have := hc j (by omega)
      rw [Go.Deep.add_add] at this
      exact this
    haveI : Inhabited (St × Value) := ⟨(⟨0, 0, 0, 0, 0, 0, false, 0, 0, 0, 0, []⟩, .bool false)⟩
    obtain ⟨y, hy⟩ := choose_lt each
    have hn : ((List.range len).map fun i => (y i).1).length = len := by simp
    refine ⟨some ad, m, (List.range len).map fun i => (y i).1, (List.range len).map fun i => (y i).2, by rw [hn], by rw [hn]; omega, ⟨by simp, ?_, some ad, m, by rw [hn], ?_⟩, ?_, ?_, ?_⟩
    · intro i s f h1 h2
      have hi : i < len := by
        by_cases hi : i < len
        · exact hi
        · rw [List.getElem?_eq_none (by simp; omega)] at h1; cases h1
      simp [hi] at h1 h2
      subst h1 h2
      exact (hy i (by omega)).2.1
    · right
      obtain ⟨b, o, sp⟩ := ad
      obtain ⟨h1, h2⟩ := hhas
      simp only at h1
      subst h1
      refine ⟨b, o, rfl, h2, fun j u hj => ?_⟩
      have hj' : j < len * 12 := by
        by_cases hj' : j < len * 12
        · exact hj'
        · rw [List.getElem?_eq_none (by rw [flat_length _ _ (by simp)]; simp; omega)] at hj; cases hj
      rw [flat_at (fun i => (y i).1) (fun i => (y i).2) len j hj'] at hj
      have := (hy (j / 12) (by omega)).1 (j % 12) (by omega)
      rw [hj, Addr.add_lit, show j / 12 * 12 + j % 12 = j by omega] at this
      exact this
    · intro s hs
      simp only [List.mem_map, List.mem_range] at hs
      obtain ⟨i, hi, rfl⟩ := hs
      exact (hy i (by omega)).2.2.1
    · intro f hf
      simp only [List.mem_map, List.mem_range] at hf
      obtain ⟨i, hi, rfl⟩ := hf
      exact (hy i (by omega)).2.2.2.1
    · intro s hs
      simp only [List.mem_map, List.mem_range] at hs
      obtain ⟨i, hi, rfl⟩ := hs
      exact (hy i (by omega)).2.2.2.2
end
end Go.Proofs.YtndbccpaccflcaaGreat
