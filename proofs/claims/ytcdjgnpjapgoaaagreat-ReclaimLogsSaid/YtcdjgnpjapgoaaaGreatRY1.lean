/- The row's argument, a slice of whole numbers, opened. -/
import Derived.Test.YtcdjgnpjapgoaaaGreatProg
import Derived.ProofKit
import Derived.ChangeShapes
import Derived.WideShapes
import Derived.RowKit
import Derived.Deep.Slices
import Derived.Deep.Grids
set_option linter.unusedVariables false
set_option linter.unusedSimpArgs false
set_option linter.unusedSectionVars false
namespace Go.Proofs.YtcdjgnpjapgoaaaGreat
open Go Go.ChangeShapes Go.WideShapes Go.Deep

section
variable {H : Type} {enc : TypeId × Value → H} {w : World} {base : Nat}

theorem k3 : Tryz.prog.cellsOf 3 = 1 := by kernel_rfl

theorem one_of {cs : List Value} {v : Value} (h : cs = [v]) : cs[0]? = some v := by rw [h]; rfl

set_option maxRecDepth 100000 in
theorem open_ints {b0 : Nat} {v : Value} {d : DataW H} {ps : List MemPlace} (hval : Value.okWide Tryz.prog w .any b0 22 v) (h : DataW.Trod enc Tryz.prog w 0 (fun _ => true) true 22 v d ps) :
    ∃ (a : Option Addr) (n cap b o : Nat) (X : Nat → Int), v = .slice a n cap ∧ n ≤ maxLen ∧ (0 < n → a = some ⟨b, o, none⟩ ∧ b < w.heap.size) ∧
      ∀ i, i < n → w.cell? ⟨b, o + i, none⟩ = some (.int .i64 (X i)) := by
  obtain ⟨a, len, cap, rfl⟩ := okWide_slice Tryz.underlying22 hval
  obtain ⟨fuel, hf⟩ := h
  rcases open_slice Tryz.underlying22 hf with ⟨h0, _⟩ | ⟨ad, len', cap', m, n, D, Pl, hc, hb, hl, hm, hmm, _, hx⟩
  · simp [Value.cells] at h0
    obtain ⟨rfl, rfl, rfl⟩ := h0
    exact ⟨none, 0, 0, 0, 0, fun _ => 0, rfl, Nat.zero_le _, fun h => absurd h (by omega), fun i hi => absurd hi (by omega)⟩
  · simp [Value.cells] at hc
    obtain ⟨rfl, rfl, rfl⟩ := hc
    simp only [if_true] at hmm
    subst hmm
    have hhas : ad.spot = none ∧ ad.block < w.heap.size := by
      simp only [Value.okWide, Tryz.underlying22, Cell.okWide, Cell.ok] at hval
      obtain ⟨_, _, _, hs, row, cells, hsh, _⟩ := hval
      refine ⟨hs, ?_⟩
      by_cases hlt : ad.block < w.heap.size
      · exact hlt
      · unfold World.shape? at hsh
        rw [Array.getElem?_eq_none (by omega)] at hsh
        cases hsh
    have each : ∀ i, i < m → ∃ y : Int, w.cell? (ad.add (i * 1)) = some (.int .i64 y) := by
      intro i hi
      obtain ⟨cs', h1, h2⟩ := hx i hi
      obtain ⟨y, e, _, _⟩ := DataW.trod_int Tryz.underlying3 h2
      rw [k3] at h1
      obtain ⟨_, hl, hc⟩ := World.cells?_some h1
      refine ⟨y, ?_⟩
      have := hc 0 (by omega)
      rw [Go.Deep.add_add, Nat.add_zero] at this
      rw [this]
      exact one_of e
    have hex : ∃ f : Nat → Int, ∀ i, i < m → w.cell? (ad.add (i * 1)) = some (.int .i64 (f i)) := by
      refine ⟨fun i => if h : i < m then Classical.choose (each i h) else 0, fun i hi => ?_⟩
      simp only [dif_pos hi]
      exact Classical.choose_spec (each i hi)
    obtain ⟨f, hf⟩ := hex
    obtain ⟨b, o, s⟩ := ad
    obtain ⟨rfl, hbl⟩ := hhas
    refine ⟨_, len, m, b, o, f, rfl, by omega, fun _ => ⟨rfl, hbl⟩, fun i hi => ?_⟩
    have := hf i (by omega)
    rw [Nat.mul_one] at this
    simpa only [Addr.add_lit] using this
end
end Go.Proofs.YtcdjgnpjapgoaaaGreat
