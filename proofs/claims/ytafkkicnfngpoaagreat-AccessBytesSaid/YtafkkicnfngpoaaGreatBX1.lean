/- The row's argument, a slice of accesses, opened: what AccessBytes reads of it. -/
import Derived.Test.YtafkkicnfngpoaaGreatProg
import Derived.ProofKit
import Derived.ChangeShapes
import Derived.WideShapes
import Derived.RowKit
import Derived.Deep.Slices
import Derived.Deep.Grids
set_option linter.unusedVariables false
set_option linter.unusedSimpArgs false
set_option linter.unusedSectionVars false
namespace Go.Proofs.YtafkkicnfngpoaaGreat
open Go Go.ChangeShapes Go.WideShapes Go.Deep

section
variable {H : Type} {enc : TypeId × Value → H} {w : World} {base : Nat}

theorem k3 : Tryz.prog.cellsOf 3 = 1 := by kernel_rfl
theorem k29 : Tryz.prog.cellsOf 29 = 1 := by kernel_rfl
theorem k44 : Tryz.prog.cellsOf 44 = 25 := by kernel_rfl

theorem at_of {cs : List Value} {k : Nat} {v : Value} (h : (cs.drop k).take 1 = [v]) : cs[k]? = some v := by
  have := congrArg (fun l : List Value => l[0]?) h
  simpa using this

theorem u64_range {n : Int} (h : (Lit.int .u64 n).wf = true) : ∃ m : Nat, n = m ∧ m < 18446744073709551616 := by
  simp [Lit.wf, IntKind.min, IntKind.max, IntKind.bits, IntKind.signed] at h
  exact ⟨n.toNat, by omega, by omega⟩

set_option maxRecDepth 100000 in
theorem open_op {n : Nat} {cs : List Value} {x : DataW H × List MemPlace} (h : DataW.trod enc Tryz.prog w base (fun _ => true) true n 44 cs = some x) :
    ∃ (sz : Int) (ad v : Nat), cs[3]? = some (.int .i64 sz) ∧ cs[7]? = some (.int .u64 (ad : Nat)) ∧ cs[8]? = some (.int .u64 (v : Nat)) ∧ ad < 18446744073709551616 ∧ v < 18446744073709551616 := by
  obtain ⟨xs, m, _, _, hl, hlen, hf⟩ := DataW.trod_struct Tryz.underlying44 h
  match xs, hlen with
  | [y0, y1, y2, y3, y4, y5, y6, y7, y8, y9, y10, y11, y12, y13], _ =>
  have g3 : DataW.trod enc Tryz.prog w base (fun _ => true) true m 3 ((cs.drop 3).take (Tryz.prog.cellsOf 3)) = some y3 := hf 3 _ rfl
  have g7 : DataW.trod enc Tryz.prog w base (fun _ => true) true m 29 ((cs.drop 7).take (Tryz.prog.cellsOf 29)) = some y7 := hf 7 _ rfl
  have g8 : DataW.trod enc Tryz.prog w base (fun _ => true) true m 29 ((cs.drop 8).take (Tryz.prog.cellsOf 29)) = some y8 := hf 8 _ rfl
  rw [k3] at g3
  rw [k29] at g7 g8
  obtain ⟨n3, e3, _, _⟩ := DataW.trod_int Tryz.underlying3 g3
  obtain ⟨n7, e7, _, w7⟩ := DataW.trod_int Tryz.underlying29 g7
  obtain ⟨n8, e8, _, w8⟩ := DataW.trod_int Tryz.underlying29 g8
  obtain ⟨m7, rfl, h7⟩ := u64_range w7
  obtain ⟨m8, rfl, h8⟩ := u64_range w8
  exact ⟨n3, m7, m8, at_of e3, at_of e7, at_of e8, h7, h8⟩

set_option maxRecDepth 100000 in
theorem open_ops {b0 : Nat} {v : Value} {d : DataW H} {ps : List MemPlace} (hval : Value.okWide Tryz.prog w .any b0 22 v) (h : DataW.Trod enc Tryz.prog w 0 (fun _ => true) true 22 v d ps) :
    ∃ (a : Option Addr) (n cap b o : Nat) (Sz : Nat → Int) (Ad V : Nat → Nat), v = .slice a n cap ∧ n ≤ maxLen ∧ (0 < n → a = some ⟨b, o, none⟩ ∧ b < w.heap.size) ∧
      ∀ i, i < n → w.cell? ⟨b, o + (i * 25 + 3), none⟩ = some (.int .i64 (Sz i)) ∧ w.cell? ⟨b, o + (i * 25 + 7), none⟩ = some (.int .u64 (Ad i : Nat)) ∧ w.cell? ⟨b, o + (i * 25 + 8), none⟩ = some (.int .u64 (V i : Nat)) ∧ Ad i < 18446744073709551616 ∧ V i < 18446744073709551616 := by
  obtain ⟨a, len, cap, rfl⟩ := okWide_slice Tryz.underlying22 hval
  obtain ⟨fuel, hf⟩ := h
  rcases open_slice Tryz.underlying22 hf with ⟨h0, _⟩ | ⟨ad, len', cap', m, n, D, Pl, hc, hb, hl, hm, hmm, _, hx⟩
  · simp [Value.cells] at h0
    obtain ⟨rfl, rfl, rfl⟩ := h0
    exact ⟨none, 0, 0, 0, 0, fun _ => 0, fun _ => 0, fun _ => 0, rfl, Nat.zero_le _, fun h => absurd h (by omega), fun i hi => absurd hi (by omega)⟩
  · simp [Value.cells] at hc
    obtain ⟨rfl, rfl, rfl⟩ := hc
    simp only [if_true] at hmm
    subst hmm
    have hhas : ad.spot = none ∧ ad.block < w.heap.size := by
      simp only [Value.okWide, Tryz.underlying22, Cell.okWide, Cell.ok] at hval
      obtain ⟨_, _, _, hs, row, cells, hsh, _⟩ := hval
      refine ⟨hs, ?_⟩
      by_cases hlt : ad.block < w.heap.size
      · exact hlt
      · unfold World.shape? at hsh
        rw [Array.getElem?_eq_none (by omega)] at hsh
        cases hsh
    have each : ∀ i, i < m → ∃ y : Int × Nat × Nat, w.cell? (ad.add (i * 25 + 3)) = some (.int .i64 y.1) ∧ w.cell? (ad.add (i * 25 + 7)) = some (.int .u64 (y.2.1 : Nat)) ∧ w.cell? (ad.add (i * 25 + 8)) = some (.int .u64 (y.2.2 : Nat)) ∧ y.2.1 < 18446744073709551616 ∧ y.2.2 < 18446744073709551616 := by
      intro i hi
      obtain ⟨cs', h1, h2⟩ := hx i hi
      obtain ⟨sz, a7, v8, c3, c7, c8, r7, r8⟩ := open_op h2
      rw [k44] at h1
      obtain ⟨_, hl, hc⟩ := World.cells?_some h1
      refine ⟨(sz, a7, v8), ?_, ?_, ?_, r7, r8⟩
      · have := hc 3 (by omega); rw [Go.Deep.add_add] at this; rw [this]; exact c3
      · have := hc 7 (by omega); rw [Go.Deep.add_add] at this; rw [this]; exact c7
      · have := hc 8 (by omega); rw [Go.Deep.add_add] at this; rw [this]; exact c8
    have hex : ∃ f : Nat → Int × Nat × Nat, ∀ i, i < m → w.cell? (ad.add (i * 25 + 3)) = some (.int .i64 (f i).1) ∧ w.cell? (ad.add (i * 25 + 7)) = some (.int .u64 ((f i).2.1 : Nat)) ∧ w.cell? (ad.add (i * 25 + 8)) = some (.int .u64 ((f i).2.2 : Nat)) ∧ (f i).2.1 < 18446744073709551616 ∧ (f i).2.2 < 18446744073709551616 := by
      refine ⟨fun i => if h : i < m then Classical.choose (each i h) else (0, 0, 0), fun i hi => ?_⟩
      simp only [dif_pos hi]
      exact Classical.choose_spec (each i hi)
    obtain ⟨f, hf⟩ := hex
    obtain ⟨ab, ao, asp⟩ := ad
    obtain ⟨rfl, hlt⟩ := hhas
    refine ⟨_, len, m, ab, ao, fun i => (f i).1, fun i => (f i).2.1, fun i => (f i).2.2, rfl, by omega, fun _ => ⟨rfl, hlt⟩, fun i hi => ?_⟩
    have := hf i (by omega)
    simpa only [Addr.add_lit] using this
end
end Go.Proofs.YtafkkicnfngpoaaGreat
