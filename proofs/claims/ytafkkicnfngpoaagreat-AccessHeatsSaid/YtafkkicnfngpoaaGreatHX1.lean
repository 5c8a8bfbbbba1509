/- The row's argument, a slice of accesses, opened: what the law reads of it. -/
import Derived.Test.YtafkkicnfngpoaaGreatProg
import Derived.ProofKit
import Derived.ChangeShapes
import Derived.WideShapes
import Derived.RowKit
import Derived.Deep.Slices
import Derived.Deep.Grids
set_option linter.unusedVariables false
set_option linter.unusedSimpArgs false
set_option linter.unusedSectionVars false
namespace Go.Proofs.YtafkkicnfngpoaaGreat
open Go Go.ChangeShapes Go.WideShapes Go.Deep

section
variable {H : Type} {enc : TypeId × Value → H} {w : World} {base : Nat}

theorem k3 : Tryz.prog.cellsOf 3 = 1 := by kernel_rfl
theorem k29 : Tryz.prog.cellsOf 29 = 1 := by kernel_rfl
theorem k44 : Tryz.prog.cellsOf 44 = 25 := by kernel_rfl

theorem at_of {cs : List Value} {k : Nat} {v : Value} (h : (cs.drop k).take 1 = [v]) : cs[k]? = some v := by
  have := congrArg (fun l : List Value => l[0]?) h
  simpa using this

set_option maxRecDepth 100000 in
theorem open_op {n : Nat} {cs : List Value} {x : DataW H × List MemPlace} (h : DataW.trod enc Tryz.prog w base (fun _ => true) true n 44 cs = some x) :
    ∃ wh at_ v p : Int, cs[2]? = some (.int .i64 wh) ∧ cs[5]? = some (.int .i64 at_) ∧ cs[8]? = some (.int .u64 v) ∧ cs[9]? = some (.int .u64 p) := by
  obtain ⟨xs, m, _, _, hl, hlen, hf⟩ := DataW.trod_struct Tryz.underlying44 h
  match xs, hlen with
  | [y0, y1, y2, y3, y4, y5, y6, y7, y8, y9, y10, y11, y12, y13], _ =>
  have g2 : DataW.trod enc Tryz.prog w base (fun _ => true) true m 3 ((cs.drop 2).take (Tryz.prog.cellsOf 3)) = some y2 := hf 2 _ rfl
  have g5 : DataW.trod enc Tryz.prog w base (fun _ => true) true m 3 ((cs.drop 5).take (Tryz.prog.cellsOf 3)) = some y5 := hf 5 _ rfl
  have g8 : DataW.trod enc Tryz.prog w base (fun _ => true) true m 29 ((cs.drop 8).take (Tryz.prog.cellsOf 29)) = some y8 := hf 8 _ rfl
  have g9 : DataW.trod enc Tryz.prog w base (fun _ => true) true m 29 ((cs.drop 9).take (Tryz.prog.cellsOf 29)) = some y9 := hf 9 _ rfl
  rw [k3] at g2 g5
  rw [k29] at g8 g9
  obtain ⟨n2, e2, _, _⟩ := DataW.trod_int Tryz.underlying3 g2
  obtain ⟨n5, e5, _, _⟩ := DataW.trod_int Tryz.underlying3 g5
  obtain ⟨n8, e8, _, _⟩ := DataW.trod_int Tryz.underlying29 g8
  obtain ⟨n9, e9, _, _⟩ := DataW.trod_int Tryz.underlying29 g9
  exact ⟨n2, n5, n8, n9, at_of e2, at_of e5, at_of e8, at_of e9⟩

set_option maxRecDepth 100000 in
theorem open_ops {b0 : Nat} {v : Value} {d : DataW H} {ps : List MemPlace} (hval : Value.okWide Tryz.prog w .any b0 22 v) (h : DataW.Trod enc Tryz.prog w 0 (fun _ => true) true 22 v d ps) :
    ∃ (a : Option Addr) (n cap b o : Nat) (P At V Wh : Nat → Int), v = .slice a n cap ∧ n ≤ maxLen ∧ (0 < n → a = some ⟨b, o, none⟩ ∧ b < w.heap.size) ∧
      ∀ i, i < n → w.cell? ⟨b, o + (i * 25 + 2), none⟩ = some (.int .i64 (Wh i)) ∧ w.cell? ⟨b, o + (i * 25 + 5), none⟩ = some (.int .i64 (At i)) ∧ w.cell? ⟨b, o + (i * 25 + 8), none⟩ = some (.int .u64 (V i)) ∧ w.cell? ⟨b, o + (i * 25 + 9), none⟩ = some (.int .u64 (P i)) := by
  obtain ⟨a, len, cap, rfl⟩ := okWide_slice Tryz.underlying22 hval
  obtain ⟨fuel, hf⟩ := h
  rcases open_slice Tryz.underlying22 hf with ⟨h0, _⟩ | ⟨ad, len', cap', m, n, D, Pl, hc, hb, hl, hm, hmm, _, hx⟩
  · simp [Value.cells] at h0
    obtain ⟨rfl, rfl, rfl⟩ := h0
    exact ⟨none, 0, 0, 0, 0, fun _ => 0, fun _ => 0, fun _ => 0, fun _ => 0, rfl, Nat.zero_le _, fun h => absurd h (by omega), fun i hi => absurd hi (by omega)⟩
  · simp [Value.cells] at hc
    obtain ⟨rfl, rfl, rfl⟩ := hc
    simp only [if_true] at hmm
    subst hmm
    have hhas : ad.spot = none ∧ ad.block < w.heap.size := by
      simp only [Value.okWide, Tryz.underlying22, Cell.okWide, Cell.ok] at hval
      obtain ⟨_, _, _, hs, row, cells, hsh, _⟩ := hval
      refine ⟨hs, ?_⟩
      by_cases hlt : ad.block < w.heap.size
      · exact hlt
      · unfold World.shape? at hsh
        rw [Array.getElem?_eq_none (by omega)] at hsh
        cases hsh
    have each : ∀ i, i < m → ∃ y : Int × Int × Int × Int, w.cell? (ad.add (i * 25 + 2)) = some (.int .i64 y.1) ∧ w.cell? (ad.add (i * 25 + 5)) = some (.int .i64 y.2.1) ∧ w.cell? (ad.add (i * 25 + 8)) = some (.int .u64 y.2.2.1) ∧ w.cell? (ad.add (i * 25 + 9)) = some (.int .u64 y.2.2.2) := by
      intro i hi
      obtain ⟨cs', h1, h2⟩ := hx i hi
      obtain ⟨wh, at_, v, p, c2, c5, c8, c9⟩ := open_op h2
      rw [k44] at h1
      obtain ⟨_, hl, hc⟩ := World.cells?_some h1
      refine ⟨(wh, at_, v, p), ?_, ?_, ?_, ?_⟩
      · have := hc 2 (by omega); rw [Go.Deep.add_add] at this; rw [this]; exact c2
      · have := hc 5 (by omega); rw [Go.Deep.add_add] at this; rw [this]; exact c5
      · have := hc 8 (by omega); rw [Go.Deep.add_add] at this; rw [this]; exact c8
      · have := hc 9 (by omega); rw [Go.Deep.add_add] at this; rw [this]; exact c9
    have hex : ∃ f : Nat → Int × Int × Int × Int, ∀ i, i < m → w.cell? (ad.add (i * 25 + 2)) = some (.int .i64 (f i).1) ∧ w.cell? (ad.add (i * 25 + 5)) = some (.int .i64 (f i).2.1) ∧ w.cell? (ad.add (i * 25 + 8)) = some (.int .u64 (f i).2.2.1) ∧ w.cell? (ad.add (i * 25 + 9)) = some (.int .u64 (f i).2.2.2) := by
      refine ⟨fun i => if h : i < m then Classical.choose (each i h) else (0, 0, 0, 0), fun i hi => ?_⟩
      simp only [dif_pos hi]
      exact Classical.choose_spec (each i hi)
    obtain ⟨f, hf⟩ := hex
    obtain ⟨ab, ao, asp⟩ := ad
    obtain ⟨rfl, hlt⟩ := hhas
    refine ⟨_, len, m, ab, ao, fun i => (f i).2.2.2, fun i => (f i).2.1, fun i => (f i).2.2.1, fun i => (f i).1, rfl, by omega, fun _ => ⟨rfl, hlt⟩, fun i hi => ?_⟩
    have := hf i (by omega)
    simpa only [Addr.add_lit] using this
end
end Go.Proofs.YtafkkicnfngpoaaGreat
