/- ref3.Page: a page made of a few bytes. -/
import Derived.Test.YtdlnipimljpmgaaIW6
import Derived.StillTailTactics
import Derived.Deep.QuietTactic
import Derived.BigQuiet
set_option linter.unusedVariables false
set_option linter.unusedSimpArgs false
set_option linter.unusedSectionVars false
set_option linter.unnecessarySimpa false
namespace Go.Proofs.Ytdlnipimljpmgaa
open Go Go.RowKit Go.Im Go.Lib

/-- A slice of ints reads so, in blocks below B. -/
def Is (B : Nat) (w : World) (v : Value) (l : List Int) : Prop :=
  ∃ a cap, v = .slice a l.length cap ∧ (l = [] ∨ ∃ b off, a = some ⟨b, off, none⟩ ∧ b < B ∧ ∀ j u, (l.map (Value.int .i64))[j]? = some u → w.cell? ⟨b, off + j, none⟩ = some u)

theorem Is.at {B : Nat} {w : World} {a : Option Addr} {n c : Nat} {l : List Int} (h : Is B w (.slice a n c) l) {j : Nat} (hj : j < l.length) : ∃ b off u, a = some ⟨b, off, none⟩ ∧ b < B ∧ l[j]? = some u ∧ w.cell? ⟨b, off + j, none⟩ = some (.int .i64 u) := by
  obtain ⟨a', c', he, h3⟩ := h
  cases he
  rcases h3 with rfl | ⟨b, off, rfl, hB, hc⟩
  · simp at hj
  · exact ⟨b, off, l[j], rfl, hB, List.getElem?_eq_getElem hj, hc j _ (by simp [hj])⟩

theorem place_at (pl : Int) : ∃ k : Nat, k < 4096 ∧ (IntKind.i64.wrap (pl.tmod 4096 + 4096)).tmod 4096 = (k : Int) ∧ (pl.tmod 4096 + 4096).tmod 4096 = (k : Int) := by
  have h1 := Int.tmod_lt_of_pos pl (b := 4096) (by omega)
  have h2 : -4096 < pl.tmod 4096 := Int.lt_tmod_of_pos pl (by omega)
  have h3 : wrap64 (pl.tmod 4096 + 4096) = pl.tmod 4096 + 4096 := by
    generalize pl.tmod 4096 = z at *
    unfold wrap64
    omega
  rw [IntWalk.i64_left, h3]
  have h4 : 0 ≤ (pl.tmod 4096 + 4096).tmod 4096 := Int.tmod_nonneg _ (by omega)
  have h5 := Int.tmod_lt_of_pos (pl.tmod 4096 + 4096) (b := 4096) (by omega)
  exact ⟨((pl.tmod 4096 + 4096).tmod 4096).toNat, by omega, by omega, by omega⟩

set_option maxRecDepth 100000 in
set_option maxHeartbeats 2000000 in
theorem Page_any (x y : Option Addr) (n c m d B : Nat) (la lb : List Int) (w : World) (hn : la.length = n) (hm : lb.length = m) (hbn : n ≤ 9223372036854775807) (hbm : m ≤ 9223372036854775807) (hBw : B ≤ w.heap.size)
    (hx : Is B w (.slice x n c) la) (hy : Bs B w (.slice y m d) lb) (hby : Byte lb) :
    Calls Try.prog 23 #[.slice x n c, .slice y m d] w fun e w' => ∃ l : List Int, e = .returned (.slice (some ⟨w.heap.size, 0, none⟩) 4096 4096) ∧ l.length = 4096 ∧ Byte l ∧ Below w.heap.size w w' ∧ w'.heap[w.heap.size]? = some (.cells (l.map (Value.int .u8)).toArray 5) := by
  have HX : Aside (Is B w (.slice x n c) la) := hx
  have HY : Aside (Bs B w (.slice y m d) lb) := hy
  have HBY : Aside (Byte lb) := hby
  clear hx hy hby
  have hmk : ∀ w : World, Sem.run Try.prog (Instr.makeSlice 32 (.int .i64 4096) (.int .i64 4096)) w = .ok (.slice (some ⟨w.heap.size, 0, none⟩) 4096 4096) (w.alloc (.cells (zerosA 4096) 5)) := make32 4096 (by omega)
  go_enter Try.func23, Try.ntmps23
  go_wp2_with fail
  go_loopw [6] (fun i wr => ∃ k : Nat, k ≤ n ∧ k ≤ m ∧ k ≤ 64 ∧ i = .int .i64 k ∧ Below w.heap.size w wr ∧ ∃ l : List Int, l.length = 4096 ∧ Byte l ∧ wr.heap[w.heap.size]? = some (.cells (l.map (Value.int .u8)).toArray 5))
    (fun i _ => 64 - (RowKit.intOf i).toNat)
  case atStart =>
    refine ⟨0, Nat.zero_le _, Nat.zero_le _, Nat.zero_le _, rfl, (Below.refl _ _).alloc (Nat.le_refl _) _, List.replicate 4096 0, by simp, fun z hz => by rw [List.mem_replicate] at hz; omega, ?_⟩
    rw [List.map_replicate]
    exact heap_n0
  case round =>
    obtain ⟨k, hkn, hkm, hk6, rfl, hbl, l, hl, hbl2, hrow⟩ := hrel
    have HB : Aside (Below w.heap.size w wr) := hbl
    have HLL : Aside (l.length = 4096) := hl
    have HLB : Aside (Byte l) := hbl2
    have HR : Aside (wr.heap[w.heap.size]? = some (.cells (l.map (Value.int .u8)).toArray 5)) := hrow
    have hsz : w.heap.size < wr.heap.size := by
      rcases Nat.lt_or_ge w.heap.size wr.heap.size with h | h
      · exact h
      · rw [Array.getElem?_eq_none h] at hrow; cases hrow
    clear hbl hl hbl2 hrow
    by_cases hlt : k < n ∧ k < m ∧ k < 64
    · obtain ⟨h1, h2, h3⟩ := hlt
      obtain ⟨b, o, u, rfl, hB1, hu, hc1⟩ := HX.out.at (j := k) (by omega)
      obtain ⟨b', o', u', rfl, hB2, hu', hc2⟩ := HY.out.at (j := k) (by omega)
      have c1 : wr.cell? ⟨b, o + k, none⟩ = some (.int .i64 u) := by rw [HB.out.cell (by show b < _; omega)]; exact hc1
      have c2 : wr.cell? ⟨b', o' + k, none⟩ = some (.int .u8 u') := by rw [HB.out.cell (by show b' < _; omega)]; exact hc2
      have HUB : Aside (0 ≤ u' ∧ u' < 256) := HBY.out u' (List.mem_of_getElem? hu')
      obtain ⟨q, hq, hqe, hqe2⟩ := place_at u
      have hi1 : (k : Int) < (n : Int) := by omega
      have hi2 : (k : Int) < (m : Int) := by omega
      have hi3 : (k : Int) < 64 := by omega
      have hq4 : (q : Int) < 4096 := by omega
      obtain ⟨z, hz⟩ : ∃ z, l[q]? = some z := ⟨_, List.getElem?_eq_getElem (by rw [HLL.out]; exact hq)⟩
      have c3 : wr.cell? ⟨w.heap.size, q, none⟩ = some (.int .u8 z) := by simp [World.cell?, HR.out, hz]
      have f3 : wr.frozen? ⟨w.heap.size, q, none⟩ = false := frozen_of_row wr _ q _ 5 HR.out
      clear hu hu' hc1 hc2 hz
      go_upto_region 5 with fail
      go_still_tail 13, (by kernel_rfl)
      change wpList _ _ _ _ _ wr.drew
      go_wp2_with fail
      go_roundw
      case rel =>
        refine ⟨k + 1, by omega, by omega, by omega, by go_num, (HB.out.drew).setCell (Nat.le_refl _) _, l.set q u', by simpa using HLL.out, fun z hz => ?_, ?_⟩
        · rcases List.mem_or_eq_of_mem_set hz with h | h
          · exact HLB.out z h
          · subst h; exact HUB.out
        · have h := heap_setCell_same wr w.heap.size q _ 5 (.int .u8 u') HR.out
          rw [List.map_set]
          show (wr.setCell _ _).heap[_]? = _
          simpa using h
      case measure => simp [RowKit.intOf]; omega
    · have hor : n ≤ k ∨ m ≤ k ∨ 64 ≤ k := by omega
      by_cases e1 : k < n
      · by_cases e2 : k < m
        · have hi1 : (k : Int) < (n : Int) := by omega
          have hi2 : (k : Int) < (m : Int) := by omega
          have hi3 : ¬ (k : Int) < 64 := by omega
          go_wp2_with fail
          go_ret
          exact ⟨rfl, l, HLL.out, HLB.out, HB.out, HR.out⟩
        · have hi1 : (k : Int) < (n : Int) := by omega
          have hi2 : ¬ (k : Int) < (m : Int) := by omega
          go_wp2_with fail
          go_ret
          exact ⟨rfl, l, HLL.out, HLB.out, HB.out, HR.out⟩
      · have hi1 : ¬ (k : Int) < (n : Int) := by omega
        go_wp2_with fail
        go_ret
        exact ⟨rfl, l, HLL.out, HLB.out, HB.out, HR.out⟩
end Go.Proofs.Ytdlnipimljpmgaa
