/- image's reader: take, number. -/
import Derived.Test.YtdlnipimljpmgaaIW3
import Derived.Laws.CopyOwn
import Derived.Laws.MakeOwn
import Derived.Laws.OwnMore
set_option linter.unusedVariables false
set_option linter.unusedSimpArgs false
set_option linter.unusedSectionVars false
set_option linter.unnecessarySimpa false
namespace Go.Proofs.Ytdlnipimljpmgaa
open Go Go.RowKit Go.Im Go.Lib

/-- A reader lies in block r. -/
def RdAt (B : Nat) (w : World) (r : Nat) (d : Rd) : Prop := (r < w.heap.size ∧ B ≤ w.heap.size) ∧ ∃ (a : Option Addr) (c : Nat), w.cell? ⟨r, 0, none⟩ = some (.slice a d.left.length c) ∧ w.cell? ⟨r, 1, none⟩ = some (.bool d.short) ∧
  w.frozen? ⟨r, 0, none⟩ = false ∧ w.frozen? ⟨r, 1, none⟩ = false ∧ d.left.length ≤ c ∧ (d.left = [] ∨ ∃ b off, a = some ⟨b, off, none⟩ ∧ b < B ∧ b ≠ r ∧ ∀ j u, (d.left.map (Value.int .u8))[j]? = some u → w.cell? ⟨b, off + j, none⟩ = some u)

theorem RdAt.bs {B : Nat} {w : World} {r : Nat} {d : Rd} (h : RdAt B w r d) : ∃ (a : Option Addr) (c : Nat), w.cell? ⟨r, 0, none⟩ = some (.slice a d.left.length c) ∧ Bs w.heap.size w (.slice a d.left.length c) d.left ∧ d.left.length ≤ c := by
  obtain ⟨⟨_, hB⟩, a, c, h1, _, _, _, hc, h5⟩ := h
  refine ⟨a, c, h1, ⟨a, c, rfl, ?_⟩, hc⟩
  rcases h5 with h | ⟨b, o, h, hb, _, hc⟩
  · exact .inl h
  · exact .inr ⟨b, o, h, Nat.lt_of_lt_of_le hb hB, hc⟩

def zerosA (n : Nat) : Array Value := (List.replicate n (Value.int .u8 0)).toArray

theorem made_zeros (n : Nat) : madeCells #[Value.int .u8 0] n = zerosA n := by
  apply Array.ext
  · rw [size_madeCells]; simp [zerosA]
  · intro i h1 h2
    simp [madeCells, zerosA, Nat.mod_one]

theorem make32 (n : Nat) (hn : n ≤ 1000000) (w : World) : Sem.run Try.prog (Instr.makeSlice 32 (.int .i64 n) (.int .i64 n)) w = .ok (.slice (some ⟨w.heap.size, 0, none⟩) n n) (w.alloc (.cells (zerosA n) 5)) := by
  obtain ⟨i0, hi0, hz⟩ := Option.map_eq_some_iff.1 info5
  simp only [Prod.mk.injEq] at hz
  obtain ⟨hz0, hz1, hz2⟩ := hz
  have := run_makeSlice (P := Try.prog) w 32 5 i0 _ Try.underlying32 hi0 hz0 .i64 .i64 n n (by omega) (Int.le_refl _) (by rw [hz1]; simp; omega) (by rw [hz2]; omega) (by omega)
  rw [hz1] at this
  simp only [Int.toNat_natCast, Nat.mul_one] at this
  rw [this, show (Value.int IntKind.u8 0).cells = #[Value.int .u8 0] from rfl, made_zeros]

theorem zeros_get {n j : Nat} {u : Value} (h : ((List.replicate n (0 : Int)).map (Value.int .u8))[j]? = some u) : (zerosA n)[j]? = some u := by
  rw [List.map_replicate] at h
  unfold zerosA
  rw [List.getElem?_toArray]
  exact h

theorem grown_set (w : World) (r j : Nat) (v : Value) : w.grownBy (w.setCell ⟨r, j, none⟩ v) (some r) := ⟨rfl, rfl, rfl, by simp, fun k _ hne => heap_setCell_other w _ k v (by rintro rfl; exact hne rfl)⟩
theorem grown_trans {a b c : World} {row : Option Nat} (h1 : a.grownBy b row) (h2 : b.grownBy c row) : a.grownBy c row :=
  ⟨h2.os.trans h1.os, h2.tape.trans h1.tape, h2.output.trans h1.output, Nat.le_trans h1.size h2.size, fun k hk hne => (h2.block k (Nat.lt_of_lt_of_le hk h1.size) hne).trans (h1.block k hk hne)⟩
theorem grown_any {a b : World} {row : Option Nat} (h1 : a.grownBy b none) : a.grownBy b row := ⟨h1.os, h1.tape, h1.output, h1.size, fun k hk _ => h1.block k hk (by simp)⟩

theorem RdAt.short {B : Nat} {w : World} {r : Nat} {d : Rd} (h : RdAt B w r d) : RdAt B (w.setCell ⟨r, 1, none⟩ (.bool true)) r ⟨d.left, true⟩ := by
  obtain ⟨hr, a, c, c0, c1, f0, f1, hc, h5⟩ := h
  refine ⟨by simpa using hr, a, c, ?_, ?_, by simpa using f0, by simpa using f1, hc, ?_⟩
  · rw [World.cell?_setCell_other _ _ _ _ (by simp)]; exact c0
  · exact World.cell?_setCell_same _ _ _ c1
  · rcases h5 with h | ⟨b, o, h, hb, hne, hj⟩
    · exact .inl h
    · refine .inr ⟨b, o, h, hb, hne, fun j u hu => ?_⟩
      rw [World.cell?_setCell_other _ _ _ _ (by intro e; simp only [Addr.mk.injEq] at e; exact hne e.1.symm)]
      exact hj j u hu

theorem RdAt.put {B : Nat} {w : World} {r : Nat} {d : Rd} (h : RdAt B w r d) {l : List Int} {a : Option Addr} {n c : Nat} (hn : l.length = n) (hc : n ≤ c) (h5 : l = [] ∨ ∃ b off, a = some ⟨b, off, none⟩ ∧ b < B ∧ b ≠ r ∧ ∀ j u, (l.map (Value.int .u8))[j]? = some u → w.cell? ⟨b, off + j, none⟩ = some u) :
    RdAt B (w.setCell ⟨r, 0, none⟩ (.slice a n c)) r ⟨l, d.short⟩ := by
  subst hn
  obtain ⟨hr, a', c', c0, c1, f0, f1, _, _⟩ := h
  refine ⟨by simpa using hr, a, c, ?_, ?_, by simpa using f0, by simpa using f1, hc, ?_⟩
  · exact World.cell?_setCell_same _ _ _ c0
  · rw [World.cell?_setCell_other _ _ _ _ (by simp)]; exact c1
  · rcases h5 with h | ⟨b, o, h, hb, hne, hj⟩
    · exact .inl h
    · refine .inr ⟨b, o, h, hb, hne, fun j u hu => ?_⟩
      rw [World.cell?_setCell_other _ _ _ _ (by intro e; simp only [Addr.mk.injEq] at e; exact hne e.1.symm)]
      exact hj j u hu

theorem RdAt.grow {B : Nat} {w w' : World} {r : Nat} {d : Rd} (h : RdAt B w r d) (hg : w.grownBy w' none) : RdAt B w' r d := by
  obtain ⟨hr, a, c, c0, c1, f0, f1, hc, h5⟩ := h
  obtain ⟨hr, hB⟩ := hr
  have hb : ∀ b, b < w.heap.size → w'.heap[b]? = w.heap[b]? := fun b hb => hg.block b hb (by simp)
  refine ⟨⟨Nat.lt_of_lt_of_le hr hg.size, Nat.le_trans hB hg.size⟩, a, c, ?_, ?_, ?_, ?_, hc, ?_⟩
  · rw [World.cell?_of_block (hb r hr)]; exact c0
  · rw [World.cell?_of_block (hb r hr)]; exact c1
  · rw [World.frozen?_of_block (hb r hr)]; exact f0
  · rw [World.frozen?_of_block (hb r hr)]; exact f1
  · rcases h5 with h | ⟨b, o, h, hlt, hne, hj⟩
    · exact .inl h
    · exact .inr ⟨b, o, h, hlt, hne, fun j u hu => by rw [World.cell?_of_block (hb b (Nat.lt_of_lt_of_le hlt hB))]; exact hj j u hu⟩

theorem took {B : Nat} {w : World} {r n : Nat} {d : Rd} {a : Option Addr} {c : Nat} {v : Value} (hx : RdAt B w r d) (h5 : d.left = [] ∨ ∃ b off, a = some ⟨b, off, none⟩ ∧ b < B ∧ b ≠ r ∧ ∀ j u, (d.left.map (Value.int .u8))[j]? = some u → w.cell? ⟨b, off + j, none⟩ = some u) (hl : (d.left.take n).length = n) :
    Bs (w.setCell ⟨r, 0, none⟩ v).heap.size (w.setCell ⟨r, 0, none⟩ v) (.slice a n c) (d.left.take n) := by
  refine ⟨a, c, by rw [hl], ?_⟩
  have hB := hx.1.2
  rcases h5 with h | ⟨b, o, h, hb, hne, hj⟩
  · exact .inl (by rw [h]; simp)
  · refine .inr ⟨b, o, h, by simp; omega, fun j u hu => ?_⟩
    rw [World.cell?_setCell_other _ _ _ _ (by intro e; simp only [Addr.mk.injEq] at e; exact hne e.1.symm)]
    refine hj j u ?_
    rw [List.getElem?_map] at hu ⊢
    rw [List.getElem?_take] at hu
    split at hu
    · exact hu
    · cases hu

set_option maxRecDepth 100000 in
set_option maxHeartbeats 1000000 in
theorem take_calls {B : Nat} (r : Nat) (d : Rd) (n : Nat) (w : World) (hn : n ≤ 1000000) (hd : d.left.length ≤ 1000000000) (hx : RdAt B w r d) :
    Calls Try.prog 36 #[.pointer (some ⟨r, 0, none⟩), .int .i64 n] w fun e w' => ∃ v, e = .returned v ∧ Bs w'.heap.size w' v (take d n).1 ∧ RdAt B w' r (take d n).2 ∧ w.grownBy w' (some r) := by
  have HX : Aside (RdAt B w r d) := hx
  obtain ⟨⟨hr, hBw⟩, a, c, c0, c1, f0, f1, hc, h5⟩ := hx
  have H5 : Aside (d.left = [] ∨ ∃ b off, a = some ⟨b, off, none⟩ ∧ b < B ∧ b ≠ r ∧ ∀ j u, (d.left.map (Value.int .u8))[j]? = some u → w.cell? ⟨b, off + j, none⟩ = some u) := h5
  clear h5
  by_cases hlt : d.left.length < n
  · have HT : Aside (take d n = (List.replicate n 0, ⟨d.left, true⟩)) := by
      show _ = _
      unfold take
      rw [if_pos hlt]
    have hi : (d.left.length : Int) < (n : Int) := by omega
    rw [HT.out]
    have hmk := make32 n hn
    go_enter Try.func36, Try.ntmps36
    go_wp2
    go_ret
    refine ⟨_, rfl, ⟨some ⟨w.heap.size, 0, none⟩, n, by simp, ?_⟩, ?_, ?_⟩
    · refine .inr ⟨w.heap.size, 0, rfl, by simp [World.setCell], fun j u hj => ?_⟩
      have h1 : ((w.setCell ⟨r, 1, none⟩ (.bool true)).alloc (.cells (zerosA n) 5)).heap[w.heap.size]? = some (.cells (zerosA n) 5) := by
        have : (w.setCell ⟨r, 1, none⟩ (.bool true)).heap.size = w.heap.size := by simp [World.setCell]
        show ((w.setCell ⟨r, 1, none⟩ (.bool true)).heap.push _)[w.heap.size]? = _
        rw [Array.getElem?_push, if_pos this.symm]
      simp only [World.cell?, h1]
      simpa using zeros_get hj
    · exact HX.out.short.grow (World.grownBy_alloc _ _ none)
    · exact grown_trans (grown_set w r 1 _) (grown_any (World.grownBy_alloc _ _ none))
  · have HT : Aside (take d n = (d.left.take n, ⟨d.left.drop n, d.short⟩)) := by
      show _ = _
      unfold take
      rw [if_neg hlt]
    have hi : ¬ (d.left.length : Int) < (n : Int) := by omega
    rw [HT.out]
    have hin : (n : Int) ≤ (c : Int) := by omega
    have hil : (n : Int) ≤ (d.left.length : Int) := by omega
    go_enter Try.func36, Try.ntmps36
    have hlen : (d.left.take n).length = n := by rw [List.length_take]; omega
    have hdl : (d.left.drop n).length = d.left.length - n := List.length_drop
    go_wp2
    all_goals go_ret
    all_goals refine ⟨_, rfl, ?_, ?_, grown_set w r 0 _⟩
    · exact took HX.out H5.out hlen
    · have h0 : d.left.drop n = [] := List.eq_nil_of_length_eq_zero (by omega)
      have hz : d.left.length - n = 0 := by omega
      rw [h0, hz]
      exact HX.out.put rfl (Nat.le_refl _) (.inl rfl)
    · exact took HX.out H5.out hlen
    · refine HX.out.put hdl (by omega) ?_
      rcases H5.out with h | ⟨b, o, rfl, hb, hne, hj⟩
      · exact .inl (by rw [h]; simp)
      · by_cases h0 : n = 0
        · subst h0
          refine .inr ⟨b, o, by simp [Addr.add], hb, hne, fun j u hu => hj j u (by simpa using hu)⟩
        · refine .inr ⟨b, o + n, by simp [Addr.add, h0], hb, hne, fun j u hu => ?_⟩
          rw [Nat.add_assoc]
          refine hj (n + j) u ?_
          rw [List.getElem?_map] at hu ⊢
          rw [List.getElem?_drop] at hu
          exact hu

theorem RdAt.below {B g : Nat} {w w' : World} {r : Nat} {d : Rd} (h : RdAt B w r d) (hb : Below g w w') (hr : r < g) (hB : B ≤ g) : RdAt B w' r d := by
  obtain ⟨⟨hr0, hB0⟩, a, c, c0, c1, f0, f1, hc, h5⟩ := h
  refine ⟨⟨Nat.lt_of_lt_of_le hr0 hb.size, Nat.le_trans hB0 hb.size⟩, a, c, ?_, ?_, ?_, ?_, hc, ?_⟩
  · rw [hb.cell (by exact hr)]; exact c0
  · rw [hb.cell (by exact hr)]; exact c1
  · rw [hb.frozen (by exact hr)]; exact f0
  · rw [hb.frozen (by exact hr)]; exact f1
  · rcases h5 with h | ⟨b, o, h, hlt, hne, hj⟩
    · exact .inl h
    · exact .inr ⟨b, o, h, hlt, hne, fun j u hu => by rw [hb.cell (by show b < g; omega)]; exact hj j u hu⟩
end Go.Proofs.Ytdlnipimljpmgaa
