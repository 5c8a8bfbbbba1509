/- image.Decode: what its loop keeps. -/
import Derived.Test.YtdlnipimljpmgaaIW12
import Derived.Test.YtdlnipimljpmgaaIW13
import Derived.Test.YtdlnipimljpmgaaIP2
set_option linter.unusedVariables false
set_option linter.unusedSimpArgs false
set_option linter.unusedSectionVars false
set_option linter.unnecessarySimpa false
namespace Go.Proofs.Ytdlnipimljpmgaa
open Go Go.RowKit Go.Im Go.Lib

/-- The leaves that Decode has read so far. -/
structure Lp (w wc : World) (g h : Nat) (d : Rd) (on : Bool) (root asid : Int) (va : Option Addr) (vc k : Nat) (l : List Lf) (fs : List Value) : Prop where
  D : Dec w wc g h d (.bool on) (.int .u64 root) (.int .i64 asid) (.slice va k vc)
  row : wc.ownsRow (h + 1) 58 4 (.slice va k vc) k (flat l fs)
  len : l.length = k
  fsl : fs.length = k
  bys : ∀ (i : Nat) (s : Lf) (f : Value), l[i]? = some s → fs[i]? = some f → Bs wc.heap.size wc f s.bytes ∧ s.bytes.length = 4096 ∧ (∀ b, f.ownBlock = some b → h < b ∧ (Value.slice va k vc).ownBlock ≠ some b) ∧ CapOk f

theorem _root_.Go.Im.Bs.grow {w w' : World} {v : Value} {l : List Int} {row : Option Nat} (h : Bs w.heap.size w v l) (hg : w.grownBy w' row) (hne : ∀ b, v.ownBlock = some b → row ≠ some b) : Bs w'.heap.size w' v l := by
  obtain ⟨a, cap, rfl, h3⟩ := h
  refine ⟨a, cap, rfl, ?_⟩
  rcases h3 with h3 | ⟨b, off, rfl, hB, hc⟩
  · exact .inl h3
  · refine .inr ⟨b, off, rfl, Nat.lt_of_lt_of_le hB hg.size, fun j u hj => ?_⟩
    rw [World.cell?_of_block (hg.block b hB (fun e => hne b rfl e.symm))]
    exact hc j u hj

theorem _root_.Go.Im.Bs.lt {B : Nat} {w : World} {v : Value} {l : List Int} (h : Bs B w v l) (hl : l.length = 4096) : ∀ b, v.ownBlock = some b → b < B := by
  intro b hb
  obtain ⟨a, cap, rfl, h3⟩ := h
  rcases h3 with h3 | ⟨b', off, rfl, hB, hc⟩
  · rw [h3] at hl; simp at hl
  · simp [Value.ownBlock] at hb; omega

theorem Lp.next {w wc w5 w9 : World} {g h : Nat} {d d2 : Rd} {on : Bool} {root asid : Int} {va va' : Option Addr} {vc vc' k : Nat} {l : List Lf} {fs : List Value} {s : Lf} {bv : Value} {o : Obj}
    (L : Lp w wc g h d on root asid va vc k l fs) (hrd : RdAt g w5 g d2) (h5 : wc.grownBy w5 (some g)) (hb : Bs w5.heap.size w5 bv s.bytes) (hs : s.bytes.length = 4096) (hf : ∀ b, bv.ownBlock = some b → wc.heap.size ≤ b) (hc : CapOk bv)
    (hown : w9.ownsRow (h + 1) 58 4 (.slice va' (k + 1) vc') (k + 1) (flat l fs ++ s.cells bv)) (h9 : (w5.alloc o).grownBy w9 (Value.slice va k vc).ownBlock)
    (hloc : (Value.slice va' (k + 1) vc').ownBlock = (Value.slice va k vc).ownBlock ∨ (Value.slice va' (k + 1) vc').ownBlock = some (w5.alloc o).heap.size) :
    Lp w (w9.setCell ⟨h, 3, none⟩ (.slice va' (k + 1) vc')) g h d2 on root asid va' vc' (k + 1) (l ++ [s]) (fs ++ [bv]) := by
  have hD := L.D
  have q1 := hD.lo
  have q2 := hD.gh
  have q3 := hD.hh
  have hrow : ∀ b, (Value.slice va k vc).ownBlock = some b → h + 1 ≤ b ∧ b < wc.heap.size := L.row.lt
  have s5 := h5.size
  have s9 := h9.size
  simp at s9
  have D5 := hD.call hrd h5
  -- the row's blocks stand apart from the old ones up to h
  have kw : ∀ m, m ≤ h → w9.heap[m]? = w5.heap[m]? := fun m hm => by
    rw [h9.block m (by simp; omega) (fun e => by have := (hrow m e.symm).1; omega), Below.heap_alloc _ _ _ (by omega)]
  have hA : w5.grownBy w9 (Value.slice va k vc).ownBlock := ⟨h9.os, h9.tape, h9.output, by omega, fun m hm hne => by
    rw [h9.block m (by simp; omega) hne, Below.heap_alloc _ _ _ hm]⟩
  have D9 : Dec w w9 g h d2 (.bool on) (.int .u64 root) (.int .i64 asid) (.slice va k vc) := by
    refine ⟨?_, q1, q2, by omega, ?_, ?_, ?_⟩
    · exact D5.rd.below (g := h + 1) ⟨hA.os, hA.tape, hA.output, hA.size, fun m hm => kw m (by omega)⟩ (by omega) (by omega)
    · rw [kw _ (by omega)]; exact D5.res
    · rw [kw _ (Nat.le_refl _)]; exact D5.img
    · exact D5.bl.grown hA (by have := D5.hh; omega) (fun m hm => by have := (hrow m hm).1; omega)
  refine ⟨D9.set rfl, ?_, by simp [L.len], by simp [L.fsl], ?_⟩
  · rw [flat_append l fs [s] [bv] (by rw [L.len, L.fsl])]
    have := ownsRow_setCell_below hown (a := ⟨h, 3, none⟩) (by show h < h + 1; omega) (.slice va' (k + 1) vc')
    simpa [flat] using this
  · intro i s' f' h1 h2
    have key : Bs w9.heap.size w9 f' s'.bytes ∧ s'.bytes.length = 4096 ∧ (∀ b, f'.ownBlock = some b → h < b ∧ (Value.slice va' (k + 1) vc').ownBlock ≠ some b) ∧ CapOk f' := by
      by_cases hi : i < k
      · rw [List.getElem?_append_left (by rw [L.len]; exact hi)] at h1
        rw [List.getElem?_append_left (by rw [L.fsl]; exact hi)] at h2
        obtain ⟨b1, b2, b3, b4⟩ := L.bys i s' f' h1 h2
        have hlt := b1.lt b2
        refine ⟨(b1.grow h5 (fun b hb => by have := (b3 b hb).1; simp; omega)).grow hA (fun b hb => (b3 b hb).2), b2, fun b hb => ⟨(b3 b hb).1, fun e => ?_⟩, b4⟩
        rcases hloc with hl | hl
        · exact (b3 b hb).2 (hl ▸ e)
        · rw [hl] at e
          have := hlt b hb
          simp at e
          omega
      · have hik : i = k := by
          have := (List.getElem?_eq_some_iff.1 h1).1
          simp [L.len] at this
          omega
        subst hik
        rw [List.getElem?_append_right (by rw [L.len]; exact Nat.le_refl _), L.len] at h1
        rw [List.getElem?_append_right (by rw [L.fsl]; exact Nat.le_refl _), L.fsl] at h2
        simp at h1 h2
        subst h1 h2
        have hlt := hb.lt hs
        refine ⟨hb.grow hA (fun b hb' e => by have := hf b hb'; have := (hrow b e).2; omega), hs, fun b hb' => ⟨by have := hf b hb'; omega, fun e => ?_⟩, hc⟩
        rcases hloc with hl | hl
        · rw [hl] at e; have := hf b hb'; have := (hrow b e).2; omega
        · rw [hl] at e
          have := hlt b hb'
          simp at e
          omega
    obtain ⟨k1, k2, k3, k4⟩ := key
    refine ⟨?_, k2, k3, k4⟩
    have hg := grown_set w9 h 3 (.slice va' (k + 1) vc')
    exact k1.grow hg (fun b hb => by have := (k3 b hb).1; simp; omega)

theorem Lp.five {w wc w5 : World} {g h : Nat} {d d2 : Rd} {on : Bool} {root asid : Int} {va : Option Addr} {vc k : Nat} {l : List Lf} {fs : List Value}
    (L : Lp w wc g h d on root asid va vc k l fs) (hrd : RdAt g w5 g d2) (h5 : wc.grownBy w5 (some g)) :
    w5.ownsRow (h + 1) 58 4 (.slice va k vc) k (flat l fs) ∧ w5.cell? ⟨h, 3, none⟩ = some (.slice va k vc) ∧ w5.frozen? ⟨h, 3, none⟩ = false ∧ h < w5.heap.size := by
  have D5 := L.D.call hrd h5
  refine ⟨L.row.kept h5 ?_, D5.cell.1 3, D5.cell.2 3, D5.hh⟩
  right
  intro e
  have := (L.row.lt g e).1
  have := L.D.gh
  omega

theorem Lp.nine {w wc w5 w9 : World} {g h : Nat} {d : Rd} {on : Bool} {root asid : Int} {va : Option Addr} {vc k : Nat} {l : List Lf} {fs : List Value} {o : Obj}
    (L : Lp w wc g h d on root asid va vc k l fs) (hh : h < w5.heap.size) (h9 : (w5.alloc o).grownBy w9 (Value.slice va k vc).ownBlock) (hc : w5.cell? ⟨h, 3, none⟩ = some (.slice va k vc)) (hf : w5.frozen? ⟨h, 3, none⟩ = false) :
    w9.cell? ⟨h, 3, none⟩ = some (.slice va k vc) ∧ w9.frozen? ⟨h, 3, none⟩ = false := by
  have hb : w9.heap[h]? = w5.heap[h]? := by
    rw [h9.block h (by simp; omega) (fun e => by have := (L.row.lt h e.symm).1; omega), Below.heap_alloc _ _ _ hh]
  exact ⟨(World.cell?_of_block (a := ⟨h, 3, none⟩) hb).trans hc, (World.frozen?_of_block (a := ⟨h, 3, none⟩) hb).trans hf⟩

theorem num_lt {d : Rd} {n : Nat} (h : Byte d.left) : 0 ≤ (number d n).1 ∧ (number d n).1 < 256 ^ n := by
  unfold number
  have h1 := fromLe_lt _ (take_byte (n := n) h).1
  rw [take_len] at h1
  exact h1

theorem leaf_ok {d : Rd} (h : Byte d.left) : 0 ≤ (leaf d).1.page ∧ (leaf d).1.page < 4294967296 ∧ Byte (leaf d).1.bytes := by
  have h1 := num_lt (n := 4) h
  refine ⟨h1.1, h1.2, ?_⟩
  unfold leaf
  simp only
  intro z hz
  unfold fill at hz
  rcases List.mem_append.1 hz with hz | hz
  · exact (take_byte (number_byte (number_byte (number_byte (number_byte h))))).1 z (List.mem_of_mem_take hz)
  · rw [List.mem_replicate] at hz; omega

/-- What Decode's loop reads. -/
structure Rdg (M : Nat) (d4 : Rd) (k : Nat) (l : List Lf) (d : Rd) : Prop where
  km : k ≤ M
  all : (leavesOf M d4).1 = l ++ (leavesOf (M - k) d).1
  left : d.left.length ≤ 1000000
  byte : Byte d.left
  pg : ∀ f ∈ l, 0 ≤ f.page ∧ f.page < 4294967296 ∧ Byte f.bytes

theorem Rdg.next {M : Nat} {d4 : Rd} {k : Nat} {l : List Lf} {d : Rd} (h : Rdg M d4 k l d) (hk : k < M) (hs : d.short = false) : Rdg M d4 (k + 1) (l ++ [(leaf d).1]) (leaf d).2 := by
  refine ⟨hk, ?_, ?_, ?_, ?_⟩
  · rw [h.all]
    obtain ⟨j, hj⟩ : ∃ j, M - k = j + 1 := ⟨M - k - 1, by omega⟩
    have e : M - (k + 1) = j := by omega
    rw [hj, e, leavesOf, hs]
    simp
  · unfold leaf
    simp only
    exact Nat.le_trans take_left (number_len (number_len (number_len (number_len h.left))))
  · unfold leaf
    simp only
    exact (take_byte (number_byte (number_byte (number_byte (number_byte h.byte))))).2
  · intro f hf
    rcases List.mem_append.1 hf with hf | hf
    · exact h.pg f hf
    · simp at hf
      subst hf
      exact leaf_ok h.byte

theorem Rdg.stop {M : Nat} {d4 : Rd} {k : Nat} {l : List Lf} {d : Rd} (h : Rdg M d4 k l d) (hs : k = M ∨ d.short = true) : (leavesOf M d4).1 = l := by
  rw [h.all]
  rcases hs with hs | hs
  · rw [hs, Nat.sub_self, leavesOf]; simp
  · cases hj : M - k with
    | zero => rw [leavesOf]; simp
    | succ j => rw [leavesOf, hs]; simp

theorem Lp.leaves {w wc : World} {g h : Nat} {d : Rd} {on : Bool} {root asid : Int} {va : Option Addr} {vc k : Nat} {l : List Lf} {fs : List Value} (L : Lp w wc g h d on root asid va vc k l fs) :
    LeavesF wc.heap.size wc (.slice va k vc) l fs ∧ (∀ f ∈ l, f.bytes.length = 4096) ∧ (∀ f ∈ fs, CapOk f ∧ f.ownBlock ≠ some w.heap.size) ∧ (Value.slice va k vc).ownBlock ≠ some w.heap.size := by
  have h1 := L.D.lo
  have h2 := L.D.gh
  refine ⟨LeavesF.owned L.row (by rw [L.len, L.fsl]) fun i s f a b => (L.bys i s f a b).1, fun s hs => ?_, fun f hf => ?_, fun e => ?_⟩
  · obtain ⟨i, hi⟩ := List.getElem?_of_mem hs
    have hlt : i < fs.length := by
      have := (List.getElem?_eq_some_iff.1 hi).1
      rw [L.fsl, ← L.len]; exact this
    exact (L.bys i s _ hi (List.getElem?_eq_getElem hlt)).2.1
  · obtain ⟨i, hi⟩ := List.getElem?_of_mem hf
    have hlt : i < l.length := by
      have := (List.getElem?_eq_some_iff.1 hi).1
      rw [L.len, ← L.fsl]; exact this
    obtain ⟨_, _, b3, b4⟩ := L.bys i _ f (List.getElem?_eq_getElem hlt) hi
    exact ⟨b4, fun e => by have := (b3 _ e).1; omega⟩
  · have := (L.row.lt _ e).1
    omega

theorem _root_.Go.Im.Bs.set {B b0 j : Nat} {w : World} {v u : Value} {l : List Int} (h : Bs B w v l) (hne : v.ownBlock ≠ some b0) : Bs B (w.setCell ⟨b0, j, none⟩ u) v l := by
  obtain ⟨a, cap, rfl, h3⟩ := h
  refine ⟨a, cap, rfl, ?_⟩
  rcases h3 with h3 | ⟨b, off, rfl, hB, hc⟩
  · exact .inl h3
  · refine .inr ⟨b, off, rfl, hB, fun j' u' hj => ?_⟩
    rw [World.cell?_setCell_other _ _ _ _ (by intro e; simp only [Addr.mk.injEq] at e; exact hne (by simp [Value.ownBlock, e.1]))]
    exact hc j' u' hj

theorem LeavesF_set {B b0 j : Nat} {w : World} {v u : Value} {l : List Lf} {fs : List Value} (h : LeavesF B w v l fs) (hv : v.ownBlock ≠ some b0) (hf : ∀ f ∈ fs, f.ownBlock ≠ some b0) : LeavesF B (w.setCell ⟨b0, j, none⟩ u) v l fs := by
  obtain ⟨h1, h2, a, cap, rfl, h3⟩ := h
  refine ⟨h1, fun i s f g1 g2 => (h2 i s f g1 g2).set (hf f (List.mem_of_getElem? g2)), a, cap, rfl, ?_⟩
  rcases h3 with h3 | ⟨b, off, rfl, hB, hc⟩
  · exact .inl h3
  · refine .inr ⟨b, off, rfl, hB, fun j' u' hj => ?_⟩
    rw [World.cell?_setCell_other _ _ _ _ (by intro e; simp only [Addr.mk.injEq] at e; exact hv (by simp [Value.ownBlock, e.1]))]
    exact hc j' u' hj

theorem Dec.kept {w wc w8 : World} {g h : Nat} {d : Rd} {x0 x1 x2 x3 : Value} (D : Dec w wc g h d x0 x1 x2 x3) (hb : Below wc.heap.size wc w8) : Dec w w8 g h d x0 x1 x2 x3 := by
  have h1 := D.lo
  have h2 := D.gh
  have h3 := D.hh
  refine ⟨D.rd.below hb (by omega) (by omega), h1, h2, Nat.lt_of_lt_of_le h3 hb.size, ?_, ?_, D.bl.trans (hb.mono D.bl.size)⟩
  · rw [hb.block _ (by omega)]; exact D.res
  · rw [hb.block _ h3]; exact D.img

theorem leB_byte : ∀ (n : Nat) (v : Int), Byte (leB n v)
  | 0, _ => fun x hx => by simp [leB] at hx
  | n + 1, v => fun x hx => by
    simp only [leB, List.mem_cons] at hx
    rcases hx with rfl | hx
    · omega
    · exact leB_byte n _ x hx

theorem enc_byte (m : Img) (h : ∀ f ∈ m.leaves, Byte f.bytes) : Byte (enc m) := by
  have ho : ∀ b, 0 ≤ one b ∧ one b < 256 := fun b => by cases b <;> decide
  intro x hx
  unfold enc encHead at hx
  simp only [List.mem_append, List.mem_cons, List.not_mem_nil, or_false, List.mem_flatMap] at hx
  rcases hx with ((rfl | rfl | rfl | rfl) | (rfl | rfl) | hx | hx) | ⟨f, hf, hx⟩
  · omega
  · omega
  · omega
  · omega
  · exact ho _
  · omega
  · exact leB_byte _ _ x hx
  · exact leB_byte _ _ x hx
  · unfold encLeaf at hx
    simp only [List.mem_append, List.mem_cons, List.not_mem_nil, or_false] at hx
    rcases hx with hx | (rfl | rfl) | hx | hx
    · exact leB_byte _ _ x hx
    · omega
    · exact ho _
    · exact leB_byte _ _ x hx
    · exact h f hf x (List.mem_of_mem_take hx)
end Go.Proofs.Ytdlnipimljpmgaa
