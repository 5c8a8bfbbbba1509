/- image's reader: leaf. -/
import Derived.Test.YtdlnipimljpmgaaIW5
import Derived.Deep.Cut
import Derived.Deep.CutBlock
import Derived.BigRegion
import Derived.Deep.RegionLaw
set_option linter.unusedVariables false
set_option linter.unusedSimpArgs false
set_option linter.unusedSectionVars false
set_option linter.unnecessarySimpa false
namespace Go.Proofs.Ytdlnipimljpmgaa
open Go Go.RowKit Go.Im Go.Lib

theorem zero58 (w : World) : (zeroValue 58).run Try.prog w = .ok (.agg #[.int .u64 0, .int .i64 0, .bool false, .slice none 0 0]) w := by kernel_rfl

theorem grown_cells {P Q : World} {r : Nat} (hg : P.grownBy Q (some r)) : ∀ b j, b < P.heap.size → ¬ b = r → Q.cell? ⟨b, j, none⟩ = P.cell? ⟨b, j, none⟩ :=
  fun b _ h1 h2 => World.cell?_of_block (hg.block b h1 (by simpa using h2))
theorem grown_frozen {P Q : World} {r : Nat} (hg : P.grownBy Q (some r)) : ∀ b j, b < P.heap.size → ¬ b = r → Q.frozen? ⟨b, j, none⟩ = P.frozen? ⟨b, j, none⟩ :=
  fun b _ h1 h2 => World.frozen?_of_block (hg.block b h1 (by simpa using h2))

theorem alloc_cells (w : World) : ∀ (o : Obj) (b j : Nat), b < w.heap.size → (w.alloc o).cell? ⟨b, j, none⟩ = w.cell? ⟨b, j, none⟩ :=
  fun o b _ h => World.cell?_of_block (Below.heap_alloc _ _ _ h)
theorem alloc_frozen (w : World) : ∀ (o : Obj) (b j : Nat), b < w.heap.size → (w.alloc o).frozen? ⟨b, j, none⟩ = w.frozen? ⟨b, j, none⟩ :=
  fun o b _ h => World.frozen?_of_block (Below.heap_alloc _ _ _ h)

theorem heap_n0 {w : World} {o : Obj} : (w.alloc o).drew.heap[w.heap.size]? = some o := by
  show (w.heap.push o)[w.heap.size]? = _
  rw [Array.getElem?_push, if_pos rfl]
theorem heap_n1 {w : World} {o o1 : Obj} : ((w.alloc o).alloc o1).drew.heap[w.heap.size]? = some o := by
  show ((w.heap.push o).push o1)[w.heap.size]? = _
  rw [Array.getElem?_push, if_neg (by simp), Array.getElem?_push, if_pos rfl]
theorem heap_n2 {w : World} {o o1 o2 : Obj} : (((w.alloc o).alloc o1).alloc o2).drew.heap[w.heap.size]? = some o := by
  show (((w.heap.push o).push o1).push o2)[w.heap.size]? = _
  rw [Array.getElem?_push, if_neg (by simp; omega), Array.getElem?_push, if_neg (by simp), Array.getElem?_push, if_pos rfl]
theorem heap_m1 {w : World} {o o1 : Obj} : ((w.alloc o).alloc o1).drew.heap[w.heap.size + 1]? = some o1 := by
  have := heap_n0 (w := w.alloc o) (o := o1)
  simpa using this
theorem heap_m2 {w : World} {o o1 o2 : Obj} : (((w.alloc o).alloc o1).alloc o2).drew.heap[w.heap.size + 1]? = some o1 := by
  have := heap_n1 (w := w.alloc o) (o := o1) (o1 := o2)
  simpa using this
theorem heap_k2 {w : World} {o o1 o2 : Obj} : (((w.alloc o).alloc o1).alloc o2).drew.heap[w.heap.size + 1 + 1]? = some o2 := by
  have := heap_m1 (w := w.alloc o) (o := o1) (o1 := o2)
  simpa using this

theorem undrew {P Q : World} {row : Option Nat} (h : P.drew.grownBy Q row) : P.grownBy Q row := ⟨h.os, h.tape, h.output, h.size, h.block⟩

theorem take_left {d : Rd} {n : Nat} : (take d n).2.left.length ≤ d.left.length := by
  unfold take
  split
  · exact Nat.le_refl _
  · simp
theorem number_len {d : Rd} {n k : Nat} (h : d.left.length ≤ k) : (number d n).2.left.length ≤ k := Nat.le_trans take_left h
theorem number_byte {d : Rd} {n : Nat} (h : Byte d.left) : Byte (number d n).2.left := (take_byte h).2

theorem RdAt.drew {B : Nat} {w : World} {r : Nat} {d : Rd} (h : RdAt B w r d) : RdAt B w.drew r d := h

def boxL (page : Int) (gb : Nat) : Obj := .cells #[.int .u64 page, .int .i64 0, .bool false, .slice (some ⟨gb, 0, none⟩) 4096 4096] 58
def box0 : Obj := .cells #[.int .u64 0, .int .i64 0, .bool false, .slice none 0 0] 58

/-- What lies there behind the leaf's making. -/
structure Leafy (B : Nat) (w wc : World) (r g gb : Nat) (d : Rd) (page : Int) : Prop where
  g0 : w.heap.size < g
  gb0 : w.heap.size < gb
  ne : g ≠ gb
  glt : g < wc.heap.size
  gblt : gb < wc.heap.size
  gx : wc.heap[g]? = some (boxL page gb)
  zs : wc.heap[gb]? = some (.cells (zerosA 4096) 5)
  bx : wc.heap[w.heap.size]? = some box0
  rd : RdAt B wc r d
  gr : w.grownBy wc (some r)

theorem RdAt.other {B g j : Nat} {w : World} {r : Nat} {d : Rd} (h : RdAt B w r d) (hr : g ≠ r) (hB : B ≤ g) (v : Value) : RdAt B (w.setCell ⟨g, j, none⟩ v) r d := by
  obtain ⟨hr0, a, c, c0, c1, f0, f1, hc, h5⟩ := h
  refine ⟨by simpa using hr0, a, c, ?_, ?_, by simpa using f0, by simpa using f1, hc, ?_⟩
  · rw [World.cell?_setCell_other _ _ _ _ (by intro e; simp only [Addr.mk.injEq] at e; exact hr e.1)]; exact c0
  · rw [World.cell?_setCell_other _ _ _ _ (by intro e; simp only [Addr.mk.injEq] at e; exact hr e.1)]; exact c1
  · rcases h5 with h | ⟨b, o, h, hb, hne, hj⟩
    · exact .inl h
    · refine .inr ⟨b, o, h, hb, hne, fun j u hu => ?_⟩
      rw [World.cell?_setCell_other _ _ _ _ (by intro e; simp only [Addr.mk.injEq] at e; omega)]
      exact hj j u hu

theorem grown_put {w W : World} {r g j : Nat} {v : Value} (h : w.grownBy W (some r)) (hg : w.heap.size ≤ g) : w.grownBy (W.setCell ⟨g, j, none⟩ v) (some r) :=
  ⟨h.os, h.tape, h.output, by simpa using h.size, fun k hk hne => (heap_setCell_other W _ k v (by show k ≠ g; omega)).trans (h.block k hk hne)⟩

/-- A box of four cells, all of them turned. -/
def set4 (W : World) (g : Nat) (x0 x1 x2 x3 : Value) : World := (((W.setCell ⟨g, 0, none⟩ x0).setCell ⟨g, 1, none⟩ x1).setCell ⟨g, 2, none⟩ x2).setCell ⟨g, 3, none⟩ x3

theorem set4_same {W : World} {g : Nat} {a0 a1 a2 a3 x0 x1 x2 x3 : Value} {t : Nat} (h : W.heap[g]? = some (.cells #[a0, a1, a2, a3] t)) : (set4 W g x0 x1 x2 x3).heap[g]? = some (.cells #[x0, x1, x2, x3] t) := by
  unfold set4
  have h0 := heap_setCell_same W g 0 _ t x0 h
  have h1 := heap_setCell_same _ g 1 _ t x1 h0
  have h2 := heap_setCell_same _ g 2 _ t x2 h1
  have h3 := heap_setCell_same _ g 3 _ t x3 h2
  simpa using h3

theorem set4_other {W : World} {g k : Nat} {x0 x1 x2 x3 : Value} (h : k ≠ g) : (set4 W g x0 x1 x2 x3).heap[k]? = W.heap[k]? := by
  unfold set4
  rw [heap_setCell_other _ _ _ _ h, heap_setCell_other _ _ _ _ h, heap_setCell_other _ _ _ _ h, heap_setCell_other _ _ _ _ h]

theorem set4_size {W : World} {g : Nat} {x0 x1 x2 x3 : Value} : (set4 W g x0 x1 x2 x3).heap.size = W.heap.size := by simp [set4]

section
variable {B r g gb : Nat} {w W : World} {d : Rd} {page : Int} (hr : r < w.heap.size) (hB : B ≤ w.heap.size) (bx : W.heap[w.heap.size]? = some box0) (rd : RdAt B W r d) (gr : w.grownBy W (some r)) (hs : w.heap.size < W.heap.size)
include bx rd gr hs

theorem leafy_new (hz : W.heap[gb]? = some (.cells (zerosA 4096) 5)) (g1 : w.heap.size < gb) (g2 : gb < W.heap.size) : Leafy B w (W.alloc (boxL page gb)) r W.heap.size gb d page := by
  refine ⟨hs, g1, by omega, by simp, by simp; omega, ?_, ?_, ?_, rd.grow (World.grownBy_alloc _ _ none), grown_trans gr (grown_any (World.grownBy_alloc _ _ none))⟩
  · show (W.heap.push _)[W.heap.size]? = _
    rw [Array.getElem?_push, if_pos rfl]
  · rw [Below.heap_alloc _ _ _ g2]; exact hz
  · rw [Below.heap_alloc _ _ _ hs]; exact bx

theorem leafy_z (hg : W.heap[g]? = some (boxL page W.heap.size)) (g1 : w.heap.size < g) (g2 : g < W.heap.size) : Leafy B w (W.alloc (.cells (zerosA 4096) 5)) r g W.heap.size d page := by
  refine ⟨g1, hs, by omega, by simp; omega, by simp, ?_, ?_, ?_, rd.grow (World.grownBy_alloc _ _ none), grown_trans gr (grown_any (World.grownBy_alloc _ _ none))⟩
  · rw [Below.heap_alloc _ _ _ g2]; exact hg
  · show (W.heap.push _)[W.heap.size]? = _
    rw [Array.getElem?_push, if_pos rfl]
  · rw [Below.heap_alloc _ _ _ hs]; exact bx

include hr hB
theorem leafy_set (hz : W.heap[gb]? = some (.cells (zerosA 4096) 5)) (hg : W.heap[g]? = some box0) (g1 : w.heap.size < g) (g2 : g < W.heap.size) (h1 : w.heap.size < gb) (h2 : gb < W.heap.size) (hne : g ≠ gb) :
    Leafy B w (set4 W g (.int .u64 page) (.int .i64 0) (.bool false) (.slice (some ⟨gb, 0, none⟩) 4096 4096)) r g gb d page := by
  refine ⟨g1, h1, hne, by rw [set4_size]; exact g2, by rw [set4_size]; exact h2, set4_same hg, ?_, ?_, ?_, ?_⟩
  · rw [set4_other (Ne.symm hne)]; exact hz
  · rw [set4_other (by omega)]; exact bx
  · exact (((rd.other (by omega) (by omega) _).other (by omega) (by omega) _).other (by omega) (by omega) _).other (by omega) (by omega) _
  · exact grown_put (grown_put (grown_put (grown_put gr (by omega)) (by omega)) (by omega)) (by omega)
end

/-- The leaf's box as it is filled. -/
structure LeafAt (B : Nat) (w W : World) (r g gb : Nat) (d : Rd) (x0 x1 x2 : Value) : Prop where
  g0 : w.heap.size < g
  gb0 : w.heap.size < gb
  ne : g ≠ gb
  glt : g < W.heap.size
  gblt : gb < W.heap.size
  gx : W.heap[g]? = some (.cells #[x0, x1, x2, .slice (some ⟨gb, 0, none⟩) 4096 4096] 58)
  zs : W.heap[gb]? = some (.cells (zerosA 4096) 5)
  bx : W.heap[w.heap.size]? = some box0
  rd : RdAt B W r d
  gr : w.grownBy W (some r)

theorem LeafAt.call {B : Nat} {w W W2 : World} {r g gb : Nat} {d d2 : Rd} {x0 x1 x2 : Value} (h : LeafAt B w W r g gb d x0 x1 x2) (hr : r < w.heap.size) (hg : W.grownBy W2 (some r)) (hrd : RdAt B W2 r d2) : LeafAt B w W2 r g gb d2 x0 x1 x2 := by
  have a := h.g0
  have b := h.gb0
  have c := h.gr.size
  refine ⟨a, b, h.ne, Nat.lt_of_lt_of_le h.glt hg.size, Nat.lt_of_lt_of_le h.gblt hg.size, ?_, ?_, ?_, hrd, grown_trans h.gr hg⟩
  · rw [hg.block _ h.glt (by simp; omega)]; exact h.gx
  · rw [hg.block _ h.gblt (by simp; omega)]; exact h.zs
  · rw [hg.block _ (by have := h.glt; omega) (by simp; omega)]; exact h.bx

theorem LeafAt.set1 {B : Nat} {w W : World} {r g gb : Nat} {d : Rd} {x0 x1 x2 : Value} (h : LeafAt B w W r g gb d x0 x1 x2) (hr : r < w.heap.size) (hB : B ≤ w.heap.size) (v : Value) : LeafAt B w (W.setCell ⟨g, 1, none⟩ v) r g gb d x0 v x2 := by
  have a := h.g0
  have b := h.gb0
  refine ⟨a, b, h.ne, by simpa using h.glt, by simpa using h.gblt, ?_, ?_, ?_, h.rd.other (by omega) (by omega) _, grown_put h.gr (by omega)⟩
  · rw [heap_setCell_same W g 1 _ 58 v h.gx]; rfl
  · rw [heap_setCell_other _ _ _ _ (Ne.symm h.ne)]; exact h.zs
  · rw [heap_setCell_other _ _ _ _ (by show _ ≠ g; omega)]; exact h.bx

theorem LeafAt.set2 {B : Nat} {w W : World} {r g gb : Nat} {d : Rd} {x0 x1 x2 : Value} (h : LeafAt B w W r g gb d x0 x1 x2) (hr : r < w.heap.size) (hB : B ≤ w.heap.size) (v : Value) : LeafAt B w (W.setCell ⟨g, 2, none⟩ v) r g gb d x0 x1 v := by
  have a := h.g0
  have b := h.gb0
  refine ⟨a, b, h.ne, by simpa using h.glt, by simpa using h.gblt, ?_, ?_, ?_, h.rd.other (by omega) (by omega) _, grown_put h.gr (by omega)⟩
  · rw [heap_setCell_same W g 2 _ 58 v h.gx]; rfl
  · rw [heap_setCell_other _ _ _ _ (Ne.symm h.ne)]; exact h.zs
  · rw [heap_setCell_other _ _ _ _ (by show _ ≠ g; omega)]; exact h.bx

theorem LeafAt.cell {B : Nat} {w W : World} {r g gb : Nat} {d : Rd} {x0 x1 x2 : Value} (h : LeafAt B w W r g gb d x0 x1 x2) : (∀ j, W.cell? ⟨g, j, none⟩ = #[x0, x1, x2, Value.slice (some ⟨gb, 0, none⟩) 4096 4096][j]?) ∧ ∀ j, W.frozen? ⟨g, j, none⟩ = false := by
  refine ⟨fun j => ?_, fun j => frozen_of_row W g j _ 58 h.gx⟩
  simp only [World.cell?, h.gx]
  simp

theorem num_small {d : Rd} {n : Nat} (h : Byte d.left) (hn : n ≤ 2) : 0 ≤ (number d n).1 ∧ (number d n).1 < 65536 := by
  have h1 := fromLe_lt _ (take_byte (n := n) h).1
  rw [take_len] at h1
  have h2 : (256 : Int) ^ n ≤ 65536 := by
    have : n = 0 ∨ n = 1 ∨ n = 2 := by omega
    rcases this with rfl | rfl | rfl <;> decide
  unfold number
  exact ⟨h1.1, by have := h1.2; show fromLe _ < 65536; omega⟩

theorem step_copy_only {P : Program} {ops : Array Oper} {o : Oper} {a : Act} {w : World} {K : Act → World → Prop} {Q : Exit → Act → World → Prop} {E : Prop} (hgd : o.guard = none) (d s : Operand) (dT sT : TypeId)
    (ho : o.op = .call { callee := .builtin .copy, args := #[d, s], argTypes := #[dT, sT] }) (elem : TypeId) (hu : P.underlying dT = some (.slice elem)) (hsz : (P.info? elem).map (·.size) = some 1)
    (dp sp : Option Addr) (dLen dCap sLen sCap : Nat) (hd : a.eval d = .slice dp dLen dCap) (hs : a.eval s = .slice sp sLen sCap)
    (g off : Nat) (cur : List Value) (t : TypeId) (hg : w.heap[g]? = some (.cells cur.toArray t (0, 0))) (cs : List Value) (hn : cs.length = Nat.min sLen dLen)
    (hpos : 0 < cs.length → dp = some ⟨g, off, none⟩ ∧ ∃ ad, sp = some ad ∧ ∀ j v, cs[j]? = some v → w.cell? (ad.add j) = some v)
    (hfit : off + cs.length ≤ cur.length) (h1 : ∀ v ∈ cs, v.oneCell' = true)
    (h : ∀ w', RowKit.Hid (w'.heap[g]? = some (.cells (splice cur off cs).toArray t (0, 0))) → w.grownBy w' (some g) → K (a.put o.dst (goInt cs.length)) w') :
    if Region.wanted o (yielded ops a.tmps) = true then Oper.wp P o a w K Q else E := by
  have hw : Region.wanted o (yielded ops a.tmps) = true := by simp [Region.wanted, hgd]
  rw [if_pos hw]
  by_cases h0 : cs.length = 0
  · obtain rfl : cs = [] := List.eq_nil_of_length_eq_zero h0
    have hrun := run_copy_none (P := P) w dT sT o.type elem dp sp dLen dCap sLen sCap hu hsz (by simpa using hn.symm)
    unfold Oper.wp
    simp [execOp, ho, resolve, invoke, builtin, hd, hs, hrun, Result.andThen]
    exact h w (show _ = _ by simpa [splice] using hg) (World.grownBy.refl _ _)
  · obtain ⟨rfl, ad, rfl, hsrc⟩ := hpos (by omega)
    have hrun := run_copy_row (P := P) w dT sT o.type elem g off dLen dCap ad sLen sCap cur.toArray t cs hu hsz hg hn hsrc (by simpa using hfit) h1
    unfold Oper.wp
    simp [execOp, ho, resolve, invoke, builtin, hd, hs, hrun, Result.andThen]
    exact h _ (show _ = _ by simpa [splice] using setRow_heap w g _ _ t _ hg) ⟨rfl, rfl, rfl, by simp, fun k _ hne => setRow_other w g k _ (by rintro rfl; exact hne rfl)⟩

theorem copy_src_take {B m : Nat} {w : World} {va : Option Addr} {n c : Nat} {l : List Int} {cs : List Value} (h : Bs B w (.slice va n c) l) (h2 : (l.take m).map (Value.int .u8) = cs) (h0 : 0 < cs.length) :
    ∃ ad, va = some ad ∧ ∀ j v, cs[j]? = some v → w.cell? (ad.add j) = some v := by
  subst h2
  obtain ⟨a, c', he, h3⟩ := h
  cases he
  rcases h3 with rfl | ⟨b, o, rfl, _, hc⟩
  · simp at h0
  · refine ⟨_, rfl, fun j v hj => ?_⟩
    rw [Addr.add_lit]
    refine hc j v ?_
    rw [List.getElem?_map] at hj ⊢
    rw [List.getElem?_take] at hj
    split at hj
    · exact hj
    · cases hj

theorem Bs.form {B : Nat} {w : World} {v : Value} {l : List Int} {n : Nat} (h : Bs B w v l) (hn : l.length = n) : ∃ a c, v = .slice a n c := by
  obtain ⟨a, c, h, _⟩ := h
  exact ⟨a, c, by rw [h, hn]⟩

theorem RdAt.off {B g : Nat} {w w' : World} {r : Nat} {d : Rd} (h : RdAt B w r d) (hg : w.grownBy w' (some g)) (hne : g ≠ r) (hB : B ≤ g) : RdAt B w' r d := by
  obtain ⟨⟨hr, hB0⟩, a, c, c0, c1, f0, f1, hc, h5⟩ := h
  have hb : ∀ b, b < w.heap.size → b ≠ g → w'.heap[b]? = w.heap[b]? := fun b hb hn => hg.block b hb (by simpa using hn)
  refine ⟨⟨Nat.lt_of_lt_of_le hr hg.size, Nat.le_trans hB0 hg.size⟩, a, c, ?_, ?_, ?_, ?_, hc, ?_⟩
  · rw [World.cell?_of_block (hb r hr (Ne.symm hne))]; exact c0
  · rw [World.cell?_of_block (hb r hr (Ne.symm hne))]; exact c1
  · rw [World.frozen?_of_block (hb r hr (Ne.symm hne))]; exact f0
  · rw [World.frozen?_of_block (hb r hr (Ne.symm hne))]; exact f1
  · rcases h5 with h | ⟨b, o, h, hlt, hnr, hj⟩
    · exact .inl h
    · exact .inr ⟨b, o, h, hlt, hnr, fun j u hu => by rw [World.cell?_of_block (hb b (Nat.lt_of_lt_of_le hlt hB0) (by omega))]; exact hj j u hu⟩

theorem grown_over {w W W' : World} {r g : Nat} (h : w.grownBy W (some r)) (hg : W.grownBy W' (some g)) (hw : w.heap.size ≤ g) : w.grownBy W' (some r) :=
  ⟨hg.os.trans h.os, hg.tape.trans h.tape, hg.output.trans h.output, Nat.le_trans h.size hg.size, fun k hk hne => (hg.block k (Nat.lt_of_lt_of_le hk h.size) (by simp; omega)).trans (h.block k hk hne)⟩

theorem splice_fill {bs : List Int} {cs : List Value} (h : (bs.take 4096).map (Value.int .u8) = cs) : splice (List.replicate 4096 (Value.int .u8 0)) 0 cs = (fill bs).map (Value.int .u8) := by
  have hl : cs.length = min 4096 bs.length := by rw [← h]; simp
  unfold splice fill
  rw [List.take_zero, List.nil_append, Nat.zero_add, List.map_append, h, List.map_replicate, List.drop_replicate, hl]
  congr 2
  omega

theorem number_callsE {B : Nat} (r : Nat) {d d1 : Rd} {n : Nat} {p : Int} (h : number d n = (p, d1)) (w : World) (hn : n ≤ 8) (hd : d.left.length ≤ 1000000000) (hby : Byte d.left) (hx : RdAt B w r d) :
    Calls Try.prog 37 #[.pointer (some ⟨r, 0, none⟩), .int .i64 n] w fun e w' => e = .returned (.int .u64 p) ∧ RdAt B w' r d1 ∧ w.grownBy w' (some r) := by
  have := number_calls (B := B) r d n w hn hd hby hx
  rw [h] at this
  exact this

theorem take_callsE {B : Nat} (r : Nat) {d d1 : Rd} {n : Nat} {bs : List Int} (h : take d n = (bs, d1)) (w : World) (hn : n ≤ 1000000) (hd : d.left.length ≤ 1000000000) (hx : RdAt B w r d) :
    Calls Try.prog 36 #[.pointer (some ⟨r, 0, none⟩), .int .i64 n] w fun e w' => ∃ v, e = .returned v ∧ Bs w'.heap.size w' v bs ∧ RdAt B w' r d1 ∧ w.grownBy w' (some r) := by
  have := take_calls (B := B) r d n w hn hd hx
  rw [h] at this
  exact this

theorem leaf_eq {d d1 d2 d3 d4 d5 : Rd} {p k x n : Int} {bs : List Int} (h1 : number d 4 = (p, d1)) (h2 : number d1 1 = (k, d2)) (h3 : number d2 1 = (x, d3)) (h4 : number d3 2 = (n, d4)) (h5 : take d4 n.toNat = (bs, d5)) :
    leaf d = (⟨p, k, !(x == 0), fill bs⟩, d5) := by
  unfold leaf
  simp only [h1, h2, h3, h4, h5]

theorem numberE {d d1 : Rd} {n k : Nat} {p : Int} (h : number d n = (p, d1)) (hd : d.left.length ≤ k) (hb : Byte d.left) : d1.left.length ≤ k ∧ Byte d1.left := by
  have h1 := number_len (n := n) hd
  have h2 := number_byte (n := n) hb
  rw [h] at h1 h2
  exact ⟨h1, h2⟩

set_option maxRecDepth 100000 in
set_option maxHeartbeats 4000000 in
theorem leaf_any {B : Nat} (r : Nat) {d d1 d2 d3 d4 d5 : Rd} {p k x : Int} {n : Nat} {bs : List Int} (h1 : number d 4 = (p, d1)) (h2 : number d1 1 = (k, d2)) (h3 : number d2 1 = (x, d3)) (h4 : number d3 2 = ((n : Int), d4)) (h5 : take d4 n = (bs, d5)) (hk0 : 0 ≤ k) (hk1 : k < 65536) (hn : n < 65536)
    (w : World) (hd : d.left.length ≤ 1000000000) (hby : Byte d.left) (hx : RdAt B w r d) :
    Calls Try.prog 38 #[.pointer (some ⟨r, 0, none⟩)] w fun e w' => ∃ bv, e = .returned (.agg #[.int .u64 p, .int .i64 k, .bool (!(x == 0)), bv]) ∧ Bs w'.heap.size w' bv (fill bs) ∧
      RdAt B w' r d5 ∧ w.grownBy w' (some r) ∧ (∀ g, bv.ownBlock = some g → w.heap.size ≤ g) ∧ CapOk bv := by
  have HX : Aside (RdAt B w r d) := hx
  have HBY : Aside (Byte d.left) := hby
  have hr : r < w.heap.size := hx.1.1
  have hBw : B ≤ w.heap.size := hx.1.2
  have HN1 := numberE h1 hd hby
  have HN2 := numberE h2 HN1.1 HN1.2
  have HN3 := numberE h3 HN2.1 HN2.2
  have HN4 := numberE h4 HN3.1 HN3.2
  have N1 : Aside (d1.left.length ≤ 1000000000 ∧ Byte d1.left) := HN1
  have N2 : Aside (d2.left.length ≤ 1000000000 ∧ Byte d2.left) := HN2
  have N3 : Aside (d3.left.length ≤ 1000000000 ∧ Byte d3.left) := HN3
  have N4 : Aside (d4.left.length ≤ 1000000000 ∧ Byte d4.left) := HN4
  have E2 : Aside (number d1 1 = (k, d2)) := h2
  have E3 : Aside (number d2 1 = (x, d3)) := h3
  have E4 : Aside (number d3 2 = ((n : Int), d4)) := h4
  have E5 : Aside (take d4 n = (bs, d5)) := h5
  have E1 : Aside (number d 4 = (p, d1)) := h1
  clear hx hby HN1 HN2 HN3 HN4 h1 h2 h3 h4 h5
  have hmk : ∀ w : World, Sem.run Try.prog (Instr.makeSlice 32 (.int .i64 4096) (.int .i64 4096)) w = .ok (.slice (some ⟨w.heap.size, 0, none⟩) 4096 4096) (w.alloc (.cells (zerosA 4096) 5)) := make32 4096 (by omega)
  have hz58 := zero58
  have hne1 : ¬ (w.heap.size + 1 = r) := by omega
  have hne2 : ¬ (w.heap.size + 1 + 1 = r) := by omega
  go_enter Try.func38, Try.ntmps38
  go_upto_region 1 with fail
  go_cut [3, 7] from 5 (fun pt qt wc => ∃ g gb, pt = .pointer (some ⟨g, 0, none⟩) ∧ qt = .slice (some ⟨gb, 0, none⟩) 4096 4096 ∧ Leafy B w wc r g gb d1 p)
  case first =>
    go_region_law (first
      | (go_simp; go_at_call 37; refine (number_callsE (B := B) r E1.out _ (by omega) hd HBY.out (by first | exact (HX.out.grow (World.grownBy_alloc _ _ none)).drew | exact ((HX.out.grow (World.grownBy_alloc _ _ none)).grow (World.grownBy_alloc _ _ none)).drew | exact (((HX.out.grow (World.grownBy_alloc _ _ none)).grow (World.grownBy_alloc _ _ none)).grow (World.grownBy_alloc _ _ none)).drew)).mono ?_; rintro e w5 ⟨rfl, hrd, hg⟩; have hc := grown_cells hg; have hf := grown_frozen hg; have hac := alloc_cells w5; have haf := alloc_frozen w5; have hgs := hg.size; (try simp at hgs); (try (have hl1 : w.heap.size + 1 < w5.heap.size := by omega)); (try (have hl2 : w.heap.size + 1 + 1 < w5.heap.size := by omega))))
    all_goals (try go_wp2_with fail)
    all_goals go_meet
    all_goals refine ⟨_, _, rfl, rfl, ?_⟩
    all_goals clear hc hf hac haf
    all_goals have hsz : w.heap.size < w5.heap.size := by omega
    all_goals have bx : w5.heap[w.heap.size]? = some box0 := by rw [hg.block _ (by simp; try omega) (by simp; omega)]; first | exact heap_n0 | exact heap_n1 | exact heap_n2
    all_goals have gr : w.grownBy w5 (some r) := by first | exact grown_trans (grown_any (World.grownBy_alloc _ _ none)) (undrew hg) | exact grown_trans (grown_any (World.grownBy_alloc _ _ none)) (grown_trans (grown_any (World.grownBy_alloc _ _ none)) (undrew hg)) | exact grown_trans (grown_any (World.grownBy_alloc _ _ none)) (grown_trans (grown_any (World.grownBy_alloc _ _ none)) (grown_trans (grown_any (World.grownBy_alloc _ _ none)) (undrew hg)))
    · have h := leafy_new (page := p) (gb := w5.heap.size) (W := w5.alloc (.cells (zerosA 4096) 5)) (by rw [Below.heap_alloc _ _ _ hsz]; exact bx) (hrd.grow (World.grownBy_alloc _ _ none)) (grown_trans gr (grown_any (World.grownBy_alloc _ _ none))) (by simp; omega) heap_n0 hsz (by simp)
      simpa [boxL] using h
    · have h := leafy_z (page := p) (g := w5.heap.size) (W := w5.alloc (boxL p (w5.heap.size + 1))) (by rw [Below.heap_alloc _ _ _ hsz]; exact bx) (hrd.grow (World.grownBy_alloc _ _ none)) (grown_trans gr (grown_any (World.grownBy_alloc _ _ none))) (by simp; omega) (by rw [World.size_alloc]; exact heap_n0) hsz (by simp)
      simpa [boxL] using h
    · have hz : w5.heap[w.heap.size + 1]? = some (.cells (zerosA 4096) 5) := by rw [hg.block _ (by simp) (by simp; omega)]; exact heap_m1
      have h := leafy_new (page := p) (gb := w.heap.size + 1) (W := w5) bx hrd gr hsz hz (by omega) (by omega)
      simpa [boxL] using h
    · have hz : w5.heap[w.heap.size + 1]? = some (.cells (zerosA 4096) 5) := by rw [hg.block _ (by simp) (by simp; omega)]; exact heap_m2
      have hbx : w5.heap[w.heap.size + 1 + 1]? = some box0 := by rw [hg.block _ (by simp) (by simp; omega)]; exact heap_k2
      exact leafy_set hr hBw bx hrd gr hsz hz hbx (by omega) (by omega) (by omega) (by omega) (by omega)
    · have hbx : w5.heap[w.heap.size + 1]? = some box0 := by rw [hg.block _ (by simp) (by simp; omega)]; exact heap_m1
      have h := leafy_z (page := p) (g := w.heap.size + 1) (W := set4 w5 (w.heap.size + 1) (.int .u64 p) (.int .i64 0) (.bool false) (.slice (some ⟨w5.heap.size, 0, none⟩) 4096 4096)) (by rw [set4_other (by omega)]; exact bx)
        ((((hrd.other (by omega) (by omega) _).other (by omega) (by omega) _).other (by omega) (by omega) _).other (by omega) (by omega) _) (grown_put (grown_put (grown_put (grown_put gr (by omega)) (by omega)) (by omega)) (by omega)) (by rw [set4_size]; omega) (by rw [set4_size]; exact set4_same hbx) (by omega) (by rw [set4_size]; omega)
      rw [set4_size] at h
      exact h
    · have hbx : w5.heap[w.heap.size + 1]? = some box0 := by rw [hg.block _ (by simp) (by simp; omega)]; exact heap_m2
      have hz : w5.heap[w.heap.size + 1 + 1]? = some (.cells (zerosA 4096) 5) := by rw [hg.block _ (by simp) (by simp; omega)]; exact heap_k2
      exact leafy_set hr hBw bx hrd gr hsz hz hbx (by omega) (by omega) (by omega) (by omega) (by omega)
  case rest =>
    obtain ⟨g, gb, rfl, rfl, HLF⟩ := hcut
    have HL : Aside (LeafAt B w wc r g gb d1 (.int .u64 p) (.int .i64 0) (.bool false)) := by
      obtain ⟨a, b, c, e, f, gx, zs, bx, rd, gr⟩ := HLF
      exact ⟨a, b, c, e, f, gx, zs, bx, rd, gr⟩
    clear HLF E1
    go_wp2_with fail
    refine (number_callsE (B := B) r E2.out _ (by omega) N1.out.1 N1.out.2 HL.out.rd).mono ?_
    rintro e w2 ⟨rfl, hrd2, hg2⟩
    have HL2 : Aside (LeafAt B w w2 r g gb d2 (.int .u64 p) (.int .i64 0) (.bool false)) := HL.out.call hr hg2 hrd2
    have c1 := HL2.out.cell.1 1
    have f1 := HL2.out.cell.2 1
    have hkw : IntKind.i64.wrap k = k := IntWalk.i64_in _ (by omega)
    clear HL hrd2 hg2 E2
    simp only [List.getElem?_toArray, List.getElem?_cons_zero, List.getElem?_cons_succ] at c1
    go_wp2_with fail
    have HS2 : Aside (LeafAt B w (w2.setCell ⟨g, 1, none⟩ (.int .i64 k)) r g gb d2 (.int .u64 p) (.int .i64 k) (.bool false)) := HL2.out.set1 hr hBw _
    refine (number_callsE (B := B) r E3.out _ (by omega) N2.out.1 N2.out.2 HS2.out.rd).mono ?_
    rintro e w3 ⟨rfl, hrd3, hg3⟩
    have HL3 : Aside (LeafAt B w w3 r g gb d3 (.int .u64 p) (.int .i64 k) (.bool false)) := HS2.out.call hr hg3 hrd3
    have c2 := HL3.out.cell.1 2
    have f2 := HL3.out.cell.2 2
    clear HL2 HS2 hrd3 hg3 E3 c1 f1 hkw
    simp only [List.getElem?_toArray, List.getElem?_cons_zero, List.getElem?_cons_succ] at c2
    go_wp2_with fail
    have HS3 : Aside (LeafAt B w (w3.setCell ⟨g, 2, none⟩ (.bool (!(x == 0)))) r g gb d3 (.int .u64 p) (.int .i64 k) (.bool (!(x == 0)))) := HL3.out.set2 hr hBw _
    refine (number_callsE (B := B) r E4.out _ (by omega) N3.out.1 N3.out.2 HS3.out.rd).mono ?_
    rintro e w4 ⟨rfl, hrd4, hg4⟩
    have HL4 : Aside (LeafAt B w w4 r g gb d4 (.int .u64 p) (.int .i64 k) (.bool (!(x == 0)))) := HS3.out.call hr hg4 hrd4
    have hnw : IntKind.i64.wrap (n : Int) = (n : Int) := IntWalk.i64_in _ (by omega)
    have c3 := HL4.out.cell.1 3
    clear HL3 HS3 hrd4 hg4 E4 c2 f2
    simp only [List.getElem?_toArray, List.getElem?_cons_zero, List.getElem?_cons_succ] at c3
    go_upto_region 5 with fail
    have hbl : bs.length = n := by
      have := take_len d4 n
      rw [E5.out] at this
      exact this
    go_cut [] from 5 (fun wc2 => wc2.heap[g]? = some (.cells #[.int .u64 p, .int .i64 k, .bool (!(x == 0)), .slice (some ⟨gb, 0, none⟩) 4096 4096] 58) ∧ wc2.heap[gb]? = some (.cells ((fill bs).map (Value.int .u8)).toArray 5) ∧ wc2.heap[w.heap.size]? = some box0 ∧ RdAt B wc2 r d5 ∧ w.grownBy wc2 (some r))
    case first =>
      obtain ⟨cs, hcs⟩ : ∃ cs, (bs.take 4096).map (Value.int .u8) = cs := ⟨_, rfl⟩
      have HCS : Aside ((bs.take 4096).map (Value.int .u8) = cs) := hcs
      have HCL : Aside (cs.length = Nat.min n 4096) := by
        show _ = _
        rw [← hcs, List.length_map, List.length_take, hbl]
        exact Nat.min_comm _ _
      have HBL : Aside (bs.length = n) := hbl
      clear hcs hbl
      go_region_law (first
        | (go_simp; go_at_call 36; refine (take_callsE (B := B) r E5.out _ (by omega) N4.out.1 HL4.out.rd.drew).mono ?_; rintro e w6 ⟨v, rfl, hv, hrd6, hg6⟩; obtain ⟨va, vc, rfl⟩ := Bs.form hv HBL.out; have HV : Aside (Bs w6.heap.size w6 (.slice va n vc) bs) := hv; have HL6 : Aside (LeafAt B w w6 r g gb d5 (.int .u64 p) (.int .i64 k) (.bool (!(x == 0)))) := HL4.out.call hr (undrew hg6) hrd6; clear hv hrd6 hg6; have c36 : w6.cell? ⟨g, 3, none⟩ = some (.slice (some ⟨gb, 0, none⟩) 4096 4096) := HL6.out.cell.1 3)
        | (refine step_copy_only rfl (.tmp 21) (.tmp 24) 32 32 rfl 5 Try.underlying32 size5 _ va 4096 4096 n vc rfl rfl gb 0 (List.replicate 4096 (Value.int .u8 0)) 5 HL6.out.zs cs HCL.out (fun h => ⟨rfl, copy_src_take HV.out HCS.out h⟩) (by rw [HCL.out]; simp; exact Nat.min_le_right _ _) (by rw [← HCS.out]; exact ints_one) ?_; intro w7 hg7 hgr7))
      all_goals (try go_wp2_with fail)
      all_goals go_meet
      all_goals
        have a := HL6.out.g0
        have b := HL6.out.gb0
        have hne := HL6.out.ne
        have hlt := HL6.out.glt
        refine ⟨?_, ?_, ?_, HL6.out.rd.off hgr7 (by omega) (by omega), grown_over HL6.out.gr hgr7 (by omega)⟩
        · rw [hgr7.block g hlt (by simp; omega)]; exact HL6.out.gx
        · have := hg7.out
          rw [splice_fill HCS.out] at this
          exact this
        · rw [hgr7.block _ (by omega) (by simp; omega)]; exact HL6.out.bx
    case rest =>
      obtain ⟨gx, gz, bx, rd, gr⟩ := hcut
      have GZ : Aside (wc.heap[gb]? = some (.cells ((fill bs).map (Value.int .u8)).toArray 5)) := gz
      have RD : Aside (RdAt B wc r d5) := rd
      have GR : Aside (w.grownBy wc (some r)) := gr
      have hg0 := HL4.out.g0
      have hgb0 := HL4.out.gb0
      have hsz := gr.size
      have hgl : gb < wc.heap.size := by
        rcases Nat.lt_or_ge gb wc.heap.size with h | h
        · exact h
        · rw [Array.getElem?_eq_none h] at gz; cases gz
      have e0 : wc.cell? ⟨g, 0, none⟩ = some (.int .u64 p) := by simp [World.cell?, gx]
      have e1 : wc.cell? ⟨g, 1, none⟩ = some (.int .i64 k) := by simp [World.cell?, gx]
      have e2 : wc.cell? ⟨g, 2, none⟩ = some (.bool (!(x == 0))) := by simp [World.cell?, gx]
      have e3 : wc.cell? ⟨g, 3, none⟩ = some (.slice (some ⟨gb, 0, none⟩) 4096 4096) := by simp [World.cell?, gx]
      have z0 : wc.cell? ⟨w.heap.size, 0, none⟩ = some (.int .u64 0) := by simp [World.cell?, bx, box0]
      have z1 : wc.cell? ⟨w.heap.size, 1, none⟩ = some (.int .i64 0) := by simp [World.cell?, bx, box0]
      have z2 : wc.cell? ⟨w.heap.size, 2, none⟩ = some (.bool false) := by simp [World.cell?, bx, box0]
      have z3 : wc.cell? ⟨w.heap.size, 3, none⟩ = some (.slice none 0 0) := by simp [World.cell?, bx, box0]
      have fz : ∀ j, wc.frozen? ⟨w.heap.size, j, none⟩ = false := fun j => frozen_of_row wc w.heap.size j _ 58 bx
      clear gx gz bx rd gr HL4 c3 hnw
      go_wp2_with fail
      refine bodyPost_ret (v := .agg #[.int .u64 p, .int .i64 k, .bool (!(x == 0)), .slice (some ⟨gb, 0, none⟩) 4096 4096]) (by simp [results, Try.results38, go_sem, z0, z1, z2, z3]) rfl ⟨_, rfl, ?_, ?_, ?_, ?_, Nat.le_refl _⟩
      · have hfl : (fill bs).length = 4096 := by unfold fill; simp; omega
        refine ⟨some ⟨gb, 0, none⟩, 4096, by rw [hfl], .inr ⟨gb, 0, rfl, by simp; omega, fun j u hj => ?_⟩⟩
        have h1 : (set4 wc w.heap.size (.int .u64 p) (.int .i64 k) (.bool (!(x == 0))) (.slice (some ⟨gb, 0, none⟩) 4096 4096)).heap[gb]? = some (.cells ((fill bs).map (Value.int .u8)).toArray 5) := by
          rw [set4_other (by omega)]; exact GZ.out
        show (set4 wc w.heap.size (.int .u64 p) (.int .i64 k) (.bool (!(x == 0))) (.slice (some ⟨gb, 0, none⟩) 4096 4096)).cell? _ = _
        simp only [World.cell?, h1]
        simpa using hj
      · exact (((RD.out.other (by omega) (by omega) _).other (by omega) (by omega) _).other (by omega) (by omega) _).other (by omega) (by omega) _
      · exact grown_put (grown_put (grown_put (grown_put GR.out (Nat.le_refl _)) (Nat.le_refl _)) (Nat.le_refl _)) (Nat.le_refl _)
      · intro g' hg'
        simp only [Value.ownBlock, Option.some.injEq] at hg'
        omega

theorem leaf_calls {B : Nat} (r : Nat) (d : Rd) (w : World) (hd : d.left.length ≤ 1000000000) (hby : Byte d.left) (hx : RdAt B w r d) :
    Calls Try.prog 38 #[.pointer (some ⟨r, 0, none⟩)] w fun e w' => ∃ bv, e = .returned (.agg #[.int .u64 (leaf d).1.page, .int .i64 (leaf d).1.kind, .bool (leaf d).1.write, bv]) ∧ Bs w'.heap.size w' bv (leaf d).1.bytes ∧
      RdAt B w' r (leaf d).2 ∧ w.grownBy w' (some r) ∧ (∀ g, bv.ownBlock = some g → w.heap.size ≤ g) ∧ CapOk bv := by
  obtain ⟨⟨p, d1⟩, h1⟩ : ∃ x, number d 4 = x := ⟨_, rfl⟩
  obtain ⟨⟨k, d2⟩, h2⟩ : ∃ x, number d1 1 = x := ⟨_, rfl⟩
  obtain ⟨⟨x, d3⟩, h3⟩ : ∃ x, number d2 1 = x := ⟨_, rfl⟩
  obtain ⟨⟨z, d4⟩, h4⟩ : ∃ x, number d3 2 = x := ⟨_, rfl⟩
  obtain ⟨⟨bs, d5⟩, h5⟩ : ∃ x, take d4 z.toNat = x := ⟨_, rfl⟩
  have N1 := numberE h1 hd hby
  have N2 := numberE h2 N1.1 N1.2
  have N3 := numberE h3 N2.1 N2.2
  have k1 := num_small (n := 1) N1.2 (by omega)
  have z1 := num_small (n := 2) N3.2 (by omega)
  rw [h2] at k1
  rw [h4] at z1
  rw [leaf_eq h1 h2 h3 h4 h5]
  obtain ⟨n, rfl⟩ : ∃ n : Nat, z = n := ⟨z.toNat, by have := z1.1; simp only at this; omega⟩
  simp only [Int.toNat_natCast] at h5
  exact leaf_any r h1 h2 h3 h4 h5 k1.1 k1.2 (by have := z1.2; simp only at this; omega) w hd hby hx
end Go.Proofs.Ytdlnipimljpmgaa
