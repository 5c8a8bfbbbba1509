/- What the document's Decode has made so far. -/
import Derived.Test.YtdlnipimljpmgaaIR7
import Derived.Test.YtdlnipimljpmgaaIW16
import Derived.Test.YtdlnipimljpmgaaIP3
set_option linter.unusedVariables false
set_option linter.unusedSimpArgs false
set_option linter.unusedSectionVars false
set_option linter.unnecessarySimpa false
namespace Go.Proofs.Ytdlnipimljpmgaa
open Go Go.RowKit Go.Im Go.Lib

structure RD (w wc : World) (on : Bool) (root asid : Int) (ls : List Lf) (fs : List Value) (v : Value) : Prop where
  res : wc.heap[w.heap.size]? = some (.cells #[.bool false, .int .u64 0, .int .i64 0, .slice none 0 0] 29)
  img : wc.heap[w.heap.size + 1]? = some (.cells #[.bool on, .int .u64 root, .int .i64 asid, v] 29)
  side : Side wc (w.heap.size + 2) 68 v ls fs
  bl : Below w.heap.size w wc
  sz : w.heap.size + 2 ≤ wc.heap.size

section
variable {w wc w2 : World} {on : Bool} {root asid : Int} {ls : List Lf} {fs : List Value} {v : Value}

theorem RD.grow (M : RD w wc on root asid ls fs v) (hg : wc.grownBy w2 none) : RD w w2 on root asid ls fs v := by
  have hs := M.sz
  refine ⟨?_, ?_, M.side.grow hg, M.bl.grown hg (by omega) (by simp), Nat.le_trans hs hg.size⟩
  · rw [hg.block _ (by omega) (by simp)]; exact M.res
  · rw [hg.block _ (by omega) (by simp)]; exact M.img

theorem RD.push {v' : Value} {s : Lf} {f : Value} (M : RD w wc on root asid ls fs v) (hg : wc.grownBy w2 v.ownBlock) (hown : w2.ownsRow (w.heap.size + 2) 68 4 v' (ls.length + 1) (flat ls fs ++ s.cells f))
    (hf : w2.ownsRow (w.heap.size + 2) 5 1 f s.bytes.length (s.bytes.map (Value.int .u8))) (hs : 0 < s.bytes.length) (hap : ∀ g ∈ fs, g.ownBlock ≠ f.ownBlock) :
    RD w (w2.setCell ⟨w.heap.size + 1, 3, none⟩ v') on root asid (ls ++ [s]) (fs ++ [f]) v' := by
  have hz := M.sz
  have hrow : ∀ g, v.ownBlock = some g → w.heap.size + 2 ≤ g ∧ g < wc.heap.size := M.side.row.lt
  have hk : ∀ m, m < w.heap.size + 2 → w2.heap[m]? = wc.heap[m]? := fun m hm => hg.block m (by omega) (fun e => by have := (hrow m e.symm).1; omega)
  have hb2 : w2.heap[w.heap.size + 1]? = some (.cells #[.bool on, .int .u64 root, .int .i64 asid, v] 29) := (hk _ (by omega)).trans M.img
  have hset := grown_set w2 (w.heap.size + 1) 3 v'
  have hkind : ∀ g, (some (w.heap.size + 1) : Option Nat) = some g → ∃ cs t fz, w2.heap[g]? = some (.cells cs t fz) ∧ t ≠ 68 ∧ t ≠ 5 := fun g hg' => by
    cases hg'
    exact ⟨_, 29, _, hb2, by decide, by decide⟩
  refine ⟨?_, ?_, (M.side.push (by decide) hg hown hf hs hap).kept hset hkind, ?_, ?_⟩
  · rw [heap_setCell_other _ _ _ _ (by simp), hk _ (by omega)]; exact M.res
  · rw [heap_setCell_same w2 _ 3 _ 29 _ hb2]; rfl
  · exact (M.bl.grown hg (by omega) (fun k hk' => by have := (hrow k hk').1; omega)).setCell (by show _ ≤ w.heap.size + 1; omega) _
  · have := hg.size
    simp
    omega

theorem RD.leaf {wr w8 w9 : World} {gb : Nat} {v' : Value} {s : Lf} {o : Obj} (M : RD w wr on root asid ls fs v) (hb : Below wr.heap.size wr w8) (hz : w8.heap[gb]? = some (.cells (s.bytes.map (Value.int .u8)).toArray 5)) (hgb : wr.heap.size ≤ gb) (hl : s.bytes.length = 4096)
    (h9 : (w8.alloc o).grownBy w9 v.ownBlock) (hown : w9.ownsRow (w.heap.size + 2) 68 4 v' (ls.length + 1) (flat ls fs ++ s.cells (.slice (some ⟨gb, 0, none⟩) 4096 4096))) :
    RD w (w9.setCell ⟨w.heap.size + 1, 3, none⟩ v') on root asid (ls ++ [s]) (fs ++ [.slice (some ⟨gb, 0, none⟩) 4096 4096]) v' := by
  have hz0 := M.sz
  have hgl : gb < w8.heap.size := by
    rcases Nat.lt_or_ge gb w8.heap.size with h | h
    · exact h
    · rw [Array.getElem?_eq_none h] at hz; cases hz
  have M8 : RD w w8 on root asid ls fs v := M.grow ⟨hb.os, hb.tape, hb.output, hb.size, fun i hi _ => hb.block i hi⟩
  have M8a : RD w (w8.alloc o) on root asid ls fs v := M8.grow (World.grownBy_alloc _ _ none)
  have hf : w8.ownsRow (w.heap.size + 2) 5 1 (.slice (some ⟨gb, 0, none⟩) 4096 4096) s.bytes.length (s.bytes.map (Value.int .u8)) := by
    refine ⟨by simp, .inr ⟨gb, 4096, _, by rw [hl], by omega, hz, by omega, by decide, by simp [hl], ?_⟩⟩
    rw [hl]
    simp only [Nat.mul_one]
    exact List.take_of_length_le (by simp [hl])
  have hrow := M.side.row.lt
  refine M8a.push h9 hown ((hf.alloc o).kept h9 (.inr ?_)) (by omega) ?_
  · intro e
    have := (hrow gb e.symm).2
    omega
  · intro g hg e
    obtain ⟨i, hi⟩ := List.getElem?_of_mem hg
    have hlt : i < ls.length := by
      have := (List.getElem?_eq_some_iff.1 hi).1
      rw [← M.side.fsl]; exact this
    obtain ⟨b1, b2⟩ := M.side.bys i _ g (List.getElem?_eq_getElem hlt) hi
    have := (b1.lt gb (by rw [e]; rfl)).2
    omega

theorem RD.box {w8 w9 : World} {o : Obj} (M : RD w w8 on root asid ls fs v) (h9 : (w8.alloc o).grownBy w9 v.ownBlock) : w9.cell? ⟨w.heap.size + 1, 3, none⟩ = some v ∧ w9.frozen? ⟨w.heap.size + 1, 3, none⟩ = false := by
  have hs := M.sz
  have h2 : w9.heap[w.heap.size + 1]? = some (.cells #[.bool on, .int .u64 root, .int .i64 asid, v] 29) := by
    rw [h9.block _ (by simp; omega) (fun e => by have := (M.side.row.lt _ e.symm).1; omega), Below.heap_alloc _ _ _ (by omega)]
    exact M.img
  exact ⟨by unfold World.cell?; rw [h2]; rfl, frozen_of_row _ _ _ _ 29 h2⟩

theorem RD.heads (M : RD w wc on root asid ls fs v) : (wc.cell? ⟨w.heap.size + 1, 0, none⟩ = some (.bool on) ∧ wc.cell? ⟨w.heap.size + 1, 1, none⟩ = some (.int .u64 root) ∧ wc.cell? ⟨w.heap.size + 1, 2, none⟩ = some (.int .i64 asid) ∧ wc.cell? ⟨w.heap.size + 1, 3, none⟩ = some v) ∧
    (wc.cell? ⟨w.heap.size, 0, none⟩ = some (.bool false) ∧ wc.cell? ⟨w.heap.size, 1, none⟩ = some (.int .u64 0) ∧ wc.cell? ⟨w.heap.size, 2, none⟩ = some (.int .i64 0) ∧ wc.cell? ⟨w.heap.size, 3, none⟩ = some (.slice none 0 0)) ∧ (∀ j, wc.frozen? ⟨w.heap.size, j, none⟩ = false) ∧ (∀ j, wc.frozen? ⟨w.heap.size + 1, j, none⟩ = false) := by
  have h1 := M.res
  have h2 := M.img
  refine ⟨⟨?_, ?_, ?_, ?_⟩, ⟨?_, ?_, ?_, ?_⟩, fun j => frozen_of_row wc _ j _ 29 h1, fun j => frozen_of_row wc _ j _ 29 h2⟩
  all_goals unfold World.cell?
  all_goals first | (rw [h1]; rfl) | (rw [h2]; rfl)

theorem RD.apart (M : RD w wc on root asid ls fs v) : v.ownBlock ≠ some w.heap.size ∧ ∀ f ∈ fs, f.ownBlock ≠ some w.heap.size := by
  refine ⟨fun e => by have := (M.side.row.lt _ e).1; omega, fun f hf e => ?_⟩
  obtain ⟨i, hi⟩ := List.getElem?_of_mem hf
  have hlt : i < ls.length := by
    have := (List.getElem?_eq_some_iff.1 hi).1
    rw [← M.side.fsl]; exact this
  have := ((M.side.bys i _ f (List.getElem?_eq_getElem hlt) hi).1.lt _ e).1
  omega
end

/-- A page's leaf as the round has made it. -/
structure NLf (wr wc : World) (g gb : Nat) (page kind : Int) (wri : Bool) : Prop where
  g0 : wr.heap.size ≤ g
  gb0 : wr.heap.size ≤ gb
  ne : g ≠ gb
  gx : wc.heap[g]? = some (.cells #[.int .u64 page, .int .i64 kind, .bool wri, .slice (some ⟨gb, 0, none⟩) 4096 4096] 68)
  zs : wc.heap[gb]? = some (.cells (zerosA 4096) 5)
  bl : Below wr.heap.size wr wc

theorem NLf.glt {wr wc : World} {g gb : Nat} {page kind : Int} {wri : Bool} (h : NLf wr wc g gb page kind wri) : g < wc.heap.size ∧ gb < wc.heap.size := by
  constructor
  · rcases Nat.lt_or_ge g wc.heap.size with h1 | h1
    · exact h1
    · have := h.gx; rw [Array.getElem?_eq_none h1] at this; cases this
  · rcases Nat.lt_or_ge gb wc.heap.size with h1 | h1
    · exact h1
    · have := h.zs; rw [Array.getElem?_eq_none h1] at this; cases this

theorem NLf.copied {wr wc w7 : World} {g gb : Nat} {page kind : Int} {wri : Bool} (h : NLf wr wc g gb page kind wri) (hgr : wc.grownBy w7 (some gb)) :
    w7.heap[g]? = some (.cells #[.int .u64 page, .int .i64 kind, .bool wri, .slice (some ⟨gb, 0, none⟩) 4096 4096] 68) ∧ Below wr.heap.size wr w7 := by
  have hl := h.glt
  have h1 := h.ne
  refine ⟨by rw [hgr.block g hl.1 (by simp; omega)]; exact h.gx, h.bl.grown hgr h.bl.size (fun k hk => by cases hk; exact h.gb0)⟩

theorem nlf_cells {wc : World} {g : Nat} {x0 x1 x2 x3 : Value} {t : Nat} (h : wc.heap[g]? = some (.cells #[x0, x1, x2, x3] t)) : wc.cell? ⟨g, 0, none⟩ = some x0 ∧ wc.cell? ⟨g, 1, none⟩ = some x1 ∧ wc.cell? ⟨g, 2, none⟩ = some x2 ∧ wc.cell? ⟨g, 3, none⟩ = some x3 := by
  refine ⟨?_, ?_, ?_, ?_⟩
  all_goals unfold World.cell?
  all_goals (rw [h]; rfl)

/-- What the document's Decode tells. -/
def RefPost (w : World) (o : Option Img) (e : Ending) (w' : World) : Prop :=
  Below w.heap.size w w' ∧ (match o with
    | none => e = .returned (.tuple #[.agg #[.bool false, .int .u64 0, .int .i64 0, .slice none 0 0], .int .i64 4])
    | some m => ∃ v fs, e = .returned (.tuple #[.agg #[.bool m.on, .int .u64 m.root, .int .i64 m.asid, v], .int .i64 0]) ∧ LeavesF w'.heap.size w' v m.leaves fs ∧ ∀ f ∈ fs, CapOk f)

theorem refDec_of {L : List Int} {m : Img} (h : refParse L = some m) : refDec L = if chk m = 0 ∧ enc m = L then some m else none := by unfold refDec; rw [h]; rfl
theorem refDec_no {L : List Int} (h : refParse L = none) : refDec L = none := by unfold refDec; rw [h]; rfl
theorem refParse_long {L : List Int} (h18 : 18 ≤ L.length) {u4 u5 : Int} (h4 : L[4]? = some u4) (h5 : L[5]? = some u5) : refParse L = (refLeaves 1025 (L.drop 18)).map fun r => ⟨u4 == 1, num L 6 8, u5, r⟩ := by
  have e4 : L.getD 4 0 = u4 := by rw [List.getD_eq_getElem?_getD, h4]; rfl
  have e5 : L.getD 5 0 = u5 := by rw [List.getD_eq_getElem?_getD, h5]; rfl
  unfold refParse
  rw [if_neg (by omega), e4, e5]

theorem RefPost.bad {w w' : World} {o : Option Img} (hb : Below w.heap.size w w') (h : o = none) : RefPost w o (.returned (.tuple #[.agg #[.bool false, .int .u64 0, .int .i64 0, .slice none 0 0], .int .i64 4])) w' := by
  subst h; exact ⟨hb, rfl⟩
theorem RefPost.good {w w' : World} {o : Option Img} {m : Img} {v : Value} {fs : List Value} (hb : Below w.heap.size w w') (h : o = some m) (hl : LeavesF w'.heap.size w' v m.leaves fs) (hc : ∀ f ∈ fs, CapOk f) : RefPost w o (.returned (.tuple #[.agg #[.bool m.on, .int .u64 m.root, .int .i64 m.asid, v], .int .i64 0])) w' := by
  subst h; exact ⟨hb, v, fs, rfl, hl, hc⟩

theorem Bs.mrow {w : World} {base : Nat} {v : Value} {n : Nat} {l : List Int} (h : MRow w base 5 v n (l.map (Value.int .u8))) : Bs w.heap.size w v l := by
  have hlt := h.lt
  obtain ⟨g, c, rfl⟩ := h.form
  have hc := h.cells
  have hl := h.1
  simp at hl
  subst hl
  refine ⟨_, c, rfl, .inr ⟨g, 0, rfl, (hlt g rfl).2, fun j u hj => ?_⟩⟩
  have := hc j u hj
  rw [Addr.add_lit] at this
  exact this

/-- Leaves that the reader may have read. -/
def LOk (ls : List Lf) : Prop := ∀ f ∈ ls, (0 ≤ f.page ∧ f.page < 4294967296) ∧ f.bytes.length = 4096 ∧ Byte f.bytes

theorem lnum_lt {L : List Int} (h : Byte L) (p n : Nat) : 0 ≤ num L p n ∧ num L p n < 256 ^ n := by
  unfold num
  have h1 := fromLe_lt ((L.drop p).take n) (fun x hx => h x (List.mem_of_mem_drop (List.mem_of_mem_take hx)))
  refine ⟨h1.1, Int.lt_of_lt_of_le h1.2 ?_⟩
  have h2 : ((L.drop p).take n).length ≤ n := by simp; omega
  have h3 : (256 : Nat) ^ ((L.drop p).take n).length ≤ 256 ^ n := Nat.pow_le_pow_right (by decide) h2
  have e : ∀ k : Nat, ((256 : Int) ^ k) = ((256 ^ k : Nat) : Int) := fun k => by simp
  rw [e, e]
  omega

theorem fill_ok {L : List Int} (h : Byte L) (p n : Nat) : (fill ((L.drop p).take n)).length = 4096 ∧ Byte (fill ((L.drop p).take n)) := by
  refine ⟨by unfold fill; simp; omega, fun x hx => ?_⟩
  unfold fill at hx
  rcases List.mem_append.1 hx with hx | hx
  · exact h x (List.mem_of_mem_drop (List.mem_of_mem_take (List.mem_of_mem_take hx)))
  · rw [List.mem_replicate] at hx; omega
end Go.Proofs.Ytdlnipimljpmgaa
