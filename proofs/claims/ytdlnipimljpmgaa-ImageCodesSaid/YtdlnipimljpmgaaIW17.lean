/- law 35's Made. -/
import Derived.Test.YtdlnipimljpmgaaIW16
import Derived.Deep.RegionHeld3
import Derived.BigRegion
import Derived.Laws.BitsAllLaws
set_option linter.unusedVariables false
set_option linter.unusedSimpArgs false
set_option linter.unusedSectionVars false
set_option linter.unnecessarySimpa false
namespace Go.Proofs.Ytdlnipimljpmgaa
open Go Go.RowKit Go.Im Go.Lib

theorem zero29' (w : World) : (zeroValue 29).run Try.prog w = .ok (.agg #[.bool false, .int .u64 0, .int .i64 0, .slice none 0 0]) w := by kernel_rfl

theorem maskR {r : Int} (h : 0 ≤ r ∧ r < 18446744073709551616) : 0 ≤ bits .and .u64 r 1099511623680 ∧ bits .and .u64 r 1099511623680 < 1099511627776 ∧ bits .and .u64 r 1099511623680 % 4096 = 0 := by
  rw [u64_and r 1099511623680 h.1 h.2 (by decide) (by decide)]
  have e : (1099511623680 : Int).toNat = 1099511623680 := rfl
  rw [e]
  have h1 : r.toNat &&& 1099511623680 ≤ 1099511623680 := Nat.and_le_right
  have h2 : (r.toNat &&& 1099511623680) % 4096 = 0 := by
    have := Nat.and_mod_two_pow (a := r.toNat) (b := 1099511623680) (n := 12)
    rw [show (2 : Nat) ^ 12 = 4096 from rfl, show 1099511623680 % 4096 = 0 from rfl, Nat.and_zero] at this
    exact this
  omega

theorem maskI (z : Int) (m : Nat) (hm : m < 4096) : 0 ≤ bits .and .i64 z m ∧ bits .and .i64 z m ≤ m := by
  have h1 : (BitVec.ofInt 64 z &&& BitVec.ofInt 64 (m : Int)).toNat ≤ m := by
    rw [BitVec.toNat_and]
    refine Nat.le_trans Nat.and_le_right ?_
    rw [BitVec.toNat_ofInt]
    omega
  have e : bits .and .i64 z m = IntKind.wrap .i64 ((BitVec.ofInt 64 z &&& BitVec.ofInt 64 (m : Int)).toNat : Int) := rfl
  rw [e, IntKind.wrap_i64]
  omega

theorem maskP {p : Int} (h : 0 ≤ p ∧ p < 18446744073709551616) : 0 ≤ bits .and .u64 p 1048575 ∧ bits .and .u64 p 1048575 ≤ 1048575 := by
  rw [u64_and p 1048575 h.1 h.2 (by decide) (by decide)]
  have e : (1048575 : Int).toNat = 1048575 := rfl
  rw [e]
  have h1 : p.toNat &&& 1048575 ≤ 1048575 := Nat.and_le_right
  omega

theorem maskN {p : Int} (h : 0 ≤ p ∧ p < 268435456) : bits .and .u64 p 268435455 = p := by
  rw [u64_and p 268435455 h.1 (by omega) (by decide) (by decide)]
  have e : (268435455 : Int).toNat = 2 ^ 28 - 1 := rfl
  rw [e, Nat.and_two_pow_sub_one_eq_mod, Nat.mod_eq_of_lt (by omega)]
  omega

/-- What holds of the leaves that Made makes. -/
structure MadeOk (right : Bool) (l : List Lf) (last : Int) : Prop where
  all : ∀ f ∈ l, (0 ≤ f.page ∧ f.page < 18446744073709551616) ∧ Byte f.bytes ∧ 0 < f.bytes.length ∧ f.bytes.length ≤ 4096
  ok : right = true → (∀ f ∈ l, wrong f = false) ∧ rises l = true ∧ 0 ≤ last ∧ last ≤ l.length * 1048576 ∧ (∀ f, l.getLast? = some f → f.page = last)

theorem MadeOk.start (right : Bool) : MadeOk right [] 0 := ⟨(fun f hf => by cases hf), (fun _ => ⟨(fun f hf => by cases hf), rfl, by simp, by simp, fun f h => by simp at h⟩)⟩

theorem MadeOk.next {right : Bool} {l : List Lf} {last last' : Int} {s : Lf} (h : MadeOk right l last) (hl : l.length < 12) (h1 : 0 ≤ s.page ∧ s.page < 18446744073709551616) (h2 : Byte s.bytes) (h3 : 0 < s.bytes.length ∧ s.bytes.length ≤ 4096)
    (hr : right = true → wrong s = false ∧ last < s.page ∧ s.page ≤ last + 1048576 ∧ last' = s.page) : MadeOk right (l ++ [s]) last' := by
  refine ⟨fun f hf => ?_, fun hr1 => ?_⟩
  · rcases List.mem_append.1 hf with hf | hf
    · exact h.all f hf
    · simp at hf; subst hf; exact ⟨h1, h2, h3⟩
  · obtain ⟨a1, a2, a3, a4, a5⟩ := h.ok hr1
    obtain ⟨b1, b2, b3, b4⟩ := hr hr1
    refine ⟨fun f hf => ?_, ?_, by omega, ?_, fun f hf => ?_⟩
    · rcases List.mem_append.1 hf with hf | hf
      · exact a1 f hf
      · simp at hf; subst hf; exact b1
    · rw [rises_snoc, a2]
      have hp : s.page < 268435456 := by omega
      cases hg : l.getLast? with
      | none => simp [hp]
      | some g => simp [hp, a5 g hg, b2]
    · simp only [List.length_append, List.length_cons, List.length_nil]
      omega
    · simp at hf
      subst hf
      exact b4.symm

/-- What an image's head is made of. -/
def Hdr (right : Bool) (root asid rt asd : Int) : Prop := (0 ≤ rt ∧ rt < 18446744073709551616) ∧ (right = true → rt % 4096 = 0 ∧ rt < 1099511627776 ∧ 0 ≤ asd ∧ asd ≤ 255) ∧ (right = false → rt = root ∧ asd = asid)

/-- The round's leaf lies at X. -/
def Xb (w2 wc : World) (X : Nat) (s : Lf) : Prop := Below X w2 wc ∧ wc.heap[X + 1]? = w2.heap[X + 1]? ∧ ∃ f g z, wc.heap[X]? = some (.cells #[.int .u64 s.page, .int .i64 s.kind, .bool s.write, f, g, z] 66)

theorem xb_of {w2 : World} {X : Nat} {v0 v1 v2 f g z : Value} {o po : Obj} {p kd : Int} {wb : Bool} {bs : List Int} (hp : w2.heap[X + 1]? = some po) (h : w2.heap[X]? = some (.cells #[v0, v1, v2, f, g, z] 66)) :
    Xb w2 ((((w2.setCell ⟨X, 0, none⟩ (.int .u64 p)).setCell ⟨X, 1, none⟩ (.int .i64 kd)).setCell ⟨X, 2, none⟩ (.bool wb)).alloc o) X ⟨p, kd, wb, bs⟩ := by
  have hX : X + 1 < w2.heap.size := by
    rcases Nat.lt_or_ge (X + 1) w2.heap.size with h' | h'
    · exact h'
    · rw [Array.getElem?_eq_none h'] at hp; cases hp
  have hne : X + 1 ≠ X := by omega
  refine ⟨((((Below.refl _ _).setCell (by simp) _).setCell (by simp) _).setCell (by simp) _).alloc (by simp; omega) _, ?_, f, g, z, ?_⟩
  · rw [Below.heap_alloc _ _ _ (by simpa using hX), heap_setCell_other _ _ _ _ hne, heap_setCell_other _ _ _ _ hne, heap_setCell_other _ _ _ _ hne]
  · rw [Below.heap_alloc _ _ _ (by simp; omega)]
    have h1 := heap_setCell_same w2 X 0 _ 66 (.int .u64 p) h
    have h2 := heap_setCell_same _ X 1 _ 66 (.int .i64 kd) h1
    have h3 := heap_setCell_same _ X 2 _ 66 (.bool wb) h2
    exact h3

section
variable {w wc w5 w9 : World} {on : Bool} {root asid : Int} {la lb : List Lf} {fa fb : List Value} {va vb : Value}

theorem Mk.cells (M : Mk w wc on root asid la fa va lb fb vb) : (wc.cell? ⟨w.heap.size + 1 + 1, 3, none⟩ = some va ∧ wc.frozen? ⟨w.heap.size + 1 + 1, 3, none⟩ = false) ∧ wc.cell? ⟨w.heap.size + 1 + 1 + 1, 3, none⟩ = some vb ∧ wc.frozen? ⟨w.heap.size + 1 + 1 + 1, 3, none⟩ = false := by
  have ha : wc.heap[w.heap.size + 1 + 1]? = some (.cells #[.bool on, .int .u64 root, .int .i64 asid, va] 26) := M.a
  have hb : wc.heap[w.heap.size + 1 + 1 + 1]? = some (.cells #[.bool on, .int .u64 root, .int .i64 asid, vb] 29) := M.b
  refine ⟨⟨?_, frozen_of_row wc _ 3 _ 26 ha⟩, ?_, frozen_of_row wc _ 3 _ 29 hb⟩
  · unfold World.cell?; rw [ha]; rfl
  · unfold World.cell?; rw [hb]; rfl

theorem Mk.five {X : Nat} {s : Lf} {v5 : Value} {o : Obj} {pn : Nat} {f g z : Value} (M : Mk w wc on root asid la fa va lb fb vb) (hX : X < wc.heap.size) (hx : wc.cell? ⟨X, 0, none⟩ = some f ∧ wc.cell? ⟨X, 1, none⟩ = some g ∧ wc.cell? ⟨X, 2, none⟩ = some z) (hl : s.bytes.length = pn) (h5 : (wc.drew.alloc o).grownBy w5 none) (hf : w5.ownsRow (wc.drew.alloc o).heap.size 5 1 v5 (0 + pn) ([] ++ s.bytes.map (Value.int .u8))) :
    ∃ fva fvc, v5 = .slice fva pn fvc ∧ (wc.grownBy w5 none ∧ w5.ownsRow wc.heap.size 5 1 (.slice fva pn fvc) s.bytes.length (s.bytes.map (Value.int .u8))) ∧ Mk w w5 on root asid la fa va lb fb vb ∧ w5.cell? ⟨X, 0, none⟩ = some f ∧ w5.cell? ⟨X, 1, none⟩ = some g ∧ w5.cell? ⟨X, 2, none⟩ = some z ∧
      w5.cell? ⟨w.heap.size + 1 + 1, 3, none⟩ = some va := by
  subst hl
  rw [Nat.zero_add, List.nil_append] at hf
  obtain ⟨fva, fvc, rfl⟩ := slice_form0 hf
  have hg : wc.grownBy w5 none := ⟨h5.os, h5.tape, h5.output, by have := h5.size; simp at this; show wc.heap.size ≤ _; omega, fun i hi hne => by
    rw [h5.block i (by simp; show i < wc.heap.size + 1; omega) hne]
    exact Below.heap_alloc _ _ _ hi⟩
  have M5 := M.grow hg
  have hk : w5.heap[X]? = wc.heap[X]? := hg.block X hX (by simp)
  refine ⟨fva, fvc, rfl, ⟨hg, Joins.ownsRow_le hf (by simp)⟩, M5, (World.cell?_of_block hk).trans hx.1, (World.cell?_of_block hk).trans hx.2.1, (World.cell?_of_block hk).trans hx.2.2, M5.cells.1.1⟩

/-- a's leaf behind the two appends. -/
theorem Mk.leafA {va' : Value} {s : Lf} {f : Value} {o : Obj} (M : Mk w wc on root asid la fa va lb fb vb) (h5 : wc.grownBy w5 none) (hf : w5.ownsRow wc.heap.size 5 1 f s.bytes.length (s.bytes.map (Value.int .u8))) (hs : 0 < s.bytes.length)
    (h9 : (w5.alloc o).grownBy w9 va.ownBlock) (hown : w9.ownsRow (w.heap.size + 4) 58 4 va' (la.length + 1) (flat la fa ++ s.cells f)) :
    Mk w (w9.setCell ⟨w.heap.size + 1 + 1, 3, none⟩ va') on root asid (la ++ [s]) (fa ++ [f]) va' lb fb vb := by
  have h6 : wc.grownBy (w5.alloc o) none := ⟨h5.os, h5.tape, h5.output, by have := h5.size; simp; omega, fun i hi hne => by rw [Below.heap_alloc _ _ _ (Nat.lt_of_lt_of_le hi h5.size)]; exact h5.block i hi hne⟩
  have hf6 : (w5.alloc o).ownsRow wc.heap.size 5 1 f s.bytes.length (s.bytes.map (Value.int .u8)) := hf.alloc o
  have hk : f.ownBlock = none ∨ f.ownBlock ≠ va.ownBlock := by
    cases hu : f.ownBlock with
    | none => exact .inl rfl
    | some g =>
      right
      intro hrow
      have := (M.sa.row.lt g hrow.symm).2
      have := (hf.lt g hu).1
      omega
  exact (M.grow h6).pushA h9 hown (Joins.ownsRow_le (hf6.kept h9 hk) M.sz) hs (fun g hg e => by
    obtain ⟨i, hi⟩ := List.getElem?_of_mem hg
    have hlt : i < la.length := by
      have := (List.getElem?_eq_some_iff.1 hi).1
      rw [← M.sa.fsl]; exact this
    obtain ⟨b1, b2⟩ := M.sa.bys i _ g (List.getElem?_eq_getElem hlt) hi
    cases hu : g.ownBlock with
    | none =>
      rcases b1.2 with ⟨rfl, h0⟩ | ⟨g', cap, cur, rfl, _⟩
      · omega
      · cases hu
    | some z =>
      have := (b1.lt z hu).2
      have := (hf.lt z (e ▸ hu)).1
      omega)

theorem Mk.heads (M : Mk w wc on root asid la fa va lb fb vb) :
    wc.cell? ⟨w.heap.size + 1 + 1, 0, none⟩ = some (.bool on) ∧ wc.cell? ⟨w.heap.size + 1 + 1, 1, none⟩ = some (.int .u64 root) ∧ wc.cell? ⟨w.heap.size + 1 + 1, 2, none⟩ = some (.int .i64 asid) ∧ wc.cell? ⟨w.heap.size + 1 + 1, 3, none⟩ = some va ∧
    wc.cell? ⟨w.heap.size + 1 + 1 + 1, 0, none⟩ = some (.bool on) ∧ wc.cell? ⟨w.heap.size + 1 + 1 + 1, 1, none⟩ = some (.int .u64 root) ∧ wc.cell? ⟨w.heap.size + 1 + 1 + 1, 2, none⟩ = some (.int .i64 asid) ∧ wc.cell? ⟨w.heap.size + 1 + 1 + 1, 3, none⟩ = some vb ∧
    wc.cell? ⟨w.heap.size, 0, none⟩ = some (.bool false) ∧ wc.cell? ⟨w.heap.size, 1, none⟩ = some (.int .u64 0) ∧ wc.cell? ⟨w.heap.size, 2, none⟩ = some (.int .i64 0) ∧ wc.cell? ⟨w.heap.size, 3, none⟩ = some (.slice none 0 0) ∧
    wc.cell? ⟨w.heap.size + 1, 0, none⟩ = some (.bool false) ∧ wc.cell? ⟨w.heap.size + 1, 1, none⟩ = some (.int .u64 0) ∧ wc.cell? ⟨w.heap.size + 1, 2, none⟩ = some (.int .i64 0) ∧ wc.cell? ⟨w.heap.size + 1, 3, none⟩ = some (.slice none 0 0) ∧
    (∀ j, wc.frozen? ⟨w.heap.size, j, none⟩ = false) ∧ (∀ j, wc.frozen? ⟨w.heap.size + 1, j, none⟩ = false) := by
  have ha : wc.heap[w.heap.size + 1 + 1]? = some (.cells #[.bool on, .int .u64 root, .int .i64 asid, va] 26) := M.a
  have hb : wc.heap[w.heap.size + 1 + 1 + 1]? = some (.cells #[.bool on, .int .u64 root, .int .i64 asid, vb] 29) := M.b
  have h1 : wc.heap[w.heap.size]? = some (.cells #[.bool false, .int .u64 0, .int .i64 0, .slice none 0 0] 26) := M.r1
  have h2 := M.r2
  refine ⟨?_, ?_, ?_, ?_, ?_, ?_, ?_, ?_, ?_, ?_, ?_, ?_, ?_, ?_, ?_, ?_, fun j => frozen_of_row wc _ j _ 26 h1, fun j => frozen_of_row wc _ j _ 29 h2⟩
  all_goals unfold World.cell?
  all_goals first | (rw [ha]; rfl) | (rw [hb]; rfl) | (rw [h1]; rfl) | (rw [h2]; rfl)

theorem grown_set4 (W : World) (g : Nat) (x0 x1 x2 x3 : Value) : W.grownBy (set4 W g x0 x1 x2 x3) (some g) :=
  grown_trans (grown_trans (grown_trans (grown_set W g 0 x0) (grown_set _ g 1 x1)) (grown_set _ g 2 x2)) (grown_set _ g 3 x3)

theorem Mk.fin (M : Mk w wc on root asid la fa va lb fb vb) (x0 x1 x2 x3 y0 y1 y2 y3 : Value) :
    Side (set4 (set4 wc w.heap.size x0 x1 x2 x3) (w.heap.size + 1) y0 y1 y2 y3).drew (w.heap.size + 4) 58 va la fa ∧ Side (set4 (set4 wc w.heap.size x0 x1 x2 x3) (w.heap.size + 1) y0 y1 y2 y3).drew (w.heap.size + 4) 68 vb lb fb ∧ Below w.heap.size w (set4 (set4 wc w.heap.size x0 x1 x2 x3) (w.heap.size + 1) y0 y1 y2 y3).drew := by
  have h1 : wc.heap[w.heap.size]? = some (.cells #[.bool false, .int .u64 0, .int .i64 0, .slice none 0 0] 26) := M.r1
  have h2 : (set4 wc w.heap.size x0 x1 x2 x3).heap[w.heap.size + 1]? = some (.cells #[.bool false, .int .u64 0, .int .i64 0, .slice none 0 0] 29) := by
    rw [set4_other (by omega)]; exact M.r2
  have g1 := grown_set4 wc w.heap.size x0 x1 x2 x3
  have g2 := grown_set4 (set4 wc w.heap.size x0 x1 x2 x3) (w.heap.size + 1) y0 y1 y2 y3
  have k1 : ∀ (e : Nat), e ≠ 26 → ∀ g, (some w.heap.size : Option Nat) = some g → ∃ cs t fz, wc.heap[g]? = some (.cells cs t fz) ∧ t ≠ e ∧ t ≠ 5 := fun e he g hg => by
    cases hg; exact ⟨_, 26, _, h1, fun h => he h.symm, by decide⟩
  have k2 : ∀ (e : Nat), e ≠ 29 → ∀ g, (some (w.heap.size + 1) : Option Nat) = some g → ∃ cs t fz, (set4 wc w.heap.size x0 x1 x2 x3).heap[g]? = some (.cells cs t fz) ∧ t ≠ e ∧ t ≠ 5 := fun e he g hg => by
    cases hg; exact ⟨_, 29, _, h2, fun h => he h.symm, by decide⟩
  have hd : ∀ {W : World} {e : Nat} {v : Value} {l : List Lf} {fs : List Value}, Side W (w.heap.size + 4) e v l fs → Side W.drew (w.heap.size + 4) e v l fs := fun S => S.grow ⟨rfl, rfl, rfl, Nat.le_refl _, fun _ _ _ => rfl⟩
  refine ⟨hd ((M.sa.kept g1 (k1 58 (by decide))).kept g2 (k2 58 (by decide))), hd ((M.sb.kept g1 (k1 68 (by decide))).kept g2 (k2 68 (by decide))), ?_⟩
  have hs := M.sz
  exact ((M.bl.grown g1 (by omega) (fun k hk => by cases hk; exact Nat.le_refl _)).grown g2 (by rw [set4_size]; omega) (fun k hk => by cases hk; omega)).drew

/-- b's leaf behind its append. -/
theorem Mk.leafB {wr w10 w11 : World} {X pn : Nat} {vb' : Value} {s : Lf} {o : Obj} {pl : List Int} {la0 : List Lf} {fa0 : List Value} {va0 : Value} (M : Mk w w10 on root asid la fa va lb fb vb) (M0 : Mk w wr on root asid la0 fa0 va0 lb fb vb) (hX : wr.heap.size = X) (hp : w10.heap[X + 1]? = some (.cells (pl.map (Value.int .u8)).toArray 5))
    (hpl : pl.length = 4096) (hby : s.bytes = pl.take pn) (hl : s.bytes.length = pn) (hs : 0 < pn) (hsz : pn ≤ 4096)
    (h11 : (w10.alloc o).grownBy w11 vb.ownBlock) (hown : w11.ownsRow (w.heap.size + 4) 68 4 vb' (lb.length + 1) (flat lb fb ++ s.cells (.slice (some ⟨X + 1, 0, none⟩) pn 4096))) :
    Mk w (w11.setCell ⟨w.heap.size + 1 + 1 + 1, 3, none⟩ vb') on root asid la fa va (lb ++ [s]) (fb ++ [.slice (some ⟨X + 1, 0, none⟩) pn 4096]) vb' := by
  subst hX
  have hz0 := M0.sz
  have hXl : wr.heap.size + 1 < w10.heap.size := by
    rcases Nat.lt_or_ge (wr.heap.size + 1) w10.heap.size with h | h
    · exact h
    · rw [Array.getElem?_eq_none h] at hp; cases hp
  have h6 : w10.grownBy (w10.alloc o) none := World.grownBy_alloc _ _ none
  have hf : w10.ownsRow (w.heap.size + 4) 5 1 (.slice (some ⟨wr.heap.size + 1, 0, none⟩) pn 4096) s.bytes.length (s.bytes.map (Value.int .u8)) := by
    refine ⟨by simp, .inr ⟨wr.heap.size + 1, 4096, _, by rw [hl], by omega, hp, by omega, by decide, by simp [hpl], ?_⟩⟩
    rw [hl, hby]
    simp [List.map_take]
  have hk : (Value.slice (some ⟨wr.heap.size + 1, 0, none⟩) pn 4096).ownBlock = none ∨ (Value.slice (some ⟨wr.heap.size + 1, 0, none⟩) pn 4096).ownBlock ≠ vb.ownBlock := by
    right
    intro e
    have h : wr.heap.size + 1 < wr.heap.size := (M0.sb.row.lt _ e.symm).2
    omega
  refine (M.grow h6).pushB h11 hown ((hf.alloc o).kept h11 hk) (by omega) (fun g hg e => ?_)
  obtain ⟨i, hi⟩ := List.getElem?_of_mem hg
  have hlt : i < lb.length := by
    have := (List.getElem?_eq_some_iff.1 hi).1
    rw [← M0.sb.fsl]; exact this
  obtain ⟨b1, b2⟩ := M0.sb.bys i _ g (List.getElem?_eq_getElem hlt) hi
  have h : wr.heap.size + 1 < wr.heap.size := (b1.lt (wr.heap.size + 1) (by rw [e]; rfl)).2
  omega

theorem Mk.boxB {w10 w11 : World} {o : Obj} (M : Mk w w10 on root asid la fa va lb fb vb) (h11 : (w10.alloc o).grownBy w11 vb.ownBlock) : w11.cell? ⟨w.heap.size + 1 + 1 + 1, 3, none⟩ = some vb ∧ w11.frozen? ⟨w.heap.size + 1 + 1 + 1, 3, none⟩ = false := by
  have hs := M.sz
  have h2 : w11.heap[w.heap.size + 1 + 1 + 1]? = w10.heap[w.heap.size + 1 + 1 + 1]? := by
    rw [h11.block _ (by simp; omega) (fun e => by have := (M.sb.row.lt _ e.symm).1; omega)]
    exact Below.heap_alloc _ _ _ (by omega)
  exact ⟨(World.cell?_of_block h2).trans M.cells.2.1, (World.frozen?_of_block h2).trans M.cells.2.2⟩

/-- What stands behind the append to a's row. -/
theorem Mk.nine {wr : World} {X : Nat} {o : Obj} (M5 : Mk w w5 on root asid la fa va lb fb vb) (hrow : ∀ g, va.ownBlock = some g → g < X) (hX : X + 1 < w5.heap.size) (h9 : (w5.alloc o).grownBy w9 va.ownBlock) :
    (w9.heap[X]? = w5.heap[X]? ∧ w9.heap[X + 1]? = w5.heap[X + 1]?) ∧ (w9.cell? ⟨w.heap.size + 1 + 1, 3, none⟩ = some va ∧ w9.frozen? ⟨w.heap.size + 1 + 1, 3, none⟩ = false) := by
  have hs := M5.sz
  have hk : ∀ m, m < w5.heap.size → (∀ g, va.ownBlock = some g → m ≠ g) → w9.heap[m]? = w5.heap[m]? := fun m hm hne => by
    rw [h9.block m (by simp; omega) (fun e => hne m e.symm rfl)]
    exact Below.heap_alloc _ _ _ hm
  have h2 : w9.heap[w.heap.size + 1 + 1]? = w5.heap[w.heap.size + 1 + 1]? := hk _ (by omega) (fun g hg e => by have := (M5.sa.row.lt g hg).1; omega)
  refine ⟨⟨hk X (by omega) (fun g hg e => by have := hrow g hg; omega), hk (X + 1) hX (fun g hg e => by have := hrow g hg; omega)⟩, (World.cell?_of_block h2).trans M5.cells.1.1, (World.frozen?_of_block h2).trans M5.cells.1.2⟩
end

theorem Side.nil (wc : World) (lo e : Nat) : Side wc lo e (.slice none 0 0) [] [] := ⟨World.ownsRow_nil _ _ _ _, rfl, fun i s f h => by simp at h, fun i j f g h => by simp at h⟩

theorem mk_start {w : World} (on : Bool) (rt asd : Int) : Mk w ((((w.alloc img0).alloc (.cells #[.bool false, .int .u64 0, .int .i64 0, .slice none 0 0] 29)).alloc (.cells #[.bool on, .int .u64 rt, .int .i64 asd, .slice none 0 0] 26)).alloc (.cells #[.bool on, .int .u64 rt, .int .i64 asd, .slice none 0 0] 29)) on rt asd [] [] (.slice none 0 0) [] [] (.slice none 0 0) := by
  refine ⟨?_, ?_, ?_, ?_, Side.nil _ _ _, Side.nil _ _ _, ?_, by simp⟩
  · rw [Below.heap_alloc _ _ _ (by simp <;> omega), Below.heap_alloc _ _ _ (by simp <;> omega), Below.heap_alloc _ _ _ (by simp)]
    exact heap_n0
  · rw [Below.heap_alloc _ _ _ (by simp <;> omega), Below.heap_alloc _ _ _ (by simp)]
    have e : w.heap.size + 1 = (w.alloc img0).heap.size := by simp
    rw [e]
    exact heap_n0
  · rw [Below.heap_alloc _ _ _ (by simp)]
    have e : w.heap.size + 2 = ((w.alloc img0).alloc (.cells #[.bool false, .int .u64 0, .int .i64 0, .slice none 0 0] 29)).heap.size := by simp
    rw [e]
    exact heap_n0
  · have e : w.heap.size + 3 = (((w.alloc img0).alloc (.cells #[.bool false, .int .u64 0, .int .i64 0, .slice none 0 0] 29)).alloc (.cells #[.bool on, .int .u64 rt, .int .i64 asd, .slice none 0 0] 26)).heap.size := by simp
    rw [e]
    exact heap_n0
  · exact ((((Below.refl _ _).alloc (Nat.le_refl _) _).alloc (by simp) _).alloc (by simp <;> omega) _).alloc (by simp <;> omega) _

/-- One operation under a name. -/
abbrev load57 : Oper := { dst := some 82, op := Op.load 24 (Operand.tmp 81), type := 24, pos := "law.go:57", after := #[{ on := 0, ground := Ground.data }], guard := none }

set_option maxRecDepth 100000 in
set_option maxHeartbeats 4000000 in
theorem Made_any (right : Bool) (on : Bool) (root asid : Int) (x : Option Addr) (n c B : Nat) (l : List Ln) (w : World) (hBw : B ≤ w.heap.size) (hr : 0 ≤ root ∧ root < 18446744073709551616) (hx : Lns B w (.slice x n c) l) :
    Calls Try.prog 7 #[.bool on, .int .u64 root, .int .i64 asid, .slice x n c, .bool right] w fun e w' => ∃ (rt asd : Int) (ls : List Lf) (fa fb : List Value) (v1 v2 : Value), e = .returned (.tuple #[.agg #[.bool on, .int .u64 rt, .int .i64 asd, v1], .agg #[.bool on, .int .u64 rt, .int .i64 asd, v2]]) ∧ Hdr right root asid rt asd ∧ (∃ last, MadeOk right ls last) ∧ ls.length ≤ 12 ∧
      Side w' (w.heap.size + 4) 58 v1 ls fa ∧ Side w' (w.heap.size + 4) 68 v2 ls fb ∧ Below w.heap.size w w' := by
  have HX : Aside (Lns B w (.slice x n c) l) := hx
  have hz26 := zero26
  have hz29 := zero29'
  clear hx
  obtain ⟨i0, hi0, hz⟩ := Option.map_eq_some_iff.1 info5
  simp only [Prod.mk.injEq] at hz
  obtain ⟨hz0, hz1, hz2⟩ := hz
  obtain ⟨j0, hj0, hj⟩ := Option.map_eq_some_iff.1 info58
  simp only [Prod.mk.injEq] at hj
  obtain ⟨hj1, hj2, hj3⟩ := hj
  obtain ⟨l0, hl0, hl⟩ := Option.map_eq_some_iff.1 info68
  simp only [Prod.mk.injEq] at hl
  obtain ⟨hl1, hl2, hl3⟩ := hl
  go_enter Try.func7, Try.ntmps7
  go_upto_if 18 with fail
  go_cut [1, 2] from 18 (fun u v wc => ∃ rt asd, u = .int .u64 rt ∧ v = .int .i64 asd ∧ wc = (w.alloc img0).alloc (.cells #[.bool false, .int .u64 0, .int .i64 0, .slice none 0 0] 29) ∧ Hdr right root asid rt asd)
  case first =>
    cases right
    · go_wp2_with fail
      go_meet
      exact ⟨root, asid, rfl, rfl, rfl, hr, (fun h => by cases h), fun _ => ⟨rfl, rfl⟩⟩
    · go_wp2_with fail
      go_meet
      have h1 := maskR hr
      have h2 := maskI asid 255 (by decide)
      exact ⟨_, _, rfl, rfl, rfl, ⟨h1.1, by omega⟩, (fun _ => ⟨h1.2.2, h1.2.1, h2.1, h2.2⟩), fun h => by cases h⟩
  case rest =>
    obtain ⟨rt, asd, rfl, rfl, rfl, hhdr⟩ := hcut
    have HHD : Aside (Hdr right root asid rt asd) := hhdr
    clear hhdr
    go_wp2_with fail
    go_loopw [14, 15] (fun lst i wr => ∃ (k : Nat) (last : Int), k ≤ n ∧ k ≤ 12 ∧ i = .int .i64 k ∧ lst = .int .u64 last ∧ ∃ (ls : List Lf) (fa fb : List Value) (va vb : Option Addr) (vc vd : Nat), ls.length = k ∧ Mk w wr on rt asd ls fa (.slice va k vc) ls fb (.slice vb k vd) ∧ MadeOk right ls last)
      (fun _ i _ => 12 - (RowKit.intOf i).toNat)
    case atStart =>
      refine ⟨0, 0, Nat.zero_le _, Nat.zero_le _, rfl, rfl, [], [], [], none, none, 0, 0, rfl, ?_, MadeOk.start right⟩
      exact mk_start on rt asd
    case round =>
      obtain ⟨k, last, hkn, hk12, rfl, rfl, ls, fa, fb, va, vb, vc, vd, hls, hM, hO⟩ := hrel
      have HM : Aside (Mk w wr on rt asd ls fa (.slice va k vc) ls fb (.slice vb k vd)) := hM
      have HO : Aside (MadeOk right ls last) := hO
      have HLS : Aside (ls.length = k) := hls
      clear hM hO hls
      by_cases hlt : k < n ∧ k < 12
      · obtain ⟨b, o, s, ta, n1, c1, ga, n2, c2, rfl, hs, hB, hp, hby, hn1, hm1, hn2, hm2, p0, p1, p2, p3, p4, p5, hi1, hb1⟩ := HX.out.at (HM.out.bl.mono hBw) hlt.1
        have hk1 : (k : Int) < (n : Int) := by omega
        have hk2 : (k : Int) < 12 := by omega
        have HIB : Aside (Is B wr (.slice ta n1 c1) s.ats ∧ Bs B wr (.slice ga n2 c2) s.b ∧ Byte s.b ∧ s.ats.length = n1 ∧ s.b.length = n2) := ⟨hi1, hb1, hby, hn1, hn2⟩
        have HPG : Aside (0 ≤ s.page ∧ s.page < 18446744073709551616) := hp
        have hBr : B ≤ wr.heap.size := Nat.le_trans hBw HM.out.bl.size
        clear hs hp hby hn1 hn2 hi1 hb1 hlt
        go_wp2_with fail
        refine (Page_any ta ga n1 c1 n2 c2 B s.ats s.b _ HIB.out.2.2.2.1 HIB.out.2.2.2.2 hm1 hm2 (by simp; omega) (HIB.out.1.below ((Below.refl _ _).alloc hBr _)) (HIB.out.2.1.below ((Below.refl _ _).alloc hBr _)) HIB.out.2.2.1).mono ?_
        rintro e w2 ⟨pl, rfl, hpl, hpb, hbl2, hrow2⟩
        have e1 : (wr.alloc (.cells #[.int .u64 s.page, .int .i64 s.kind, .bool s.write, .slice ta n1 c1, .slice ga n2 c2, .bool s.short] 66)).heap.size = wr.heap.size + 1 := by simp
        rw [e1] at hbl2 hrow2 ⊢
        have q0 : w2.cell? ⟨wr.heap.size, 0, none⟩ = some (.int .u64 s.page) := by rw [hbl2.cell (by simp)]; exact cell_new0 () rfl
        have q1 : w2.cell? ⟨wr.heap.size, 1, none⟩ = some (.int .i64 s.kind) := by rw [hbl2.cell (by simp)]; exact cell_new0 () rfl
        have q2 : w2.cell? ⟨wr.heap.size, 2, none⟩ = some (.bool s.write) := by rw [hbl2.cell (by simp)]; exact cell_new0 () rfl
        have q5 : w2.cell? ⟨wr.heap.size, 5, none⟩ = some (.bool s.short) := by rw [hbl2.cell (by simp)]; exact cell_new0 () rfl
        have hh66 : w2.heap[wr.heap.size]? = some (.cells #[.int .u64 s.page, .int .i64 s.kind, .bool s.write, .slice ta n1 c1, .slice ga n2 c2, .bool s.short] 66) := by rw [hbl2.block _ (by omega)]; exact heap_n0
        have HBL2 : Aside (Below wr.heap.size wr w2) := ((Below.refl _ _).alloc (Nat.le_refl _) _).trans (hbl2.mono (by omega))
        have HRW2 : Aside (w2.heap[wr.heap.size + 1]? = some (.cells (pl.map (Value.int .u8)).toArray 5)) := hrow2
        have HPL : Aside (pl.length = 4096 ∧ Byte pl) := ⟨hpl, hpb⟩
        have HH66 : Aside (w2.heap[wr.heap.size]? = some (.cells #[.int .u64 s.page, .int .i64 s.kind, .bool s.write, .slice ta n1 c1, .slice ga n2 c2, .bool s.short] 66)) := hh66
        have qf : ∀ j, w2.frozen? ⟨wr.heap.size, j, none⟩ = false := fun j => frozen_of_row w2 _ j _ 66 hh66
        clear hbl2 hrow2 hpl hpb hh66
        go_upto_if 50 with fail
        go_cut [14, 17] from 31 to 108 (fun u v wc => ∃ (last' : Int) (s' : Lf) (pn : Nat), u = .int .u64 last' ∧ v = .slice (some ⟨wr.heap.size + 1, 0, none⟩) pn 4096 ∧ Xb w2 wc wr.heap.size s' ∧ MadeOk right (ls ++ [s']) last' ∧ s'.bytes = pl.take pn ∧ 0 < pn ∧ pn ≤ 4096)
        case first =>
          cases right
          · have hnx : ∀ pn, 0 < pn → pn ≤ 4096 → MadeOk false (ls ++ [⟨s.page, s.kind, s.write, pl.take pn⟩]) last := fun pn h1 h2 => HO.out.next (by rw [HLS.out]; omega) HPG.out (fun z hz => HPL.out.2 z (List.mem_of_mem_take hz)) (by have := HPL.out.1; simp; omega) (fun h => by cases h)
            have HNX : Aside (∀ pn, 0 < pn → pn ≤ 4096 → MadeOk false (ls ++ [⟨s.page, s.kind, s.write, pl.take pn⟩]) last) := hnx
            clear hnx
            cases hsh : s.short
            · go_wp2_with fail
              go_meet
              exact ⟨last, ⟨s.page, s.kind, s.write, pl.take 4096⟩, 4096, rfl, rfl, ⟨Below.refl _ _, rfl, _, _, _, HH66.out⟩, HNX.out 4096 (by omega) (by omega), rfl, by omega, by omega⟩
            · go_wp2_with fail
              go_meet
              exact ⟨last, ⟨s.page, s.kind, s.write, pl.take 100⟩, 100, rfl, rfl, ⟨Below.refl _ _, rfl, _, _, _, HH66.out⟩, HNX.out 100 (by omega) (by omega), rfl, by omega, by omega⟩
          · obtain ⟨a1, a2, a3, a4, a5⟩ := HO.out.ok rfl
            have hlast : 0 ≤ last ∧ last ≤ 11 * 1048576 := ⟨a3, by have := HLS.out; omega⟩
            clear a1 a2 a3 a4 a5
            obtain ⟨q, hq⟩ : ∃ q, bits .and .u64 s.page 1048575 = q := ⟨_, rfl⟩
            have hqb : 0 ≤ q ∧ q ≤ 1048575 := hq ▸ maskP HPG.out
            have hw1 : IntKind.u64.wrap (last + 1) = last + 1 := by rw [IntKind.wrap_u64]; omega
            have hw2 : IntKind.u64.wrap (last + 1 + q) = last + 1 + q := by rw [IntKind.wrap_u64]; omega
            have hmn : bits .and .u64 (last + 1 + q) 268435455 = last + 1 + q := maskN (by omega)
            have hkb := maskI s.kind 3 (by decide)
            obtain ⟨kk, hkk⟩ : ∃ kk, bits .and .i64 s.kind 3 = kk := ⟨_, rfl⟩
            have hkb : 0 ≤ kk ∧ kk ≤ 3 := hkk ▸ hkb
            have hkc : kk = 0 ∨ kk = 1 ∨ kk = 2 ∨ kk = 3 := by omega
            have HQ : Aside (0 ≤ q ∧ q ≤ 1048575) := hqb
            clear hkb hqb
            have hX : wr.heap.size < w2.heap.size := by
              rcases Nat.lt_or_ge wr.heap.size w2.heap.size with h | h
              · exact h
              · have := HH66.out; rw [Array.getElem?_eq_none h] at this; cases this
            have hac : ∀ v0 o b j, b < w2.heap.size → ((w2.setCell ⟨wr.heap.size, 0, none⟩ v0).alloc o).cell? ⟨b, j, none⟩ = (w2.setCell ⟨wr.heap.size, 0, none⟩ v0).cell? ⟨b, j, none⟩ := fun v0 o b j h => alloc_cells _ _ _ _ (by simpa using h)
            have haf : ∀ v0 o b j, b < w2.heap.size → ((w2.setCell ⟨wr.heap.size, 0, none⟩ v0).alloc o).frozen? ⟨b, j, none⟩ = (w2.setCell ⟨wr.heap.size, 0, none⟩ v0).frozen? ⟨b, j, none⟩ := fun v0 o b j h => alloc_frozen _ _ _ _ (by simpa using h)
            rcases hkc with rfl | rfl | rfl | rfl
            all_goals go_wp2_with fail
            all_goals go_meet
            all_goals exact ⟨last + 1 + q, ⟨last + 1 + q, _, _, pl.take 4096⟩, 4096, rfl, rfl, xb_of HRW2.out HH66.out, HO.out.next (by rw [HLS.out]; omega) (by have := HQ.out; exact ⟨by show 0 ≤ last + 1 + q; omega, by show last + 1 + q < _; omega⟩) (fun z hz => HPL.out.2 z (List.mem_of_mem_take hz)) (by have := HPL.out.1; simp; omega) (fun _ => ⟨by simp [wrong, HPL.out.1], by show last < last + 1 + q; have := HQ.out; omega, by show last + 1 + q ≤ _; have := HQ.out; omega, rfl⟩), rfl, by omega, by omega⟩
        case rest =>
          obtain ⟨last', s', pn, rfl, rfl, hxb, hok', hbs', hpn0, hpn⟩ := hcut
          have HOK : Aside (MadeOk right (ls ++ [s']) last') := hok'
          have HXB : Aside (Xb w2 wc wr.heap.size s') := hxb
          have HBY : Aside (s'.bytes = pl.take pn) := hbs'
          obtain ⟨hxb1, hxb2, f0, g0, z0, hxb3⟩ := hxb
          have HBW : Aside (Below wr.heap.size wr wc) := HBL2.out.trans hxb1
          have HPC : Aside (wc.heap[wr.heap.size + 1]? = some (.cells (pl.map (Value.int .u8)).toArray 5)) := hxb2.trans HRW2.out
          have x0 : wc.cell? ⟨wr.heap.size, 0, none⟩ = some (.int .u64 s'.page) := by unfold World.cell?; rw [hxb3]; rfl
          have x1 : wc.cell? ⟨wr.heap.size, 1, none⟩ = some (.int .i64 s'.kind) := by unfold World.cell?; rw [hxb3]; rfl
          have x2 : wc.cell? ⟨wr.heap.size, 2, none⟩ = some (.bool s'.write) := by unfold World.cell?; rw [hxb3]; rfl
          have HMC : Aside (Mk w wc on rt asd ls fa (.slice va k vc) ls fb (.slice vb k vd)) := HM.out.grow ⟨HBW.out.os, HBW.out.tape, HBW.out.output, HBW.out.size, fun i hi _ => HBW.out.block i hi⟩
          have HLB : Aside (s'.bytes.length = pn) := by show _ = _; rw [hbs', List.length_take, HPL.out.1]; omega
          clear hxb1 hxb2 hxb3 hok' hbs' q0 q1 q2 q5 qf p0 p1 p2 p3 p4 p5
          have HK12 : Aside (k < 12) := by show k < 12; omega
          have m0 := HMC.out.cells.1.1
          have m0f := HMC.out.cells.1.2
          have m1 := fun ob => Lib.cell?_alloc_some ob m0
          have HNW : Aside (∀ o j u, ((pl.take pn).map (Value.int .u8))[j]? = some u → (wc.drew.alloc o).cell? ((⟨wr.heap.size + 1, 0, none⟩ : Addr).add j) = some u) := by
            intro o j u hj
            rw [Addr.add_lit]
            have hlt : wr.heap.size + 1 < wc.heap.size := by
              rcases Nat.lt_or_ge (wr.heap.size + 1) wc.heap.size with h | h
              · exact h
              · have := HPC.out; rw [Array.getElem?_eq_none h] at this; cases this
            rw [alloc_cells wc.drew o _ _ hlt]
            show wc.cell? _ = _
            unfold World.cell?
            rw [HPC.out]
            rw [List.getElem?_map] at hj
            rw [List.getElem?_take] at hj
            split at hj
            · simpa using hj
            · simp at hj
          have HNL : Aside (((pl.take pn).map (Value.int .u8)).length = pn * 1) := by have := HPL.out.1; show _ = _; simp; omega
          go_upto_region 18 with fail
          have HXX : Aside (wr.heap.size < wc.heap.size ∧ wc.cell? ⟨wr.heap.size, 0, none⟩ = some (.int .u64 s'.page) ∧ wc.cell? ⟨wr.heap.size, 1, none⟩ = some (.int .i64 s'.kind) ∧ wc.cell? ⟨wr.heap.size, 2, none⟩ = some (.bool s'.write)) := ⟨World.block_lt_of_cell? wc _ x0, x0, x1, x2⟩
          have HKL : Aside (ls.length = k) := HLS.out
          have hnx1 : ¬ (wr.heap.size = w.heap.size + 1 + 1) := by have := HM.out.sz; omega
          have hnx2 : ¬ (w.heap.size + 1 + 1 = wr.heap.size) := by omega
          have hnx3 : ¬ (wr.heap.size = w.heap.size + 1 + 1 + 1) := by have := HM.out.sz; omega
          have hnx4 : ¬ (w.heap.size + 1 + 1 + 1 = wr.heap.size) := by omega
          have HX1 : Aside (wr.heap.size + 1 < wc.heap.size) := by
            rcases Nat.lt_or_ge (wr.heap.size + 1) wc.heap.size with h | h
            · exact h
            · have := HPC.out; rw [Array.getElem?_eq_none h] at this; cases this
          rw [show ({ dst := some 82, op := Op.load 24 (Operand.tmp 81), type := 24, pos := "law.go:57", after := #[{ on := 0, ground := Ground.data }], guard := none } : Oper) = load57 from rfl]
          go_region_held3 (fun w' => w'.cell? ⟨wr.heap.size, 0, none⟩ = some (.int .u64 s'.page) ∧ w'.cell? ⟨wr.heap.size, 1, none⟩ = some (.int .i64 s'.kind) ∧ w'.cell? ⟨wr.heap.size, 2, none⟩ = some (.bool s'.write)) (go_keep) (first
            | (have hfirst := HF5; clear hfirst; refine step_append_lies _ rfl (.tmp 82) (.tmp 93) 24 rfl (w.heap.size + 4) 58 j0 _ 4 48 Try.underlying24 hj0 hj1 hj2 hj3 rfl (by decide) (.slice va k vc) k (flat ls fa) rfl (by have h := HM5.out.sa.row.alloc (.cells #[.int .u64 s'.page, .int .i64 s'.kind, .bool s'.write, .slice fva pn fvc] 58); rw [HKL.out] at h; exact h) ⟨w5.heap.size, 0, none⟩ 1 1 (s'.cells (.slice fva pn fvc)) rfl rfl (cells_newL) (cells_oneL s' rfl) (by decide) (by unfold maxLen; omega) (by omega) (by have := HM5.out.sz; simp; omega) _ rfl ?_; intro g9 c9 w9 hown9 hgrow9 hat9 hlt9; have HM9 : Aside (Mk w (w9.setCell ⟨w.heap.size + 1 + 1, 3, none⟩ (.slice (some ⟨g9, 0, none⟩) (k + 1) c9)) on rt asd (ls ++ [s']) (fa ++ [.slice fva pn fvc]) (.slice (some ⟨g9, 0, none⟩) (k + 1) c9) ls fb (.slice vb k vd)) := HMC.out.leafA HF5.out.1 HF5.out.2 (by rw [HLB.out]; exact hpn0) hgrow9 (by rw [HKL.out]; exact hown9); obtain ⟨⟨k0, k1⟩, k2, k3⟩ := HM5.out.nine (wr := wr) (X := wr.heap.size) (fun g hg => (HM.out.sa.row.lt g hg).2) (Nat.lt_of_lt_of_le HX1.out HF5.out.1.size) hgrow9; have s0 := (World.cell?_of_block (a := ⟨wr.heap.size, 0, none⟩) k0).trans t0; have s1 := (World.cell?_of_block (a := ⟨wr.heap.size, 1, none⟩) k0).trans t1; have s2 := (World.cell?_of_block (a := ⟨wr.heap.size, 2, none⟩) k0).trans t2; have HP9 : Aside (w9.heap[wr.heap.size + 1]? = some (.cells (pl.map (Value.int .u8)).toArray 5)) := k1.trans ((HF5.out.1.block _ HX1.out (by simp)).trans HPC.out); clear hown9 hgrow9 hat9 hlt9 k0 k1)
            | (refine step_append_grows rfl (.tmp 89) (.tmp 90) 32 rfl 5 i0 _ 1 1 Try.underlying32 hi0 hz0 hz1 hz2 rfl (by decide) (some ⟨wc.heap.size, 0, none⟩) 0 0 [] rfl (by intro h; cases h) rfl (fun b hb j u hj => by simp at hj) ⟨wr.heap.size + 1, 0, none⟩ pn _ (s'.bytes.map (Value.int .u8)) rfl (by rw [HBY.out]; exact HNL.out) (by rw [HBY.out]; exact HNW.out _) ints_one (by omega) (by unfold maxLen; omega) (by omega) ?_; intro v5 w5 hown5 hgrow5; obtain ⟨fva, fvc, rfl, hf5, hm5, t0, t1, t2, t3⟩ := HMC.out.five HXX.out.1 HXX.out.2 HLB.out hgrow5 hown5; have HF5 : Aside (wc.grownBy w5 none ∧ w5.ownsRow wc.heap.size 5 1 (.slice fva pn fvc) s'.bytes.length (s'.bytes.map (Value.int .u8))) := hf5; have HM5 : Aside (Mk w w5 on rt asd ls fa (.slice va k vc) ls fb (.slice vb k vd)) := hm5; have t4 := fun ob => Lib.cell?_alloc_some ob t3; clear hown5 hgrow5 hf5 hm5))
          all_goals
            have y0 : (w9.setCell ⟨w.heap.size + 1 + 1, 3, none⟩ (.slice (some ⟨g9, 0, none⟩) (k + 1) c9)).cell? ⟨wr.heap.size, 0, none⟩ = some (.int .u64 s'.page) := by rw [World.cell?_setCell_other _ _ _ _ (by intro e; simp only [Addr.mk.injEq] at e; omega)]; exact s0
            have y1 : (w9.setCell ⟨w.heap.size + 1 + 1, 3, none⟩ (.slice (some ⟨g9, 0, none⟩) (k + 1) c9)).cell? ⟨wr.heap.size, 1, none⟩ = some (.int .i64 s'.kind) := by rw [World.cell?_setCell_other _ _ _ _ (by intro e; simp only [Addr.mk.injEq] at e; omega)]; exact s1
            have y2 : (w9.setCell ⟨w.heap.size + 1 + 1, 3, none⟩ (.slice (some ⟨g9, 0, none⟩) (k + 1) c9)).cell? ⟨wr.heap.size, 2, none⟩ = some (.bool s'.write) := by rw [World.cell?_setCell_other _ _ _ _ (by intro e; simp only [Addr.mk.injEq] at e; omega)]; exact s2
            have HPT : Aside ((w9.setCell ⟨w.heap.size + 1 + 1, 3, none⟩ (.slice (some ⟨g9, 0, none⟩) (k + 1) c9)).heap[wr.heap.size + 1]? = some (.cells (pl.map (Value.int .u8)).toArray 5)) := (heap_setCell_other _ _ _ _ (by show wr.heap.size + 1 ≠ w.heap.size + 1 + 1; have := HM.out.sz; omega)).trans HP9.out
            clear HP9 s0 s1 s2 x0 x1 x2 m0 m0f m1 t0 t1 t2 t3 t4 k2 k3 HNW HF5 HM5
            generalize w9.setCell ⟨w.heap.size + 1 + 1, 3, none⟩ (.slice (some ⟨g9, 0, none⟩) (k + 1) c9) = w10 at *
            have b0 := HM9.out.cells.2.1
            have b0f := HM9.out.cells.2.2
            have b1 := fun ob => Lib.cell?_alloc_some ob b0
            have HRB : Aside (w10.ownsRow (w.heap.size + 4) 68 4 (.slice vb k vd) k (flat ls fb)) := by have h := HM9.out.sb.row; rw [HKL.out] at h; exact h
            have hz10 := HM9.out.sz
            go_wp2_with (at_builtin; refine wpList_append_own_at _ rfl _ _ 27 rfl (w.heap.size + 4) 68 l0 _ 4 48 Try.underlying27 hl0 hl1 hl2 hl3 rfl (by decide) _ k _ rfl (HRB.out.alloc _) ⟨w10.heap.size, 0, none⟩ 1 1 (s'.cells (.slice (some ⟨wr.heap.size + 1, 0, none⟩) pn 4096)) rfl rfl cells_newL (cells_oneL s' rfl) (by unfold maxLen; omega) (by omega) (by simp; omega) ?_; intro v' w11 hown' hgrow hnil hloc; obtain ⟨vb', vd', rfl⟩ := slice_form0 hown'; have HM11 : Aside (Mk w (w11.setCell ⟨w.heap.size + 1 + 1 + 1, 3, none⟩ (.slice vb' (k + 1) vd')) on rt asd (ls ++ [s']) (fa ++ [.slice fva pn fvc]) (.slice (some ⟨g9, 0, none⟩) (k + 1) c9) (ls ++ [s']) (fb ++ [.slice (some ⟨wr.heap.size + 1, 0, none⟩) pn 4096]) (.slice vb' (k + 1) vd')) := HM9.out.leafB HM.out rfl HPT.out HPL.out.1 HBY.out HLB.out hpn0 hpn hgrow (by rw [HKL.out]; exact hown'); obtain ⟨e0, e0f⟩ := HM9.out.boxB hgrow; clear hown' hgrow hnil hloc)
            go_roundw
            case rel => exact ⟨k + 1, last', by omega, by have := HK12.out; omega, by go_num, rfl, ls ++ [s'], _, _, _, _, _, _, by simp [HKL.out], HM11.out, HOK.out⟩
            case measure => simp [RowKit.intOf]; omega
      · have hor : n ≤ k ∨ k < n ∧ 12 ≤ k := by omega
        have hM0 := HM.out.heads
        obtain ⟨a0, a1, a2, a3, b0, b1, b2, b3, r0, r1, r2, r3, u0, u1, u2, u3, rf, uf⟩ := hM0
        have hnn : ¬ w.heap.size = w.heap.size + 1 := by omega
        rcases hor with h | ⟨h, h'⟩
        · have h1 : ¬ (k : Int) < (n : Int) := by omega
          go_upto_region 20 with fail
          go_region
          all_goals go_wp2_with fail
          all_goals refine bodyPost_ret (v := .tuple #[.agg #[.bool on, .int .u64 rt, .int .i64 asd, .slice va k vc], .agg #[.bool on, .int .u64 rt, .int .i64 asd, .slice vb k vd]]) (by simp [results, Try.results7, go_sem, r0, r1, r2, r3, u0, u1, u2, u3]) rfl ⟨rt, asd, ls, fa, fb, .slice va k vc, .slice vb k vd, rfl, HHD.out, ⟨last, HO.out⟩, by rw [HLS.out]; exact hk12, ?_⟩
          all_goals exact HM.out.fin _ _ _ _ _ _ _ _
        · have h1 : (k : Int) < (n : Int) := by omega
          have h2 : ¬ (k : Int) < 12 := by omega
          go_upto_region 20 with fail
          go_region
          all_goals go_wp2_with fail
          all_goals refine bodyPost_ret (v := .tuple #[.agg #[.bool on, .int .u64 rt, .int .i64 asd, .slice va k vc], .agg #[.bool on, .int .u64 rt, .int .i64 asd, .slice vb k vd]]) (by simp [results, Try.results7, go_sem, r0, r1, r2, r3, u0, u1, u2, u3]) rfl ⟨rt, asd, ls, fa, fb, .slice va k vc, .slice vb k vd, rfl, HHD.out, ⟨last, HO.out⟩, by rw [HLS.out]; exact hk12, ?_⟩
          all_goals exact HM.out.fin _ _ _ _ _ _ _ _
end Go.Proofs.Ytdlnipimljpmgaa
