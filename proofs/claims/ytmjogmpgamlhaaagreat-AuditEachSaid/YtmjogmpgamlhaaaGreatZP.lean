/- Rounds of stage2.Table.each over words that are noughts. -/
import Derived.Test.YtmjogmpgamlhaaaGreatAL1
import Derived.OwnWalk
import Derived.Deep.LoopGhost
import Derived.BigRegion
import Derived.Test.YtmjogmpgamlhaaaGreatDmEnds
import Derived.Maps.OwnOps
import Derived.Test.YtmjogmpgamlhaaaGreatNJ
set_option linter.unusedVariables false
set_option linter.unusedSimpArgs false
set_option linter.unusedSectionVars false
namespace Go.Proofs.YtmjogmpgamlhaaaGreat
open Go Go.RowKit Go.Lib Go.Proofs.YtmjogmpgamlhaaaGreat.Dm

theorem info5z : (Tryz.prog.info? 5).map (fun i => (i.zero, i.size, i.bytes)) = some (some (.int .u8 0), 1, 1) := by kernel_rfl

theorem get_zero {b : Nat} {W : World} {at_ : Nat} (h8 : at_ % 8 = 0) (hat : at_ < 4096) (h : ∀ j, j < 4096 → W.cell? ⟨b, j, none⟩ = some (.int .u8 0)) :
    Calls Tryz.prog 202 #[.slice (some ⟨b, 0, none⟩) 4096 4096, .int .i64 (at_ : Int), .int .i64 8] W fun e w' => e = .returned (.tuple #[.int .u64 0, .int .i64 0]) ∧ Below W.heap.size W w' := by
  have G := getOk.2 (cb := b) (o := 0) (n := 4096) (c := 4096) (at_ := at_) (s := 8) (l := List.replicate 8 0) (by omega) h8 (by omega) (by omega) W rfl (by decide) (fun j a hj => by
    rw [List.getElem?_replicate] at hj
    split at hj
    · simp only [Option.some.injEq] at hj
      subst hj
      rw [Nat.zero_add]
      exact h _ (by omega)
    · cases hj)
  exact G

set_option maxRecDepth 100000 in
set_option maxHeartbeats 2000000 in
theorem place_calls {mb mo nf addr : Nat} (w : World) (hm : w.cell? ⟨mb, mo, none⟩ = some (.int .i64 (nf : Int))) (ha : addr / 4096 < nf) (hnf : nf < 1000000) (h8 : addr % 8 = 0) :
    Calls Tryz.prog 73 #[.pointer (some ⟨mb, mo, none⟩), .int .u64 (addr : Int), .int .i64 8] w fun e w' =>
      e = .returned (.tuple #[.int .i64 ((addr : Int) / 4096), .int .i64 ((addr : Int) % 4096), .int .i64 0]) ∧ Below w.heap.size w w' := by
  have hbl : mb < w.heap.size := World.block_lt_of_cell? w _ hm
  obtain ⟨i0, hi, hz0, hz1, hz2⟩ := info_parts info5z
  have hq : addr < 4096000000 := by omega
  have hat : addr % 4096 < 4096 := Nat.mod_lt _ (by omega)
  have h84 : addr % 4096 % 8 = 0 := by omega
  go_enter Tryz.func73, Tryz.ntmps73
  go_wp2_with (first
    | (at_make; refine wpList_make_full _ rfl _ _ 152 rfl w.heap.size 5 i0 (.int .u8 0) 1 Tryz.underlying152 hi hz0 hz1 .i64 .i64 _ _ 4096 rfl rfl rfl rfl (by rw [hz2]; omega) (by unfold maxLen; omega) (Nat.le_refl _) ?_; intro w1 hown1 hgr1)
    | (go_at_call 202
       have hz : ∀ j, j < 4096 → w1.cell? ⟨w.heap.size, j, none⟩ = some (.int .u8 0) := fun j hj => by
         rw [hown1.cellAt j (by omega), show (Value.int IntKind.u8 0).cells = #[.int .u8 0] from rfl, toList_madeCells_one, List.getElem?_replicate, if_pos (by omega)]
       refine (show Calls Tryz.prog 202 #[.slice (some ⟨w.heap.size, 0, none⟩) 4096 4096, .int .i64 ((addr : Int) % 4096), .int .i64 8] w1 _ from get_zero h84 hat hz).mono ?_
       rintro e w4 ⟨rfl, hb4⟩
       have hB : Below w.heap.size w w4 := ((Below.refl _ w).grown hgr1 (Nat.le_refl _) (fun k hk => by cases hk)).trans (hb4.mono hgr1.size)
       have hm4 : w4.cell? ⟨mb, mo, none⟩ = some (.int .i64 (nf : Int)) := (hB.cell hbl).trans hm
       clear hz hb4 hown1 hgr1)
    | go_in)
  go_ret3
  exact ⟨rfl, hB⟩
end Go.Proofs.YtmjogmpgamlhaaaGreat

namespace Go.Proofs.YtmjogmpgamlhaaaGreat
open Go Go.RowKit Go.Lib Go.Proofs.YtmjogmpgamlhaaaGreat.Dm

/-- The world is what it was, but for one cell that is a whole number, and new blocks. -/
structure OpsW (mb i : Nat) (w w' : World) : Prop where
  blk : ∀ c, c < w.heap.size → c ≠ mb → w'.heap[c]? = w.heap[c]?
  own : ∃ (cs : Array Value) (el : TypeId) (fr : Nat × Nat) (k : Int), w.heap[mb]? = some (.cells cs el fr) ∧ i < cs.size ∧ w'.heap[mb]? = some (.cells (cs.setIfInBounds i (.int .i64 k)) el fr)
  size : w.heap.size ≤ w'.heap.size
  tape : w'.tape = w.tape
  os : w'.os = w.os
  output : w'.output = w.output

section
variable {mb i : Nat} {w w1 w2 : World}
theorem OpsW.lt (h : OpsW mb i w w1) : mb < w.heap.size := by
  obtain ⟨cs, el, fr, k, h1, _, _⟩ := h.own
  exact (Array.getElem?_eq_some_iff.1 h1).1
theorem OpsW.cell (h : OpsW mb i w w1) {a : Addr} (ha : a.block < w.heap.size) (hne : a.block ≠ mb ∨ a.off ≠ i) : w1.cell? a = w.cell? a := by
  by_cases hb : a.block = mb
  · obtain ⟨cs, el, fr, k, h1, h2, h3⟩ := h.own
    have hi : a.off ≠ i := by rcases hne with h | h; exact absurd hb h; exact h
    unfold World.cell?
    rw [hb, h1, h3]
    simp only [Array.getElem?_setIfInBounds, if_neg (Ne.symm hi)]
  · exact World.cell?_of_block (w := w) (h.blk a.block ha hb)
theorem OpsW.int (h : OpsW mb i w w1) : ∃ k, w1.cell? ⟨mb, i, none⟩ = some (.int .i64 k) := by
  obtain ⟨cs, el, fr, k, h1, h2, h3⟩ := h.own
  refine ⟨k, ?_⟩
  unfold World.cell?
  simp only [h3]
  simp [h2]
theorem OpsW.frozen (h : OpsW mb i w w1) {a : Addr} (ha : a.block < w.heap.size) : w1.frozen? a = w.frozen? a := by
  by_cases hb : a.block = mb
  · obtain ⟨cs, el, fr, k, h1, h2, h3⟩ := h.own
    unfold World.frozen?
    rw [hb, h1, h3]
  · exact World.frozen?_of_block (w := w) (h.blk a.block ha hb)
theorem OpsW.below (h : OpsW mb i w w1) (k : Below w1.heap.size w1 w2) : OpsW mb i w w2 := by
  have hs := h.size
  refine ⟨fun c hc hn => (k.block c (by omega)).trans (h.blk c hc hn), ?_, by have := k.size; omega, k.tape.trans h.tape, k.os.trans h.os, k.output.trans h.output⟩
  obtain ⟨cs, el, fr, n, h1, h2, h3⟩ := h.own
  exact ⟨cs, el, fr, n, h1, h2, (k.block mb (by have := (Array.getElem?_eq_some_iff.1 h3).1; exact this)).trans h3⟩
theorem OpsW.refl {n : Int} (hc : w.cell? ⟨mb, i, none⟩ = some (.int .i64 n)) : OpsW mb i w w := by
  refine ⟨fun _ _ _ => rfl, ?_, Nat.le_refl _, rfl, rfl, rfl⟩
  unfold World.cell? at hc
  simp only at hc
  split at hc
  · rename_i cs el fr hb
    simp only [Option.isSome_none, Bool.false_eq_true, if_false] at hc
    obtain ⟨hlt, hv⟩ := Array.getElem?_eq_some_iff.1 hc
    refine ⟨cs, el, fr, n, hb, hlt, ?_⟩
    rw [hb]
    congr 2
    apply Array.ext
    · simp
    · intro j h1 h2
      rw [Array.getElem_setIfInBounds]
      split
      · rename_i e; subst e; exact hv
      · rfl
  · cases hc
theorem OpsW.of_below {n : Int} (hc : w.cell? ⟨mb, i, none⟩ = some (.int .i64 n)) (k : Below w.heap.size w w1) : OpsW mb i w w1 := (OpsW.refl hc).below k
theorem OpsW.set (h : OpsW mb i w w1) (k : Int) : OpsW mb i w (w1.setCell ⟨mb, i, none⟩ (.int .i64 k)) := by
  refine ⟨fun c hc hn => ?_, ?_, by simpa [World.setCell] using h.size, h.tape, h.os, h.output⟩
  · rw [Below.heap_setCell _ _ _ _ hn]; exact h.blk c hc hn
  · obtain ⟨cs, el, fr, n, h1, h2, h3⟩ := h.own
    refine ⟨cs, el, fr, k, h1, h2, ?_⟩
    simp only [World.setCell, Array.getElem?_modify, h3, if_true, Option.map_some]
    simp
theorem OpsW.trans (h : OpsW mb i w w1) (k : OpsW mb i w1 w2) : OpsW mb i w w2 := by
  have hs := h.size
  refine ⟨fun c hc hn => (k.blk c (by omega) hn).trans (h.blk c hc hn), ?_, by have := k.size; omega, k.tape.trans h.tape, k.os.trans h.os, k.output.trans h.output⟩
  obtain ⟨cs, el, fr, n, h1, h2, h3⟩ := h.own
  obtain ⟨cs', el', fr', n', k1, k2, k3⟩ := k.own
  rw [h3] at k1
  simp only [Option.some.injEq, Obj.cells.injEq] at k1
  obtain ⟨rfl, rfl, rfl⟩ := k1
  exact ⟨cs, el, fr, n', h1, h2, by rw [k3]; simp⟩
end

theorem get_zero2 {b o c : Nat} {W : World} {at_ : Nat} (h8 : at_ % 8 = 0) (hat : at_ < 4096) (h : ∀ j, j < 8 → W.cell? ⟨b, o + (at_ + j), none⟩ = some (.int .u8 0)) :
    Calls Tryz.prog 202 #[.slice (some ⟨b, o, none⟩) 4096 c, .int .i64 (at_ : Int), .int .i64 8] W fun e w' => e = .returned (.tuple #[.int .u64 0, .int .i64 0]) ∧ Below W.heap.size W w' := by
  have G := getOk.2 (cb := b) (o := o) (n := 4096) (c := c) (at_ := at_) (s := 8) (l := List.replicate 8 0) (by omega) h8 (by omega) (by omega) W rfl (by decide) (fun j a hj => by
    rw [List.getElem?_replicate] at hj
    split at hj
    · rename_i hj8
      simp only [Option.some.injEq] at hj
      subst hj
      exact h j hj8
    · cases hj)
  exact G

set_option maxRecDepth 100000 in
set_option maxHeartbeats 2000000 in
theorem read_calls {mb mo nf addr rb ro c : Nat} {k : Int} (w : World) (h0 : w.cell? ⟨mb, mo, none⟩ = some (.int .i64 (nf : Int))) (h2 : w.cell? ⟨mb, mo + 2, none⟩ = some (.int .i64 k)) (hfz : w.frozen? ⟨mb, mo + 2, none⟩ = false)
    (ha : addr / 4096 < nf) (hnf : nf < 1000000) (h8 : addr % 8 = 0)
    (hp : ∀ w1, OpsW mb (mo + 2) w w1 → Calls Tryz.prog 75 #[.pointer (some ⟨mb, mo, none⟩), .int .i64 ((addr : Int) / 4096)] w1 fun e w2 => e = .returned (.slice (some ⟨rb, ro, none⟩) 4096 c) ∧ Below w1.heap.size w1 w2)
    (hrb : rb < w.heap.size) (hne : rb ≠ mb) (hz : ∀ j, j < 8 → w.cell? ⟨rb, ro + (addr % 4096 + j), none⟩ = some (.int .u8 0)) :
    Calls Tryz.prog 124 #[.pointer (some ⟨mb, mo, none⟩), .int .u64 (addr : Int), .int .i64 8] w fun e w' =>
      e = .returned (.tuple #[.int .u64 0, .int .i64 0]) ∧ OpsW mb (mo + 2) w w' := by
  have hbl : mb < w.heap.size := World.block_lt_of_cell? w _ h0
  have hat : addr % 4096 < 4096 := Nat.mod_lt _ (by omega)
  have h84 : addr % 4096 % 8 = 0 := by omega
  have S1 := place_calls w h0 ha hnf h8
  have H0 : Aside (w.cell? ⟨mb, mo + 2, none⟩ = some (.int .i64 k)) := h2
  have HF : Aside (w.frozen? ⟨mb, mo + 2, none⟩ = false) := hfz
  have HP : Aside (∀ w1, OpsW mb (mo + 2) w w1 → Calls Tryz.prog 75 #[.pointer (some ⟨mb, mo, none⟩), .int .i64 ((addr : Int) / 4096)] w1 fun e w2 => e = .returned (.slice (some ⟨rb, ro, none⟩) 4096 c) ∧ Below w1.heap.size w1 w2) := hp
  have HZ : Aside (∀ j, j < 8 → w.cell? ⟨rb, ro + (addr % 4096 + j), none⟩ = some (.int .u8 0)) := hz
  clear hp hz h2 hfz
  go_enter Tryz.func124, Tryz.ntmps124
  go_wp2_with (first
    | (go_at_call 73; refine S1.mono ?_; rintro e w1 ⟨rfl, hb1⟩
       have hw1 : w1.cell? ⟨mb, mo + 2, none⟩ = some (.int .i64 k) := (hb1.cell hbl).trans H0.out
       have hf1 : w1.frozen? ⟨mb, mo + 2, none⟩ = false := (hb1.frozen hbl).trans HF.out
       have O1 : OpsW mb (mo + 2) w w1 := OpsW.of_below H0.out hb1
       clear S1 hb1)
    | (go_at_call 75
       refine (HP.out _ (O1.set (wrap64 (k + 1)))).mono ?_
       rintro e w2 ⟨rfl, hb2⟩
       have O2 : OpsW mb (mo + 2) w w2 := (O1.set (wrap64 (k + 1))).below hb2
       clear hb2 O1 hw1 hf1)
    | (go_at_call 202
       refine (show Calls Tryz.prog 202 #[.slice (some ⟨rb, ro, none⟩) 4096 c, .int .i64 ((addr : Int) % 4096), .int .i64 8] w2 _ from get_zero2 h84 hat (fun j hj => (O2.cell hrb (Or.inl hne)).trans (HZ.out j hj))).mono ?_
       rintro e w3 ⟨rfl, hb3⟩
       have O3 : OpsW mb (mo + 2) w w3 := O2.below hb3
       clear hb3 O2)
    | go_in)
  go_ret2
  exact ⟨rfl, O3⟩
end Go.Proofs.YtmjogmpgamlhaaaGreat

namespace Go.Proofs.YtmjogmpgamlhaaaGreat
open Go Go.RowKit Go.Lib Go.Proofs.YtmjogmpgamlhaaaGreat.Dm

/-- What a table's word is read through. -/
structure TabW (tb to fb fo mb mo nf : Nat) (k : Int) (w : World) : Prop where
  t : w.cell? ⟨tb, to, none⟩ = some (.pointer (some ⟨fb, fo, none⟩))
  f : w.cell? ⟨fb, fo, none⟩ = some (.pointer (some ⟨mb, mo, none⟩))
  n : w.cell? ⟨mb, mo, none⟩ = some (.int .i64 (nf : Int))
  k : w.cell? ⟨mb, mo + 2, none⟩ = some (.int .i64 k)
  fz : w.frozen? ⟨mb, mo + 2, none⟩ = false

set_option maxRecDepth 100000 in
set_option maxHeartbeats 2000000 in
theorem tread_calls {tb to fb fo mb mo nf addr rb ro c : Nat} {k : Int} (w : World) (T : TabW tb to fb fo mb mo nf k w)
    (ha : addr / 4096 < nf) (hnf : nf < 1000000) (h8 : addr % 8 = 0)
    (hp : ∀ w1, OpsW mb (mo + 2) w w1 → Calls Tryz.prog 75 #[.pointer (some ⟨mb, mo, none⟩), .int .i64 ((addr : Int) / 4096)] w1 fun e w2 => e = .returned (.slice (some ⟨rb, ro, none⟩) 4096 c) ∧ Below w1.heap.size w1 w2)
    (hrb : rb < w.heap.size) (hne : rb ≠ mb) (hz : ∀ j, j < 8 → w.cell? ⟨rb, ro + (addr % 4096 + j), none⟩ = some (.int .u8 0)) :
    Calls Tryz.prog 210 #[.pointer (some ⟨tb, to, none⟩), .int .u64 (addr : Int)] w fun e w' =>
      e = .returned (.tuple #[.int .u64 0, .bool true]) ∧ OpsW mb (mo + 2) w w' := by
  have S1 := read_calls w T.n T.k T.fz ha hnf h8 hp hrb hne hz
  have ht := T.t
  have hf := T.f
  clear hp hz
  go_enter Tryz.func210, Tryz.ntmps210
  go_wp2_with (first
    | (go_at_call 124; refine S1.mono ?_; rintro e w1 ⟨rfl, O1⟩
       clear S1)
    | go_in)
  go_ret2
  exact ⟨rfl, O1⟩
end Go.Proofs.YtmjogmpgamlhaaaGreat

set_option maxRecDepth 100000
namespace Go.Proofs.YtmjogmpgamlhaaaGreat
open Go Go.RowKit Go.Lib Go.Proofs.YtmjogmpgamlhaaaGreat.Dm

noncomputable def bodyOf (o : Option Code) : Code := match o with | some b => b | none => .skip
noncomputable def eachF : Code := bodyOf Tryz.f336.body
theorem eachF_eq : Tryz.f336.body = some eachF := by kernel_rfl
noncomputable def eachB : Code := sub eachF [1, 0, 0]

/-- The slots at the loop. -/
structure Ez (V0 V1 V2 V3 V4 : Value) (i : Nat) (ds : List Deferred) (a : Act) : Prop where
  sz : a.tmps.size = 67
  ds : a.defers = ds
  t0 : a.tmps[0]? = some V0
  t1 : a.tmps[1]? = some V1
  t2 : a.tmps[2]? = some V2
  t3 : a.tmps[3]? = some V3
  t4 : a.tmps[4]? = some V4
  t17 : a.tmps[17]? = some (.int .i64 (i : Int))

theorem lit_list {α : Type} (d : α) (l : List α) : l = (List.range l.length).map fun i => l.getD i d := by
  apply List.ext_getElem
  · simp
  · intro i h1 h2
    simp [List.getD, List.getElem?_eq_getElem h1]
theorem getD_of {a : Array Value} {i : Nat} {V d : Value} (h : a[i]? = some V) : a.toList.getD i d = V := by
  rw [List.getD, Array.getElem?_toList, h]; rfl

theorem Ez.lit {V0 V1 V2 V3 V4 : Value} {i : Nat} {ds : List Deferred} {a : Act} (h : Ez V0 V1 V2 V3 V4 i ds a) : ∃ x : Nat → Value, a = ⟨#[V0, V1, V2, V3, V4, (x 5), (x 6), (x 7), (x 8), (x 9), (x 10), (x 11), (x 12), (x 13), (x 14), (x 15), (x 16), (.int .i64 (i : Int)), (x 18), (x 19), (x 20), (x 21), (x 22), (x 23), (x 24), (x 25), (x 26), (x 27), (x 28), (x 29), (x 30), (x 31), (x 32), (x 33), (x 34), (x 35), (x 36), (x 37), (x 38), (x 39), (x 40), (x 41), (x 42), (x 43), (x 44), (x 45), (x 46), (x 47), (x 48), (x 49), (x 50), (x 51), (x 52), (x 53), (x 54), (x 55), (x 56), (x 57), (x 58), (x 59), (x 60), (x 61), (x 62), (x 63), (x 64), (x 65), (x 66)], ds⟩ := by
  obtain ⟨tm, d⟩ := a
  obtain ⟨h1, rfl, h2, h3, h4, h5, h6, h7⟩ := h
  have e := lit_list undef tm.toList
  rw [show tm.toList.length = 67 from h1] at e
  have e2 : tm = ((List.range 67).map fun i => tm.toList.getD i undef).toArray := by
    apply Array.toList_inj.1
    simpa using e
  refine ⟨fun i => tm.toList.getD i undef, ?_⟩
  rw [← getD_of (d := undef) h2, ← getD_of (d := undef) h3, ← getD_of (d := undef) h4, ← getD_of (d := undef) h5, ← getD_of (d := undef) h6, ← getD_of (d := undef) h7]
  congr 1

/-- What closed scalars tell. -/
noncomputable def svV : SV → Option Value
  | .b x => some (.bool x)
  | .i k n => some (.int k n)
  | _ => none
noncomputable def svVs : List SV → Option (List Value)
  | [] => some []
  | x :: l => match svV x, svVs l with
    | some v, some r => some (v :: r)
    | _, _ => none
theorem svV_eq {ι : Io} {x : SV} {v V : Value} (h : VR ι x V) (e : svV x = some v) : V = v := by
  cases x <;> first | (cases e; done) | (simp only [svV, Option.some.injEq] at e; subst e; exact h)
theorem rs_eq {ι : Io} : ∀ {l : List SV} {r q : List Value}, Rs ι l r → svVs l = some q → r = q
  | [], [], q, _, e => by simp only [svVs, Option.some.injEq] at e; exact e
  | [], _ :: _, _, h, _ => h.elim
  | _ :: _, [], _, h, _ => h.elim
  | x :: l, v :: r, q, ⟨h1, h2⟩, e => by
    unfold svVs at e
    split at e
    · rename_i v' r' e1 e2
      simp only [Option.some.injEq] at e; subst e
      rw [svV_eq h1 e1, rs_eq h2 e2]
    · cases e

theorem decode_zero {l : Nat} (hl : l < 4) (w : World) : Calls Tryz.prog 319 #[.int .i64 2, .int .i64 (l : Int), .int .u64 0] w fun e w' => e = .returned (.tuple #[.agg #[.int .i64 0, .int .u64 0, .bool false, .bool false, .bool false, .int .i64 0], .int .i64 0]) ∧ Below w.heap.size w w' := by
  have K : ∀ n, n < 4 → Known Tryz.prog 319 [.cv (.sc (.i .i64 (.ofNat 2))), .cv (.sc (.i .i64 (.ofNat n))), .cv (.sc (.i .u64 (.ofNat 0)))] (.tu [.ag [.i .i64 0, .i .u64 0, .b false, .b false, .b false, .i .i64 0], .sc (.i .i64 0)]) := by
    intro n hn
    rcases n with _ | _ | _ | _ | n
    · exact known_of (evA_ok 200).2 (by kernel_rfl)
    · exact known_of (evA_ok 200).2 (by kernel_rfl)
    · exact known_of (evA_ok 200).2 (by kernel_rfl)
    · exact known_of (evA_ok 200).2 (by kernel_rfl)
    · omega
  refine ((K l hl).2 w #[.int .i64 2, .int .i64 (l : Int), .int .u64 0] ⟨rfl, rfl, rfl, trivial⟩).mono ?_
  rintro e w' ⟨V, rfl, ⟨a, rfl, h⟩, hb⟩
  refine ⟨?_, hb⟩
  have h2 : ∃ x y, a.toList = [x, y] ∧ CVR (fun _ => none) (.ag [.i .i64 0, .i .u64 0, .b false, .b false, .b false, .i .i64 0]) x ∧ y = .int .i64 0 := by
    revert h
    cases a.toList with
    | nil => exact fun h => h.elim
    | cons x l => cases l with
      | nil => exact fun h => h.2.elim
      | cons y l => cases l with
        | nil => exact fun h => ⟨x, y, rfl, h.1, h.2.1⟩
        | cons _ _ => exact fun h => h.2.2.elim
  obtain ⟨x, y, e1, ⟨b, rfl, h3⟩, rfl⟩ := h2
  have e2 := rs_eq h3 rfl
  have e3 : b = #[.int .i64 0, .int .u64 0, .bool false, .bool false, .bool false, .int .i64 0] := Array.toList_inj.1 e2
  have e4 : a = #[.agg b, .int .i64 0] := Array.toList_inj.1 e1
  rw [e4, e3]
end Go.Proofs.YtmjogmpgamlhaaaGreat

set_option maxRecDepth 100000
namespace Go.Proofs.YtmjogmpgamlhaaaGreat
open Go Go.RowKit Go.Lib Go.Proofs.YtmjogmpgamlhaaaGreat.Dm

set_option maxHeartbeats 2000000 in
theorem round_zero {tb to fb fo mb mo nf rb ro c lv f i : Nat} {k : Int} {V3 V4 : Value} {ds : List Deferred} {a : Act} (w : World)
    (h : Ez (.pointer (some ⟨tb, to, none⟩)) (.int .u64 ((4096 * f : Nat) : Int)) (.int .i64 (lv : Int)) V3 V4 i ds a) (T : TabW tb to fb fo mb mo nf k w)
    (hi : i < 512) (hl : lv < 4) (ha : f < nf) (hnf : nf < 1000000)
    (hp : ∀ w1, OpsW mb (mo + 2) w w1 → Calls Tryz.prog 75 #[.pointer (some ⟨mb, mo, none⟩), .int .i64 (f : Int)] w1 fun e w2 => e = .returned (.slice (some ⟨rb, ro, none⟩) 4096 c) ∧ Below w1.heap.size w1 w2)
    (hrb : rb < w.heap.size) (hne : rb ≠ mb) (hz : ∀ j, j < 8 → w.cell? ⟨rb, ro + (8 * i + j), none⟩ = some (.int .u8 0)) {Q : Kont}
    (k : ∀ a' w', Ez (.pointer (some ⟨tb, to, none⟩)) (.int .u64 ((4096 * f : Nat) : Int)) (.int .i64 (lv : Int)) V3 V4 (i + 1) ds a' → OpsW mb (mo + 2) w w' → Q .normal a' w') :
    eachB.wp Tryz.prog Q a w := by
  have e1 : (4096 * f + 8 * i) / 4096 = f := by omega
  have e2 : (4096 * f + 8 * i) % 4096 = 8 * i := by omega
  have S1 := tread_calls (addr := 4096 * f + 8 * i) (rb := rb) (ro := ro) (c := c) w T (by omega) hnf (by omega) (fun w1 o => by
    have := hp w1 o
    have e3 : ((4096 * f + 8 * i : Nat) : Int) / 4096 = (f : Int) := by omega
    rw [e3]; exact this) hrb hne (by rw [e2]; exact hz)
  have S2 := fun w1 : World => decode_zero hl w1
  obtain ⟨x, rfl⟩ := h.lit
  have HK : Aside (∀ a' w', Ez (.pointer (some ⟨tb, to, none⟩)) (.int .u64 ((4096 * f : Nat) : Int)) (.int .i64 (lv : Int)) V3 V4 (i + 1) ds a' → OpsW mb (mo + 2) w w' → Q .normal a' w') := k
  clear k h hp hz T
  have hlt : (i : Int) < 512 := by omega
  unfold eachB eachF
  conv => arg 2; whnf
  go_wp2_with (first
    | (go_at_call 210
       refine S1.mono ?_
       rintro e w1 ⟨rfl, O1⟩
       clear S1)
    | (go_at_call 319
       refine (S2 _).mono ?_
       rintro e w2 ⟨rfl, hb2⟩
       have O2 : OpsW mb (mo + 2) w w2 := O1.below hb2
       clear S2 hb2 O1)
    | go_in)
  exact HK.out _ _ ⟨rfl, rfl, rfl, rfl, rfl, rfl, rfl, rfl⟩ (O2.below ((Below.refl _ w2).alloc (Nat.le_refl _) _))
end Go.Proofs.YtmjogmpgamlhaaaGreat

namespace Go.Proofs.YtmjogmpgamlhaaaGreat
open Go Go.RowKit Go.Lib Go.Proofs.YtmjogmpgamlhaaaGreat.Dm

theorem wpList_lookup_at {P : Program} (w : World) {ops : Array Oper} {rest : List Oper} {o : Oper} {a : Act} {Q : Exit → Act → World → Prop}
    (hg : o.guard = none) (m x : Operand) (t : TypeId) (hop : o.op = Op.lookup t m x true) (k e : TypeId) (ht : P.underlying t = some (.map k e)) (b : Nat) (es : Array MapEntry) (clock : Nat)
    (hm : a.eval m = .map (some b)) (hb : w.heap[b]? = some (.map es clock)) (key : Value) (hx : a.eval x = key) (hck : (Instr.checkKey es.isEmpty 10000 k key).run P w = .ok () w) (j : Nat) (v : Value)
    (hf : (Instr.findKey k key es.toList).run P w = .ok (some (j, v)) w) (hK : wpList P ops Q rest (a.put o.dst (.tuple #[v, .bool true])) w) :
    wpList P ops Q (o :: rest) a w := by
  refine wpList_plain hg fun K' hK' => ?_
  unfold Oper.wp
  have hund : (underlying t).run P w = .ok (.map k e) w := by
    simp [underlying, ht, run_program]
  simp [execOp, hop, hm, hx, Instr.lookup, hund, getObj, Sem.run, hb, hck, hf, Result.andThen]
  exact hK' _ _ hK

set_option maxRecDepth 100000 in
set_option maxHeartbeats 2000000 in
theorem page_calls {mb mo pg rb ro c f clock : Nat} {es : Array MapEntry} (w : World) (h1 : w.cell? ⟨mb, mo + 1, none⟩ = some (.map (some pg))) (hb : w.heap[pg]? = some (.map es clock))
    (hck : ∀ w : World, (Instr.checkKey es.isEmpty 10000 3 (.int .i64 (f : Int))).run Tryz.prog w = .ok () w)
    (hf : ∀ w : World, ∃ j, (Instr.findKey 3 (.int .i64 (f : Int)) es.toList).run Tryz.prog w = .ok (some (j, .slice (some ⟨rb, ro, none⟩) 4096 c)) w) :
    Calls Tryz.prog 75 #[.pointer (some ⟨mb, mo, none⟩), .int .i64 (f : Int)] w fun e w2 => e = .returned (.slice (some ⟨rb, ro, none⟩) 4096 c) ∧ Below w.heap.size w w2 := by
  have HC := hck w
  obtain ⟨j, HF⟩ := hf w
  clear hck hf
  go_enter Tryz.func75, Tryz.ntmps75
  go_wp2_with (first
    | (at_lookup; refine wpList_lookup_at _ rfl _ _ 149 rfl 3 152 Tryz.underlying149 pg es clock rfl hb _ rfl HC j _ HF ?_)
    | go_in)
  go_ret
  exact ⟨rfl, Below.refl _ _⟩
end Go.Proofs.YtmjogmpgamlhaaaGreat

set_option maxRecDepth 100000
namespace Go.Proofs.YtmjogmpgamlhaaaGreat
open Go Go.RowKit Go.Lib Go.Proofs.YtmjogmpgamlhaaaGreat.Dm

/-- What stands in the world while noughts are passed over. -/
structure Zw (tb to fb fo mb mo nf rb ro c f pg clock : Nat) (es : Array MapEntry) (w : World) : Prop where
  t : ∃ k, TabW tb to fb fo mb mo nf k w
  m : w.cell? ⟨mb, mo + 1, none⟩ = some (.map (some pg))
  es : w.heap[pg]? = some (.map es clock)
  pgm : pg ≠ mb
  tbm : tb ≠ mb
  fbm : fb ≠ mb
  rbm : rb ≠ mb
  rbl : rb < w.heap.size

theorem TabW.lt {tb to fb fo mb mo nf : Nat} {k : Int} {w : World} (T : TabW tb to fb fo mb mo nf k w) : tb < w.heap.size ∧ fb < w.heap.size ∧ mb < w.heap.size :=
  ⟨World.block_lt_of_cell? w _ T.t, World.block_lt_of_cell? w _ T.f, World.block_lt_of_cell? w _ T.n⟩

theorem Zw.ops {tb to fb fo mb mo nf rb ro c f pg clock : Nat} {es : Array MapEntry} {w w1 : World} (Z : Zw tb to fb fo mb mo nf rb ro c f pg clock es w) (o : OpsW mb (mo + 2) w w1) :
    Zw tb to fb fo mb mo nf rb ro c f pg clock es w1 := by
  obtain ⟨k, T⟩ := Z.t
  obtain ⟨l1, l2, l3⟩ := T.lt
  obtain ⟨k', hk'⟩ := o.int
  refine ⟨⟨k', ?_, ?_, ?_, hk', ?_⟩, ?_, ?_, Z.pgm, Z.tbm, Z.fbm, Z.rbm, Nat.lt_of_lt_of_le Z.rbl o.size⟩
  · exact (o.cell l1 (.inl Z.tbm)).trans T.t
  · exact (o.cell l2 (.inl Z.fbm)).trans T.f
  · exact (o.cell l3 (.inr (by show mo ≠ mo + 2; omega))).trans T.n
  · exact (o.frozen l3).trans T.fz
  · exact (o.cell l3 (.inr (by show mo + 1 ≠ mo + 2; omega))).trans Z.m
  · exact (o.blk pg (Array.getElem?_eq_some_iff.1 Z.es).1 Z.pgm).trans Z.es

theorem rounds_zero {tb to fb fo mb mo nf rb ro c f pg clock lv : Nat} {es : Array MapEntry} {V3 V4 : Value} {ds : List Deferred} {n : Nat} {st : List It} {Q : Kont}
    (hl : lv < 4) (ha : f < nf) (hnf : nf < 1000000)
    (hck : ∀ w : World, (Instr.checkKey es.isEmpty 10000 3 (.int .i64 (f : Int))).run Tryz.prog w = .ok () w)
    (hf : ∀ w : World, ∃ j, (Instr.findKey 3 (.int .i64 (f : Int)) es.toList).run Tryz.prog w = .ok (some (j, .slice (some ⟨rb, ro, none⟩) 4096 c)) w) :
    ∀ (d i : Nat) (a : Act) (w : World), Ez (.pointer (some ⟨tb, to, none⟩)) (.int .u64 ((4096 * f : Nat) : Int)) (.int .i64 (lv : Int)) V3 V4 i ds a → Zw tb to fb fo mb mo nf rb ro c f pg clock es w → i + d ≤ 512 →
      (∀ x, 8 * i ≤ x → x < 8 * (i + d) → w.cell? ⟨rb, ro + x, none⟩ = some (.int .u8 0)) →
      (∀ a' w', Ez (.pointer (some ⟨tb, to, none⟩)) (.int .u64 ((4096 * f : Nat) : Int)) (.int .i64 (lv : Int)) V3 V4 (i + d) ds a' → OpsW mb (mo + 2) w w' → den Tryz.prog Q (.rep eachB n :: st) .normal a' w') →
      den Tryz.prog Q (.rep eachB (n + d) :: st) .normal a w
  | 0, i, a, w, h, Z, hd, hz, k => by
    obtain ⟨kk, T⟩ := Z.t
    exact k a w h (OpsW.refl T.k)
  | d + 1, i, a, w, h, Z, hd, hz, k => by
    obtain ⟨kk, T⟩ := Z.t
    show eachB.wp Tryz.prog _ a w
    refine round_zero (c := c) w h T (by omega) hl ha hnf (fun w1 o => ?_) Z.rbl Z.rbm (fun j hj => hz _ (by omega) (by omega)) (fun a' w' h' o' => ?_)
    · have Z1 := Z.ops o
      exact page_calls w1 Z1.m Z1.es hck hf
    · show den Tryz.prog Q (.rep eachB (n + d) :: st) .normal a' w'
      refine rounds_zero hl ha hnf hck hf d (i + 1) a' w' h' (Z.ops o') (by omega) (fun x h1 h2 => ?_) (fun a2 w2 h2 o2 => ?_)
      · exact (o'.cell Z.rbl (.inl Z.rbm)).trans (hz x (by omega) (by omega))
      · refine k a2 w2 ?_ (o'.trans o2)
        rw [show i + (d + 1) = i + 1 + d by omega]; exact h2
end Go.Proofs.YtmjogmpgamlhaaaGreat
