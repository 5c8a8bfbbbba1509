import Derived.Test.YtndbccpaccflcaaGreatTW8
import Derived.Deep.Cut
import Derived.Deep.CutBlock
import Derived.BigGuardPart
import Derived.Deep.AppendSrc
set_option linter.unusedVariables false
set_option linter.unusedSimpArgs false
set_option linter.unusedSectionVars false
namespace Go.Proofs.YtndbccpaccflcaaGreat
open Go Go.RowKit Go.Tw Go.Lib

/-- Two boxes: a step, and nothing. -/
noncomputable def boxes (w : World) (s : St) (f : Value) : World :=
  (w.alloc (.cells #[.int .i64 s.kind, .int .i64 s.guest, .int .u64 s.addr, .int .i64 s.size, .int .u64 s.value, .int .i64 s.page, .bool s.on, .int .i64 s.asid, .int .i64 s.what, .int .i64 s.set, .int .i64 s.way, f] 31)).alloc
    (.cells #[.int .i64 0, .int .i64 0, .int .u64 0, .int .i64 0, .int .u64 0, .int .i64 0, .bool false, .int .i64 0, .int .i64 0, .int .i64 0, .int .i64 0, .slice none 0 0] 31)

/-- A step in a box of the call's own, another box behind it. -/
structure BoxS (w wc : World) (s : St) (f : Value) : Prop where
  at_ : At wc w.heap.size 0 s f
  free : ∀ j, wc.frozen? ⟨w.heap.size, j, none⟩ = false
  zero : ∀ j, j < 12 → (wc.cell? ⟨w.heap.size + 1, j, none⟩).isSome = true
  free1 : ∀ j, wc.frozen? ⟨w.heap.size + 1, j, none⟩ = false
  below : Below w.heap.size w wc
  size : w.heap.size + 2 ≤ wc.heap.size

theorem cell_of {w : World} {b t j : Nat} {cs : Array Value} (h : w.heap[b]? = some (.cells cs t)) : w.cell? ⟨b, j, none⟩ = cs[j]? := by
  simp only [World.cell?, h]
  rfl
theorem free_of {w : World} {b t j : Nat} {cs : Array Value} (h : w.heap[b]? = some (.cells cs t)) : w.frozen? ⟨b, j, none⟩ = false := by
  simp only [World.frozen?, h]
  simp

theorem cellO {w : World} {b j i : Nat} {x : Value} (h : j ≠ i) : (w.setCell ⟨b, j, none⟩ x).cell? ⟨b, i, none⟩ = w.cell? ⟨b, i, none⟩ := World.cell?_setCell_other _ _ _ _ (by intro e; cases e; exact h rfl)
theorem cellB {w : World} {b c j i : Nat} {x : Value} (h : b ≠ c) : (w.setCell ⟨b, j, none⟩ x).cell? ⟨c, i, none⟩ = w.cell? ⟨c, i, none⟩ := World.cell?_setCell_other _ _ _ _ (by intro e; cases e; exact h rfl)

theorem BoxS.boxes (w : World) (k g a sz v p asd wh st wy : Int) (on : Bool) (f : Value) :
    BoxS w ((w.alloc (.cells #[.int .i64 k, .int .i64 g, .int .u64 a, .int .i64 sz, .int .u64 v, .int .i64 p, .bool on, .int .i64 asd, .int .i64 wh, .int .i64 st, .int .i64 wy, f] 31)).alloc (.cells #[.int .i64 0, .int .i64 0, .int .u64 0, .int .i64 0, .int .u64 0, .int .i64 0, .bool false, .int .i64 0, .int .i64 0, .int .i64 0, .int .i64 0, .slice none 0 0] 31)) ⟨k, g, a, sz, v, p, on, asd, wh, st, wy, []⟩ f := by
  have h0 : ((w.alloc (.cells #[.int .i64 k, .int .i64 g, .int .u64 a, .int .i64 sz, .int .u64 v, .int .i64 p, .bool on, .int .i64 asd, .int .i64 wh, .int .i64 st, .int .i64 wy, f] 31)).alloc (.cells #[.int .i64 0, .int .i64 0, .int .u64 0, .int .i64 0, .int .u64 0, .int .i64 0, .bool false, .int .i64 0, .int .i64 0, .int .i64 0, .int .i64 0, .slice none 0 0] 31)).heap[w.heap.size]? = some (.cells #[.int .i64 k, .int .i64 g, .int .u64 a, .int .i64 sz, .int .u64 v, .int .i64 p, .bool on, .int .i64 asd, .int .i64 wh, .int .i64 st, .int .i64 wy, f] 31) := by
    show ((w.heap.push _).push _)[w.heap.size]? = _
    rw [Array.getElem?_push, if_neg (by simp), Array.getElem?_push, if_pos rfl]
  have h1 : ((w.alloc (.cells #[.int .i64 k, .int .i64 g, .int .u64 a, .int .i64 sz, .int .u64 v, .int .i64 p, .bool on, .int .i64 asd, .int .i64 wh, .int .i64 st, .int .i64 wy, f] 31)).alloc (.cells #[.int .i64 0, .int .i64 0, .int .u64 0, .int .i64 0, .int .u64 0, .int .i64 0, .bool false, .int .i64 0, .int .i64 0, .int .i64 0, .int .i64 0, .slice none 0 0] 31)).heap[w.heap.size + 1]? = some (.cells #[.int .i64 0, .int .i64 0, .int .u64 0, .int .i64 0, .int .u64 0, .int .i64 0, .bool false, .int .i64 0, .int .i64 0, .int .i64 0, .int .i64 0, .slice none 0 0] 31) := by
    show ((w.heap.push _).push _)[w.heap.size + 1]? = _
    rw [Array.getElem?_push, if_pos (by simp)]
  refine ⟨?_, fun j => free_of h0, fun j hj => ?_, fun j => free_of h1, ((Below.refl _ _).alloc (Nat.le_refl _) _).alloc (by simp) _, by simp⟩
  · refine ⟨?_, ?_, ?_, ?_, ?_, ?_, ?_, ?_, ?_, ?_, ?_, ?_⟩ <;> rw [cell_of h0] <;> rfl
  · rw [cell_of h1]
    have : j = 0 ∨ j = 1 ∨ j = 2 ∨ j = 3 ∨ j = 4 ∨ j = 5 ∨ j = 6 ∨ j = 7 ∨ j = 8 ∨ j = 9 ∨ j = 10 ∨ j = 11 := by omega
    rcases this with rfl | rfl | rfl | rfl | rfl | rfl | rfl | rfl | rfl | rfl | rfl | rfl <;> rfl

theorem BoxS.later {w wc w5 : World} {s : St} {f : Value} (h : BoxS w wc s f) (hb : Below wc.heap.size wc w5) : BoxS w w5 s f := by
  have hs := h.size
  refine ⟨h.at_.below hb (by omega), fun j => by rw [hb.frozen (by show w.heap.size < wc.heap.size; omega)]; exact h.free j, fun j hj => by rw [hb.cell (by show w.heap.size + 1 < wc.heap.size; omega)]; exact h.zero j hj, fun j => by rw [hb.frozen (by show w.heap.size + 1 < wc.heap.size; omega)]; exact h.free1 j, h.below.trans (hb.mono (by omega)), Nat.le_trans hs hb.size⟩

theorem BoxS.alloc {w wc : World} {s : St} {f : Value} (h : BoxS w wc s f) (o : Obj) : BoxS w (wc.alloc o) s f := h.later ((Below.refl _ _).alloc (Nat.le_refl _) o)

theorem BoxS.set {w wc : World} {s : St} {f : Value} (h : BoxS w wc s f) (j : Nat) (x : Value) (s' : St) (f' : Value) (ha : At (wc.setCell ⟨w.heap.size, j, none⟩ x) w.heap.size 0 s' f') : BoxS w (wc.setCell ⟨w.heap.size, j, none⟩ x) s' f' := by
  refine ⟨ha, fun i => by rw [World.frozen?_setCell]; exact h.free i, fun i hi => ?_, fun i => by rw [World.frozen?_setCell]; exact h.free1 i, h.below.setCell (Nat.le_refl _) _, by simpa [World.setCell] using h.size⟩
  rw [cellB (by omega)]
  exact h.zero i hi

theorem BoxS.set4 {w wc : World} {s : St} {f : Value} (h : BoxS w wc s f) (v : Int) : BoxS w (wc.setCell ⟨w.heap.size, 4, none⟩ (.int .u64 v)) { s with value := v } f := by
  obtain ⟨h0, h1, h2, h3, h4, h5, h6, h7, h8, h9, h10, h11⟩ := h.at_
  refine h.set 4 _ _ _ ⟨?_, ?_, ?_, ?_, ?_, ?_, ?_, ?_, ?_, ?_, ?_, ?_⟩
  · exact (cellO (by decide)).trans h0
  · exact (cellO (by decide)).trans h1
  · exact (cellO (by decide)).trans h2
  · exact (cellO (by decide)).trans h3
  · exact World.cell?_setCell_same' _ _ _ (by rw [show wc.cell? ⟨w.heap.size, 4, none⟩ = some _ from h4]; rfl)
  · exact (cellO (by decide)).trans h5
  · exact (cellO (by decide)).trans h6
  · exact (cellO (by decide)).trans h7
  · exact (cellO (by decide)).trans h8
  · exact (cellO (by decide)).trans h9
  · exact (cellO (by decide)).trans h10
  · exact (cellO (by decide)).trans h11

theorem BoxS.set2 {w wc : World} {s : St} {f : Value} (h : BoxS w wc s f) (v : Int) : BoxS w (wc.setCell ⟨w.heap.size, 2, none⟩ (.int .u64 v)) { s with addr := v } f := by
  obtain ⟨h0, h1, h2, h3, h4, h5, h6, h7, h8, h9, h10, h11⟩ := h.at_
  refine h.set 2 _ _ _ ⟨?_, ?_, ?_, ?_, ?_, ?_, ?_, ?_, ?_, ?_, ?_, ?_⟩
  · exact (cellO (by decide)).trans h0
  · exact (cellO (by decide)).trans h1
  · exact World.cell?_setCell_same' _ _ _ (by rw [show wc.cell? ⟨w.heap.size, 2, none⟩ = some _ from h2]; rfl)
  · exact (cellO (by decide)).trans h3
  · exact (cellO (by decide)).trans h4
  · exact (cellO (by decide)).trans h5
  · exact (cellO (by decide)).trans h6
  · exact (cellO (by decide)).trans h7
  · exact (cellO (by decide)).trans h8
  · exact (cellO (by decide)).trans h9
  · exact (cellO (by decide)).trans h10
  · exact (cellO (by decide)).trans h11

theorem BoxS.set11 {w wc : World} {s : St} {f : Value} (h : BoxS w wc s f) (f' : Value) : BoxS w (wc.setCell ⟨w.heap.size, 11, none⟩ f') s f' := by
  obtain ⟨h0, h1, h2, h3, h4, h5, h6, h7, h8, h9, h10, h11⟩ := h.at_
  refine h.set 11 _ _ _ ⟨?_, ?_, ?_, ?_, ?_, ?_, ?_, ?_, ?_, ?_, ?_, ?_⟩
  · exact (cellO (by decide)).trans h0
  · exact (cellO (by decide)).trans h1
  · exact (cellO (by decide)).trans h2
  · exact (cellO (by decide)).trans h3
  · exact (cellO (by decide)).trans h4
  · exact (cellO (by decide)).trans h5
  · exact (cellO (by decide)).trans h6
  · exact (cellO (by decide)).trans h7
  · exact (cellO (by decide)).trans h8
  · exact (cellO (by decide)).trans h9
  · exact (cellO (by decide)).trans h10
  · exact World.cell?_setCell_same' _ _ _ (by rw [show wc.cell? ⟨w.heap.size, 11, none⟩ = some _ from h11]; rfl)

def eights (j : Nat) : Int := if j = 2 then 4 else if j = 4 then 1 else if j = 5 then 2 else 8

theorem eights_cell (W : World) (n : Nat) (t : TypeId) (z : Int) (h0 : 0 ≤ z) (h8 : z < 8) (hn : W.heap.size = n) :
    (W.alloc (.cells #[.int .i64 8, .int .i64 8, .int .i64 4, .int .i64 8, .int .i64 1, .int .i64 2, .int .i64 8, .int .i64 8] t)).cell? ⟨n, z.toNat, none⟩ = some (.int .i64 (eights z.toNat)) := by
  subst hn
  have h : (W.alloc (.cells #[.int .i64 8, .int .i64 8, .int .i64 4, .int .i64 8, .int .i64 1, .int .i64 2, .int .i64 8, .int .i64 8] t)).heap[W.heap.size]? = some (.cells #[.int .i64 8, .int .i64 8, .int .i64 4, .int .i64 8, .int .i64 1, .int .i64 2, .int .i64 8, .int .i64 8] t) := by
    show (W.heap.push _)[W.heap.size]? = _
    rw [Array.getElem?_push, if_pos rfl]
  simp only [World.cell?, h]
  have hz : z = 0 ∨ z = 1 ∨ z = 2 ∨ z = 3 ∨ z = 4 ∨ z = 5 ∨ z = 6 ∨ z = 7 := by omega
  rcases hz with rfl | rfl | rfl | rfl | rfl | rfl | rfl | rfl <;> rfl

end Go.Proofs.YtndbccpaccflcaaGreat

namespace Go.Proofs.YtndbccpaccflcaaGreat
open Go Go.RowKit Go.Tw Go.Lib

theorem and3 (z : Int) : 0 ≤ bits .and .i64 z 3 ∧ bits .and .i64 z 3 < 4 := by
  have h : (BitVec.ofInt 64 z &&& BitVec.ofInt 64 3).toNat ≤ 3 := by
    rw [BitVec.toNat_and]
    exact Nat.and_le_right
  have e : bits .and .i64 z 3 = IntKind.wrap .i64 ((BitVec.ofInt 64 z &&& BitVec.ofInt 64 3).toNat : Int) := rfl
  rw [e]
  generalize (BitVec.ofInt 64 z &&& BitVec.ofInt 64 3).toNat = n at h
  have : n = 0 ∨ n = 1 ∨ n = 2 ∨ n = 3 := by omega
  rcases this with rfl | rfl | rfl | rfl <;> decide

theorem and7 (z : Int) : 0 ≤ bits .and .i64 z 7 ∧ bits .and .i64 z 7 < 8 := by
  have h : (BitVec.ofInt 64 z &&& BitVec.ofInt 64 7).toNat ≤ 7 := by
    rw [BitVec.toNat_and]
    exact Nat.and_le_right
  have e : bits .and .i64 z 7 = IntKind.wrap .i64 ((BitVec.ofInt 64 z &&& BitVec.ofInt 64 7).toNat : Int) := rfl
  rw [e]
  generalize (BitVec.ofInt 64 z &&& BitVec.ofInt 64 7).toNat = n at h
  have : n = 0 ∨ n = 1 ∨ n = 2 ∨ n = 3 ∨ n = 4 ∨ n = 5 ∨ n = 6 ∨ n = 7 := by omega
  rcases this with rfl | rfl | rfl | rfl | rfl | rfl | rfl | rfl <;> decide

set_option maxRecDepth 100000 in
set_option maxHeartbeats 8000000 in
theorem Act_any (s : St) (fa : Option Addr) (fn fc B : Nat) (w : World) (hfn : s.fails.length = fn) (hbig : fn ≤ 1000000) (hfc : fn ≤ fc) (hBw : B ≤ w.heap.size) (hF : Bools B w (.slice fa fn fc) s.fails)
    (hval : (Lit.int .u64 s.value).wf = true)
    (hW : ∀ (n v : Int) w1, 0 ≤ n → n < 4 → ∃ u : Int, (Lit.int .u64 u).wf = true ∧ Calls Tryz.prog 24 #[.int .i64 n, .int .u64 v] w1 fun e w' => e = .returned (.int .u64 u) ∧ Below w1.heap.size w1 w') :
    Calls Tryz.prog 15 #[s.val (.slice fa fn fc)] w fun e w' => ∃ (s' : St) (f' : Value), e = .returned (s'.val f') ∧ Below w.heap.size w w' ∧ Bools w'.heap.size w' f' s'.fails ∧ s'.fails.length ≤ 20 ∧ (Lit.int .i64 s'.page).wf = true ∧ (Lit.int .u64 s'.value).wf = true ∧ ∀ g, f'.ownBlock = some g → w.heap.size ≤ g := by
  have HF : Aside (Bools B w (.slice fa fn fc) s.fails) := hF
  have HVAL : Aside ((Lit.int .u64 s.value).wf = true) := hval
  have HW : Aside (∀ (n v : Int) w1, 0 ≤ n → n < 4 → ∃ u : Int, (Lit.int .u64 u).wf = true ∧ Calls Tryz.prog 24 #[.int .i64 n, .int .u64 v] w1 fun e w' => e = .returned (.int .u64 u) ∧ Below w1.heap.size w1 w') := hW
  have HWa : Aside (∀ (n v : Int) w1, ∃ u : Int, Calls Tryz.prog 24 #[.int .i64 (bits .and .i64 n 3), .int .u64 v] w1 fun e w' => e = .returned (.int .u64 u) ∧ Below w1.heap.size w1 w' ∧ Aside ((Lit.int .u64 u).wf = true)) := fun n v w1 => by
    obtain ⟨u, h1, h2⟩ := hW (bits .and .i64 n 3) v w1 (and3 n).1 (and3 n).2
    exact ⟨u, h2.mono fun e w' h => ⟨h.1, h.2, h1⟩⟩
  clear HW hW hF hval
  unfold St.val
  go_enter Tryz.func15, Tryz.ntmps15
  go_upto_region 7 with fail
  go_cut [34] from 3 (fun k wc => ∃ s1 : St, k = .int .i64 s1.kind ∧ (Lit.int .i64 s1.page).wf = true ∧ (Lit.int .u64 s1.value).wf = true ∧ (0 ≤ bits .and .i64 s1.size 7 ∧ bits .and .i64 s1.size 7 < 8) ∧ wc = boxes w s1 (.slice fa fn fc))
  case first =>
    go_wp2_with fail
    go_meet
    exact ⟨⟨_, _, _, _, _, _, _, _, _, _, _, []⟩, rfl, wrap64_wf _, HVAL.out, and7 _, rfl⟩
  case rest =>
    obtain ⟨s1, rfl, hpw, hvw, ⟨h7, h8⟩, rfl⟩ := hcut
    have HPW : Aside ((Lit.int .i64 s1.page).wf = true) := hpw
    have HVW : Aside ((Lit.int .u64 s1.value).wf = true) := hvw
    clear hpw hvw
    unfold boxes
    go_upto_block 0 with fail
    go_cut [] from 3 (fun wc => ∃ s2 : St, (Lit.int .i64 s2.page).wf = true ∧ (Lit.int .u64 s2.value).wf = true ∧ BoxS w wc s2 (.slice fa fn fc))
    case first =>
      have hE : (((w.alloc (.cells #[.int .i64 s1.kind, .int .i64 s1.guest, .int .u64 s1.addr, .int .i64 s1.size, .int .u64 s1.value, .int .i64 s1.page, .bool s1.on, .int .i64 s1.asid, .int .i64 s1.what, .int .i64 s1.set, .int .i64 s1.way, .slice fa fn fc] 31)).alloc
          (.cells #[.int .i64 0, .int .i64 0, .int .u64 0, .int .i64 0, .int .u64 0, .int .i64 0, .bool false, .int .i64 0, .int .i64 0, .int .i64 0, .int .i64 0, .slice none 0 0] 31)).alloc (.cells #[.int .i64 8, .int .i64 8, .int .i64 4, .int .i64 8, .int .i64 1, .int .i64 2, .int .i64 8, .int .i64 8] 3)).cell? ⟨w.heap.size + 1 + 1, (bits .and .i64 s1.size 7).toNat, none⟩ = some (.int .i64 (eights (bits .and .i64 s1.size 7).toNat)) := eights_cell _ _ _ _ h7 h8 (by simp)
      generalize eights (bits .and .i64 s1.size 7).toNat = z at hE
      go_wp2_with (go_at_call 24; obtain ⟨u, hu⟩ := HWa.out _ _ _; refine hu.mono ?_; rintro e w5 ⟨rfl, hw5, HUW⟩; have hbx := BoxS.later (BoxS.alloc (BoxS.boxes w _ _ _ _ _ _ _ _ _ _ _ _) _) hw5; have hb0 := hbx.at_.1; have hb2 := hbx.at_.2.2.1; have hb4 := hbx.at_.2.2.2.2.1; have hf4 := hbx.free 4; have hf2 := hbx.free 2; have HBX := (show Aside _ from hbx); clear hbx)
      all_goals go_meet
      all_goals (first | (refine ⟨_, ?_, ?_, BoxS.boxes w _ _ _ _ _ _ _ _ _ _ _ _⟩; exact HPW.out; exact HVW.out) | (refine ⟨_, ?_, ?_, (BoxS.boxes w _ _ _ _ _ _ _ _ _ _ _ _).alloc _⟩; exact HPW.out; exact HVW.out) | (refine ⟨_, ?_, ?_, BoxS.set4 HBX.out _⟩; exact HPW.out; exact HUW.out) | (refine ⟨_, ?_, ?_, (BoxS.set4 HBX.out _).set2 _⟩; exact HPW.out; exact HUW.out))
    case rest =>
      obtain ⟨s2, hpw2, hvw2, hbx⟩ := hcut
      have HV2 : Aside ((Lit.int .u64 s2.value).wf = true) := hvw2
      have HBX : Aside (BoxS w wc s2 (.slice fa fn fc)) := hbx
      have HP2 : Aside ((Lit.int .i64 s2.page).wf = true) := hpw2
      have b11 : wc.cell? ⟨w.heap.size, 11, none⟩ = some (.slice fa fn fc) := hbx.at_.2.2.2.2.2.2.2.2.2.2.2
      have f11 := hbx.free 11
      have a11 := fun ob => Lib.cell?_alloc_some ob b11
      have r11 : ∀ v ob, ((wc.setCell ⟨w.heap.size, 11, none⟩ v).alloc ob).cell? ⟨w.heap.size, 11, none⟩ = some v := fun v ob => Lib.cell?_alloc_some ob (World.cell?_setCell_same' _ _ _ (by rw [b11]; rfl))
      obtain ⟨i0, hi0, hz⟩ := Option.map_eq_some_iff.1 info4
      simp only [Prod.mk.injEq] at hz
      obtain ⟨hz0, hz1, hz2⟩ := hz
      clear hbx hpw2 hvw2
      have hF2 := HF.out
      obtain ⟨a', c', he, ha⟩ := hF2
      simp only [Value.slice.injEq] at he
      obtain ⟨rfl, -, rfl⟩ := he
      rcases ha with hnil | ⟨b, off, rfl, -, -⟩
      · have hfn0 : fn = 0 := by rw [← hfn, hnil]; rfl
        subst hfn0
        have hsrc : ∀ W : World, Src Tryz.prog i0.size 29 (.slice fa 0 fc) 0 [] W := by
          intro W
          cases fa with
          | none => exact Src.ofNil W Tryz.underlying29 fc
          | some ad => exact Src.ofSlice W Tryz.underlying29 ad 0 fc [] (by simp) (by intro j u hj; simp at hj) (by intro u hu; cases hu)
        have hap : ∀ (W : World) (n : Nat) (ty : TypeId), (Builtin.append_ #[29, 29] ty #[.slice (some ⟨n, 0, none⟩) 0 0, .slice fa 0 fc]).run Tryz.prog W = .ok (.slice (some ⟨n, 0, none⟩) 0 0) W := by
          intro W n ty
          have := run_append_room_src (P := Tryz.prog) W 29 29 ty 4 i0 Tryz.underlying29 hi0 n 0 0 0 (.slice fa 0 fc) 0 [] (hsrc W) (Nat.le_refl _) (by intro j hj; simp at hj) (by intro j hj; simp at hj)
          simpa [World.setCells] using this
        have hbw := fun ob => HBX.out.alloc ob
        have g0 : ∀ ob, (wc.alloc ob).cell? ⟨w.heap.size, 0, none⟩ = some _ := fun ob => (hbw ob).at_.1
        have g1 : ∀ ob, (wc.alloc ob).cell? ⟨w.heap.size, 1, none⟩ = some _ := fun ob => (hbw ob).at_.2.1
        have g2 : ∀ ob, (wc.alloc ob).cell? ⟨w.heap.size, 2, none⟩ = some _ := fun ob => (hbw ob).at_.2.2.1
        have g3 : ∀ ob, (wc.alloc ob).cell? ⟨w.heap.size, 3, none⟩ = some _ := fun ob => (hbw ob).at_.2.2.2.1
        have g4 : ∀ ob, (wc.alloc ob).cell? ⟨w.heap.size, 4, none⟩ = some _ := fun ob => (hbw ob).at_.2.2.2.2.1
        have g5 : ∀ ob, (wc.alloc ob).cell? ⟨w.heap.size, 5, none⟩ = some _ := fun ob => (hbw ob).at_.2.2.2.2.2.1
        have g6 : ∀ ob, (wc.alloc ob).cell? ⟨w.heap.size, 6, none⟩ = some _ := fun ob => (hbw ob).at_.2.2.2.2.2.2.1
        have g7 : ∀ ob, (wc.alloc ob).cell? ⟨w.heap.size, 7, none⟩ = some _ := fun ob => (hbw ob).at_.2.2.2.2.2.2.2.1
        have g8 : ∀ ob, (wc.alloc ob).cell? ⟨w.heap.size, 8, none⟩ = some _ := fun ob => (hbw ob).at_.2.2.2.2.2.2.2.2.1
        have g9 : ∀ ob, (wc.alloc ob).cell? ⟨w.heap.size, 9, none⟩ = some _ := fun ob => (hbw ob).at_.2.2.2.2.2.2.2.2.2.1
        have g10 : ∀ ob, (wc.alloc ob).cell? ⟨w.heap.size, 10, none⟩ = some _ := fun ob => (hbw ob).at_.2.2.2.2.2.2.2.2.2.2.1
        have fr11 := fun ob => (hbw ob).free 11
        obtain ⟨zz0, k0'⟩ := Option.isSome_iff_exists.1 (HBX.out.zero 0 (by omega))
        have k0 := fun ob => Lib.cell?_alloc_some ob k0'
        have fz0 := fun ob => (hbw ob).free1 0
        clear k0'
        obtain ⟨zz1, k1'⟩ := Option.isSome_iff_exists.1 (HBX.out.zero 1 (by omega))
        have k1 := fun ob => Lib.cell?_alloc_some ob k1'
        have fz1 := fun ob => (hbw ob).free1 1
        clear k1'
        obtain ⟨zz2, k2'⟩ := Option.isSome_iff_exists.1 (HBX.out.zero 2 (by omega))
        have k2 := fun ob => Lib.cell?_alloc_some ob k2'
        have fz2 := fun ob => (hbw ob).free1 2
        clear k2'
        obtain ⟨zz3, k3'⟩ := Option.isSome_iff_exists.1 (HBX.out.zero 3 (by omega))
        have k3 := fun ob => Lib.cell?_alloc_some ob k3'
        have fz3 := fun ob => (hbw ob).free1 3
        clear k3'
        obtain ⟨zz4, k4'⟩ := Option.isSome_iff_exists.1 (HBX.out.zero 4 (by omega))
        have k4 := fun ob => Lib.cell?_alloc_some ob k4'
        have fz4 := fun ob => (hbw ob).free1 4
        clear k4'
        obtain ⟨zz5, k5'⟩ := Option.isSome_iff_exists.1 (HBX.out.zero 5 (by omega))
        have k5 := fun ob => Lib.cell?_alloc_some ob k5'
        have fz5 := fun ob => (hbw ob).free1 5
        clear k5'
        obtain ⟨zz6, k6'⟩ := Option.isSome_iff_exists.1 (HBX.out.zero 6 (by omega))
        have k6 := fun ob => Lib.cell?_alloc_some ob k6'
        have fz6 := fun ob => (hbw ob).free1 6
        clear k6'
        obtain ⟨zz7, k7'⟩ := Option.isSome_iff_exists.1 (HBX.out.zero 7 (by omega))
        have k7 := fun ob => Lib.cell?_alloc_some ob k7'
        have fz7 := fun ob => (hbw ob).free1 7
        clear k7'
        obtain ⟨zz8, k8'⟩ := Option.isSome_iff_exists.1 (HBX.out.zero 8 (by omega))
        have k8 := fun ob => Lib.cell?_alloc_some ob k8'
        have fz8 := fun ob => (hbw ob).free1 8
        clear k8'
        obtain ⟨zz9, k9'⟩ := Option.isSome_iff_exists.1 (HBX.out.zero 9 (by omega))
        have k9 := fun ob => Lib.cell?_alloc_some ob k9'
        have fz9 := fun ob => (hbw ob).free1 9
        clear k9'
        obtain ⟨zz10, k10'⟩ := Option.isSome_iff_exists.1 (HBX.out.zero 10 (by omega))
        have k10 := fun ob => Lib.cell?_alloc_some ob k10'
        have fz10 := fun ob => (hbw ob).free1 10
        clear k10'
        obtain ⟨zz11, k11'⟩ := Option.isSome_iff_exists.1 (HBX.out.zero 11 (by omega))
        have k11 := fun ob => Lib.cell?_alloc_some ob k11'
        have fz11 := fun ob => (hbw ob).free1 11
        clear k11'
        have HSZ : Aside (w.heap.size + 2 ≤ wc.heap.size) := HBX.out.size
        have HSZ2 := HBX.out.size
        have HALL : Aside (∀ ob, BoxS w (wc.alloc ob) s2 (.slice fa 0 fc)) := hbw
        clear hbw r11 f11 hsrc
        cases fa
        all_goals
          go_wp2
          refine bodyPost_ret (v := .agg #[.int .i64 s2.kind, .int .i64 s2.guest, .int .u64 s2.addr, .int .i64 s2.size, .int .u64 s2.value, .int .i64 s2.page, .bool s2.on, .int .i64 s2.asid, .int .i64 s2.what, .int .i64 s2.set, .int .i64 s2.way, .slice (some ⟨wc.heap.size, 0, none⟩) 0 0]) (by simp [results, Tryz.results15, go_sem, k0, k1, k2, k3, k4, k5, k6, k7, k8, k9, k10, k11]) rfl ⟨{ s2 with fails := [] }, .slice (some ⟨wc.heap.size, 0, none⟩) 0 0, rfl, ?_, ?_, ?_, HP2.out, HV2.out, ?_⟩
          · exact (HALL.out _).below.setCell (Nat.le_refl _) _ |>.setCell (by simp) _ |>.setCell (by simp) _ |>.setCell (by simp) _ |>.setCell (by simp) _ |>.setCell (by simp) _ |>.setCell (by simp) _ |>.setCell (by simp) _ |>.setCell (by simp) _ |>.setCell (by simp) _ |>.setCell (by simp) _ |>.setCell (by simp) _ |>.setCell (by simp) _
          · exact ⟨_, 0, rfl, .inr ⟨wc.heap.size, 0, rfl, by simp [World.setCell], fun j u hj => by simp at hj⟩⟩
          · exact Nat.zero_le _
          · intro g hg
            simp only [Value.ownBlock, Option.some.injEq] at hg
            omega
      · by_cases h20 : 20 < fn
        · have hh : (20 : Int) < (fn : Int) := by omega
          have hh2 : (20 : Int) ≤ (fc : Int) := by omega
          have HB2 : Aside (BoxS w (wc.setCell ⟨w.heap.size, 11, none⟩ (.slice (some ⟨b, off, none⟩) 20 fc)) s2 (.slice (some ⟨b, off, none⟩) 20 fc)) := HBX.out.set11 _
          have hsz : (wc.setCell ⟨w.heap.size, 11, none⟩ (.slice (some ⟨b, off, none⟩) 20 fc)).heap.size = wc.heap.size := by simp [World.setCell]
          have hszw := HB2.out.size
          have hrow : ((wc.setCell ⟨w.heap.size, 11, none⟩ (.slice (some ⟨b, off, none⟩) 20 fc)).alloc (.cells #[] 4)).ownsRow (w.heap.size + 2) 4 1 (.slice (some ⟨wc.heap.size, 0, none⟩) 0 0) 0 [] := by
            have := World.ownsRow_made (base := w.heap.size + 2) (e := 4) (size := 1) (wc.setCell ⟨w.heap.size, 11, none⟩ (.slice (some ⟨b, off, none⟩) 20 fc)) #[] 0 HB2.out.size (Nat.zero_le _) (by simp)
            simpa using this
          go_wp2_with (at_builtin; (refine wpList_append_own _ rfl _ _ 29 rfl (w.heap.size + 2) 4 i0 (.bool false) 1 1 Tryz.underlying29 hi0 hz0 hz1 hz2 rfl (by decide) _ _ _ rfl hrow ⟨b, off, none⟩ 20 fc ((s.fails.take 20).map Value.bool) rfl ?q1 ?q2 ?q3 ?q4 ?q5 ?q6 ?q7))
          case q1 => first | omega | (simp; omega)
          case q2 =>
            intro j u hj
            first | rw [Addr.add_lit] | skip
            refine Lib.cell?_alloc_some _ ?_
            have hc := (HF.out.below (HB2.out.below.mono hBw))
            obtain ⟨a', c', he, ha⟩ := hc
            simp only [Value.slice.injEq] at he
            obtain ⟨rfl, -, rfl⟩ := he
            rcases ha with ha | ⟨b2, o2, ha, hb2, hcc⟩
            · exfalso
              simp [ha] at hj
            · simp only [Option.some.injEq, Addr.mk.injEq] at ha
              obtain ⟨rfl, rfl, _⟩ := ha
              refine hcc j u ?_
              rw [List.getElem?_map] at hj ⊢
              rw [List.getElem?_take] at hj
              split at hj
              · exact hj
              · cases hj
          case q3 =>
            intro u hu
            simp only [List.mem_map] at hu
            obtain ⟨x, _, rfl⟩ := hu
            rfl
          case q4 => unfold maxLen; omega
          case q5 => omega
          case q6 => have := HB2.out.size; first | omega | (simp; omega)
          intro v' w1 hown hgrow hnil
          have hown1 : w1.ownsRow (w.heap.size + 2) 4 1 v' 20 ((s.fails.take 20).map Value.bool) := by simpa using hown
          obtain ⟨va, vc, rfl⟩ : ∃ va vc, v' = .slice va 20 vc := by
            rcases hown1.2 with ⟨rfl, h0⟩ | ⟨gb, gc, cur, rfl, _⟩
            · exact ⟨none, 0, by rw [h0]⟩
            · exact ⟨_, _, rfl⟩
          have HOWN : Aside (w1.ownsRow (w.heap.size + 2) 4 1 (.slice va 20 vc) 20 ((s.fails.take 20).map Value.bool)) := hown1
          have hb1 : Below (wc.setCell ⟨w.heap.size, 11, none⟩ (.slice (some ⟨b, off, none⟩) 20 fc)).heap.size (wc.setCell ⟨w.heap.size, 11, none⟩ (.slice (some ⟨b, off, none⟩) 20 fc)) w1 := ((Below.refl _ _).alloc (Nat.le_refl _) _).grown hgrow (by simp) (by intro j hj; simp [Value.ownBlock] at hj; omega)
          have hbw := HB2.out.later hb1
          have HBW : Aside (BoxS w w1 s2 (.slice (some ⟨b, off, none⟩) 20 fc)) := hbw
          obtain ⟨g0, g1, g2, g3, g4, g5, g6, g7, g8, g9, g10, g11⟩ := hbw.at_
          have g0 : w1.cell? ⟨w.heap.size, 0, none⟩ = _ := g0
          have g1 : w1.cell? ⟨w.heap.size, 1, none⟩ = _ := g1
          have g2 : w1.cell? ⟨w.heap.size, 2, none⟩ = _ := g2
          have g3 : w1.cell? ⟨w.heap.size, 3, none⟩ = _ := g3
          have g4 : w1.cell? ⟨w.heap.size, 4, none⟩ = _ := g4
          have g5 : w1.cell? ⟨w.heap.size, 5, none⟩ = _ := g5
          have g6 : w1.cell? ⟨w.heap.size, 6, none⟩ = _ := g6
          have g7 : w1.cell? ⟨w.heap.size, 7, none⟩ = _ := g7
          have g8 : w1.cell? ⟨w.heap.size, 8, none⟩ = _ := g8
          have g9 : w1.cell? ⟨w.heap.size, 9, none⟩ = _ := g9
          have g10 : w1.cell? ⟨w.heap.size, 10, none⟩ = _ := g10
          have g11 : w1.cell? ⟨w.heap.size, 11, none⟩ = _ := g11
          have fr11 := hbw.free 11
          obtain ⟨zz0, k0⟩ := Option.isSome_iff_exists.1 (hbw.zero 0 (by omega))
          have fz0 := hbw.free1 0
          obtain ⟨zz1, k1⟩ := Option.isSome_iff_exists.1 (hbw.zero 1 (by omega))
          have fz1 := hbw.free1 1
          obtain ⟨zz2, k2⟩ := Option.isSome_iff_exists.1 (hbw.zero 2 (by omega))
          have fz2 := hbw.free1 2
          obtain ⟨zz3, k3⟩ := Option.isSome_iff_exists.1 (hbw.zero 3 (by omega))
          have fz3 := hbw.free1 3
          obtain ⟨zz4, k4⟩ := Option.isSome_iff_exists.1 (hbw.zero 4 (by omega))
          have fz4 := hbw.free1 4
          obtain ⟨zz5, k5⟩ := Option.isSome_iff_exists.1 (hbw.zero 5 (by omega))
          have fz5 := hbw.free1 5
          obtain ⟨zz6, k6⟩ := Option.isSome_iff_exists.1 (hbw.zero 6 (by omega))
          have fz6 := hbw.free1 6
          obtain ⟨zz7, k7⟩ := Option.isSome_iff_exists.1 (hbw.zero 7 (by omega))
          have fz7 := hbw.free1 7
          obtain ⟨zz8, k8⟩ := Option.isSome_iff_exists.1 (hbw.zero 8 (by omega))
          have fz8 := hbw.free1 8
          obtain ⟨zz9, k9⟩ := Option.isSome_iff_exists.1 (hbw.zero 9 (by omega))
          have fz9 := hbw.free1 9
          obtain ⟨zz10, k10⟩ := Option.isSome_iff_exists.1 (hbw.zero 10 (by omega))
          have fz10 := hbw.free1 10
          obtain ⟨zz11, k11⟩ := Option.isSome_iff_exists.1 (hbw.zero 11 (by omega))
          have fz11 := hbw.free1 11
          clear hbw hown hown1 hgrow hnil b11 a11 r11 f11
          go_wp2
          refine bodyPost_ret (v := .agg #[.int .i64 s2.kind, .int .i64 s2.guest, .int .u64 s2.addr, .int .i64 s2.size, .int .u64 s2.value, .int .i64 s2.page, .bool s2.on, .int .i64 s2.asid, .int .i64 s2.what, .int .i64 s2.set, .int .i64 s2.way, .slice va 20 vc]) (by simp [results, Tryz.results15, go_sem, k0, k1, k2, k3, k4, k5, k6, k7, k8, k9, k10, k11]) rfl ⟨{ s2 with fails := s.fails.take 20 }, .slice va 20 vc, rfl, ?_, ?_, ?_, HP2.out, HV2.out, ?_⟩
          · exact HBW.out.below.setCell (Nat.le_refl _) _ |>.setCell (by simp) _ |>.setCell (by simp) _ |>.setCell (by simp) _ |>.setCell (by simp) _ |>.setCell (by simp) _ |>.setCell (by simp) _ |>.setCell (by simp) _ |>.setCell (by simp) _ |>.setCell (by simp) _ |>.setCell (by simp) _ |>.setCell (by simp) _ |>.setCell (by simp) _
          · have hq := ownsRow_setCell_below (ownsRow_setCell_below (ownsRow_setCell_below (ownsRow_setCell_below (ownsRow_setCell_below (ownsRow_setCell_below (ownsRow_setCell_below (ownsRow_setCell_below (ownsRow_setCell_below (ownsRow_setCell_below (ownsRow_setCell_below (ownsRow_setCell_below (ownsRow_setCell_below HOWN.out (a := ⟨w.heap.size, 11, none⟩) (by simp) (.slice va 20 vc)) (a := ⟨w.heap.size + 1, 0, none⟩) (by simp) (.int .i64 s2.kind)) (a := ⟨w.heap.size + 1, 1, none⟩) (by simp) (.int .i64 s2.guest)) (a := ⟨w.heap.size + 1, 2, none⟩) (by simp) (.int .u64 s2.addr)) (a := ⟨w.heap.size + 1, 3, none⟩) (by simp) (.int .i64 s2.size)) (a := ⟨w.heap.size + 1, 4, none⟩) (by simp) (.int .u64 s2.value)) (a := ⟨w.heap.size + 1, 5, none⟩) (by simp) (.int .i64 s2.page)) (a := ⟨w.heap.size + 1, 6, none⟩) (by simp) (.bool s2.on)) (a := ⟨w.heap.size + 1, 7, none⟩) (by simp) (.int .i64 s2.asid)) (a := ⟨w.heap.size + 1, 8, none⟩) (by simp) (.int .i64 s2.what)) (a := ⟨w.heap.size + 1, 9, none⟩) (by simp) (.int .i64 s2.set)) (a := ⟨w.heap.size + 1, 10, none⟩) (by simp) (.int .i64 s2.way)) (a := ⟨w.heap.size + 1, 11, none⟩) (by simp) (.slice va 20 vc)
            exact Bools.owned hq
          · simp only [List.length_take]
            omega
          · intro g hg
            have := (HOWN.out.lt g hg).1
            omega
        · have hh : ¬ (20 : Int) < (fn : Int) := by omega
          have HB2 : Aside (BoxS w wc s2 (.slice (some ⟨b, off, none⟩) fn fc)) := HBX.out
          have hszw := HB2.out.size
          go_wp2_with (at_builtin; (refine wpList_append_own _ rfl _ _ 29 rfl (w.heap.size + 2) 4 i0 (.bool false) 1 1 Tryz.underlying29 hi0 hz0 hz1 hz2 rfl (by decide) _ _ _ rfl (World.ownsRow_made _ #[] 0 hszw (Nat.zero_le _) (by simp)) ⟨b, off, none⟩ fn fc (s.fails.map Value.bool) rfl ?p1 ?p2 ?p3 ?p4 ?p5 ?p6 ?p7))
          case p2 =>
            intro j u hj
            first | rw [Addr.add_lit] | skip
            refine Lib.cell?_alloc_some _ ?_
            have hc := (HF.out.below (HB2.out.below.mono hBw))
            obtain ⟨a', c', he, ha⟩ := hc
            simp only [Value.slice.injEq] at he
            obtain ⟨rfl, -, rfl⟩ := he
            rcases ha with ha | ⟨b2, o2, ha, hb2, hcc⟩
            · exfalso
              simp [ha] at hj
            · simp only [Option.some.injEq, Addr.mk.injEq] at ha
              obtain ⟨rfl, rfl, _⟩ := ha
              refine hcc j u ?_
              rw [List.getElem?_map]
              rcases hj with ⟨h, rfl⟩ | ⟨h, rfl⟩ <;> rw [h] <;> rfl
          case p3 =>
            intro u hu
            obtain ⟨x, _, rfl⟩ := List.mem_map.1 (show u ∈ s.fails.map Value.bool by simpa using hu)
            rfl
          case p4 => unfold maxLen; omega
          case p5 => omega
          case p6 => have := HB2.out.size; first | omega | (simp; omega)
          intro v' w1 hown hgrow hnil
          have hown1 : w1.ownsRow (w.heap.size + 2) 4 1 v' fn (s.fails.map Value.bool) := by simpa using hown
          obtain ⟨va, vc, rfl⟩ : ∃ va vc, v' = .slice va fn vc := by
            rcases hown1.2 with ⟨rfl, h0⟩ | ⟨gb, gc, cur, rfl, _⟩
            · exact ⟨none, 0, by rw [h0]⟩
            · exact ⟨_, _, rfl⟩
          have HOWN : Aside (w1.ownsRow (w.heap.size + 2) 4 1 (.slice va fn vc) fn (s.fails.map Value.bool)) := hown1
          have hb1 : Below (wc).heap.size (wc) w1 := ((Below.refl _ _).alloc (Nat.le_refl _) _).grown hgrow (by simp) (by intro j hj; simp [Value.ownBlock] at hj; omega)
          have hbw := HB2.out.later hb1
          have HBW : Aside (BoxS w w1 s2 (.slice (some ⟨b, off, none⟩) fn fc)) := hbw
          obtain ⟨g0, g1, g2, g3, g4, g5, g6, g7, g8, g9, g10, g11⟩ := hbw.at_
          have g0 : w1.cell? ⟨w.heap.size, 0, none⟩ = _ := g0
          have g1 : w1.cell? ⟨w.heap.size, 1, none⟩ = _ := g1
          have g2 : w1.cell? ⟨w.heap.size, 2, none⟩ = _ := g2
          have g3 : w1.cell? ⟨w.heap.size, 3, none⟩ = _ := g3
          have g4 : w1.cell? ⟨w.heap.size, 4, none⟩ = _ := g4
          have g5 : w1.cell? ⟨w.heap.size, 5, none⟩ = _ := g5
          have g6 : w1.cell? ⟨w.heap.size, 6, none⟩ = _ := g6
          have g7 : w1.cell? ⟨w.heap.size, 7, none⟩ = _ := g7
          have g8 : w1.cell? ⟨w.heap.size, 8, none⟩ = _ := g8
          have g9 : w1.cell? ⟨w.heap.size, 9, none⟩ = _ := g9
          have g10 : w1.cell? ⟨w.heap.size, 10, none⟩ = _ := g10
          have g11 : w1.cell? ⟨w.heap.size, 11, none⟩ = _ := g11
          have fr11 := hbw.free 11
          obtain ⟨zz0, k0⟩ := Option.isSome_iff_exists.1 (hbw.zero 0 (by omega))
          have fz0 := hbw.free1 0
          obtain ⟨zz1, k1⟩ := Option.isSome_iff_exists.1 (hbw.zero 1 (by omega))
          have fz1 := hbw.free1 1
          obtain ⟨zz2, k2⟩ := Option.isSome_iff_exists.1 (hbw.zero 2 (by omega))
          have fz2 := hbw.free1 2
          obtain ⟨zz3, k3⟩ := Option.isSome_iff_exists.1 (hbw.zero 3 (by omega))
          have fz3 := hbw.free1 3
          obtain ⟨zz4, k4⟩ := Option.isSome_iff_exists.1 (hbw.zero 4 (by omega))
          have fz4 := hbw.free1 4
          obtain ⟨zz5, k5⟩ := Option.isSome_iff_exists.1 (hbw.zero 5 (by omega))
          have fz5 := hbw.free1 5
          obtain ⟨zz6, k6⟩ := Option.isSome_iff_exists.1 (hbw.zero 6 (by omega))
          have fz6 := hbw.free1 6
          obtain ⟨zz7, k7⟩ := Option.isSome_iff_exists.1 (hbw.zero 7 (by omega))
          have fz7 := hbw.free1 7
          obtain ⟨zz8, k8⟩ := Option.isSome_iff_exists.1 (hbw.zero 8 (by omega))
          have fz8 := hbw.free1 8
          obtain ⟨zz9, k9⟩ := Option.isSome_iff_exists.1 (hbw.zero 9 (by omega))
          have fz9 := hbw.free1 9
          obtain ⟨zz10, k10⟩ := Option.isSome_iff_exists.1 (hbw.zero 10 (by omega))
          have fz10 := hbw.free1 10
          obtain ⟨zz11, k11⟩ := Option.isSome_iff_exists.1 (hbw.zero 11 (by omega))
          have fz11 := hbw.free1 11
          clear hbw hown hown1 hgrow hnil b11 a11 r11 f11
          go_wp2
          refine bodyPost_ret (v := .agg #[.int .i64 s2.kind, .int .i64 s2.guest, .int .u64 s2.addr, .int .i64 s2.size, .int .u64 s2.value, .int .i64 s2.page, .bool s2.on, .int .i64 s2.asid, .int .i64 s2.what, .int .i64 s2.set, .int .i64 s2.way, .slice va fn vc]) (by simp [results, Tryz.results15, go_sem, k0, k1, k2, k3, k4, k5, k6, k7, k8, k9, k10, k11]) rfl ⟨{ s2 with fails := s.fails }, .slice va fn vc, rfl, ?_, ?_, ?_, HP2.out, HV2.out, ?_⟩
          · exact HBW.out.below.setCell (Nat.le_refl _) _ |>.setCell (by simp) _ |>.setCell (by simp) _ |>.setCell (by simp) _ |>.setCell (by simp) _ |>.setCell (by simp) _ |>.setCell (by simp) _ |>.setCell (by simp) _ |>.setCell (by simp) _ |>.setCell (by simp) _ |>.setCell (by simp) _ |>.setCell (by simp) _ |>.setCell (by simp) _
          · have hq := ownsRow_setCell_below (ownsRow_setCell_below (ownsRow_setCell_below (ownsRow_setCell_below (ownsRow_setCell_below (ownsRow_setCell_below (ownsRow_setCell_below (ownsRow_setCell_below (ownsRow_setCell_below (ownsRow_setCell_below (ownsRow_setCell_below (ownsRow_setCell_below (ownsRow_setCell_below HOWN.out (a := ⟨w.heap.size, 11, none⟩) (by simp) (.slice va fn vc)) (a := ⟨w.heap.size + 1, 0, none⟩) (by simp) (.int .i64 s2.kind)) (a := ⟨w.heap.size + 1, 1, none⟩) (by simp) (.int .i64 s2.guest)) (a := ⟨w.heap.size + 1, 2, none⟩) (by simp) (.int .u64 s2.addr)) (a := ⟨w.heap.size + 1, 3, none⟩) (by simp) (.int .i64 s2.size)) (a := ⟨w.heap.size + 1, 4, none⟩) (by simp) (.int .u64 s2.value)) (a := ⟨w.heap.size + 1, 5, none⟩) (by simp) (.int .i64 s2.page)) (a := ⟨w.heap.size + 1, 6, none⟩) (by simp) (.bool s2.on)) (a := ⟨w.heap.size + 1, 7, none⟩) (by simp) (.int .i64 s2.asid)) (a := ⟨w.heap.size + 1, 8, none⟩) (by simp) (.int .i64 s2.what)) (a := ⟨w.heap.size + 1, 9, none⟩) (by simp) (.int .i64 s2.set)) (a := ⟨w.heap.size + 1, 10, none⟩) (by simp) (.int .i64 s2.way)) (a := ⟨w.heap.size + 1, 11, none⟩) (by simp) (.slice va fn vc)
            exact Bools.owned hq
          · show s.fails.length ≤ 20
            omega
          · intro g hg
            have := (HOWN.out.lt g hg).1
            omega
end Go.Proofs.YtndbccpaccflcaaGreat
