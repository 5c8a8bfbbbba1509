/- law 35's of: the program's image as the document's. -/
import Derived.Test.YtdlnipimljpmgaaIW2
import Derived.Test.YtdlnipimljpmgaaIW6
set_option linter.unusedVariables false
set_option linter.unusedSimpArgs false
set_option linter.unusedSectionVars false
set_option linter.unnecessarySimpa false
namespace Go.Proofs.Ytdlnipimljpmgaa
open Go Go.RowKit Go.Im Go.Lib

theorem info68 : (Try.prog.info? 68).map (fun i => (i.zero, i.size, i.bytes)) = some (some (.agg #[.int .u64 0, .int .i64 0, .bool false, .slice none 0 0]), 4, 48) := by kernel_rfl
theorem zero29 (w : World) : (zeroValue 29).run Try.prog w = .ok (.agg #[.bool false, .int .u64 0, .int .i64 0, .slice none 0 0]) w := by kernel_rfl

theorem flat_snoc {l : List Lf} {fs : List Value} {k : Nat} {s : Lf} {f : Value} (hs : l[k]? = some s) (hf : fs[k]? = some f) : flat (l.take (k + 1)) (fs.take (k + 1)) = flat (l.take k) (fs.take k) ++ s.cells f := by
  have h1 : k < l.length := by
    rcases Nat.lt_or_ge k l.length with h | h
    · exact h
    · rw [List.getElem?_eq_none h] at hs; cases hs
  have h2 : k < fs.length := by
    rcases Nat.lt_or_ge k fs.length with h | h
    · exact h
    · rw [List.getElem?_eq_none h] at hf; cases hf
  rw [List.take_add_one, List.take_add_one, hs, hf]
  simp only [Option.toList_some]
  rw [flat_append _ _ _ _ (by simp; omega)]
  simp [flat]

theorem cells_newL {w : World} {cs : List Value} {t : Nat} : ∀ j u, cs[j]? = some u → (w.alloc (.cells cs.toArray t)).cell? ((⟨w.heap.size, 0, none⟩ : Addr).add j) = some u := by
  intro j u hj
  rw [Addr.add_lit]
  have h : (w.alloc (.cells cs.toArray t)).heap[w.heap.size]? = some (.cells cs.toArray t) := by
    show (w.heap.push _)[w.heap.size]? = _
    rw [Array.getElem?_push, if_pos rfl]
  simp only [World.cell?, h]
  simpa using hj

theorem cells_newL2 {w : World} {o : Obj} {cs : List Value} {t : Nat} : ∀ j u, cs[j]? = some u → ((w.alloc o).alloc (.cells cs.toArray t)).cell? ((⟨w.heap.size + 1, 0, none⟩ : Addr).add j) = some u := by
  intro j u hj
  have := cells_newL (w := w.alloc o) (t := t) j u hj
  simpa using this

theorem cells_oneL (s : Lf) {f : Value} (hf : f.oneCell' = true) : ∀ u ∈ s.cells f, u.oneCell' = true := by
  have := flat_one [s] [f] (by simpa using hf)
  intro u hu
  exact this u (by simpa [flat] using hu)

theorem keep5 {w0 w5 : World} {o1 o2 : Obj} {row : Option Nat} {m0 : Nat} (hg : ((w0.alloc o1).alloc o2).grownBy w5 row) (hr : ∀ j, row = some j → m0 ≤ j) (hs : m0 ≤ w0.heap.size) : ∀ m, m < m0 → w5.heap[m]? = w0.heap[m]? := fun m hm => by
  rw [hg.block m (by simp; omega) (by intro h; have := hr m h.symm; omega), Below.heap_alloc _ _ _ (by simp; omega), Below.heap_alloc _ _ _ (by omega)]

theorem app5 {w wr w5 : World} {o1 o2 : Obj} {row : Option Nat} (hb : Below w.heap.size w wr) (hs : w.heap.size + 3 ≤ wr.heap.size) (hg : ((wr.alloc o1).alloc o2).grownBy w5 row) (hr : ∀ j, row = some j → w.heap.size + 3 ≤ j) :
    (∀ m, m < w.heap.size + 3 → w5.heap[m]? = wr.heap[m]?) ∧ Below w.heap.size w w5 ∧ w.heap.size + 3 ≤ w5.heap.size := by
  refine ⟨keep5 hg hr hs, ?_, ?_⟩
  · exact ((hb.alloc hb.size _).alloc (by have := hb.size; simp; omega) _).grown hg (by have := hb.size; simp; omega) (fun j hj => by have := hr j hj; omega)
  · have := hg.size
    simp at this
    omega

set_option maxRecDepth 100000 in
set_option maxHeartbeats 2000000 in
theorem of_any (on : Bool) (root asid : Int) (x : Option Addr) (n c B : Nat) (l : List Lf) (fs : List Value) (w : World) (hn : l.length = n) (hbig : n ≤ 1000000) (hBw : B ≤ w.heap.size) (hx : LeavesF B w (.slice x n c) l fs) :
    Calls Try.prog 16 #[.agg #[.bool on, .int .u64 root, .int .i64 asid, .slice x n c]] w fun e w' => ∃ v', e = .returned (.agg #[.bool on, .int .u64 root, .int .i64 asid, v']) ∧ Below w.heap.size w w' ∧ w'.ownsRow (w.heap.size + 3) 68 4 v' n (flat l fs) := by
  have HX : Aside (LeavesF B w (.slice x n c) l fs) := hx
  clear hx
  obtain ⟨i0, hi0, hz⟩ := Option.map_eq_some_iff.1 info68
  simp only [Prod.mk.injEq] at hz
  obtain ⟨hz0, hz1, hz2⟩ := hz
  have hz29 := zero29
  go_enter Try.func16, Try.ntmps16
  go_wp2_with fail
  go_loopw [4] (fun i wr => ∃ k : Nat, k ≤ n ∧ i = .int .i64 k ∧ Below w.heap.size w wr ∧ w.heap.size + 3 ≤ wr.heap.size ∧ wr.heap[w.heap.size]? = some (.cells #[.bool on, .int .u64 root, .int .i64 asid, .slice x n c] 26) ∧
      wr.heap[w.heap.size + 1]? = some (.cells #[.bool false, .int .u64 0, .int .i64 0, .slice none 0 0] 29) ∧ ∃ (va : Option Addr) (vc : Nat), wr.heap[w.heap.size + 1 + 1]? = some (.cells #[.bool on, .int .u64 root, .int .i64 asid, .slice va k vc] 29) ∧
      wr.ownsRow (w.heap.size + 3) 68 4 (.slice va k vc) k (flat (l.take k) (fs.take k)))
    (fun i _ => n - (RowKit.intOf i).toNat)
  case atStart =>
    refine ⟨0, Nat.zero_le _, rfl, ((Below.refl _ _).alloc (Nat.le_refl _) _).alloc (by simp) _ |>.alloc (by simp; omega) _, by simp, ?_, ?_, none, 0, ?_, World.ownsRow_nil _ _ _ _⟩
    · exact heap_n2
    · exact heap_m2
    · exact heap_k2
  case round =>
    obtain ⟨k, hk, rfl, hbl, hsz, hb0, hb1, va, vc, hb2, hrow⟩ := hrel
    have HB : Aside (Below w.heap.size w wr) := hbl
    have HR : Aside (wr.ownsRow (w.heap.size + 3) 68 4 (.slice va k vc) k (flat (l.take k) (fs.take k))) := hrow
    have H0 : Aside (wr.heap[w.heap.size]? = some (.cells #[.bool on, .int .u64 root, .int .i64 asid, .slice x n c] 26)) := hb0
    have H1 : Aside (wr.heap[w.heap.size + 1]? = some (.cells #[.bool false, .int .u64 0, .int .i64 0, .slice none 0 0] 29)) := hb1
    have H2 : Aside (wr.heap[w.heap.size + 1 + 1]? = some (.cells #[.bool on, .int .u64 root, .int .i64 asid, .slice va k vc] 29)) := hb2
    have p3 : wr.cell? ⟨w.heap.size, 3, none⟩ = some (.slice x n c) := by simp [World.cell?, hb0]
    have r0 : wr.cell? ⟨w.heap.size + 1 + 1, 0, none⟩ = some (.bool on) := by simp [World.cell?, hb2]
    have r1 : wr.cell? ⟨w.heap.size + 1 + 1, 1, none⟩ = some (.int .u64 root) := by simp [World.cell?, hb2]
    have r2 : wr.cell? ⟨w.heap.size + 1 + 1, 2, none⟩ = some (.int .i64 asid) := by simp [World.cell?, hb2]
    have r3 : wr.cell? ⟨w.heap.size + 1 + 1, 3, none⟩ = some (.slice va k vc) := by simp [World.cell?, hb2]
    have HFR : Aside (∀ j, wr.frozen? ⟨w.heap.size + 1 + 1, j, none⟩ = false) := fun j => frozen_of_row wr _ j _ 29 hb2
    have s3 := fun ob => Lib.cell?_alloc_some ob r3
    have hl2 : w.heap.size + 1 + 1 < wr.heap.size := by omega
    have f3 : ∀ ob, (wr.alloc ob).frozen? ⟨w.heap.size + 1 + 1, 3, none⟩ = false := fun ob => by rw [alloc_frozen wr ob _ _ hl2]; exact HFR.out 3
    clear hbl hrow hb0 hb1 hb2
    by_cases hlt : k < n
    · obtain ⟨b, o, f, fa, fc, rfl, hB, hs, hat, hbs, hf⟩ := LeavesF.at2 HX.out hn (HB.out.mono hBw) hlt
      obtain ⟨c0, c1, c2, c3⟩ := hat
      have HE : Aside (flat (l.take (k + 1)) (fs.take (k + 1)) = flat (l.take k) (fs.take k) ++ f.cells (.slice fa f.bytes.length fc)) := flat_snoc hs hf
      have hi : (k : Int) < (n : Int) := by omega
      clear hs hbs hf
      go_wp2_with (at_builtin; refine wpList_append_own_at _ rfl _ _ 27 rfl (w.heap.size + 3) 68 i0 _ 4 48 Try.underlying27 hi0 hz0 hz1 hz2 rfl (by decide) _ k _ rfl ((HR.out.alloc _).alloc _) ⟨wr.heap.size + 1, 0, none⟩ 1 1 (f.cells (.slice fa f.bytes.length fc)) rfl rfl cells_newL2 (cells_oneL f rfl) (by unfold maxLen; omega) (by omega) (by simp; omega) ?_; intro v' w5 hown' hgrow hnil hloc; obtain ⟨va', vc', rfl⟩ := slice_form0 hown'; have HO5 : Aside (w5.ownsRow (w.heap.size + 3) 68 4 (.slice va' (k + 1) vc') (k + 1) (flat (l.take k) (fs.take k) ++ f.cells (.slice fa f.bytes.length fc))) := hown'; obtain ⟨hk5, hb5, hs5⟩ := app5 HB.out hsz hgrow (fun j hj => (HR.out.lt j hj).1); have HK5 : Aside (∀ m, m < w.heap.size + 3 → w5.heap[m]? = wr.heap[m]?) := hk5; have HB5 : Aside (Below w.heap.size w w5) := hb5; have HS5 : Aside (w.heap.size + 3 ≤ w5.heap.size) := hs5; have hlt3 : w.heap.size + 1 + 1 < w.heap.size + 3 := Nat.lt_succ_self _; have t3 : w5.cell? ⟨w.heap.size + 1 + 1, 3, none⟩ = some (.slice va k vc) := (World.cell?_of_block (a := ⟨w.heap.size + 1 + 1, 3, none⟩) (hk5 _ hlt3)).trans r3; have tf : w5.frozen? ⟨w.heap.size + 1 + 1, 3, none⟩ = false := (World.frozen?_of_block (a := ⟨w.heap.size + 1 + 1, 3, none⟩) (hk5 _ hlt3)).trans (HFR.out 3); clear hown' hgrow hnil hloc hk5 hb5 hs5 hlt3)
      go_roundw
      case rel =>
        have g2 : w5.heap[w.heap.size + 1 + 1]? = some (.cells #[.bool on, .int .u64 root, .int .i64 asid, .slice va k vc] 29) := (HK5.out _ (by omega)).trans H2.out
        refine ⟨k + 1, by omega, by go_num, HB5.out.setCell (by show _ ≤ w.heap.size + 1 + 1; omega) _, by simpa using HS5.out, ?_, ?_, va', vc', ?_, ?_⟩
        · rw [heap_setCell_other _ _ _ _ (by show _ ≠ w.heap.size + 1 + 1; omega), HK5.out _ (by omega)]; exact H0.out
        · rw [heap_setCell_other _ _ _ _ (by show _ ≠ w.heap.size + 1 + 1; omega), HK5.out _ (by omega)]; exact H1.out
        · rw [heap_setCell_same w5 _ 3 _ 29 _ g2]; rfl
        · rw [HE.out]
          exact ownsRow_setCell_below HO5.out (by show w.heap.size + 1 + 1 < _; omega) _
      case measure => simp [RowKit.intOf]; omega
    · have hkn : k = n := by omega
      have HRN : Aside (wr.ownsRow (w.heap.size + 3) 68 4 (.slice va k vc) k (flat l fs)) := by
        have := HR.out
        rw [hkn, ← hn, List.take_length, show l.length = fs.length from by rw [HX.out.1], List.take_length] at this
        rw [HX.out.1, hn, ← hkn] at this
        exact this
      have u0 : wr.cell? ⟨w.heap.size + 1, 0, none⟩ = some (.bool false) := by simp [World.cell?, H1.out]
      have u1 : wr.cell? ⟨w.heap.size + 1, 1, none⟩ = some (.int .u64 0) := by simp [World.cell?, H1.out]
      have u2 : wr.cell? ⟨w.heap.size + 1, 2, none⟩ = some (.int .i64 0) := by simp [World.cell?, H1.out]
      have u3 : wr.cell? ⟨w.heap.size + 1, 3, none⟩ = some (.slice none 0 0) := by simp [World.cell?, H1.out]
      have uf : ∀ j, wr.frozen? ⟨w.heap.size + 1, j, none⟩ = false := fun j => frozen_of_row wr _ j _ 29 H1.out
      subst hkn
      clear hn
      go_wp2_with fail
      refine bodyPost_ret (v := .agg #[.bool on, .int .u64 root, .int .i64 asid, .slice va k vc]) (by simp [results, Try.results16, go_sem, u0, u1, u2, u3]) rfl ⟨_, rfl, ?_, ?_⟩
      · exact (((HB.out.setCell (by simp) _).setCell (by simp) _).setCell (by simp) _).setCell (by simp) _
      · exact ownsRow_setCell_below (ownsRow_setCell_below (ownsRow_setCell_below (ownsRow_setCell_below HRN.out (by simp) _) (by simp) _) (by simp) _) (by simp) _

theorem of_calls (m : Img) {B : Nat} {w : World} {x : Value} {fs : List Value} (hbig : m.leaves.length ≤ 1000000) (hBw : B ≤ w.heap.size) (hx : LeavesF B w x m.leaves fs) :
    Calls Try.prog 16 #[.agg #[.bool m.on, .int .u64 m.root, .int .i64 m.asid, x]] w fun e w' => ∃ v', e = .returned (.agg #[.bool m.on, .int .u64 m.root, .int .i64 m.asid, v']) ∧ Below w.heap.size w w' ∧ LeavesF w'.heap.size w' v' m.leaves fs := by
  obtain ⟨a, c, rfl, _⟩ := hx.shape
  refine (of_any m.on m.root m.asid a m.leaves.length c B m.leaves fs w rfl hbig hBw hx).mono ?_
  rintro e w' ⟨v', rfl, hb, hown⟩
  exact ⟨v', rfl, hb, LeavesF.owned hown (by rw [hx.1]) fun i s f h1 h2 => ((hx.2.1 i s f h1 h2).below (hb.mono hBw)).up (Nat.le_trans hBw hb.size)⟩
end Go.Proofs.Ytdlnipimljpmgaa
