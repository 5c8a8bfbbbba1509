/- One image's leaves behind a store: a byte of a page, a leaf's kind and write. -/
import Derived.Test.YtdlnipimljpmgaaIA1
import Derived.Test.YtdlnipimljpmgaaIW16
import Derived.Test.YtdlnipimljpmgaaIW11
import Derived.OneCell
import Derived.Laws.OwnMore
set_option linter.unusedVariables false
set_option linter.unusedSimpArgs false
set_option linter.unusedSectionVars false
set_option linter.unnecessarySimpa false
namespace Go.Proofs.Ytdlnipimljpmgaa
open Go Go.RowKit Go.Im Go.Lib Go.Fl

theorem flat_set_same : ∀ (l : List Lf) (fs : List Value) (n : Nat) (f f' : Lf), l[n]? = some f → (∀ v, f'.cells v = f.cells v) → flat (l.set n f') fs = flat l fs
  | [], _, _, _, _, h, _ => by simp at h
  | s :: l, [], n, f, f', h, he => by cases n <;> simp [flat]
  | s :: l, g :: r, 0, f, f', h, he => by
    simp at h; subst h
    simp [flat, he]
  | s :: l, g :: r, n + 1, f, f', h, he => by
    simp only [List.set_cons_succ, flat]
    rw [flat_set_same l r n f f' (by simpa using h) he]

theorem flat_set : ∀ (l : List Lf) (fs : List Value) (n j : Nat) (f f' : Lf) (u : Value), fs.length = l.length → l[n]? = some f → j < 4 → (∀ v, f'.cells v = (f.cells v).set j u) → flat (l.set n f') fs = (flat l fs).set (n * 4 + j) u
  | [], _, _, _, _, _, _, _, h, _, _ => by simp at h
  | s :: l, [], n, j, f, f', u, hl, h, hj, he => by simp at hl
  | s :: l, g :: r, 0, j, f, f', u, hl, h, hj, he => by
    simp at h; subst h
    simp only [List.set_cons_zero, flat, he]
    rw [List.set_append_left _ _ (by simp [Lf.cells]; omega)]
    congr 1
    congr 1
    omega
  | s :: l, g :: r, n + 1, j, f, f', u, hl, h, hj, he => by
    simp only [List.set_cons_succ, flat]
    rw [flat_set l r n j f f' u (by simpa using hl) (by simpa using h) hj he, List.set_append_right _ _ (by simp [Lf.cells]; omega)]
    congr 2
    simp [Lf.cells]
    omega

section
variable {wc w2 : World} {lo e : Nat} {v : Value} {l : List Lf} {fs : List Value}

theorem Side.below (S : Side wc lo e v l fs) (hb : Below wc.heap.size wc w2) : Side w2 lo e v l fs :=
  S.grow ⟨hb.os, hb.tape, hb.output, hb.size, fun k hk _ => hb.block k hk⟩

/-- Where a leaf's bytes and the leaves lie. -/
theorem Side.ats (S : Side wc lo e v l fs) (he : e ≠ 5) {n : Nat} {f : Lf} (hl : l[n]? = some f) : ∃ b cap g m, v = .slice (some ⟨b, 0, none⟩) l.length cap ∧ fs[n]? = some (.slice (some ⟨g, 0, none⟩) f.bytes.length m) ∧ b ≠ g ∧ b < wc.heap.size ∧ g < wc.heap.size ∧ lo ≤ b ∧ lo ≤ g ∧ (∀ k, wc.frozen? ⟨b, k, none⟩ = false) ∧ (∀ k, wc.frozen? ⟨g, k, none⟩ = false) := by
  have hn : n < l.length := (List.getElem?_eq_some_iff.1 hl).1
  have hfn : n < fs.length := by rw [S.fsl]; exact hn
  obtain ⟨hy, hpos⟩ := S.bys n f fs[n] hl (List.getElem?_eq_getElem hfn)
  have hr := S.row
  have hx1 := hr.lt
  have hx2 := hy.lt
  rcases hr.2 with ⟨_, h0⟩ | ⟨b, cap, cur, hv, hb1, hb2, _⟩
  · omega
  rcases hy.2 with ⟨_, h0⟩ | ⟨g, m, cur2, hv2, hg1, hg2, _⟩
  · omega
  rw [hv2] at hy hx2
  rw [hv] at hr hx1
  refine ⟨b, cap, g, m, hv, by rw [List.getElem?_eq_getElem hfn, hv2], ?_, (hx1 b rfl).2, (hx2 g rfl).2, hb1, hg1, fun k => frozen_of_row wc b k cur e hb2, fun k => frozen_of_row wc g k cur2 5 hg2⟩
  rintro rfl
  rw [hb2] at hg2
  simp only [Option.some.injEq, Obj.cells.injEq] at hg2
  exact he hg2.2.1

theorem Side.byte (S : Side wc lo e v l fs) (he : e ≠ 5) {n k g m c : Nat} {f : Lf} (hl : l[n]? = some f) (hf : fs[n]? = some (.slice (some ⟨g, 0, none⟩) m c)) (u : Int) :
    Side (wc.setCell ⟨g, k, none⟩ (.int .u8 u)) lo e v (l.set n ⟨f.page, f.kind, f.write, f.bytes.set k u⟩) fs := by
  obtain ⟨b, cap, g', m', hv, hf', hbg, -⟩ := S.ats he hl
  rw [hf] at hf'
  simp only [Option.some.injEq, Value.slice.injEq, Addr.mk.injEq, and_true] at hf'
  obtain ⟨rfl, rfl, rfl⟩ := hf'
  have hn : n < l.length := (List.getElem?_eq_some_iff.1 hl).1
  refine ⟨?_, by rw [List.length_set]; exact S.fsl, ?_, S.apart⟩
  · rw [List.length_set, flat_set_same l fs n f ⟨f.page, f.kind, f.write, f.bytes.set k u⟩ hl (fun _ => rfl)]
    exact ownsRow_setCell_other S.row (by rw [hv]; simpa [Value.ownBlock] using hbg) _
  · intro i s f' h1 h2
    by_cases hi : i = n
    · subst hi
      rw [List.getElem?_set_self hn] at h1
      simp only [Option.some.injEq] at h1
      subst h1
      rw [hf] at h2
      simp only [Option.some.injEq] at h2
      subst h2
      obtain ⟨b1, b2⟩ := S.bys i f _ hl hf
      refine ⟨?_, by simpa using b2⟩
      have := (b1.stored k (.int .u8 u)).1
      simp only [List.length_set, List.map_set]
      exact this
    · rw [List.getElem?_set_ne (fun h => hi h.symm)] at h1
      obtain ⟨b1, b2⟩ := S.bys i s f' h1 h2
      exact ⟨ownsRow_setCell_other b1 (fun h => S.apart i n f' _ h2 hf hi (by rw [h]; rfl)) _, b2⟩

theorem Side.head (S : Side wc lo e v l fs) (he : e ≠ 5) {n j b cap m : Nat} {f f' : Lf} {u : Value} (hl : l[n]? = some f) (hv : v = .slice (some ⟨b, 0, none⟩) m cap) (hj : j < 4) (hc : ∀ v, f'.cells v = (f.cells v).set j u) (hb : f'.bytes = f.bytes) :
    Side (wc.setCell ⟨b, n * 4 + j, none⟩ u) lo e v (l.set n f') fs := by
  have hn : n < l.length := (List.getElem?_eq_some_iff.1 hl).1
  subst hv
  refine ⟨?_, by rw [List.length_set]; exact S.fsl, ?_, S.apart⟩
  · rw [List.length_set, flat_set l fs n j f f' u S.fsl hl hj hc]
    have hr := S.row
    have : m = l.length := by
      rcases hr.2 with ⟨h, _⟩ | ⟨g, cap', cur, h, _⟩
      · cases h
      · simp only [Value.slice.injEq] at h; exact h.2.1
    subst this
    exact (hr.stored (n * 4 + j) u).1
  · intro i s g h1 h2
    have key : ∃ s0, l[i]? = some s0 ∧ s0.bytes = s.bytes := by
      by_cases hi : i = n
      · subst hi
        rw [List.getElem?_set_self hn] at h1
        simp only [Option.some.injEq] at h1
        subst h1
        exact ⟨f, hl, hb.symm⟩
      · rw [List.getElem?_set_ne (fun h => hi h.symm)] at h1
        exact ⟨s, h1, rfl⟩
    obtain ⟨s0, h0, hbs⟩ := key
    obtain ⟨b1, b2⟩ := S.bys i s0 g h0 h2
    rw [hbs] at b1 b2
    refine ⟨ownsRow_setCell_other b1 (fun h => ?_) _, b2⟩
    obtain ⟨c1, z1, h3⟩ := Lib.ownsRow_kind b1 b h
    obtain ⟨c2, z2, h4⟩ := Lib.ownsRow_kind S.row b rfl
    rw [h3] at h4
    simp only [Option.some.injEq, Obj.cells.injEq] at h4
    exact he h4.2.1.symm
end

set_option maxRecDepth 100000 in
theorem Make_calls (a b : Int) (w : World) : Calls Try.prog 20 #[.int .i64 a, .int .i64 b] w fun e w' => e = .returned (.complex .f64 (fb a) (fb b)) ∧ w' = w := by
  have e3 : ∀ (p q : Nat) (w : World), Sem.run Try.prog (Builtin.complex_ #[77, 77] 38 #[.float .f64 p, .float .f64 q]) w = .ok (.complex .f64 p q) w := fun p q w => rfl
  have c1 : ∀ (z : Int) (w : World), Sem.run Try.prog (convert 3 77 (.int .i64 z)) w = .ok (.float .f64 (fb z)) w := fun z w => by
    have := run_convert_int_float (P := Try.prog) w 3 77 .i64 .f64 z (by rw [Try.underlying3]; rfl) Try.underlying77
    exact this
  go_enter Try.func20, Try.ntmps20
  go_wp2_with fail
  go_ret
  exact ⟨rfl, rfl⟩
end Go.Proofs.Ytdlnipimljpmgaa
