/- law 35's Made: what it keeps. -/
import Derived.Test.YtdlnipimljpmgaaIW15
import Derived.Test.YtdlnipimljpmgaaIW9
import Derived.Lib.OwnKind
set_option linter.unusedVariables false
set_option linter.unusedSimpArgs false
set_option linter.unusedSectionVars false
set_option linter.unnecessarySimpa false
namespace Go.Proofs.Ytdlnipimljpmgaa
open Go Go.RowKit Go.Im Go.Lib

/-- One image's leaves, as the call makes them. -/
structure Side (wc : World) (lo e : Nat) (v : Value) (l : List Lf) (fs : List Value) : Prop where
  row : wc.ownsRow lo e 4 v l.length (flat l fs)
  fsl : fs.length = l.length
  bys : ∀ (i : Nat) (s : Lf) (f : Value), l[i]? = some s → fs[i]? = some f → wc.ownsRow lo 5 1 f s.bytes.length (s.bytes.map (Value.int .u8)) ∧ 0 < s.bytes.length
  apart : ∀ (i j : Nat) (f g : Value), fs[i]? = some f → fs[j]? = some g → i ≠ j → f.ownBlock ≠ g.ownBlock

theorem Side.kept {wc w2 : World} {lo e : Nat} {v : Value} {l : List Lf} {fs : List Value} {row : Option Nat} (S : Side wc lo e v l fs) (hg : wc.grownBy w2 row)
    (hr : ∀ g, row = some g → ∃ cs t fz, wc.heap[g]? = some (.cells cs t fz) ∧ t ≠ e ∧ t ≠ 5) : Side w2 lo e v l fs := by
  have key : ∀ {e' : Nat} {size n : Nat} {u : Value} {xs : List Value}, wc.ownsRow lo e' size u n xs → (e' = e ∨ e' = 5) → w2.ownsRow lo e' size u n xs := by
    intro e' size n u xs h he
    refine h.kept hg ?_
    cases hu : u.ownBlock with
    | none => exact .inl rfl
    | some g =>
      right
      intro hrow
      obtain ⟨cs, t, fz, h1, h2, h3⟩ := hr g hrow.symm
      obtain ⟨c', fz', h4⟩ := Lib.ownsRow_kind h g hu
      rw [h1] at h4
      simp only [Option.some.injEq, Obj.cells.injEq] at h4
      rcases he with rfl | rfl
      · exact h2 h4.2.1
      · exact h3 h4.2.1
  exact ⟨key S.row (.inl rfl), S.fsl, fun i s f a b => ⟨key (S.bys i s f a b).1 (.inr rfl), (S.bys i s f a b).2⟩, S.apart⟩

theorem Side.grow {wc w2 : World} {lo e : Nat} {v : Value} {l : List Lf} {fs : List Value} (S : Side wc lo e v l fs) (hg : wc.grownBy w2 none) : Side w2 lo e v l fs :=
  S.kept hg (fun g h => by cases h)

theorem Side.push {wc w5 : World} {lo e : Nat} {v v' : Value} {l : List Lf} {fs : List Value} {s : Lf} {f : Value} (S : Side wc lo e v l fs) (he : e ≠ 5) (hg : wc.grownBy w5 v.ownBlock)
    (hown : w5.ownsRow lo e 4 v' (l.length + 1) (flat l fs ++ s.cells f)) (hf : w5.ownsRow lo 5 1 f s.bytes.length (s.bytes.map (Value.int .u8))) (hs : 0 < s.bytes.length) (hap : ∀ g ∈ fs, g.ownBlock ≠ f.ownBlock) :
    Side w5 lo e v' (l ++ [s]) (fs ++ [f]) := by
  refine ⟨?_, by simp [S.fsl], ?_, ?_⟩
  · rw [flat_append l fs [s] [f] S.fsl]
    simpa [flat] using hown
  · intro i s' f' h1 h2
    by_cases hi : i < l.length
    · rw [List.getElem?_append_left hi] at h1
      rw [List.getElem?_append_left (by rw [S.fsl]; exact hi)] at h2
      obtain ⟨b1, b2⟩ := S.bys i s' f' h1 h2
      refine ⟨b1.kept hg ?_, b2⟩
      cases hu : f'.ownBlock with
      | none => exact .inl rfl
      | some g =>
        right
        intro hrow
        obtain ⟨c1, z1, h3⟩ := Lib.ownsRow_kind b1 g hu
        obtain ⟨c2, z2, h4⟩ := Lib.ownsRow_kind S.row g hrow.symm
        rw [h3] at h4
        simp only [Option.some.injEq, Obj.cells.injEq] at h4
        exact he h4.2.1.symm
    · have hik : i = l.length := by
        have := (List.getElem?_eq_some_iff.1 h1).1
        simp at this
        omega
      subst hik
      rw [List.getElem?_append_right (Nat.le_refl _)] at h1
      rw [List.getElem?_append_right (by rw [S.fsl]; exact Nat.le_refl _), S.fsl] at h2
      simp at h1 h2
      subst h1 h2
      exact ⟨hf, hs⟩
  · intro i j a b h1 h2 hne
    by_cases hi : i < fs.length
    · rw [List.getElem?_append_left hi] at h1
      by_cases hj : j < fs.length
      · rw [List.getElem?_append_left hj] at h2
        exact S.apart i j a b h1 h2 hne
      · rw [List.getElem?_append_right (by omega)] at h2
        have := (List.getElem?_eq_some_iff.1 h2).1
        simp at this
        have : j - fs.length = 0 := by omega
        rw [this] at h2
        simp at h2
        subst h2
        exact hap a (List.mem_of_getElem? h1)
    · rw [List.getElem?_append_right (by omega)] at h1
      have := (List.getElem?_eq_some_iff.1 h1).1
      simp at this
      have hz : i - fs.length = 0 := by omega
      rw [hz] at h1
      simp at h1
      subst h1
      by_cases hj : j < fs.length
      · rw [List.getElem?_append_left hj] at h2
        exact fun e => hap b (List.mem_of_getElem? h2) e.symm
      · rw [List.getElem?_append_right (by omega)] at h2
        have := (List.getElem?_eq_some_iff.1 h2).1
        simp at this
        omega

theorem Side.leaves {wc : World} {lo e : Nat} {v : Value} {l : List Lf} {fs : List Value} (S : Side wc lo e v l fs) : LeavesF wc.heap.size wc v l fs ∧ ∀ f ∈ fs, CapOk f := by
  refine ⟨LeavesF.owned S.row S.fsl fun i s f a b => Bs.owned (S.bys i s f a b).1, fun f hf => ?_⟩
  obtain ⟨i, hi⟩ := List.getElem?_of_mem hf
  have hlt : i < l.length := by
    have := (List.getElem?_eq_some_iff.1 hi).1
    rw [← S.fsl]; exact this
  obtain ⟨b1, b2⟩ := S.bys i _ f (List.getElem?_eq_getElem hlt) hi
  rcases b1.2 with ⟨_, h0⟩ | ⟨g, cap, cur, rfl, _, _, hcap, _⟩
  · omega
  · exact hcap

/-- What Made has made so far. -/
structure Mk (w wc : World) (on : Bool) (root asid : Int) (la : List Lf) (fa : List Value) (va : Value) (lb : List Lf) (fb : List Value) (vb : Value) : Prop where
  r1 : wc.heap[w.heap.size]? = some img0
  r2 : wc.heap[w.heap.size + 1]? = some (.cells #[.bool false, .int .u64 0, .int .i64 0, .slice none 0 0] 29)
  a : wc.heap[w.heap.size + 2]? = some (.cells #[.bool on, .int .u64 root, .int .i64 asid, va] 26)
  b : wc.heap[w.heap.size + 3]? = some (.cells #[.bool on, .int .u64 root, .int .i64 asid, vb] 29)
  sa : Side wc (w.heap.size + 4) 58 va la fa
  sb : Side wc (w.heap.size + 4) 68 vb lb fb
  bl : Below w.heap.size w wc
  sz : w.heap.size + 4 ≤ wc.heap.size

section
variable {w wc w2 : World} {on : Bool} {root asid : Int} {la lb : List Lf} {fa fb : List Value} {va vb : Value}

theorem Mk.grow (M : Mk w wc on root asid la fa va lb fb vb) (hg : wc.grownBy w2 none) : Mk w w2 on root asid la fa va lb fb vb := by
  have hs := M.sz
  refine ⟨?_, ?_, ?_, ?_, M.sa.grow hg, M.sb.grow hg, M.bl.grown hg (by omega) (by simp), Nat.le_trans hs hg.size⟩
  · rw [hg.block _ (by omega) (by simp)]; exact M.r1
  · rw [hg.block _ (by omega) (by simp)]; exact M.r2
  · rw [hg.block _ (by omega) (by simp)]; exact M.a
  · rw [hg.block _ (by omega) (by simp)]; exact M.b

theorem Mk.pushA {va' : Value} {s : Lf} {f : Value} (M : Mk w wc on root asid la fa va lb fb vb) (hg : wc.grownBy w2 va.ownBlock) (hown : w2.ownsRow (w.heap.size + 4) 58 4 va' (la.length + 1) (flat la fa ++ s.cells f))
    (hf : w2.ownsRow (w.heap.size + 4) 5 1 f s.bytes.length (s.bytes.map (Value.int .u8))) (hs : 0 < s.bytes.length) (hap : ∀ g ∈ fa, g.ownBlock ≠ f.ownBlock) :
    Mk w (w2.setCell ⟨w.heap.size + 2, 3, none⟩ va') on root asid (la ++ [s]) (fa ++ [f]) va' lb fb vb := by
  have hz := M.sz
  have hrow : ∀ g, va.ownBlock = some g → w.heap.size + 4 ≤ g ∧ g < wc.heap.size := M.sa.row.lt
  have hk : ∀ m, m < w.heap.size + 4 → w2.heap[m]? = wc.heap[m]? := fun m hm => hg.block m (by omega) (fun e => by have := (hrow m e.symm).1; omega)
  have hb2 : w2.heap[w.heap.size + 2]? = some (.cells #[.bool on, .int .u64 root, .int .i64 asid, va] 26) := (hk _ (by omega)).trans M.a
  have hset := grown_set w2 (w.heap.size + 2) 3 va'
  have hkind : ∀ (e : Nat), e ≠ 26 → ∀ g, (some (w.heap.size + 2) : Option Nat) = some g → ∃ cs t fz, w2.heap[g]? = some (.cells cs t fz) ∧ t ≠ e ∧ t ≠ 5 := fun e he g hg' => by
    cases hg'
    exact ⟨_, 26, _, hb2, fun h => he h.symm, by decide⟩
  have sb2 : Side w2 (w.heap.size + 4) 68 vb lb fb := M.sb.kept hg (fun g hg' => by
    obtain ⟨c, z, h⟩ := Lib.ownsRow_kind M.sa.row g hg'
    exact ⟨c, 58, z, h, by decide, by decide⟩)
  refine ⟨?_, ?_, ?_, ?_, (M.sa.push (by decide) hg hown hf hs hap).kept hset (hkind 58 (by decide)), sb2.kept hset (hkind 68 (by decide)), ?_, ?_⟩
  · rw [heap_setCell_other _ _ _ _ (by simp), hk _ (by omega)]; exact M.r1
  · rw [heap_setCell_other _ _ _ _ (by simp), hk _ (by omega)]; exact M.r2
  · rw [heap_setCell_same w2 _ 3 _ 26 _ hb2]; rfl
  · rw [heap_setCell_other _ _ _ _ (by simp), hk _ (by omega)]; exact M.b
  · exact (M.bl.grown hg (by omega) (fun k hk' => by have := (hrow k hk').1; omega)).setCell (by show _ ≤ w.heap.size + 2; omega) _
  · have := hg.size
    simp
    omega

theorem Mk.pushB {vb' : Value} {s : Lf} {f : Value} (M : Mk w wc on root asid la fa va lb fb vb) (hg : wc.grownBy w2 vb.ownBlock) (hown : w2.ownsRow (w.heap.size + 4) 68 4 vb' (lb.length + 1) (flat lb fb ++ s.cells f))
    (hf : w2.ownsRow (w.heap.size + 4) 5 1 f s.bytes.length (s.bytes.map (Value.int .u8))) (hs : 0 < s.bytes.length) (hap : ∀ g ∈ fb, g.ownBlock ≠ f.ownBlock) :
    Mk w (w2.setCell ⟨w.heap.size + 3, 3, none⟩ vb') on root asid la fa va (lb ++ [s]) (fb ++ [f]) vb' := by
  have hz := M.sz
  have hrow : ∀ g, vb.ownBlock = some g → w.heap.size + 4 ≤ g ∧ g < wc.heap.size := M.sb.row.lt
  have hk : ∀ m, m < w.heap.size + 4 → w2.heap[m]? = wc.heap[m]? := fun m hm => hg.block m (by omega) (fun e => by have := (hrow m e.symm).1; omega)
  have hb2 : w2.heap[w.heap.size + 3]? = some (.cells #[.bool on, .int .u64 root, .int .i64 asid, vb] 29) := (hk _ (by omega)).trans M.b
  have hset := grown_set w2 (w.heap.size + 3) 3 vb'
  have hkind : ∀ (e : Nat), e ≠ 29 → ∀ g, (some (w.heap.size + 3) : Option Nat) = some g → ∃ cs t fz, w2.heap[g]? = some (.cells cs t fz) ∧ t ≠ e ∧ t ≠ 5 := fun e he g hg' => by
    cases hg'
    exact ⟨_, 29, _, hb2, fun h => he h.symm, by decide⟩
  have sa2 : Side w2 (w.heap.size + 4) 58 va la fa := M.sa.kept hg (fun g hg' => by
    obtain ⟨c, z, h⟩ := Lib.ownsRow_kind M.sb.row g hg'
    exact ⟨c, 68, z, h, by decide, by decide⟩)
  refine ⟨?_, ?_, ?_, ?_, sa2.kept hset (hkind 58 (by decide)), (M.sb.push (by decide) hg hown hf hs hap).kept hset (hkind 68 (by decide)), ?_, ?_⟩
  · rw [heap_setCell_other _ _ _ _ (by simp), hk _ (by omega)]; exact M.r1
  · rw [heap_setCell_other _ _ _ _ (by simp), hk _ (by omega)]; exact M.r2
  · rw [heap_setCell_other _ _ _ _ (by simp), hk _ (by omega)]; exact M.a
  · rw [heap_setCell_same w2 _ 3 _ 29 _ hb2]; rfl
  · exact (M.bl.grown hg (by omega) (fun k hk' => by have := (hrow k hk').1; omega)).setCell (by show _ ≤ w.heap.size + 3; omega) _
  · have := hg.size
    simp
    omega
end

/-! ### What comes in -/

structure Ln where
  page : Int
  kind : Int
  write : Bool
  ats : List Int
  b : List Int
  short : Bool

def Ln.cells (s : Ln) (f g : Value) : List Value := [.int .u64 s.page, .int .i64 s.kind, .bool s.write, f, g, .bool s.short]

/-- A slice of the law's leaves reads so, in blocks below B. -/
def Lns (B : Nat) (w : World) (v : Value) (l : List Ln) : Prop :=
  ∃ a cap, v = .slice a l.length cap ∧ (l = [] ∨ ∃ b off, a = some ⟨b, off, none⟩ ∧ b < B ∧ ∀ (i : Nat) (s : Ln), l[i]? = some s → (0 ≤ s.page ∧ s.page < 18446744073709551616) ∧ Byte s.b ∧ s.ats.length ≤ 9223372036854775807 ∧ s.b.length ≤ 9223372036854775807 ∧
    ∃ f g, (∀ j, j < 6 → w.cell? ⟨b, off + i * 6 + j, none⟩ = (s.cells f g)[j]?) ∧ Is B w f s.ats ∧ Bs B w g s.b)

theorem Is.below {B : Nat} {w w' : World} {v : Value} {l : List Int} (h : Is B w v l) (hb : Below B w w') : Is B w' v l := by
  obtain ⟨a, cap, rfl, h3⟩ := h
  refine ⟨a, cap, rfl, ?_⟩
  rcases h3 with h3 | ⟨b, off, rfl, hB, hc⟩
  · exact .inl h3
  · exact .inr ⟨b, off, rfl, hB, fun j u hj => by rw [hb.cell (by exact hB)]; exact hc j u hj⟩

theorem Lns.at {B : Nat} {w w' : World} {x : Option Addr} {n c : Nat} {l : List Ln} (h : Lns B w (.slice x n c) l) (hb : Below B w w') {k : Nat} (hk : k < n) :
    ∃ b o s fa n1 c1 ga n2 c2, x = some ⟨b, o, none⟩ ∧ l[k]? = some s ∧ b < B ∧ (0 ≤ s.page ∧ s.page < 18446744073709551616) ∧ Byte s.b ∧ s.ats.length = n1 ∧ n1 ≤ 9223372036854775807 ∧ s.b.length = n2 ∧ n2 ≤ 9223372036854775807 ∧
      w'.cell? ⟨b, o + k * 6, none⟩ = some (.int .u64 s.page) ∧ w'.cell? ⟨b, o + k * 6 + 1, none⟩ = some (.int .i64 s.kind) ∧ w'.cell? ⟨b, o + k * 6 + 2, none⟩ = some (.bool s.write) ∧ w'.cell? ⟨b, o + k * 6 + 3, none⟩ = some (.slice fa n1 c1) ∧
      w'.cell? ⟨b, o + k * 6 + 4, none⟩ = some (.slice ga n2 c2) ∧ w'.cell? ⟨b, o + k * 6 + 5, none⟩ = some (.bool s.short) ∧ Is B w' (.slice fa n1 c1) s.ats ∧ Bs B w' (.slice ga n2 c2) s.b := by
  obtain ⟨a, cap, he, h3⟩ := h
  simp only [Value.slice.injEq] at he
  obtain ⟨rfl, rfl, rfl⟩ := he
  rcases h3 with h3 | ⟨b, off, rfl, hB, h4⟩
  · rw [h3] at hk; simp at hk
  · obtain ⟨p1, p2, p3, p4, f, g, hc, hi, hbs⟩ := h4 k l[k] (List.getElem?_eq_getElem hk)
    obtain ⟨fa, c1, rfl, _⟩ := id hi
    obtain ⟨ga, c2, rfl, _⟩ := id hbs
    have hc' : ∀ j, j < 6 → w'.cell? ⟨b, off + k * 6 + j, none⟩ = (l[k].cells (.slice fa l[k].ats.length c1) (.slice ga l[k].b.length c2))[j]? := fun j hj => by rw [hb.cell (by exact hB)]; exact hc j hj
    exact ⟨b, off, l[k], fa, _, c1, ga, _, c2, rfl, List.getElem?_eq_getElem hk, hB, p1, p2, rfl, p3, rfl, p4, hc' 0 (by omega), hc' 1 (by omega), hc' 2 (by omega), hc' 3 (by omega), hc' 4 (by omega), hc' 5 (by omega), hi.below hb, hbs.below hb⟩
end Go.Proofs.Ytdlnipimljpmgaa
