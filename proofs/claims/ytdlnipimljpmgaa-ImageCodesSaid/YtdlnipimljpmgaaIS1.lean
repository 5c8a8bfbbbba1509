/- Bytes and leaves as lists: what a slice of them reads as, and that it stays so while no old block is turned. -/
import Derived.WalkKit
import Derived.WalkSmall
import Derived.Test.YtdlnipimljpmgaaIP1
set_option linter.unusedVariables false
set_option linter.unusedSimpArgs false
set_option linter.unusedSectionVars false
set_option linter.unnecessarySimpa false
namespace Go.Im
open Go Go.RowKit

def Lf.cells (s : Lf) (f : Value) : List Value := [.int .u64 s.page, .int .i64 s.kind, .bool s.write, f]

/-- A slice of bytes reads so, in blocks below B. -/
def Bs (B : Nat) (w : World) (v : Value) (l : List Int) : Prop :=
  ∃ a cap, v = .slice a l.length cap ∧ (l = [] ∨ ∃ b off, a = some ⟨b, off, none⟩ ∧ b < B ∧ ∀ j u, (l.map (Value.int .u8))[j]? = some u → w.cell? ⟨b, off + j, none⟩ = some u)

theorem Bs.below {B : Nat} {w w' : World} {v : Value} {l : List Int} (h : Bs B w v l) (hb : Below B w w') : Bs B w' v l := by
  obtain ⟨a, cap, rfl, h3⟩ := h
  refine ⟨a, cap, rfl, ?_⟩
  rcases h3 with h3 | ⟨b, off, rfl, hB, hc⟩
  · exact .inl h3
  · exact .inr ⟨b, off, rfl, hB, fun j u hj => by rw [hb.cell (by exact hB)]; exact hc j u hj⟩

theorem Bs.up {B B' : Nat} {w : World} {v : Value} {l : List Int} (h : Bs B w v l) (hB : B ≤ B') : Bs B' w v l := by
  obtain ⟨a, cap, rfl, h3⟩ := h
  refine ⟨a, cap, rfl, ?_⟩
  rcases h3 with h3 | ⟨b, off, rfl, hb, hc⟩
  · exact .inl h3
  · exact .inr ⟨b, off, rfl, by omega, hc⟩

theorem Bs.one {B : Nat} {w : World} {v : Value} {l : List Int} (h : Bs B w v l) : v.oneCell' = true := by
  obtain ⟨a, cap, rfl, _⟩ := h
  rfl

def flat : List Lf → List Value → List Value
  | s :: l, f :: r => s.cells f ++ flat l r
  | _, _ => []

theorem flat_length : ∀ (l : List Lf) (fs : List Value), fs.length = l.length → (flat l fs).length = l.length * 4
  | [], _, _ => by simp [flat]
  | s :: l, [], h => by simp at h
  | s :: l, f :: r, h => by
    have := flat_length l r (by simpa using h)
    simp only [flat, List.length_append, this, List.length_cons]
    simp [Lf.cells]
    omega

theorem flat_append : ∀ (l : List Lf) (fs : List Value) (m : List Lf) (gs : List Value), fs.length = l.length → flat (l ++ m) (fs ++ gs) = flat l fs ++ flat m gs
  | [], [], _, _, _ => by simp [flat]
  | [], _ :: _, _, _, h => by simp at h
  | s :: l, [], _, _, h => by simp at h
  | s :: l, f :: r, m, gs, h => by
    simp only [List.cons_append, flat]
    rw [flat_append l r m gs (by simpa using h), List.append_assoc]

theorem flat_get : ∀ (l : List Lf) (fs : List Value) (i : Nat) (s : Lf) (f : Value) (j : Nat), l[i]? = some s → fs[i]? = some f → j < 4 → (flat l fs)[i * 4 + j]? = (s.cells f)[j]?
  | s :: l, f :: r, 0, s', f', j, h1, h2, hj => by
    simp at h1 h2; subst h1 h2
    simp only [flat]
    rw [List.getElem?_append_left (by simp [Lf.cells]; omega)]
    simp
  | s :: l, f :: r, i + 1, s', f', j, h1, h2, hj => by
    simp only [flat]
    rw [List.getElem?_append_right (by simp [Lf.cells]; omega)]
    have := flat_get l r i s' f' j (by simpa using h1) (by simpa using h2) hj
    rw [← this]
    congr 1
    simp [Lf.cells]
    omega
  | [], _, _, _, _, _, h, _, _ => by simp at h
  | _ :: _, [], _, _, _, _, _, h, _ => by simp at h

theorem flat_one : ∀ (l : List Lf) (fs : List Value), (∀ f ∈ fs, f.oneCell' = true) → ∀ u ∈ flat l fs, u.oneCell' = true
  | [], _, _, u, hu => by simp [flat] at hu
  | _ :: _, [], _, u, hu => by simp [flat] at hu
  | s :: l, f :: r, h, u, hu => by
    simp only [flat, List.mem_append] at hu
    rcases hu with hu | hu
    · simp [Lf.cells] at hu
      rcases hu with rfl | rfl | rfl | rfl <;> first | rfl | exact h _ (by simp)
    · exact flat_one l r (fun f hf => h f (by simp [hf])) u hu

/-- A leaf lies at a place, its bytes are the slice f. -/
def At (w : World) (b off : Nat) (s : Lf) (f : Value) : Prop :=
  w.cell? ⟨b, off, none⟩ = some (.int .u64 s.page) ∧ w.cell? ⟨b, off + 1, none⟩ = some (.int .i64 s.kind) ∧ w.cell? ⟨b, off + 2, none⟩ = some (.bool s.write) ∧ w.cell? ⟨b, off + 3, none⟩ = some f

theorem At.below {B : Nat} {w w' : World} {b off : Nat} {s : Lf} {f : Value} (h : At w b off s f) (hb : Below B w w') (hB : b < B) : At w' b off s f := by
  obtain ⟨h0, h1, h2, h3⟩ := h
  refine ⟨?_, ?_, ?_, ?_⟩ <;> rw [hb.cell (by exact hB)] <;> assumption

theorem At.mk {w : World} {b off : Nat} {s : Lf} {f : Value} (h : ∀ j, j < 4 → w.cell? ⟨b, off + j, none⟩ = (s.cells f)[j]?) : At w b off s f :=
  ⟨h 0 (by omega), h 1 (by omega), h 2 (by omega), h 3 (by omega)⟩

/-- A slice of leaves reads so, in blocks below B; fs: the slices of their bytes. -/
def LeavesF (B : Nat) (w : World) (v : Value) (l : List Lf) (fs : List Value) : Prop :=
  fs.length = l.length ∧ (∀ (i : Nat) (s : Lf) (f : Value), l[i]? = some s → fs[i]? = some f → Bs B w f s.bytes) ∧
  ∃ a cap, v = .slice a l.length cap ∧ (a = none ∧ l = [] ∨ ∃ b off, a = some ⟨b, off, none⟩ ∧ b < B ∧ ∀ j u, (flat l fs)[j]? = some u → w.cell? ⟨b, off + j, none⟩ = some u)

def Leaves (B : Nat) (w : World) (v : Value) (l : List Lf) : Prop := ∃ fs, LeavesF B w v l fs

theorem LeavesF.below {B : Nat} {w w' : World} {v : Value} {l : List Lf} {fs : List Value} (h : LeavesF B w v l fs) (hb : Below B w w') : LeavesF B w' v l fs := by
  obtain ⟨h1, h2, a, cap, rfl, h3⟩ := h
  refine ⟨h1, fun i s f g1 g2 => (h2 i s f g1 g2).below hb, a, cap, rfl, ?_⟩
  rcases h3 with h3 | ⟨b, off, rfl, hB, hc⟩
  · exact .inl h3
  · exact .inr ⟨b, off, rfl, hB, fun j u hj => by rw [hb.cell (by exact hB)]; exact hc j u hj⟩

theorem LeavesF.up {B B' : Nat} {w : World} {v : Value} {l : List Lf} {fs : List Value} (h : LeavesF B w v l fs) (hB : B ≤ B') : LeavesF B' w v l fs := by
  obtain ⟨h1, h2, a, cap, rfl, h3⟩ := h
  refine ⟨h1, fun i s f g1 g2 => (h2 i s f g1 g2).up hB, a, cap, rfl, ?_⟩
  rcases h3 with h3 | ⟨b, off, rfl, hb, hc⟩
  · exact .inl h3
  · exact .inr ⟨b, off, rfl, by omega, hc⟩

theorem LeavesF.at {B : Nat} {w : World} {b off n cap : Nat} {l : List Lf} {fs : List Value} (h : LeavesF B w (.slice (some ⟨b, off, none⟩) n cap) l fs) {i : Nat} {s : Lf} {f : Value} (hs : l[i]? = some s) (hf : fs[i]? = some f) : b < B ∧ At w b (off + i * 4) s f := by
  obtain ⟨h1, h2, a, cap', he, h3⟩ := h
  simp only [Value.slice.injEq] at he
  obtain ⟨rfl, _, _⟩ := he
  rcases h3 with ⟨h3, _⟩ | ⟨b', off', he, hB, hc⟩
  · cases h3
  · simp only [Option.some.injEq, Addr.mk.injEq] at he
    obtain ⟨rfl, rfl, _⟩ := he
    refine ⟨hB, At.mk fun j hj => ?_⟩
    have hg := flat_get l fs i s f j hs hf hj
    obtain ⟨u, hu⟩ : ∃ u, (s.cells f)[j]? = some u := by
      have : j < (s.cells f).length := by simp [Lf.cells]; omega
      exact ⟨_, List.getElem?_eq_getElem this⟩
    rw [hu] at hg ⊢
    rw [Nat.add_assoc]
    exact hc _ u hg

theorem LeavesF.shape {B : Nat} {w : World} {v : Value} {l : List Lf} {fs : List Value} (h : LeavesF B w v l fs) : ∃ a cap, v = .slice a l.length cap ∧ (l ≠ [] → ∃ b off, a = some ⟨b, off, none⟩) := by
  obtain ⟨h1, h2, a, cap, rfl, h3⟩ := h
  refine ⟨a, cap, rfl, fun hne => ?_⟩
  rcases h3 with ⟨_, h3⟩ | ⟨b, off, rfl, hB, hc⟩
  · exact absurd h3 hne
  · exact ⟨b, off, rfl⟩

theorem cell_box1 {w : World} {c1 : Array Value} {t q i : Nat} {o : Obj} : (((w.alloc (.cells c1 t)).alloc o).drewN q).cell? ⟨w.heap.size, i, none⟩ = c1[i]? := by
  have h : (((w.alloc (.cells c1 t)).alloc o).drewN q).heap[w.heap.size]? = some (.cells c1 t) := by
    show ((w.heap.push (.cells c1 t)).push o)[w.heap.size]? = _
    rw [Array.getElem?_push, if_neg (by simp), Array.getElem?_push, if_pos rfl]
  simp only [World.cell?, h]
  rfl

theorem cell_box2 {w : World} {c1 : Array Value} {t q i : Nat} {o : Obj} : (((w.alloc o).alloc (.cells c1 t)).drewN q).cell? ⟨w.heap.size + 1, i, none⟩ = c1[i]? := by
  have h : (((w.alloc o).alloc (.cells c1 t)).drewN q).heap[w.heap.size + 1]? = some (.cells c1 t) := by
    show ((w.heap.push o).push (.cells c1 t))[w.heap.size + 1]? = _
    rw [Array.getElem?_push, if_pos (by simp)]
  simp only [World.cell?, h]
  rfl

theorem Bs.owned {w : World} {base e n : Nat} {v : Value} {l : List Int} (h : w.ownsRow base e 1 v n (l.map (Value.int .u8))) : Bs w.heap.size w v l := by
  have hl := h.1
  simp at hl
  subst hl
  have hlt := h.lt
  have hcells := @World.ownsRow.cells _ _ _ _ _ _ _ h
  rcases h.2 with ⟨rfl, h0⟩ | ⟨g, cap, cur, rfl, h1, h2, _⟩
  · exact ⟨none, 0, by rw [h0], .inl (List.eq_nil_of_length_eq_zero h0)⟩
  · refine ⟨_, cap, rfl, .inr ⟨g, 0, rfl, (hlt g rfl).2, fun j u hj => ?_⟩⟩
    have := hcells (g := g) rfl j u hj
    rw [Addr.add_lit] at this
    exact this

theorem LeavesF.owned {w : World} {base e n : Nat} {v : Value} {l : List Lf} {fs : List Value} (h : w.ownsRow base e 4 v n (flat l fs)) (hf : fs.length = l.length)
    (hb : ∀ (i : Nat) (s : Lf) (f : Value), l[i]? = some s → fs[i]? = some f → Bs w.heap.size w f s.bytes) : LeavesF w.heap.size w v l fs := by
  have hl := h.1
  rw [flat_length l fs hf] at hl
  have hl : l.length = n := by omega
  subst hl
  have hlt := h.lt
  have hcells := @World.ownsRow.cells _ _ _ _ _ _ _ h
  rcases h.2 with ⟨rfl, h0⟩ | ⟨g, cap, cur, rfl, h1, h2, _⟩
  · exact ⟨hf, hb, none, 0, by rw [h0], .inl ⟨rfl, List.eq_nil_of_length_eq_zero h0⟩⟩
  · refine ⟨hf, hb, _, cap, rfl, .inr ⟨g, 0, rfl, (hlt g rfl).2, fun j u hj => ?_⟩⟩
    have := hcells (g := g) rfl j u hj
    rw [Addr.add_lit] at this
    exact this


theorem Bs.shape {B : Nat} {w : World} {v : Value} {l : List Int} (h : Bs B w v l) : ∃ a c, v = .slice a l.length c := by
  obtain ⟨a, c, h, _⟩ := h
  exact ⟨a, c, h⟩

theorem Bs.at {B : Nat} {w : World} {a : Option Addr} {n c : Nat} {l : List Int} (h : Bs B w (.slice a n c) l) {j : Nat} (hj : j < l.length) : ∃ b off u, a = some ⟨b, off, none⟩ ∧ b < B ∧ l[j]? = some u ∧ w.cell? ⟨b, off + j, none⟩ = some (.int .u8 u) := by
  obtain ⟨a', c', he, h3⟩ := h
  cases he
  rcases h3 with rfl | ⟨b, off, rfl, hB, hc⟩
  · simp at hj
  · exact ⟨b, off, l[j], rfl, hB, List.getElem?_eq_getElem hj, hc j _ (by simp [hj])⟩


def CapOk : Value → Prop
  | .slice _ n c => n ≤ c
  | _ => False

end Go.Im
