/- A map that the call makes, of numbers to true: what it holds as a function. -/
import Derived.WalkKit
import Derived.WalkSmall
import Derived.Maps.OwnSet
import Derived.Maps.OwnOps
set_option linter.unusedVariables false
set_option linter.unusedSimpArgs false
set_option linter.unusedSectionVars false
namespace Go.Tw
open Go Go.RowKit

structure St where
  kind : Int
  guest : Int
  addr : Int
  size : Int
  value : Int
  page : Int
  on : Bool
  asid : Int
  what : Int
  set : Int
  way : Int
  fails : List Bool
deriving DecidableEq

def St.cells (s : St) (f : Value) : List Value :=
  [.int .i64 s.kind, .int .i64 s.guest, .int .u64 s.addr, .int .i64 s.size, .int .u64 s.value, .int .i64 s.page, .bool s.on, .int .i64 s.asid, .int .i64 s.what, .int .i64 s.set, .int .i64 s.way, f]

def St.val (s : St) (f : Value) : Value := .agg #[.int .i64 s.kind, .int .i64 s.guest, .int .u64 s.addr, .int .i64 s.size, .int .u64 s.value, .int .i64 s.page, .bool s.on, .int .i64 s.asid, .int .i64 s.what, .int .i64 s.set, .int .i64 s.way, f]

/-- A slice of bools reads so, in blocks below B. -/
def Bools (B : Nat) (w : World) (v : Value) (l : List Bool) : Prop :=
  ∃ a cap, v = .slice a l.length cap ∧ (l = [] ∨ ∃ b off, a = some ⟨b, off, none⟩ ∧ b < B ∧ ∀ j u, (l.map Value.bool)[j]? = some u → w.cell? ⟨b, off + j, none⟩ = some u)

theorem Bools.below {B : Nat} {w w' : World} {v : Value} {l : List Bool} (h : Bools B w v l) (hb : Below B w w') : Bools B w' v l := by
  obtain ⟨a, cap, rfl, h3⟩ := h
  refine ⟨a, cap, rfl, ?_⟩
  rcases h3 with h3 | ⟨b, off, rfl, hB, hc⟩
  · exact .inl h3
  · exact .inr ⟨b, off, rfl, hB, fun j u hj => by rw [hb.cell (by exact hB)]; exact hc j u hj⟩

theorem Bools.up {B B' : Nat} {w : World} {v : Value} {l : List Bool} (h : Bools B w v l) (hB : B ≤ B') : Bools B' w v l := by
  obtain ⟨a, cap, rfl, h3⟩ := h
  refine ⟨a, cap, rfl, ?_⟩
  rcases h3 with h3 | ⟨b, off, rfl, hb, hc⟩
  · exact .inl h3
  · exact .inr ⟨b, off, rfl, by omega, hc⟩

theorem Bools.one {B : Nat} {w : World} {v : Value} {l : List Bool} (h : Bools B w v l) : v.oneCell' = true := by
  obtain ⟨a, cap, rfl, _⟩ := h
  rfl

def flat : List St → List Value → List Value
  | s :: l, f :: r => s.cells f ++ flat l r
  | _, _ => []

theorem flat_length : ∀ (l : List St) (fs : List Value), fs.length = l.length → (flat l fs).length = l.length * 12
  | [], _, _ => by simp [flat]
  | s :: l, [], h => by simp at h
  | s :: l, f :: r, h => by
    have := flat_length l r (by simpa using h)
    simp only [flat, List.length_append, this, List.length_cons]
    simp [St.cells]
    omega

theorem flat_append : ∀ (l : List St) (fs : List Value) (m : List St) (gs : List Value), fs.length = l.length → flat (l ++ m) (fs ++ gs) = flat l fs ++ flat m gs
  | [], [], _, _, _ => by simp [flat]
  | [], _ :: _, _, _, h => by simp at h
  | s :: l, [], _, _, h => by simp at h
  | s :: l, f :: r, m, gs, h => by
    simp only [List.cons_append, flat]
    rw [flat_append l r m gs (by simpa using h), List.append_assoc]

theorem flat_get : ∀ (l : List St) (fs : List Value) (i : Nat) (s : St) (f : Value) (j : Nat), l[i]? = some s → fs[i]? = some f → j < 12 → (flat l fs)[i * 12 + j]? = (s.cells f)[j]?
  | s :: l, f :: r, 0, s', f', j, h1, h2, hj => by
    simp at h1 h2; subst h1 h2
    simp only [flat]
    rw [List.getElem?_append_left (by simp [St.cells]; omega)]
    simp
  | s :: l, f :: r, i + 1, s', f', j, h1, h2, hj => by
    simp only [flat]
    rw [List.getElem?_append_right (by simp [St.cells]; omega)]
    have := flat_get l r i s' f' j (by simpa using h1) (by simpa using h2) hj
    rw [← this]
    congr 1
    simp [St.cells]
    omega
  | [], _, _, _, _, _, h, _, _ => by simp at h
  | _ :: _, [], _, _, _, _, _, h, _ => by simp at h

theorem flat_one : ∀ (l : List St) (fs : List Value), (∀ f ∈ fs, f.oneCell' = true) → ∀ u ∈ flat l fs, u.oneCell' = true
  | [], _, _, u, hu => by simp [flat] at hu
  | _ :: _, [], _, u, hu => by simp [flat] at hu
  | s :: l, f :: r, h, u, hu => by
    simp only [flat, List.mem_append] at hu
    rcases hu with hu | hu
    · simp [St.cells] at hu
      rcases hu with rfl | rfl | rfl | rfl | rfl | rfl | rfl | rfl | rfl | rfl | rfl | rfl <;> first | rfl | exact h _ (by simp)
    · exact flat_one l r (fun f hf => h f (by simp [hf])) u hu

/-- A step lies at a place, its list of fails is the slice f. -/
def At (w : World) (b off : Nat) (s : St) (f : Value) : Prop :=
  w.cell? ⟨b, off, none⟩ = some (.int .i64 s.kind) ∧ w.cell? ⟨b, off + 1, none⟩ = some (.int .i64 s.guest) ∧ w.cell? ⟨b, off + 2, none⟩ = some (.int .u64 s.addr) ∧
  w.cell? ⟨b, off + 3, none⟩ = some (.int .i64 s.size) ∧ w.cell? ⟨b, off + 4, none⟩ = some (.int .u64 s.value) ∧ w.cell? ⟨b, off + 5, none⟩ = some (.int .i64 s.page) ∧
  w.cell? ⟨b, off + 6, none⟩ = some (.bool s.on) ∧ w.cell? ⟨b, off + 7, none⟩ = some (.int .i64 s.asid) ∧ w.cell? ⟨b, off + 8, none⟩ = some (.int .i64 s.what) ∧
  w.cell? ⟨b, off + 9, none⟩ = some (.int .i64 s.set) ∧ w.cell? ⟨b, off + 10, none⟩ = some (.int .i64 s.way) ∧ w.cell? ⟨b, off + 11, none⟩ = some f

theorem At.below {B : Nat} {w w' : World} {b off : Nat} {s : St} {f : Value} (h : At w b off s f) (hb : Below B w w') (hB : b < B) : At w' b off s f := by
  obtain ⟨h0, h1, h2, h3, h4, h5, h6, h7, h8, h9, h10, h11⟩ := h
  refine ⟨?_, ?_, ?_, ?_, ?_, ?_, ?_, ?_, ?_, ?_, ?_, ?_⟩ <;> rw [hb.cell (by exact hB)] <;> assumption

theorem At.mk {w : World} {b off : Nat} {s : St} {f : Value} (h : ∀ j, j < 12 → w.cell? ⟨b, off + j, none⟩ = (s.cells f)[j]?) : At w b off s f :=
  ⟨h 0 (by omega), h 1 (by omega), h 2 (by omega), h 3 (by omega), h 4 (by omega), h 5 (by omega), h 6 (by omega), h 7 (by omega), h 8 (by omega), h 9 (by omega), h 10 (by omega), h 11 (by omega)⟩

/-- A slice of steps reads so, in blocks below B; fs: the slices of their fails. -/
def StepsF (B : Nat) (w : World) (v : Value) (l : List St) (fs : List Value) : Prop :=
  fs.length = l.length ∧ (∀ (i : Nat) (s : St) (f : Value), l[i]? = some s → fs[i]? = some f → Bools B w f s.fails) ∧
  ∃ a cap, v = .slice a l.length cap ∧ (a = none ∧ l = [] ∨ ∃ b off, a = some ⟨b, off, none⟩ ∧ b < B ∧ ∀ j u, (flat l fs)[j]? = some u → w.cell? ⟨b, off + j, none⟩ = some u)

def Steps (B : Nat) (w : World) (v : Value) (l : List St) : Prop := ∃ fs, StepsF B w v l fs

theorem StepsF.below {B : Nat} {w w' : World} {v : Value} {l : List St} {fs : List Value} (h : StepsF B w v l fs) (hb : Below B w w') : StepsF B w' v l fs := by
  obtain ⟨h1, h2, a, cap, rfl, h3⟩ := h
  refine ⟨h1, fun i s f g1 g2 => (h2 i s f g1 g2).below hb, a, cap, rfl, ?_⟩
  rcases h3 with h3 | ⟨b, off, rfl, hB, hc⟩
  · exact .inl h3
  · exact .inr ⟨b, off, rfl, hB, fun j u hj => by rw [hb.cell (by exact hB)]; exact hc j u hj⟩

theorem StepsF.up {B B' : Nat} {w : World} {v : Value} {l : List St} {fs : List Value} (h : StepsF B w v l fs) (hB : B ≤ B') : StepsF B' w v l fs := by
  obtain ⟨h1, h2, a, cap, rfl, h3⟩ := h
  refine ⟨h1, fun i s f g1 g2 => (h2 i s f g1 g2).up hB, a, cap, rfl, ?_⟩
  rcases h3 with h3 | ⟨b, off, rfl, hb, hc⟩
  · exact .inl h3
  · exact .inr ⟨b, off, rfl, by omega, hc⟩

theorem StepsF.at {B : Nat} {w : World} {b off n cap : Nat} {l : List St} {fs : List Value} (h : StepsF B w (.slice (some ⟨b, off, none⟩) n cap) l fs) {i : Nat} {s : St} {f : Value} (hs : l[i]? = some s) (hf : fs[i]? = some f) : b < B ∧ At w b (off + i * 12) s f := by
  obtain ⟨h1, h2, a, cap', he, h3⟩ := h
  simp only [Value.slice.injEq] at he
  obtain ⟨rfl, _, _⟩ := he
  rcases h3 with ⟨h3, _⟩ | ⟨b', off', he, hB, hc⟩
  · cases h3
  · simp only [Option.some.injEq, Addr.mk.injEq] at he
    obtain ⟨rfl, rfl, _⟩ := he
    refine ⟨hB, At.mk fun j hj => ?_⟩
    have hg := flat_get l fs i s f j hs hf hj
    obtain ⟨u, hu⟩ : ∃ u, (s.cells f)[j]? = some u := by
      have : j < (s.cells f).length := by simp [St.cells]; omega
      exact ⟨_, List.getElem?_eq_getElem this⟩
    rw [hu] at hg ⊢
    rw [Nat.add_assoc]
    exact hc _ u hg

theorem StepsF.shape {B : Nat} {w : World} {v : Value} {l : List St} {fs : List Value} (h : StepsF B w v l fs) : ∃ a cap, v = .slice a l.length cap ∧ (l ≠ [] → ∃ b off, a = some ⟨b, off, none⟩) := by
  obtain ⟨h1, h2, a, cap, rfl, h3⟩ := h
  refine ⟨a, cap, rfl, fun hne => ?_⟩
  rcases h3 with ⟨_, h3⟩ | ⟨b, off, rfl, hB, hc⟩
  · exact absurd h3 hne
  · exact ⟨b, off, rfl⟩

theorem cell_box1 {w : World} {c1 : Array Value} {t q i : Nat} {o : Obj} : (((w.alloc (.cells c1 t)).alloc o).drewN q).cell? ⟨w.heap.size, i, none⟩ = c1[i]? := by
  have h : (((w.alloc (.cells c1 t)).alloc o).drewN q).heap[w.heap.size]? = some (.cells c1 t) := by
    show ((w.heap.push (.cells c1 t)).push o)[w.heap.size]? = _
    rw [Array.getElem?_push, if_neg (by simp), Array.getElem?_push, if_pos rfl]
  simp only [World.cell?, h]
  rfl

theorem cell_box2 {w : World} {c1 : Array Value} {t q i : Nat} {o : Obj} : (((w.alloc o).alloc (.cells c1 t)).drewN q).cell? ⟨w.heap.size + 1, i, none⟩ = c1[i]? := by
  have h : (((w.alloc o).alloc (.cells c1 t)).drewN q).heap[w.heap.size + 1]? = some (.cells c1 t) := by
    show ((w.heap.push o).push (.cells c1 t))[w.heap.size + 1]? = _
    rw [Array.getElem?_push, if_pos (by simp)]
  simp only [World.cell?, h]
  rfl

theorem Bools.owned {w : World} {base e n : Nat} {v : Value} {l : List Bool} (h : w.ownsRow base e 1 v n (l.map Value.bool)) : Bools w.heap.size w v l := by
  have hl := h.1
  simp at hl
  subst hl
  have hlt := h.lt
  have hcells := @World.ownsRow.cells _ _ _ _ _ _ _ h
  rcases h.2 with ⟨rfl, h0⟩ | ⟨g, cap, cur, rfl, h1, h2, _⟩
  · exact ⟨none, 0, by rw [h0], .inl (List.eq_nil_of_length_eq_zero h0)⟩
  · refine ⟨_, cap, rfl, .inr ⟨g, 0, rfl, (hlt g rfl).2, fun j u hj => ?_⟩⟩
    have := hcells (g := g) rfl j u hj
    rw [Addr.add_lit] at this
    exact this

theorem StepsF.owned {w : World} {base e n : Nat} {v : Value} {l : List St} {fs : List Value} (h : w.ownsRow base e 12 v n (flat l fs)) (hf : fs.length = l.length)
    (hb : ∀ (i : Nat) (s : St) (f : Value), l[i]? = some s → fs[i]? = some f → Bools w.heap.size w f s.fails) : StepsF w.heap.size w v l fs := by
  have hl := h.1
  rw [flat_length l fs hf] at hl
  have hl : l.length = n := by omega
  subst hl
  have hlt := h.lt
  have hcells := @World.ownsRow.cells _ _ _ _ _ _ _ h
  rcases h.2 with ⟨rfl, h0⟩ | ⟨g, cap, cur, rfl, h1, h2, _⟩
  · exact ⟨hf, hb, none, 0, by rw [h0], .inl ⟨rfl, List.eq_nil_of_length_eq_zero h0⟩⟩
  · refine ⟨hf, hb, _, cap, rfl, .inr ⟨g, 0, rfl, (hlt g rfl).2, fun j u hj => ?_⟩⟩
    have := hcells (g := g) rfl j u hj
    rw [Addr.add_lit] at this
    exact this

/-! ### What the functions come to -/

def own (l : List St) (g p : Int) : Bool := l.any fun s => s.kind == 15 && s.guest == g && s.page == p
def others (l : List St) (g p : Int) : Bool := l.any fun s => s.kind == 15 && !(s.guest == g) && s.page == p
def varies (l : List St) (g : Int) (s : St) : Bool :=
  if s.kind == 2 || s.kind == 20 then !(s.guest == g) else if s.kind == 18 then !own l g s.page else false

end Go.Tw

namespace Go.Tw
open Go Go.RowKit Go.Maps

variable {P : Program}

/-- Block b is a map from numbers (type k) to bools (type e) that holds true just where M says. -/
def Marks (P : Program) (k e : TypeId) (w : World) (b n : Nat) (M : Int → Bool) : Prop :=
  ∃ D : DataW Unit, w.ownsMap P k (plainElem P e) b n D ∧ IsMap D ∧ ∀ (x : Int) (z : DataW Unit), D.atKey (.int .i64 x) z = if M x then .lit (.bool true) else z

theorem Marks.made (P : Program) (k e : TypeId) (w : World) : Marks P k e (w.alloc (.map #[] 0)) w.heap.size 0 (fun _ => false) :=
  ⟨.map [], World.ownsMap_made _ _ _ _, isMap_empty, fun _ _ => rfl⟩

theorem Marks.mono {k e : TypeId} {w : World} {b n n' : Nat} {M : Int → Bool} (h : Marks P k e w b n M) (hn : n ≤ n') : Marks P k e w b n' M := by
  obtain ⟨D, h1, h2, h3⟩ := h
  exact ⟨D, h1.mono hn, h2, h3⟩

theorem Marks.kept {k e : TypeId} {w w' : World} {b n : Nat} {M : Int → Bool} {row : Option Nat} (h : Marks P k e w b n M) (hg : w.grownBy w' row) (hne : some b ≠ row) : Marks P k e w' b n M := by
  obtain ⟨D, h1, h2⟩ := h
  exact ⟨D, h1.kept hg hne, h2⟩

theorem Marks.alloc {k e : TypeId} {w : World} {b n : Nat} {M : Int → Bool} (h : Marks P k e w b n M) (o : Obj) : Marks P k e (w.alloc o) b n M := by
  obtain ⟨D, h1, h2⟩ := h
  exact ⟨D, h1.alloc o, h2⟩

theorem Marks.setCell {k e : TypeId} {w : World} {b n : Nat} {M : Int → Bool} (h : Marks P k e w b n M) {a : Addr} (ha : b ≠ a.block) (u : Value) : Marks P k e (w.setCell a u) b n M := by
  obtain ⟨D, h1, h2⟩ := h
  exact ⟨D, h1.setCell ha u, h2⟩

theorem Marks.same {k e : TypeId} {w w' : World} {b n : Nat} {M : Int → Bool} (h : Marks P k e w b n M) (hb : w'.heap[b]? = w.heap[b]?) : Marks P k e w' b n M := by
  obtain ⟨D, ⟨es, ck, g1, g2⟩, h2⟩ := h
  exact ⟨D, ⟨es, ck, hb.trans g1, g2⟩, h2⟩

theorem Marks.lt {k e : TypeId} {w : World} {b n : Nat} {M : Int → Bool} (h : Marks P k e w b n M) : b < w.heap.size := by
  obtain ⟨D, h1, _⟩ := h
  exact h1.lt

theorem Marks.iff {k e : TypeId} {w : World} {b n : Nat} {M M' : Int → Bool} (h : Marks P k e w b n M) (he : ∀ x, M x = M' x) : Marks P k e w b n M' := by
  have : M = M' := funext he
  rw [← this]; exact h

theorem plainElem_bool_inv {H : Type} {e : TypeId} (he : P.underlying e = some .bool) {v : Value} {z : DataW H × List MemPlace} (h : plainElem P e v = some z) : ∃ x, v = .bool x ∧ z = (.lit (.bool x), []) := by
  unfold plainElem at h
  rw [he] at h
  cases v <;> simp at h
  subst h
  exact ⟨_, rfl, rfl⟩

theorem wpList_marks_lookup (w : World) {ops : Array Oper} {rest : List Oper} {o : Oper} {a : Act} {Q : Exit → Act → World → Prop}
    (hg : o.guard = none) (m x : Operand) (t : TypeId) (hop : o.op = Op.lookup t m x false)
    (k e : TypeId) (hk : P.underlying k = some (.int .i64)) (ht : P.underlying t = some (.map k e)) (he : P.underlying e = some .bool) (hz : (zeroValue e).run P w = .ok (.bool false) w) (b n : Nat) (M : Int → Bool)
    (hm : a.eval m = .map (some b)) (hown : Marks P k e w b n M) (y : Int) (hx : a.eval x = .int .i64 y) (hw : (Lit.int .i64 y).wf = true)
    (hK : wpList P ops Q rest (a.put o.dst (.bool (M y))) w) :
    wpList P ops Q (o :: rest) a w := by
  refine wpList_plain hg fun K' hK' => ?_
  obtain ⟨D, h1, h2, h3⟩ := hown
  obtain ⟨v, ps, hrun, hv⟩ := h1.lookup (int_keyed hk) ht hz (plainElem_bool he false) (keyOf_int_mk hk hw)
  obtain ⟨c, rfl, hc⟩ := plainElem_bool_inv he hv
  simp only [Prod.mk.injEq] at hc
  have : c = M y := by
    have := hc.1.symm.trans (h3 y _)
    cases hMy : M y <;> rw [hMy] at this <;> simpa using this
  subst this
  unfold Oper.wp
  simp [execOp, hop, hm, hx, hrun, Result.andThen]
  exact hK' _ _ hK

theorem wpList_marks_put (w : World) {ops : Array Oper} {rest : List Oper} {o : Oper} {a : Act} {Q : Exit → Act → World → Prop}
    (hg : o.guard = none) (m x v : Operand) (t : TypeId) (hop : o.op = Op.mapUpdate t m x v)
    (k e : TypeId) (hk : P.underlying k = some (.int .i64)) (ht : P.underlying t = some (.map k e)) (he : P.underlying e = some .bool) (b n : Nat) (M : Int → Bool)
    (hm : a.eval m = .map (some b)) (hown : Marks P k e w b n M) (hn : n < maxLen) (y : Int) (hx : a.eval x = .int .i64 y) (hv : a.eval v = .bool true) (hw : (Lit.int .i64 y).wf = true)
    (hK : ∀ w', Marks P k e w' b (n + 1) (fun p => p == y || M p) → w.grownBy w' (some b) → wpList P ops Q rest (a.put o.dst undef) w') :
    wpList P ops Q (o :: rest) a w := by
  obtain ⟨D, h1, h2, h3⟩ := hown
  refine wpList_mapUpdate_own w hg m x v t hop k e (int_keyed hk) ht (plainElem P e) b n D hm h1 hn _ _ (.int .i64 y) hx hv (keyOf_int_mk hk hw) (.lit (.bool true)) [] (plainElem_bool he true) fun w' g1 g2 => ?_
  refine hK w' ⟨_, g1, h2.put _ _, fun p z => ?_⟩ g2
  by_cases hp : p = y
  · subst hp
    rw [atKey_put_same h2 (by simp [WideAt.IsKeyLit])]
    simp
  · rw [atKey_put_other (by simpa using hp)]
    rw [h3 p]
    simp [hp]

/-- 'delete(m, k)'. -/
theorem wpList_marks_delete (w : World) {ops : Array Oper} {rest : List Oper} {o : Oper} {a : Act} {Q : Exit → Act → World → Prop}
    (hg : o.guard = none) (m x : Operand) (t k : TypeId) (hop : o.op = Op.call { callee := Callee.builtin Builtin.delete, args := #[m, x], argTypes := #[t, k] })
    (e : TypeId) (hk : P.underlying k = some (.int .i64)) (ht : P.underlying t = some (.map k e)) (b n : Nat) (M : Int → Bool)
    (hm : a.eval m = .map (some b)) (hown : Marks P k e w b n M) (y : Int) (hx : a.eval x = .int .i64 y) (hw : (Lit.int .i64 y).wf = true)
    (hK : ∀ w', Marks P k e w' b n (fun p => M p && !(p == y)) → w.grownBy w' (some b) → w'.heap.size = w.heap.size → wpList P ops Q rest (a.put o.dst (.tuple #[])) w') :
    wpList P ops Q (o :: rest) a w := by
  obtain ⟨D, h1, h2, h3⟩ := hown
  refine wpList_plain hg fun K' hK' => ?_
  obtain ⟨w', hrun, r1, r2⟩ := h1.drop (int_keyed hk) ht (keyOf_int_mk hk hw) o.type
  unfold Oper.wp
  simp [execOp, hop, resolve, invoke, builtin, hm, hx, hrun, Result.andThen]
  have hsz : w'.heap.size = w.heap.size := by
    obtain ⟨es, clock, es', clock', hb, rfl⟩ := r2
    simp [ChangeMaps.setBlock]
  refine hK' _ _ (hK w' ⟨_, r1, h2.del _, fun p z => ?_⟩ r2.grown hsz)
  by_cases hp : p = y
  · subst hp
    rw [atKey_del_same]
    simp
  · rw [atKey_del_other (by simpa using hp), h3 p]
    simp [hp]

theorem Marks.has {k e : TypeId} {D : DataW Unit} {M : Int → Bool} (h : ∀ (x : Int) (z : DataW Unit), D.atKey (.int .i64 x) z = if M x then .lit (.bool true) else z) (x : Int) : Maps.has D (.int .i64 x) = M x := by
  cases hM : M x with
  | true => exact has_true_of_atKey (y := .lit (.bool true)) fun z => by rw [h x z, hM]; rfl
  | false => exact has_false_of_atKey fun z => by rw [h x z, hM]; rfl

end Go.Tw
