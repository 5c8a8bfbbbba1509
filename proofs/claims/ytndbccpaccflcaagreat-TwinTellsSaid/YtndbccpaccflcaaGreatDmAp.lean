/- append, copy, and what else changes memory. -/
import Derived.Test.YtndbccpaccflcaaGreatDmMp
set_option linter.unusedVariables false
set_option linter.unusedSimpArgs false
set_option linter.unusedSectionVars false
namespace Go.Proofs.YtndbccpaccflcaaGreat.Dm
open Go

/-- A row, as against cells. -/
noncomputable def RowR (ι : Io) (r : Row) (vs : List Value) : Prop := r.n = vs.length ∧ ∀ i v, r.get i = some v → ∃ V, vs[i]? = some V ∧ VR ι v V

theorem RowR.mono {ι ι' : Io} (hs : Sub ι ι') {r : Row} {vs : List Value} (h : RowR ι r vs) : RowR ι' r vs :=
  ⟨h.1, fun i v hi => let ⟨V, a, b⟩ := h.2 i v hi; ⟨V, a, VR.mono hs b⟩⟩

theorem RowR.ofList {ι : Io} {l : List SV} {vs : List Value} (h : Rs ι l vs) : RowR ι (Row.ofList l) vs :=
  ⟨h.length, fun i v hi => by rw [Row.get_ofList] at hi; exact h.get hi⟩

theorem RowR.read {ι : Io} {r : Row} {vs : List Value} (h : RowR ι r vs) {k : Nat} {l : List SV} (hl : r.read 0 k = some l) : Rs ι l (vs.take k) := by
  obtain ⟨e1, e2⟩ := Row.read_spec r k 0 l hl
  have gen : ∀ (l : List SV) (us : List Value), l.length = us.length → (∀ (i : Nat) (x : SV), l[i]? = some x → ∃ V, us[i]? = some V ∧ VR ι x V) → Rs ι l us := by
    intro l
    induction l with
    | nil => intro us h1 _; cases us with | nil => trivial | cons _ _ => simp at h1
    | cons x l ih =>
      intro us h1 h2
      cases us with
      | nil => simp at h1
      | cons u us =>
        obtain ⟨V, a, b⟩ := h2 0 x (by simp)
        simp at a; subst a
        exact ⟨b, ih us (by simpa using h1) (fun i y hy => by have := h2 (i + 1) y (by simpa using hy); simpa using this)⟩
  have hkn : k ≤ r.n := by
    rcases Nat.eq_zero_or_pos k with h0 | h0
    · omega
    · have := e2 (k - 1) (by omega)
      rw [List.getElem?_eq_getElem (by omega)] at this
      have := Row.get_lt this; omega
  refine gen l _ (by rw [List.length_take, ← h.1]; omega) ?_
  intro i x hx
  have hi : i < k := by
    rcases Nat.lt_or_ge i l.length with h' | h'
    · omega
    · rw [List.getElem?_eq_none h'] at hx; cases hx
  have := e2 i hi
  rw [hx, Nat.zero_add] at this
  obtain ⟨V, a, b⟩ := h.2 i x this
  exact ⟨V, by rw [List.getElem?_take, if_pos hi]; exact a, b⟩

theorem Row.read_some (r : Row) : ∀ k o, o + k ≤ r.n → ∃ l, r.read o k = some l
  | 0, o, _ => ⟨[], rfl⟩
  | k + 1, o, h => by
    obtain ⟨v, hv⟩ := Row.get_some (r := r) (i := o) (by omega)
    obtain ⟨l, hl⟩ := Row.read_some r k (Nat.succ o) (by omega)
    exact ⟨v :: l, by simp only [Row.read, hv, hl]⟩

theorem RowR.app {ι : Io} {a b c : Row} {va vb : List Value} (ha : RowR ι a va) (hb : RowR ι b vb) (h : appRow a b = some c) : RowR ι c (va ++ vb) := by
  unfold appRow at h
  cases hz : Nat.beq a.n 0 with
  | true =>
    rw [hz] at h; simp only [cnd_true, Option.some.injEq] at h; subst h
    have : a.n = 0 := Nat.eq_of_beq_eq_true hz
    have : va = [] := List.eq_nil_of_length_eq_zero (by rw [← ha.1]; exact this)
    subst this; exact hb
  | false =>
    rw [hz] at h; simp only [cnd_false] at h
    split at h
    · rename_i l hl
      simp only [Option.some.injEq] at h; subst h
      have hr := hb.read hl
      rw [hb.1, List.take_of_length_le (Nat.le_refl _)] at hr
      have hlen := hr.length
      refine ⟨by show a.n + l.length = _; rw [List.length_append, ha.1]; omega, fun i v hi => ?_⟩
      rw [Row.get_app] at hi
      by_cases hlt : i < a.n
      · rw [if_pos hlt] at hi
        obtain ⟨V, e1, e2⟩ := ha.2 i v hi
        exact ⟨V, by rw [List.getElem?_append_left (by rw [← ha.1]; exact hlt)]; exact e1, e2⟩
      · rw [if_neg hlt] at hi
        obtain ⟨V, e1, e2⟩ := hr.get hi
        exact ⟨V, by rw [List.getElem?_append_right (by rw [← ha.1]; omega), ← ha.1]; exact e1, e2⟩
    · cases h

theorem sub_of {P : Program} {ι : Io} {w : World} {h : Heap} (rep : Rep ι w h) {b : Nat} {r r0 : Row} {ro : Bool} (hb : h.get b = some (.cells r ro)) {cb N : Nat} (hi : ι b = some (cb, N)) {o k : Nat}
    (hs : subRow r o k = some r0) : ∃ vs : Array Value, (loadCells ⟨cb, o, none⟩ k).run P w = .ok vs w ∧ RowR ι r0 vs.toList ∧ vs.size = k := by
  unfold subRow at hs
  cases hz : (Nat.beq o 0 && Nat.beq k r.n) with
  | true =>
    rw [hz] at hs; simp only [cnd_true, Option.some.injEq] at hs; subst hs
    rw [Bool.and_eq_true] at hz
    obtain rfl : o = 0 := Nat.eq_of_beq_eq_true hz.1
    obtain rfl : k = r.n := Nat.eq_of_beq_eq_true hz.2
    obtain ⟨l, hl⟩ := Row.read_some r r.n 0 (by omega)
    obtain ⟨vs, e1, e2⟩ := read_of (P := P) rep hb hi hl
    obtain ⟨f1, f2⟩ := Row.read_spec r r.n 0 l hl
    have hlen := e2.length
    refine ⟨vs, e1, ⟨by omega, fun i v hv => ?_⟩, by simp only [Array.length_toList] at hlen; omega⟩
    have := f2 i (Row.get_lt hv)
    rw [Nat.zero_add, hv] at this
    exact e2.get this.symm
  | false =>
    rw [hz] at hs; simp only [cnd_false] at hs
    split at hs
    · rename_i l hl
      simp only [Option.some.injEq] at hs; subst hs
      obtain ⟨vs, e1, e2⟩ := read_of (P := P) rep hb hi hl
      obtain ⟨f1, f2⟩ := Row.read_spec r k o l hl
      have hlen := e2.length
      exact ⟨vs, e1, RowR.ofList e2, by simp only [Array.length_toList] at hlen; omega⟩
    · cases hs

theorem cells_list {w : World} {a : Addr} {n : Nat} (hc : ∀ i, i < n → ∃ v, w.cell? (a.add i) = some v) :
    ∃ l : List Value, l.length = n ∧ ∀ j v, l[j]? = some v → w.cell? (a.add (0 + j)) = some v := by
  have gen : ∀ m, m ≤ n → ∃ l : List Value, l.length = m ∧ ∀ j v, l[j]? = some v → w.cell? (a.add (0 + j)) = some v := by
    intro m
    induction m with
    | zero => intro _; exact ⟨[], rfl, by simp⟩
    | succ m ih =>
      intro hm
      obtain ⟨l, e1, e2⟩ := ih (by omega)
      obtain ⟨v, hv⟩ := hc m (by omega)
      refine ⟨l ++ [v], by simp [e1], fun j u hj => ?_⟩
      by_cases hjm : j < m
      · rw [List.getElem?_append_left (by omega)] at hj; exact e2 j u hj
      · rw [List.getElem?_append_right (by omega)] at hj
        have : j = m := by
          rcases Nat.eq_or_lt_of_le (show m ≤ j by omega) with h' | h'
          · exact h'.symm
          · rw [List.getElem?_eq_none (by simp; omega)] at hj; cases hj
        subst this
        rw [e1] at hj; simp at hj; subst hj
        rw [Nat.zero_add]; exact hv
  exact gen n (Nat.le_refl _)

theorem loadCells_take {P : Program} {w w' : World} {a : Addr} {n : Nat} {vs : Array Value} (h : (loadCells a n).run P w = .ok vs w)
    (hc : ∀ i, i < n → ∃ v, w.cell? (a.add i) = some v) (hw : w'.heap = w.heap) (k : Nat) (hk : k ≤ n) : ∃ us : Array Value, (loadCells a k).run P w' = .ok us w' ∧ us.toList = vs.toList.take k := by
  obtain ⟨l, e1, e2⟩ := cells_list hc
  have h1 := loadCells_from (P := P) (w := w) (a := a) l 0 #[] e2
  have hcell : ∀ p, w'.cell? p = w.cell? p := fun p => by simp only [World.cell?, hw]
  have h2 := loadCells_from (P := P) (w := w') (a := a) (l.take k) 0 #[] (fun j v hj => by
    rw [List.getElem?_take] at hj
    split at hj
    · rw [hcell]; exact e2 j v hj
    · cases hj)
  rw [e1] at h1
  rw [List.length_take, e1, Nat.min_eq_left hk] at h2
  unfold loadCells at h ⊢
  rw [h] at h1
  simp only [Result.ok.injEq, and_true] at h1
  exact ⟨_, h2, by rw [h1]; simp⟩

theorem RowR.one {ι : Io} {r : Row} {vs : List Value} (h : RowR ι r vs) : ∀ v ∈ vs, v.oneCell' = true := by
  intro v hv
  obtain ⟨i, hi, rfl⟩ := List.getElem_of_mem hv
  obtain ⟨x, hx⟩ := Row.get_some (r := r) (i := i) (by rw [h.1]; exact hi)
  obtain ⟨V, e1, e2⟩ := h.2 i x hx
  rw [List.getElem?_eq_getElem hi] at e1
  simp only [Option.some.injEq] at e1
  rw [e1]; exact VR.one e2

/-- What is appended or copied, as the model reads it. -/
theorem src_of {P : Program} {ι : Io} {w : World} {h : Heap} (rep : Rep ι w h) {z n : Nat} {x : SV} {V : Value} {r : Row} (hx : VR ι x V) (hs : srcRow h z x = some (n, r)) :
    (∀ w' : World, (Builtin.lenOf V).run P w' = .ok n w') ∧ ∃ vs : List Value, RowR ι r vs ∧ vs.length = n * z ∧
      ∀ (w' : World) (k : Nat), w'.heap = w.heap → k ≤ n → ∃ us : Array Value, (Builtin.firstCells z k V).run P w' = .ok us w' ∧ us.toList = vs.take (k * z) := by
  cases x <;> simp only [srcRow, reduceCtorEq] at hs
  case nsl =>
    simp only [Option.some.injEq, Prod.mk.injEq] at hs
    obtain ⟨rfl, rfl⟩ := hs
    obtain rfl : V = .slice none 0 0 := hx
    refine ⟨fun _ => by simp [Builtin.lenOf], [], RowR.ofList trivial, by simp, fun w' k hw hk => ⟨#[], by simp [Builtin.firstCells], by simp⟩⟩
  case s l =>
    obtain ⟨s, rfl, hl⟩ := hx
    cases hz : Nat.beq z 1 with
    | false => rw [hz] at hs; cases hs
    | true =>
      rw [hz] at hs; simp only [cnd_true, Option.some.injEq, Prod.mk.injEq] at hs
      obtain ⟨rfl, rfl⟩ := hs
      obtain rfl : z = 1 := Nat.eq_of_beq_eq_true hz
      have hvs : Rs ι (l.map fun a => .i .u8 (.ofNat a)) (l.map fun (a : Nat) => Value.int .u8 (a : Int)) := by
        clear hl
        induction l with
        | nil => trivial
        | cons a l ih => exact ⟨rfl, ih⟩
      refine ⟨fun _ => by simp [Builtin.lenOf, str_len hl], _, RowR.ofList hvs, by simp, fun w' k hw hk => ?_⟩
      refine ⟨(s.extract 0 k).data.map fun b => .int .u8 b.toNat, by simp [Builtin.firstCells], ?_⟩
      rw [Array.toList_map, ByteArray.data_extract, Array.toList_extract, List.extract_eq_take_drop, Nat.mul_one, ← hl, List.map_map, ← List.map_take]
      simp [Function.comp_def]
  case sl b o len cap z' ex =>
    cases hz : Nat.beq z z' with
    | false => rw [hz] at hs; cases hs
    | true =>
      rw [hz] at hs; simp only [cnd_true] at hs
      obtain rfl : z = z' := Nat.eq_of_beq_eq_true hz
      obtain ⟨cb, N, o', cc, h1, rfl, k0, k1, k2⟩ := hx
      split at hs
      · rename_i r2 ro hb
        split at hs
        · rename_i r3 hr3
          simp only [Option.some.injEq, Prod.mk.injEq] at hs
          obtain ⟨rfl, rfl⟩ := hs
          obtain ⟨vs, e1, e2, e3⟩ := sub_of (P := P) rep hb h1 hr3
          refine ⟨fun _ => by simp [Builtin.lenOf], vs.toList, e2, by simp [e3], fun w' k hw hk => ?_⟩
          by_cases hl0 : len = 0
          · subst hl0
            obtain rfl : k = 0 := by omega
            exact ⟨#[], by simp [Builtin.firstCells, loadCells, loadCellsFrom], by simp⟩
          · have hoff : o' = o := by
              cases ex with
              | true => exact (k1 rfl).1
              | false => exact ((k2 rfl).2.1).resolve_left (by omega)
            subst hoff
            have hcells : ∀ i, i < len * z → ∃ v, w.cell? (Addr.add ⟨cb, o', none⟩ i) = some v := by
              intro i hi
              have hin : o' + i < r2.n := by
                unfold subRow at hr3
                cases hq : (Nat.beq o' 0 && Nat.beq (Nat.mul len z) r2.n) with
                | true =>
                  rw [Bool.and_eq_true] at hq
                  have q1 := Nat.eq_of_beq_eq_true hq.1
                  have q2 : len * z = r2.n := Nat.eq_of_beq_eq_true hq.2
                  omega
                | false =>
                  rw [hq] at hr3; simp only [cnd_false] at hr3
                  split at hr3
                  · rename_i l hl
                    obtain ⟨f1, f2⟩ := Row.read_spec r2 _ o' l hl
                    have := f2 i hi
                    rw [List.getElem?_eq_getElem (by rw [f1]; exact hi)] at this
                    exact Row.get_lt this
                  · cases hr3
              obtain ⟨x, hx⟩ := Row.get_some hin
              obtain ⟨cb', N', V, f1, f2, f3⟩ := cell_of rep hb hx
              rw [h1] at f1; simp only [Option.some.injEq, Prod.mk.injEq] at f1
              obtain ⟨rfl, rfl⟩ := f1
              exact ⟨V, by rw [Addr_add]; exact f2⟩
            obtain ⟨us, u1, u2⟩ := loadCells_take (w' := w') e1 hcells hw (k * z) (Nat.mul_le_mul_right _ hk)
            exact ⟨us, by simp only [Builtin.firstCells]; exact u1, u2⟩
        · cases hs
      · cases hs

end Go.Proofs.YtndbccpaccflcaaGreat.Dm
