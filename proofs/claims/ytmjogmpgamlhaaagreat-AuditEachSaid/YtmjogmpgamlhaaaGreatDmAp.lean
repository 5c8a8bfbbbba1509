/- append, on abstract values. -/
import Derived.Test.YtmjogmpgamlhaaaGreatDmAl
set_option linter.unusedVariables false
set_option linter.unusedSimpArgs false
set_option linter.unusedSectionVars false
namespace Go.Proofs.YtmjogmpgamlhaaaGreat.Dm
open Go

/-- A row, as against cells. -/
noncomputable def RowR (ι : Io) (r : Row) (vs : List Value) : Prop := r.n = vs.length ∧ ∀ i v, r.get i = some v → ∃ V, vs[i]? = some V ∧ VR ι v V

theorem RowR.mono {ι ι' : Io} (hs : Sub ι ι') {r : Row} {vs : List Value} (h : RowR ι r vs) : RowR ι' r vs :=
  ⟨h.1, fun i v hi => let ⟨V, a, b⟩ := h.2 i v hi; ⟨V, a, VR.mono hs b⟩⟩

theorem RowR.ofList {ι : Io} {l : List SV} {vs : List Value} (h : Rs ι l vs) : RowR ι (Row.ofList l) vs :=
  ⟨h.length, fun i v hi => by rw [Row.get_ofList] at hi; exact h.get hi⟩

theorem RowR.read {ι : Io} {r : Row} {vs : List Value} (h : RowR ι r vs) {k : Nat} {l : List SV} (hl : r.read 0 k = some l) : Rs ι l (vs.take k) := by
  obtain ⟨e1, e2⟩ := Row.read_spec r k 0 l hl
  have gen : ∀ (l : List SV) (us : List Value), l.length = us.length → (∀ (i : Nat) (x : SV), l[i]? = some x → ∃ V, us[i]? = some V ∧ VR ι x V) → Rs ι l us := by
    intro l
    induction l with
    | nil => intro us h1 _; cases us with | nil => trivial | cons _ _ => simp at h1
    | cons x l ih =>
      intro us h1 h2
      cases us with
      | nil => simp at h1
      | cons u us =>
        obtain ⟨V, a, b⟩ := h2 0 x (by simp)
        simp at a; subst a
        exact ⟨b, ih us (by simpa using h1) (fun i y hy => by have := h2 (i + 1) y (by simpa using hy); simpa using this)⟩
  have hkn : k ≤ r.n := by
    rcases Nat.eq_zero_or_pos k with h0 | h0
    · omega
    · have := e2 (k - 1) (by omega)
      rw [List.getElem?_eq_getElem (by omega)] at this
      have := Row.get_lt this; omega
  refine gen l _ (by rw [List.length_take, ← h.1]; omega) ?_
  intro i x hx
  have hi : i < k := by
    rcases Nat.lt_or_ge i l.length with h' | h'
    · omega
    · rw [List.getElem?_eq_none h'] at hx; cases hx
  have := e2 i hi
  rw [hx, Nat.zero_add] at this
  obtain ⟨V, a, b⟩ := h.2 i x this
  exact ⟨V, by rw [List.getElem?_take, if_pos hi]; exact a, b⟩

theorem Row.read_some (r : Row) : ∀ k o, o + k ≤ r.n → ∃ l, r.read o k = some l
  | 0, o, _ => ⟨[], rfl⟩
  | k + 1, o, h => by
    obtain ⟨v, hv⟩ := Row.get_some (r := r) (i := o) (by omega)
    obtain ⟨l, hl⟩ := Row.read_some r k (Nat.succ o) (by omega)
    exact ⟨v :: l, by simp only [Row.read, hv, hl]⟩

theorem RowR.app {ι : Io} {a b c : Row} {va vb : List Value} (ha : RowR ι a va) (hb : RowR ι b vb) (h : appRow a b = some c) : RowR ι c (va ++ vb) := by
  unfold appRow at h
  cases hz : Nat.beq a.n 0 with
  | true =>
    rw [hz] at h; simp only [cnd_true, Option.some.injEq] at h; subst h
    have : a.n = 0 := Nat.eq_of_beq_eq_true hz
    have : va = [] := List.eq_nil_of_length_eq_zero (by rw [← ha.1]; exact this)
    subst this; exact hb
  | false =>
    rw [hz] at h; simp only [cnd_false] at h
    split at h
    · rename_i l hl
      simp only [Option.some.injEq] at h; subst h
      have hr := hb.read hl
      rw [hb.1, List.take_of_length_le (Nat.le_refl _)] at hr
      have hlen := hr.length
      refine ⟨by show a.n + l.length = _; rw [List.length_append, ha.1]; omega, fun i v hi => ?_⟩
      rw [Row.get_app] at hi
      by_cases hlt : i < a.n
      · rw [if_pos hlt] at hi
        obtain ⟨V, e1, e2⟩ := ha.2 i v hi
        exact ⟨V, by rw [List.getElem?_append_left (by rw [← ha.1]; exact hlt)]; exact e1, e2⟩
      · rw [if_neg hlt] at hi
        obtain ⟨V, e1, e2⟩ := hr.get hi
        exact ⟨V, by rw [List.getElem?_append_right (by rw [← ha.1]; omega), ← ha.1]; exact e1, e2⟩
    · cases h

theorem sub_of {P : Program} {ι : Io} {w : World} {h : Heap} (rep : Rep ι w h) {b : Nat} {r r0 : Row} {ro : Bool} (hb : h.get b = some (.cells r ro)) {cb N : Nat} (hi : ι b = some (cb, N)) {o k : Nat}
    (hs : subRow r o k = some r0) : ∃ vs : Array Value, (loadCells ⟨cb, o, none⟩ k).run P w = .ok vs w ∧ RowR ι r0 vs.toList ∧ vs.size = k := by
  unfold subRow at hs
  cases hz : (Nat.beq o 0 && Nat.beq k r.n) with
  | true =>
    rw [hz] at hs; simp only [cnd_true, Option.some.injEq] at hs; subst hs
    rw [Bool.and_eq_true] at hz
    obtain rfl : o = 0 := Nat.eq_of_beq_eq_true hz.1
    obtain rfl : k = r.n := Nat.eq_of_beq_eq_true hz.2
    obtain ⟨l, hl⟩ := Row.read_some r r.n 0 (by omega)
    obtain ⟨vs, e1, e2⟩ := read_of (P := P) rep hb hi hl
    obtain ⟨f1, f2⟩ := Row.read_spec r r.n 0 l hl
    have hlen := e2.length
    refine ⟨vs, e1, ⟨by omega, fun i v hv => ?_⟩, by simp only [Array.length_toList] at hlen; omega⟩
    have := f2 i (Row.get_lt hv)
    rw [Nat.zero_add, hv] at this
    exact e2.get this.symm
  | false =>
    rw [hz] at hs; simp only [cnd_false] at hs
    split at hs
    · rename_i l hl
      simp only [Option.some.injEq] at hs; subst hs
      obtain ⟨vs, e1, e2⟩ := read_of (P := P) rep hb hi hl
      obtain ⟨f1, f2⟩ := Row.read_spec r k o l hl
      have hlen := e2.length
      exact ⟨vs, e1, RowR.ofList e2, by simp only [Array.length_toList] at hlen; omega⟩
    · cases hs

theorem cells_list {w : World} {a : Addr} {n : Nat} (hc : ∀ i, i < n → ∃ v, w.cell? (a.add i) = some v) :
    ∃ l : List Value, l.length = n ∧ ∀ j v, l[j]? = some v → w.cell? (a.add (0 + j)) = some v := by
  have gen : ∀ m, m ≤ n → ∃ l : List Value, l.length = m ∧ ∀ j v, l[j]? = some v → w.cell? (a.add (0 + j)) = some v := by
    intro m
    induction m with
    | zero => intro _; exact ⟨[], rfl, by simp⟩
    | succ m ih =>
      intro hm
      obtain ⟨l, e1, e2⟩ := ih (by omega)
      obtain ⟨v, hv⟩ := hc m (by omega)
      refine ⟨l ++ [v], by simp [e1], fun j u hj => ?_⟩
      by_cases hjm : j < m
      · rw [List.getElem?_append_left (by omega)] at hj; exact e2 j u hj
      · rw [List.getElem?_append_right (by omega)] at hj
        have : j = m := by
          rcases Nat.eq_or_lt_of_le (show m ≤ j by omega) with h' | h'
          · exact h'.symm
          · rw [List.getElem?_eq_none (by simp; omega)] at hj; cases hj
        subst this
        rw [e1] at hj; simp at hj; subst hj
        rw [Nat.zero_add]; exact hv
  exact gen n (Nat.le_refl _)

theorem loadCells_take {P : Program} {w w' : World} {a : Addr} {n : Nat} {vs : Array Value} (h : (loadCells a n).run P w = .ok vs w)
    (hc : ∀ i, i < n → ∃ v, w.cell? (a.add i) = some v) (hw : w'.heap = w.heap) (k : Nat) (hk : k ≤ n) : ∃ us : Array Value, (loadCells a k).run P w' = .ok us w' ∧ us.toList = vs.toList.take k := by
  obtain ⟨l, e1, e2⟩ := cells_list hc
  have h1 := loadCells_from (P := P) (w := w) (a := a) l 0 #[] e2
  have hcell : ∀ p, w'.cell? p = w.cell? p := fun p => by simp only [World.cell?, hw]
  have h2 := loadCells_from (P := P) (w := w') (a := a) (l.take k) 0 #[] (fun j v hj => by
    rw [List.getElem?_take] at hj
    split at hj
    · rw [hcell]; exact e2 j v hj
    · cases hj)
  rw [e1] at h1
  rw [List.length_take, e1, Nat.min_eq_left hk] at h2
  unfold loadCells at h ⊢
  rw [h] at h1
  simp only [Result.ok.injEq, and_true] at h1
  exact ⟨_, h2, by rw [h1]; simp⟩

theorem RowR.one {ι : Io} {r : Row} {vs : List Value} (h : RowR ι r vs) : ∀ v ∈ vs, v.oneCell' = true := by
  intro v hv
  obtain ⟨i, hi, rfl⟩ := List.getElem_of_mem hv
  obtain ⟨x, hx⟩ := Row.get_some (r := r) (i := i) (by rw [h.1]; exact hi)
  obtain ⟨V, e1, e2⟩ := h.2 i x hx
  rw [List.getElem?_eq_getElem hi] at e1
  simp only [Option.some.injEq] at e1
  rw [e1]; exact VR.one e2

/-- What is appended or copied, as the model reads it. -/
theorem src_of {P : Program} {ι : Io} {w : World} {h : Heap} (rep : Rep ι w h) {z n : Nat} {x : SV} {V : Value} {r : Row} (hx : VR ι x V) (hs : srcRow h z x = some (n, r)) :
    (∀ w' : World, (Builtin.lenOf V).run P w' = .ok n w') ∧ ∃ vs : List Value, RowR ι r vs ∧ vs.length = n * z ∧
      ∀ (w' : World) (k : Nat), w'.heap = w.heap → k ≤ n → ∃ us : Array Value, (Builtin.firstCells z k V).run P w' = .ok us w' ∧ us.toList = vs.take (k * z) := by
  cases x <;> simp only [srcRow, reduceCtorEq] at hs
  case nsl =>
    simp only [Option.some.injEq, Prod.mk.injEq] at hs
    obtain ⟨rfl, rfl⟩ := hs
    obtain rfl : V = .slice none 0 0 := hx
    refine ⟨fun _ => by simp [Builtin.lenOf], [], RowR.ofList trivial, by simp, fun w' k hw hk => ⟨#[], by simp [Builtin.firstCells], by simp⟩⟩
  case s l =>
    obtain ⟨s, rfl, hl⟩ := hx
    cases hz : Nat.beq z 1 with
    | false => rw [hz] at hs; cases hs
    | true =>
      rw [hz] at hs; simp only [cnd_true, Option.some.injEq, Prod.mk.injEq] at hs
      obtain ⟨rfl, rfl⟩ := hs
      obtain rfl : z = 1 := Nat.eq_of_beq_eq_true hz
      have hvs : Rs ι (l.map fun a => .i .u8 (.ofNat a)) (l.map fun (a : Nat) => Value.int .u8 (a : Int)) := by
        clear hl
        induction l with
        | nil => trivial
        | cons a l ih => exact ⟨rfl, ih⟩
      refine ⟨fun _ => by simp [Builtin.lenOf, str_len hl], _, RowR.ofList hvs, by simp, fun w' k hw hk => ?_⟩
      refine ⟨(s.extract 0 k).data.map fun b => .int .u8 b.toNat, by simp [Builtin.firstCells], ?_⟩
      rw [Array.toList_map, ByteArray.data_extract, Array.toList_extract, List.extract_eq_take_drop, Nat.mul_one, ← hl, List.map_map, ← List.map_take]
      simp [Function.comp_def]
  case sl b o len cap z' ex =>
    cases hz : Nat.beq z z' with
    | false => rw [hz] at hs; cases hs
    | true =>
      rw [hz] at hs; simp only [cnd_true] at hs
      obtain rfl : z = z' := Nat.eq_of_beq_eq_true hz
      obtain ⟨cb, N, o', cc, h1, rfl, k0, k1, k2⟩ := hx
      split at hs
      · rename_i r2 ro hb
        split at hs
        · rename_i r3 hr3
          simp only [Option.some.injEq, Prod.mk.injEq] at hs
          obtain ⟨rfl, rfl⟩ := hs
          obtain ⟨vs, e1, e2, e3⟩ := sub_of (P := P) rep hb h1 hr3
          refine ⟨fun _ => by simp [Builtin.lenOf], vs.toList, e2, by simp [e3], fun w' k hw hk => ?_⟩
          by_cases hl0 : len = 0
          · subst hl0
            obtain rfl : k = 0 := by omega
            exact ⟨#[], by simp [Builtin.firstCells, loadCells, loadCellsFrom], by simp⟩
          · have hoff : o' = o := by
              cases ex with
              | true => exact (k1 rfl).1
              | false => exact ((k2 rfl).2.1).resolve_left (by omega)
            subst hoff
            have hcells : ∀ i, i < len * z → ∃ v, w.cell? (Addr.add ⟨cb, o', none⟩ i) = some v := by
              intro i hi
              have hin : o' + i < r2.n := by
                unfold subRow at hr3
                cases hq : (Nat.beq o' 0 && Nat.beq (Nat.mul len z) r2.n) with
                | true =>
                  rw [Bool.and_eq_true] at hq
                  have q1 := Nat.eq_of_beq_eq_true hq.1
                  have q2 : len * z = r2.n := Nat.eq_of_beq_eq_true hq.2
                  omega
                | false =>
                  rw [hq] at hr3; simp only [cnd_false] at hr3
                  split at hr3
                  · rename_i l hl
                    obtain ⟨f1, f2⟩ := Row.read_spec r2 _ o' l hl
                    have := f2 i hi
                    rw [List.getElem?_eq_getElem (by rw [f1]; exact hi)] at this
                    exact Row.get_lt this
                  · cases hr3
              obtain ⟨x, hx⟩ := Row.get_some hin
              obtain ⟨cb', N', V, f1, f2, f3⟩ := cell_of rep hb hx
              rw [h1] at f1; simp only [Option.some.injEq, Prod.mk.injEq] at f1
              obtain ⟨rfl, rfl⟩ := f1
              exact ⟨V, by rw [Addr_add]; exact f2⟩
            obtain ⟨us, u1, u2⟩ := loadCells_take (w' := w') e1 hcells hw (k * z) (Nat.mul_le_mul_right _ hk)
            exact ⟨us, by simp only [Builtin.firstCells]; exact u1, u2⟩
        · cases hs
      · cases hs

end Go.Proofs.YtmjogmpgamlhaaaGreat.Dm

namespace Go.Proofs.YtmjogmpgamlhaaaGreat.Dm
open Go

noncomputable def isInt (d : TypeDesc) : Bool := d matches .int _

section
variable {P : Program} {st xt e : TypeId} {dx : TypeDesc} {ie : TypeInfo} {z n len cap : Nat} {ats : Array TypeId} {q : TypeId} {base : Option Addr} {X : Value} {w : World}
  (hst : ats[0]? = some st) (hxt : ats[1]? = some xt) (hu : P.underlying st = some (.slice e)) (hxu : P.underlying xt = some dx) (hni : isInt dx = false)
  (hi : P.info? e = some ie) (hz : ie.size = z) (hl : ∀ w' : World, (Builtin.lenOf X).run P w' = .ok n w')
include hst hxt hu hxu hni hi hz hl

set_option maxHeartbeats 2000000 in
theorem append_room {us : Array Value} {w' : World} (hc : len + n ≤ cap) (hf : (Builtin.firstCells z n X).run P w = .ok us w)
    (hs : (base = none ∧ w' = w) ∨ ∃ a, base = some a ∧ (storeCells (a.add (len * z)) us.toList).run P w = .ok () w') :
    (Builtin.append_ ats q #[.slice base len cap, X]).run P w = .ok (.slice base (len + n) cap) w' := by
  have hzz : ie.size = z := hz
  rcases hs with ⟨rfl, rfl⟩ | ⟨a, rfl, hs⟩
  · cases dx <;> first | (simp [isInt] at hni; done) | simp only [Builtin.append_, hst, hxt, underlying, hu, hxu, sizeOf, typeInfo, hi, hzz, hl, hc, hf, Sem.run_bind, run_program, Result.andThen_ok, Sem.run_pure, Bool.false_eq_true, if_false, if_true, Bool.not_false,
      List.getElem?_toArray, List.getElem?_cons_zero, List.getElem?_cons_succ]
  · cases dx <;> first | (simp [isInt] at hni; done) | simp only [Builtin.append_, hst, hxt, underlying, hu, hxu, sizeOf, typeInfo, hi, hzz, hl, hc, hf, hs, Sem.run_bind, run_program, Result.andThen_ok, Sem.run_pure, Bool.false_eq_true, if_false, if_true, Bool.not_false,
      List.getElem?_toArray, List.getElem?_cons_zero, List.getElem?_cons_succ]

set_option maxHeartbeats 2000000 in
theorem append_grow {us os : Array Value} {zv : Value} (hzv : ie.zero = some zv) (hc : cap < len + n) (hr : roomy (len + n) cap ie.bytes = true)
    (ho : (Builtin.firstCells z len (.slice base len cap)).run P { w with drawn := w.drawn + 1 } = .ok os { w with drawn := w.drawn + 1 })
    (hf : (Builtin.firstCells z n X).run P { w with drawn := w.drawn + 1 } = .ok us { w with drawn := w.drawn + 1 }) :
    ∃ C, (len + n ≤ C ∧ C ≤ 9223372036854775807) ∧ (Builtin.append_ ats q #[.slice base len cap, X]).run P w =
      .ok (.slice (some ⟨w.heap.size, 0, none⟩) (len + n) C) { w with drawn := w.drawn + 1, heap := w.heap.push (.cells (os ++ us ++ Builtin.zeroCells zv.cells (C - (len + n))) e) } := by
  have hzz : ie.size = z := hz
  unfold roomy at hr
  rw [Bool.and_eq_true] at hr
  have r1 : Builtin.nextslicecap (len + n) cap * ie.bytes ≤ 281474976710656 := Nat.le_of_ble_eq_true hr.1
  have r2 : len + n < 4611686018427387904 := Nat.le_of_ble_eq_true hr.2
  refine ⟨(Question.appendCap (len + n) cap e).cut (w.tape w.drawn (.appendCap (len + n) cap e)), ⟨by simp [Question.cut], by
    have hlt := Nat.mod_lt (w.tape w.drawn (.appendCap (len + n) cap e)) (show 0 < 2 ^ 63 - (len + n) by omega)
    simp only [Question.cut] at hlt ⊢
    omega⟩, ?_⟩
  have hnc : ¬ len + n ≤ cap := by omega
  have hmx : ¬ (((len + n : Nat) : Int) > IntKind.i64.max) := by
    have : IntKind.i64.max = 9223372036854775807 := by decide
    rw [this]; omega
  have hrm : ¬ (Builtin.nextslicecap (len + n) cap * ie.bytes > 2 ^ 48) := by
    have : (2 : Nat) ^ 48 = 281474976710656 := by decide
    rw [this]; omega
  have hfo : (Question.appendCap (len + n) cap e).forced = false := rfl
  cases dx <;> first | (simp [isInt] at hni; done) | simp only [Builtin.append_, hst, hxt, underlying, hu, hxu, sizeOf, typeInfo, hi, hzz, hl, hnc, hmx, hrm, Sem.run_bind, run_program, Result.andThen_ok, Sem.run_pure, zeroValue, hzv, run_choose, hfo,
        Bool.false_eq_true, if_false, if_true, Bool.not_false, run_askRoom, ho, hf, newRow, run_newObj, false_and, List.getElem?_toArray, List.getElem?_cons_zero, List.getElem?_cons_succ]

end
end Go.Proofs.YtmjogmpgamlhaaaGreat.Dm

namespace Go.Proofs.YtmjogmpgamlhaaaGreat.Dm
open Go

theorem growBy_le (m : Nat) : ∀ (k c : Nat), c ≤ 2 * m + 1000 → Builtin.growBy m k c ≤ 2 * m + 1000
  | 0, c, h => h
  | k + 1, c, h => by
    unfold Builtin.growBy
    split
    · exact h
    · exact growBy_le m k _ (by omega)

theorem room_any {need cap bytes : Nat} (hc : cap < need) (h : roomyAny need bytes = true) : roomy need cap bytes = true := by
  unfold roomyAny at h
  rw [Bool.and_eq_true] at h
  have h1 : (2 * need + 1000) * bytes ≤ 281474976710656 := Nat.le_of_ble_eq_true h.1
  unfold roomy
  rw [Bool.and_eq_true]
  refine ⟨Nat.ble_eq_true_of_le ?_, h.2⟩
  refine Nat.le_trans (Nat.mul_le_mul_right bytes ?_) h1
  unfold Builtin.nextslicecap
  split
  · omega
  · split
    · omega
    · exact growBy_le need 4 cap (by omega)

/-- A row that an append lays. -/
theorem or_grown {ι' : Io} {r : Row} {vs rest : List Value} (hr : RowR ι' r vs) {e : TypeId} {cs : Array Value} {c : Nat} {w' : World} (hcs : cs.toList = vs ++ rest) (hw : w'.heap[c]? = some (.cells cs e)) :
    OR ι' (.cells r false) c cs.size w' := by
  refine ⟨cs, e, (0, 0), hw, rfl, ?_, fun i v hi => ?_, fun _ => rfl⟩
  · rw [hr.1, ← Array.length_toList, hcs]; simp
  · obtain ⟨V, e1, e2⟩ := hr.2 i v hi
    refine ⟨V, ?_, e2⟩
    rw [← Array.getElem?_toList, hcs, List.getElem?_append_left]
    · exact e1
    · rcases Nat.lt_or_ge i vs.length with h1 | h1
      · exact h1
      · rw [List.getElem?_eq_none h1] at e1; cases e1

/-- A row grows into a block of its own. -/
theorem grow_done {ι : Io} {w : World} {h hh : Heap} (hp0 : Post ι h hh w w ι) {r1 : Row} (hf : Free ι hh.next (hh.push (.cells r1 false)).next) {e : TypeId} {vs : List Value} (hr : RowR ι r1 vs)
    {cs : Array Value} {rest : List Value} (hcs : cs.toList = vs ++ rest) {need C z : Nat} (hC : need ≤ C ∧ C ≤ 9223372036854775807) (hsz : cs.size = C * z) :
    ∃ ι', AVR ι' (.cv (.sc (.sl hh.next 0 need need z false))) (.slice (some ⟨w.heap.size, 0, none⟩) need C) ∧
      Post ι h (hh.push (.cells r1 false)) w { w with drawn := w.drawn + 1, heap := w.heap.push (.cells cs e) } ι' := by
  have hsub : Sub ι (fun b => if b = hh.next then some (w.heap.size, C * z) else ι b) := by
    intro b p hb
    by_cases eb : b = hh.next
    · subst eb; rw [hf hh.next (Nat.le_refl _) (Nat.lt_succ_self _)] at hb; cases hb
    · simp only [if_neg eb]; exact hb
  have hp := Post.push (w' := { w with drawn := w.drawn + 1, heap := w.heap.push (.cells cs e) }) (.cells r1 false) (C * z) hp0.rep hf
    (fun c hc => by show (w.heap.push _)[c]? = _; rw [Array.getElem?_push, if_neg (by omega)]) (by simp) rfl rfl rfl
    (by
      have := or_grown (ι' := fun b => if b = hh.next then some (w.heap.size, C * z) else ι b) (c := w.heap.size) (e := e) (w' := { w with drawn := w.drawn + 1, heap := w.heap.push (.cells cs e) }) (hr.mono hsub) hcs (by simp)
      rw [hsz] at this; exact this)
  exact ⟨_, ⟨w.heap.size, C * z, 0, C, by simp, rfl, Nat.le_refl _, fun hf => (by cases hf), fun _ => ⟨hC.1, .inr rfl, by omega, hC.2⟩⟩, hp0.trans hp⟩

section
variable {P : Program} {ty : Ty} (hty : TyOk P ty) {ι : Io} {ρ : Env} {R : Operand → Value} (he : ER ι ρ R) {w : World} {h h' : Heap} (rep : Rep ι w h) {o : Oper} {v : AV}
include hty he rep

theorem ei_two {c : Call} {b : Builtin} {x y : Operand} {V : Value} {w' : World} {ι' : Io} (ho : o.op = .call c) (hc : c.callee = .builtin b) (ha : c.args = #[x, y])
    (hr : (builtin b c.argTypes o.type (c.args.map fun | .const _ => true | _ => false) #[R x, R y]).run P w = .ok (.value V) w') (hv : AVR ι' v V) (hp : Post ι h h' w w' ι') : EOk P ι h h' w R o v := by
  refine ⟨_, V, w', ι', ?_, .inl rfl, hv, hp⟩
  simp only [execOp, ho, resolve, hc, ha, Sem.run_bind, Sem.run_pure, Result.andThen_ok, invoke, List.map_toArray, List.map_cons, List.map_nil] at hr ⊢
  exact hr

theorem ei_one {c : Call} {b : Builtin} {x : Operand} {V : Value} {w' : World} {ι' : Io} (ho : o.op = .call c) (hc : c.callee = .builtin b) (ha : c.args = #[x])
    (hr : (builtin b c.argTypes o.type (c.args.map fun | .const _ => true | _ => false) #[R x]).run P w = .ok (.value V) w') (hv : AVR ι' v V) (hp : Post ι h h' w w' ι') : EOk P ι h h' w R o v := by
  refine ⟨_, V, w', ι', ?_, .inl rfl, hv, hp⟩
  simp only [execOp, ho, resolve, hc, ha, Sem.run_bind, Sem.run_pure, Result.andThen_ok, invoke, List.map_toArray, List.map_cons, List.map_nil] at hr ⊢
  exact hr

set_option maxHeartbeats 1000000 in
theorem e_append {c : Call} {x1 x2 : Operand} {s x : SV} {st xt : TypeId} {ti tx te : TI} {e : TypeId} (ho : o.op = .call c) (hc : c.callee = .builtin .append) (ha : c.args = #[x1, x2])
    (hs : VR ι s (R x1)) (hx : VR ι x (R x2)) (h0 : c.argTypes[0]? = some st) (h1 : c.argTypes[1]? = some xt) (ht : ty st = some ti) (htx : ty xt = some tx) (hk : ti.k = .sl e)
    (hni : ∀ k, tx.k ≠ .int k) (hte : ty e = some te) (hz : zeroFits te = true) {n : Nat} {xr : Row} (hsrc : srcRow h te.size x = some (n, xr))
    (hf : Free ι h.next h'.next)
    (hq : (match s with
      | .nsl => cnd (Nat.beq n 0) (some (AV.cv (.sc .nsl), h))
          (cnd (roomy n 0 te.bytes) (some (.cv (.sc (.sl h.next 0 n n te.size false)), h.push (.cells xr false))) none)
      | .sl b o len cap z ex => cnd (Nat.beq z te.size)
          (match h.get b with
          | some (.cells r ro) =>
            cnd (Nat.ble (Nat.add len n) cap)
              (cnd (Nat.beq n 0) (some (.cv (.sc (.sl b o len cap z ex)), h))
                (match ro, xr.read 0 xr.n with
                | false, some l => match r.write (Nat.add o (Nat.mul len z)) l with
                  | some r' => some (.cv (.sc (.sl b o (Nat.add len n) cap z ex)), h.put b (.cells r' false))
                  | none => none
                | _, _ => none))
              (match subRow r o (Nat.mul len z) with
              | some r0 => match appRow r0 xr with
                | some r1 =>
                  cnd ex
                    (cnd (roomy (Nat.add len n) cap te.bytes)
                      (some (.cv (.sc (.sl h.next 0 (Nat.add len n) (Nat.add len n) z false)), h.push (.cells r1 false))) none)
                    (cnd (Nat.beq o 0 && Nat.blt 0 cap && !ro && roomyAny (Nat.add len n) te.bytes)
                      (some (.cv (.sc (.sl h.next 0 (Nat.add len n) (Nat.add len n) z false)), (h.kill b).push (.cells r1 false))) none)
                | none => none
              | none => none)
          | _ => none) none
      | _ => none) = some (v, h')) : EOk P ι h h' w R o v := by
  obtain ⟨i1, d1, s1⟩ := hty.get ht
  obtain ⟨i2, d2, s2⟩ := hty.get htx
  obtain ⟨i3, d3, s3⟩ := hty.get hte
  have hd := tk_sl (s1.k ▸ hk); subst hd
  have hni' : isInt d2 = false := by
    cases hh : isInt d2 with
    | false => rfl
    | true =>
      cases d2 <;> simp [isInt] at hh
      rename_i k
      exact absurd s2.k (hni k)
  obtain ⟨z, hz1, hz2⟩ : ∃ z, te.zero = some z ∧ z.cells.length = te.size := by
    unfold zeroFits at hz
    split at hz
    · rename_i z hz'; exact ⟨z, hz', Nat.eq_of_beq_eq_true hz⟩
    · cases hz
  obtain ⟨zv, g1, g2⟩ := s3.zero z hz1
  have hzr := CVR.cells (cvOf_rel ι g2)
  have hzs : zv.cells.size = te.size := by have := hzr.length; simp only [Array.length_toList] at this; omega
  obtain ⟨hlen, xs, hxr, hxn, hxf⟩ := src_of (P := P) rep hx hsrc
  have hzc : ∀ k, (Builtin.zeroCells zv.cells k).size = k * te.size := by intro k; simp [Builtin.zeroCells, hzs]
  obtain ⟨us, u1, u2⟩ := hxf w n rfl (Nat.le_refl _)
  obtain ⟨us', u1', u2'⟩ := hxf { w with drawn := w.drawn + 1 } n rfl (Nat.le_refl _)
  have hu2 : us.toList = xs := by rw [u2, ← hxn, List.take_of_length_le (Nat.le_refl _)]
  have hu2' : us'.toList = xs := by rw [u2', ← hxn, List.take_of_length_le (Nat.le_refl _)]
  cases s <;> simp only [reduceCtorEq] at hq
  case nsl =>
    have hS : R x1 = .slice none 0 0 := hs
    cases hn : Nat.beq n 0 with
    | true =>
      rw [hn] at hq; simp only [cnd_true, Option.some.injEq, Prod.mk.injEq] at hq
      obtain ⟨rfl, rfl⟩ := hq
      obtain rfl : n = 0 := Nat.eq_of_beq_eq_true hn
      have := append_room (P := P) (q := o.type) (base := none) (len := 0) (cap := 0) h0 h1 s1.und s2.und hni' s3.info s3.size.symm hlen (Nat.le_refl _) u1 (.inl ⟨rfl, rfl⟩)
      exact ei_two hty he rep (V := .slice none 0 0) ho hc ha (by rw [hS]; simp [builtin, this]) rfl (Post.refl rep)
    | false =>
      rw [hn] at hq; simp only [cnd_false] at hq
      have hn0 : n ≠ 0 := Nat.ne_of_beq_eq_false hn
      cases hro : roomy n 0 te.bytes with
      | false => rw [hro] at hq; cases hq
      | true =>
        rw [hro] at hq; simp only [cnd_true, Option.some.injEq, Prod.mk.injEq] at hq
        obtain ⟨rfl, rfl⟩ := hq
        have hro' : roomy (0 + n) 0 i3.bytes = true := by rw [Nat.zero_add, ← s3.bytes]; exact hro
        obtain ⟨C, c1, c2⟩ := append_grow (P := P) (q := o.type) (w := w) (base := none) (len := 0) (cap := 0) (os := #[]) h0 h1 s1.und s2.und hni' s3.info s3.size.symm hlen g1 (by omega) hro' (by simp [Builtin.firstCells]) u1'
        have hsz : (#[] ++ us' ++ Builtin.zeroCells zv.cells (C - (0 + n))).size = C * te.size := by
          have : us'.size = n * te.size := by rw [← Array.length_toList, hu2', hxn]
          have h3 := Nat.add_mul n (C - n) te.size
          rw [Nat.add_sub_cancel' (by omega : n ≤ C)] at h3
          simp [hzc, this]; omega
        obtain ⟨ι', q1, q2⟩ := grow_done (e := e) (Post.refl rep) hf hxr (cs := #[] ++ us' ++ Builtin.zeroCells zv.cells (C - (0 + n))) (rest := (Builtin.zeroCells zv.cells (C - (0 + n))).toList) (by simp [hu2']) (need := n) (C := C) (by omega) hsz
        exact ei_two hty he rep (V := .slice (some ⟨w.heap.size, 0, none⟩) n C) ho hc ha (by rw [hS]; simp only [builtin, Sem.run_bind, c2, Result.andThen_ok, Sem.run_pure, Nat.zero_add]) q1 q2
  case sl b off len cap z' ex =>
    cases hzz : Nat.beq z' te.size with
    | false => rw [hzz] at hq; cases hq
    | true =>
      rw [hzz] at hq; simp only [cnd_true] at hq
      obtain rfl : z' = te.size := Nat.eq_of_beq_eq_true hzz
      obtain ⟨cb, N, o', cc, hb1, hb2, k0, k1, k2⟩ := hs
      have hcc : cap ≤ cc := by
        cases ex with
        | true => rw [(k1 rfl).2]; exact Nat.le_refl _
        | false => exact (k2 rfl).1
      split at hq
      · rename_i r ro hg
        cases hle : Nat.ble (Nat.add len n) cap with
        | true =>
          rw [hle] at hq; simp only [cnd_true] at hq
          have hle' : len + n ≤ cap := Nat.le_of_ble_eq_true hle
          cases hn : Nat.beq n 0 with
          | true =>
            rw [hn] at hq; simp only [cnd_true, Option.some.injEq, Prod.mk.injEq] at hq
            obtain ⟨rfl, rfl⟩ := hq
            obtain rfl : n = 0 := Nat.eq_of_beq_eq_true hn
            have hus : us.toList = [] := by rw [hu2]; exact List.eq_nil_of_length_eq_zero (by rw [hxn, Nat.zero_mul])
            have := append_room (P := P) (q := o.type) (base := some ⟨cb, o', none⟩) (len := len) (cap := cc) h0 h1 s1.und s2.und hni' s3.info s3.size.symm hlen (by omega) u1
              (.inr ⟨_, rfl, by rw [hus]; simp [storeCells]; rfl⟩)
            exact ei_two hty he rep (V := .slice (some ⟨cb, o', none⟩) len cc) ho hc ha (by rw [hb2]; simp [builtin, this]) ⟨cb, N, o', cc, hb1, rfl, k0, k1, k2⟩ (Post.refl rep)
          | false =>
            rw [hn] at hq; simp only [cnd_false] at hq
            have hn0 : n ≠ 0 := Nat.ne_of_beq_eq_false hn
            have hoff : o' = off := by
              cases ex with
              | true => exact (k1 rfl).1
              | false => exact ((k2 rfl).2.1).resolve_left (by omega)
            subst hoff
            split at hq
            · rename_i l hl
              split at hq
              · rename_i r' hwr
                simp only [Option.some.injEq, Prod.mk.injEq] at hq
                obtain ⟨rfl, rfl⟩ := hq
                have hls := hxr.read hl
                rw [hxr.1, List.take_of_length_le (Nat.le_refl _)] at hls
                rw [← hu2] at hls
                obtain ⟨w', p1, p2⟩ := write_of (P := P) rep hg hb1 hwr hls
                have := append_room (P := P) (q := o.type) (base := some ⟨cb, o', none⟩) (len := len) (cap := cc) (w' := w') h0 h1 s1.und s2.und hni' s3.info s3.size.symm hlen (by omega) u1
                  (.inr ⟨_, rfl, by rw [Addr_add]; exact p1⟩)
                exact ei_two hty he rep (V := .slice (some ⟨cb, o', none⟩) (len + n) cc) ho hc ha (by rw [hb2]; simp [builtin, this]) ⟨cb, N, o', cc, hb1, rfl, hle', k1, k2⟩ p2
              · cases hq
            · cases hq
        | false =>
          rw [hle] at hq; simp only [cnd_false] at hq
          have hgt : cap < len + n := by
            rcases Nat.lt_or_ge cap (len + n) with h2 | h2
            · exact h2
            · rw [show Nat.ble (Nat.add len n) cap = true from Nat.ble_eq_true_of_le h2] at hle; cases hle
          split at hq
          · rename_i r0 hr0
            split at hq
            · rename_i r1 hr1
              -- the old cells
              have hold : ∀ hoff : o' = off, ∃ vo : Array Value, RowR ι r1 (vo.toList ++ xs) ∧ vo.size = len * te.size ∧
                  (Builtin.firstCells te.size len (.slice (some ⟨cb, o', none⟩) len cc)).run P { w with drawn := w.drawn + 1 } = .ok vo { w with drawn := w.drawn + 1 } := by
                intro hoff
                subst hoff
                have rep' : Rep ι { w with drawn := w.drawn + 1 } h := rep.same (fun c _ => rfl) (Nat.le_refl _)
                obtain ⟨vo, e1, e2, e3⟩ := sub_of (P := P) rep' hg hb1 hr0
                exact ⟨vo, e2.app hxr hr1, e3, by simp only [Builtin.firstCells]; exact e1⟩
              have hsz : ∀ (vo : Array Value) (C : Nat), vo.size = len * te.size → len + n ≤ C → (vo ++ us' ++ Builtin.zeroCells zv.cells (C - (len + n))).size = C * te.size := by
                intro vo C hvo hC
                have h2 : us'.size = n * te.size := by rw [← Array.length_toList, hu2', hxn]
                have h3 := Nat.add_mul (len + n) (C - (len + n)) te.size
                rw [Nat.add_sub_cancel' hC, Nat.add_mul] at h3
                simp [hzc, h2, hvo]; omega
              cases ex with
              | true =>
                simp only [cnd_true] at hq
                obtain ⟨rfl, rfl⟩ := k1 rfl
                cases hro : roomy (Nat.add len n) cc te.bytes with
                | false => rw [hro] at hq; cases hq
                | true =>
                  rw [hro] at hq; simp only [cnd_true, Option.some.injEq, Prod.mk.injEq] at hq
                  obtain ⟨rfl, rfl⟩ := hq
                  obtain ⟨vo, w1, w2, w3⟩ := hold rfl
                  obtain ⟨C, c1, c2⟩ := append_grow (P := P) (q := o.type) (w := w) h0 h1 s1.und s2.und hni' s3.info s3.size.symm hlen g1 hgt (by rw [← s3.bytes]; exact hro) w3 u1'
                  obtain ⟨ι', q1, q2⟩ := grow_done (e := e) (Post.refl rep) hf w1 (cs := vo ++ us' ++ Builtin.zeroCells zv.cells (C - (len + n))) (rest := (Builtin.zeroCells zv.cells (C - (len + n))).toList) (by simp [hu2']) (need := len + n) (C := C) c1 (hsz vo C w2 c1.1)
                  exact ei_two hty he rep (V := .slice (some ⟨w.heap.size, 0, none⟩) (len + n) C) ho hc ha (by rw [hb2]; simp only [builtin, Sem.run_bind, c2, Result.andThen_ok, Sem.run_pure]) q1 q2
              | false =>
                simp only [cnd_false] at hq
                cases hco : (Nat.beq off 0 && Nat.blt 0 cap && !ro && roomyAny (Nat.add len n) te.bytes) with
                | false => rw [hco] at hq; cases hq
                | true =>
                  rw [hco] at hq; simp only [cnd_true, Option.some.injEq, Prod.mk.injEq] at hq
                  obtain ⟨rfl, rfl⟩ := hq
                  simp only [Bool.and_eq_true, Bool.not_eq_true'] at hco
                  obtain ⟨⟨⟨q0, q1⟩, q2⟩, q3⟩ := hco
                  obtain rfl : off = 0 := Nat.eq_of_beq_eq_true q0
                  have hcap : 0 < cap := Nat.le_of_ble_eq_true q1
                  subst q2
                  obtain ⟨j1, j2, j3, j4⟩ := k2 rfl
                  obtain rfl : o' = 0 := j2.resolve_left (by omega)
                  by_cases hroom : len + n ≤ cc
                  · -- there was room
                    obtain ⟨cb', N', gg, cs, el, fr, m1, m2, m3, m4, m5⟩ := rep.obj b _ hg
                    rw [hb1] at gg; simp only [Option.some.injEq, Prod.mk.injEq] at gg
                    obtain ⟨rfl, rfl⟩ := gg
                    have hus : us.toList.length = n * te.size := by rw [hu2, hxn]
                    have hmul : (len + n) * te.size ≤ cc * te.size := Nat.mul_le_mul_right _ hroom
                    rw [Nat.add_mul] at hmul
                    have hone : ∀ v ∈ us.toList, v.oneCell' = true := by rw [hu2]; exact hxr.one
                    obtain ⟨w', cs', p1, p2, p3, p4, p5⟩ := store_run (P := P) (cb := cb) (o := len * te.size) us.toList 0 w cs m1 (by omega) (.inl (m5 rfl)) hone
                    have happ := append_room (P := P) (q := o.type) (base := some ⟨cb, 0, none⟩) (len := len) (cap := cc) (w' := w') h0 h1 s1.und s2.und hni' s3.info s3.size.symm hlen hroom u1
                      (.inr ⟨_, rfl, by rw [Addr_add, Nat.zero_add]; exact p1⟩)
                    obtain ⟨vo, e1, e2, e3⟩ := sub_of (P := P) (k := len * te.size) rep hg hb1 hr0
                    have hr1' := e2.app hxr hr1
                    have hsub : Sub ι (fun x => if x = h.next then some (cb, N) else ι x) := by
                      intro x p hx
                      by_cases eb : x = h.next
                      · subst eb; rw [hf h.next (Nat.le_refl _) (Nat.lt_succ_self _)] at hx; cases hx
                      · simp only [if_neg eb]; exact hx
                    have hrn : r1.n = len * te.size + n * te.size := by rw [hr1'.1, List.length_append, Array.length_toList, e3, hxn]
                    have hmv := Post.move (w' := w') (o' := .cells r1 false) rep hf hg hb1 p2.other p2.size p2.tape p2.os p2.output
                      ⟨cs', el, fr, p3, by omega, by omega, (by
                        intro i v hi
                        obtain ⟨V, f1, f2⟩ := (hr1'.mono hsub).2 i v hi
                        refine ⟨V, ?_, f2⟩
                        rw [p5 i]
                        by_cases hlt : i < len * te.size
                        · rw [if_neg (by omega)]
                          rw [List.getElem?_append_left (by rw [Array.length_toList, e3]; exact hlt)] at f1
                          -- the old cells are still there
                          have hcells : ∀ k, k < len * te.size → ∃ v, w.cell? (Addr.add ⟨cb, 0, none⟩ k) = some v := by
                            intro k hk
                            rw [Addr_add, Nat.zero_add]
                            simp only [World.cell?, m1]
                            have hk' : k < cs.size := by omega
                            exact ⟨cs[k], by simp [hk']⟩
                          obtain ⟨l, l1, l2⟩ := cells_list hcells
                          have h3 := loadCells_from (P := P) (w := w) (a := ⟨cb, 0, none⟩) l 0 #[] l2
                          rw [l1] at h3
                          unfold loadCells at e1
                          rw [e1] at h3
                          simp only [Result.ok.injEq, and_true] at h3
                          have h4 : vo.toList = l := by rw [h3]; simp
                          rw [h4] at f1
                          have := l2 i V f1
                          rw [Addr_add, Nat.zero_add, Nat.zero_add] at this
                          simp only [World.cell?, m1] at this
                          simpa using this
                        · have hlt2 : i < r1.n := Row.get_lt hi
                          rw [if_pos (by omega)]
                          rw [List.getElem?_append_right (by rw [Array.length_toList, e3]; omega), Array.length_toList, e3] at f1
                          rw [hu2, Nat.add_zero]; exact f1), fun _ => m5 rfl⟩
                    refine ei_two hty he rep (V := .slice (some ⟨cb, 0, none⟩) (len + n) cc) ho hc ha (by rw [hb2]; simp only [builtin, Sem.run_bind, happ, Result.andThen_ok, Sem.run_pure]) ?_ hmv
                    exact ⟨cb, N, 0, cc, by simp, rfl, Nat.le_refl _, fun hf => (by cases hf), fun _ => ⟨hroom, .inr rfl, j3, j4⟩⟩
                  · -- it grows
                    obtain ⟨vo, w1, w2, w3⟩ := hold rfl
                    have hgt' : cc < len + n := by omega
                    have hk := Post.kill b rep
                    obtain ⟨C, c1, c2⟩ := append_grow (P := P) (q := o.type) (w := w) h0 h1 s1.und s2.und hni' s3.info s3.size.symm hlen g1 hgt' (by rw [← s3.bytes]; exact room_any hgt' q3) w3 u1'
                    obtain ⟨ι', q1, q2⟩ := grow_done (e := e) hk hf w1 (cs := vo ++ us' ++ Builtin.zeroCells zv.cells (C - (len + n))) (rest := (Builtin.zeroCells zv.cells (C - (len + n))).toList) (by simp [hu2']) (need := len + n) (C := C) c1 (hsz vo C w2 c1.1)
                    exact ei_two hty he rep (V := .slice (some ⟨w.heap.size, 0, none⟩) (len + n) C) ho hc ha (by rw [hb2]; simp only [builtin, Sem.run_bind, c2, Result.andThen_ok, Sem.run_pure]) q1 q2
            · cases hq
          · cases hq
      · cases hq

end
end Go.Proofs.YtmjogmpgamlhaaaGreat.Dm
