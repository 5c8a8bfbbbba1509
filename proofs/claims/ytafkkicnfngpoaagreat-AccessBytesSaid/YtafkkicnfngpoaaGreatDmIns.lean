/- slices.Insert of one whole number, whose room may be drawn: in place of its run. -/
import Derived.Test.YtafkkicnfngpoaaGreatDmSeat
import Derived.Shelf.Spec.SlicesInsert
import Derived.Shelf.Spec.SlicesInsertGrow
set_option linter.unusedVariables false
set_option linter.unusedSimpArgs false
set_option linter.unusedSectionVars false
namespace Go.Proofs.YtafkkicnfngpoaaGreat.Dm
open Go Go.RowKit Go.Shelf Go.Proofs

theorem setCells_heap {b : Nat} {el : TypeId} {fr : Nat × Nat} : ∀ (vs : List Value) (o : Nat) (w : World) (cs : Array Value), w.heap[b]? = some (.cells cs el fr) →
    ∃ cs', But b w (w.setCells b o vs) ∧ (w.setCells b o vs).heap[b]? = some (.cells cs' el fr) ∧ cs'.size = cs.size ∧
      ∀ j, j < cs.size → cs'[j]? = if o ≤ j ∧ j < o + vs.length then vs[j - o]? else cs[j]?
  | [], o, w, cs, hc => ⟨cs, But.refl _ _, hc, rfl, fun j _ => by rw [if_neg (by simp)]⟩
  | v :: vs, o, w, cs, hc => by
    have hset : (w.setCell ⟨b, o, none⟩ v).heap[b]? = some (.cells (cs.setIfInBounds o v) el fr) := by
      simp only [World.setCell, Array.getElem?_modify, if_true, hc, Option.map_some]
      simp
    obtain ⟨cs', e1, e2, e3, e4⟩ := setCells_heap vs (o + 1) (w.setCell ⟨b, o, none⟩ v) _ hset
    refine ⟨cs', (But.set w ⟨b, o, none⟩ v).trans e1, e2, by simpa using e3, fun j hj => ?_⟩
    rw [e4 j (by simpa using hj), List.length_cons]
    by_cases h1 : o + 1 ≤ j ∧ j < o + 1 + vs.length
    · rw [if_pos h1, if_pos (by omega), show j - o = (j - (o + 1)) + 1 by omega, List.getElem?_cons_succ]
    · rw [if_neg h1]
      by_cases h2 : j = o
      · subst h2
        rw [if_pos (by omega), Nat.sub_self, List.getElem?_cons_zero, Array.getElem?_setIfInBounds, if_pos rfl, if_pos hj]
      · rw [if_neg (by omega), Array.getElem?_setIfInBounds, if_neg (by omega)]

/-- The list with one put in. -/
def insL {α : Type} (l : List α) (i : Nat) (x : α) : List α := l.take i ++ x :: l.drop i

theorem insL_get {α : Type} (l : List α) (i : Nat) (x : α) (hi : i ≤ l.length) (j : Nat) : (insL l i x)[j]? = if j < i then l[j]? else if j = i then some x else l[j - 1]? := by
  unfold insL
  by_cases h : j < i
  · rw [if_pos h, List.getElem?_append_left (by simp; omega), List.getElem?_take, if_pos h]
  · rw [if_neg h, List.getElem?_append_right (by simp; omega)]
    have : (l.take i).length = i := by simp; omega
    rw [this]
    by_cases h2 : j = i
    · subst h2; simp
    · rw [if_neg h2, show j - i = (j - i - 1) + 1 by omega, List.getElem?_cons_succ, List.getElem?_drop]
      congr 1; omega

/-- What the call leaves. -/
structure InsPost (w w' : World) (cb : Nat) (N n : Nat) (ins : List Value) (g C : Nat) : Prop where
  room : n + 1 ≤ C
  most : C ≤ 9223372036854775807
  row : ∃ cs' el fr, w'.heap[g]? = some (.cells cs' el fr) ∧ fr.1 = fr.2 ∧ C ≤ cs'.size ∧ (g = cb → cs'.size = N) ∧ ∀ (j : Nat) (v : Value), ins[j]? = some v → cs'[j]? = some v
  way : (g = cb ∧ w'.heap.size = w.heap.size ∧ ∀ c, c ≠ cb → w'.heap[c]? = w.heap[c]?) ∨ (g = w.heap.size ∧ w'.heap.size = w.heap.size + 1 ∧ ∀ c, c < w.heap.size → w'.heap[c]? = w.heap[c]?)
  tape : w'.tape = w.tape
  os : w'.os = w.os
  output : w'.output = w.output

section
variable {P : Program} {ρ : Ren}

theorem fz_of {w : World} {b : Nat} {cs : Array Value} {el : TypeId} {fr : Nat × Nat} (h : w.heap[b]? = some (.cells cs el fr)) (hf : fr.1 = fr.2) (j : Nat) : w.frozen? ⟨b, j, none⟩ = false := by
  obtain ⟨lo, hi⟩ := fr
  simp only at hf
  simp only [World.frozen?, h]
  simp; omega

theorem cellIs_of {w : World} {b : Nat} {cs : Array Value} {el : TypeId} {fr : Nat × Nat} (h : w.heap[b]? = some (.cells cs el fr)) (j : Nat) : w.cell? ⟨b, j, none⟩ = cs[j]? := by
  simp [World.cell?, h]

theorem drew_heap (w : World) (b : Nat) : w.drew.heap[b]? = w.heap[b]? := rfl

theorem insert_calls (L : Lays2.n21 P ρ) {cb n c i vb voff vc N : Nat} {cs : Array Value} {el : TypeId} {fr : Nat × Nat} {va : Array Value} {vel : TypeId} {vfr : Nat × Nat} {x : Value} {l : List Value} (w : World)
    (hs : w.heap[cb]? = some (.cells cs el fr)) (hN : cs.size = N) (hf : fr.1 = fr.2) (hc0 : 0 < c) (hcN : c ≤ N) (hnc : n ≤ c) (hbig : n < 1000000) (hl : l.length = n) (hlc : ∀ (j : Nat) (v : Value), l[j]? = some v → cs[j]? = some v) (hi : i ≤ n)
    (hv : w.heap[vb]? = some (.cells va vel vfr)) (hvf : vfr.1 = vfr.2) (hx : va[voff]? = some x) (hne : vb ≠ cb) (h1 : ∀ v ∈ l, v.oneCell' = true) (hx1 : x.oneCell' = true) (hc63 : c ≤ 9223372036854775807) :
    Calls P (ρ.f 21) #[.slice (some ⟨cb, 0, none⟩) n c, .int .i64 (i : Int), .slice (some ⟨vb, voff, none⟩) 1 vc] w fun e w' => ∃ g C, e = .returned (.slice (some ⟨g, 0, none⟩) (n + 1) C) ∧ InsPost w w' cb N n (insL l i x) g C := by
  have hsz : ∀ {b : Nat} {a : Array Value} {e : TypeId} {f : Nat × Nat}, w.heap[b]? = some (.cells a e f) → w.shape? b = some (e, a.size) := fun h => by simp [World.shape?, h]
  have hvs : ∀ j v, [x][j]? = some v → w.cell? ⟨vb, voff + j, none⟩ = some v := by
    intro j v hj
    match j, hj with
    | 0, hj => simp at hj; subst hj; rw [Nat.add_zero, cellIs_of hv]; exact hx
    | j + 1, hj => simp at hj
  have hx1' : ∀ v ∈ [x], v.oneCell' = true := by intro v hv; simp at hv; subst hv; exact hx1
  have hlt : cb < w.heap.size := by
    rcases Nat.lt_or_ge cb w.heap.size with h | h
    · exact h
    · rw [Array.getElem?_eq_none h] at hs; cases hs
  have hcell : ∀ j v, l[j]? = some v → w.cell? ⟨cb, 0 + j, none⟩ = some v := fun j v hj => by rw [Nat.zero_add, cellIs_of hs]; exact hlc j v hj
  by_cases hroom : n + 1 ≤ c
  · have hsome : ∀ j, j < n + 1 → (w.cell? ⟨cb, 0 + j, none⟩).isSome = true := fun j hj => by
      rw [Nat.zero_add, cellIs_of hs]
      have : j < cs.size := by omega
      simp [this]
    by_cases hin : i < n
    · -- room, in the midst
      refine (Any2.slices_Insert_int_shift L cb 0 n c i vb voff 1 vc l [x] w hin (by omega) hroom hc63 hne hl rfl hcell hsome (fun j _ => fz_of hs hf _) hvs h1 hx1' vel el va.size cs.size (hsz hv) (hsz hs) (by omega) (fz_of hv hvf _) (fz_of hv hvf _)).mono ?_
      rintro e w' ⟨rfl, rfl⟩
      obtain ⟨cs1, b1, c1, d1, e1⟩ := setCells_heap (l.drop i) (0 + (i + 1)) w.drew cs (by rw [drew_heap]; exact hs)
      obtain ⟨cs2, b2, c2, d2, e2⟩ := setCells_heap [x] (0 + i) _ cs1 c1
      refine ⟨cb, c, rfl, hroom, hc63, ⟨cs2, el, fr, c2, hf, by omega, fun _ => by omega, fun j v hj => ?_⟩, .inl ⟨rfl, by rw [b2.size, b1.size]; rfl, fun c hc => by rw [b2.other c hc, b1.other c hc]; rfl⟩, by rw [b2.tape, b1.tape]; rfl, by rw [b2.os, b1.os]; rfl, by rw [b2.output, b1.output]; rfl⟩
      rw [insL_get _ _ _ (by omega)] at hj
      have hjn : j < n + 1 := by
        by_cases q1 : j < i
        · omega
        · by_cases q2 : j = i
          · omega
          · rw [if_neg q1, if_neg q2] at hj
            have := (List.getElem?_eq_some_iff.1 hj).1
            omega
      rw [e2 j (by omega), e1 j (by omega)]
      simp only [Nat.zero_add, List.length_cons, List.length_nil, List.length_drop, hl]
      by_cases q1 : j < i
      · rw [if_pos q1] at hj
        rw [if_neg (by omega), if_neg (by omega)]
        exact hlc j v hj
      · by_cases q2 : j = i
        · subst q2
          rw [if_neg q1, if_pos rfl] at hj
          rw [if_pos (by omega), Nat.sub_self]
          simpa using hj
        · rw [if_neg q1, if_neg q2] at hj
          rw [if_neg (by omega), if_pos (by omega), List.getElem?_drop]
          rw [show i + (j - (i + 1)) = j - 1 by omega]
          exact hj
    · -- room, at the end
      obtain rfl : i = n := by omega
      refine (Any2.slices_Insert_int_end_room L cb 0 i c vb voff 1 vc [x] w (by omega) hroom hc63 rfl (fun j hj => by rw [show 0 + i + j = 0 + (i + j) by omega]; exact hsome (i + j) (by omega)) (fun j _ => fz_of hs hf _) hvs hx1').mono ?_
      rintro e w' ⟨rfl, rfl⟩
      obtain ⟨cs2, b2, c2, d2, e2⟩ := setCells_heap [x] (0 + i) w cs hs
      refine ⟨cb, c, rfl, hroom, hc63, ⟨cs2, el, fr, c2, hf, by omega, fun _ => by omega, fun j v hj => ?_⟩, .inl ⟨rfl, b2.size, fun c hc => b2.other c hc⟩, b2.tape, b2.os, b2.output⟩
      rw [insL_get _ _ _ (by omega)] at hj
      have hjn : j < i + 1 := by
        by_cases q1 : j < i
        · omega
        · by_cases q2 : j = i
          · omega
          · rw [if_neg q1, if_neg q2] at hj
            have := (List.getElem?_eq_some_iff.1 hj).1
            omega
      rw [e2 j (by omega)]
      simp only [Nat.zero_add, List.length_cons, List.length_nil]
      by_cases q1 : j < i
      · rw [if_pos q1] at hj
        rw [if_neg (by omega)]
        exact hlc j v hj
      · obtain rfl : j = i := by omega
        rw [if_neg q1, if_pos rfl] at hj
        rw [if_pos (by omega), Nat.sub_self]
        simpa using hj
  · have hcn : c = n := by omega
    have hge := grownCap_ge w (n + 1) c (ρ.t 3)
    have hml : grownCap w (n + 1) c (ρ.t 3) ≤ 9223372036854775807 := grownCap_le_maxLen w (n + 1) c (ρ.t 3) (by unfold maxLen; omega)
    by_cases hin : i < n
    · refine (Any2.slices_Insert_int_grow L cb 0 n c i vb voff 1 vc l [x] w hin (by omega) hnc (by omega) (by omega) hl rfl hcell hvs h1 hx1').mono ?_
      rintro e w' ⟨rfl, rfl⟩
      generalize hC : grownCap w (n + 1) c (ρ.t 3) = C at *
      have hnew : ∀ (o : Obj), (w.alloc o).drew.heap[w.heap.size]? = some o := fun o => by
        show (w.heap.push o)[w.heap.size]? = _
        rw [Array.getElem?_push, if_pos rfl]
      obtain ⟨cs1, b1, c1, d1, e1⟩ := setCells_heap [x] i _ _ (hnew (.cells ((l.take i).toArray ++ Builtin.zeroCells (Value.int .i64 0).cells (n + 1 - i) ++ Builtin.zeroCells (Value.int .i64 0).cells (C - (n + 1))) (ρ.t 3)))
      obtain ⟨cs2, b2, c2, d2, e2⟩ := setCells_heap (l.drop i) (i + 1) _ cs1 (by rw [drew_heap]; exact c1)
      have hz1 : (Value.int IntKind.i64 0).cells.size = 1 := rfl
      have hS : cs1.size = C := by
        rw [d1]
        simp only [Array.size_append, List.size_toArray, size_zeroCells, hz1, List.length_take, hl]
        omega
      refine ⟨w.heap.size, C, rfl, hge, hml, ⟨cs2, ρ.t 3, _, c2, rfl, by omega, fun h => by omega, fun j v hj => ?_⟩, .inr ⟨rfl, by rw [b2.size]; show (World.setCells _ _ _ _).heap.size = _; rw [b1.size]; show (w.heap.push _).size = _; simp, fun c hc => by
        rw [b2.other c (by omega)]
        show (World.setCells _ _ _ _).heap[c]? = _
        rw [b1.other c (by omega)]
        show (w.heap.push _)[c]? = _
        rw [Array.getElem?_push, if_neg (by omega)]⟩, by rw [b2.tape]; show (World.setCells _ _ _ _).tape = _; rw [b1.tape]; rfl, by rw [b2.os]; show (World.setCells _ _ _ _).os = _; rw [b1.os]; rfl, by rw [b2.output]; show (World.setCells _ _ _ _).output = _; rw [b1.output]; rfl⟩
      rw [insL_get _ _ _ (by omega)] at hj
      have hjn : j < n + 1 := by
        by_cases q1 : j < i
        · omega
        · by_cases q2 : j = i
          · omega
          · rw [if_neg q1, if_neg q2] at hj
            have := (List.getElem?_eq_some_iff.1 hj).1
            omega
      rw [e2 j (by omega), e1 j (by omega)]
      simp only [List.length_cons, List.length_nil, List.length_drop, hl]
      by_cases q1 : j < i
      · rw [if_pos q1] at hj
        rw [if_neg (by omega), if_neg (by omega), Array.getElem?_append_left (by simp; omega), Array.getElem?_append_left (by simp; omega)]
        simp only [List.getElem?_toArray]
        rw [List.getElem?_take, if_pos q1]
        exact hj
      · by_cases q2 : j = i
        · subst q2
          rw [if_neg q1, if_pos rfl] at hj
          rw [if_neg (by omega), if_pos (by omega), Nat.sub_self]
          simpa using hj
        · rw [if_neg q1, if_neg q2] at hj
          rw [if_pos (by omega), List.getElem?_drop]
          rw [show i + (j - (i + 1)) = j - 1 by omega]
          exact hj
    · obtain rfl : i = n := by omega
      refine (Any2.slices_Insert_int_end_grow L (some ⟨cb, 0, none⟩) i c vb voff 1 vc l [x] w (by omega) hnc (by omega) (by omega) hl rfl (by intro h; cases h) (by intro a ha j v hj; cases ha; rw [Addr.add_lit]; exact hcell j v hj) hvs hx1').mono ?_
      rintro e w' ⟨rfl, rfl⟩
      generalize hC : grownCap w (i + 1) c (ρ.t 3) = C at *
      have hz1 : (Value.int IntKind.i64 0).cells.size = 1 := rfl
      refine ⟨w.heap.size, C, rfl, hge, hml, ⟨_, ρ.t 3, (0, 0), by show (w.heap.push _)[w.heap.size]? = _; rw [Array.getElem?_push, if_pos rfl], rfl, by simp only [Array.size_append, List.size_toArray, size_zeroCells, hz1, List.length_append, List.length_cons, List.length_nil, hl]; omega, fun h => by omega, fun j v hj => ?_⟩, .inr ⟨rfl, by show (w.heap.push _).size = _; simp, fun c hc => by show (w.heap.push _)[c]? = _; rw [Array.getElem?_push, if_neg (by omega)]⟩, rfl, rfl, rfl⟩
      rw [insL_get _ _ _ (by omega)] at hj
      have hjn : j < i + 1 := by
        by_cases q1 : j < i
        · omega
        · by_cases q2 : j = i
          · omega
          · rw [if_neg q1, if_neg q2] at hj
            have := (List.getElem?_eq_some_iff.1 hj).1
            omega
      rw [Array.getElem?_append_left (by simp; omega), List.getElem?_toArray]
      by_cases q1 : j < i
      · rw [if_pos q1] at hj
        rw [List.getElem?_append_left (by omega)]
        exact hj
      · obtain rfl : j = i := by omega
        rw [if_neg q1, if_pos rfl] at hj
        rw [List.getElem?_append_right (by omega), hl, Nat.sub_self]
        simpa using hj
end
end Go.Proofs.YtafkkicnfngpoaaGreat.Dm
