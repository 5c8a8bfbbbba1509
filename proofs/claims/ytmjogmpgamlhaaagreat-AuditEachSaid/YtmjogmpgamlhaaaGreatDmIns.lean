/- slices.Insert of one whole number: the override. -/
import Derived.Test.YtmjogmpgamlhaaaGreatDmSeat
import Derived.Shelf.Spec.SlicesInsert
import Derived.Shelf.Spec.SlicesInsertGrow
set_option linter.unusedVariables false
set_option linter.unusedSimpArgs false
set_option linter.unusedSectionVars false
namespace Go.Proofs.YtmjogmpgamlhaaaGreat.Dm
open Go Go.RowKit Go.Shelf Go.Proofs

theorem setCells_heap {b : Nat} {el : TypeId} {fr : Nat × Nat} : ∀ (vs : List Value) (o : Nat) (w : World) (cs : Array Value), w.heap[b]? = some (.cells cs el fr) →
    ∃ cs', But b w (w.setCells b o vs) ∧ (w.setCells b o vs).heap[b]? = some (.cells cs' el fr) ∧ cs'.size = cs.size ∧
      ∀ j, j < cs.size → cs'[j]? = if o ≤ j ∧ j < o + vs.length then vs[j - o]? else cs[j]?
  | [], o, w, cs, hc => ⟨cs, But.refl _ _, hc, rfl, fun j _ => by rw [if_neg (by simp)]⟩
  | v :: vs, o, w, cs, hc => by
    have hset : (w.setCell ⟨b, o, none⟩ v).heap[b]? = some (.cells (cs.setIfInBounds o v) el fr) := by
      simp only [World.setCell, Array.getElem?_modify, if_true, hc, Option.map_some]
      simp
    obtain ⟨cs', e1, e2, e3, e4⟩ := setCells_heap vs (o + 1) (w.setCell ⟨b, o, none⟩ v) _ hset
    refine ⟨cs', (But.set w ⟨b, o, none⟩ v).trans e1, e2, by simpa using e3, fun j hj => ?_⟩
    rw [e4 j (by simpa using hj), List.length_cons]
    by_cases h1 : o + 1 ≤ j ∧ j < o + 1 + vs.length
    · rw [if_pos h1, if_pos (by omega), show j - o = (j - (o + 1)) + 1 by omega, List.getElem?_cons_succ]
    · rw [if_neg h1]
      by_cases h2 : j = o
      · subst h2
        rw [if_pos (by omega), Nat.sub_self, List.getElem?_cons_zero, Array.getElem?_setIfInBounds, if_pos rfl, if_pos hj]
      · rw [if_neg (by omega), Array.getElem?_setIfInBounds, if_neg (by omega)]

/-- The list with one put in. -/
def insL {α : Type} (l : List α) (i : Nat) (x : α) : List α := l.take i ++ x :: l.drop i

theorem insL_get {α : Type} (l : List α) (i : Nat) (x : α) (hi : i ≤ l.length) (j : Nat) : (insL l i x)[j]? = if j < i then l[j]? else if j = i then some x else l[j - 1]? := by
  unfold insL
  by_cases h : j < i
  · rw [if_pos h, List.getElem?_append_left (by simp; omega), List.getElem?_take, if_pos h]
  · rw [if_neg h, List.getElem?_append_right (by simp; omega)]
    have : (l.take i).length = i := by simp; omega
    rw [this]
    by_cases h2 : j = i
    · subst h2; simp
    · rw [if_neg h2, show j - i = (j - i - 1) + 1 by omega, List.getElem?_cons_succ, List.getElem?_drop]
      congr 1; omega

/-- What the call leaves. -/
structure InsPost (w w' : World) (cb : Nat) (N n : Nat) (ins : List Value) (g C : Nat) : Prop where
  room : n + 1 ≤ C
  most : C ≤ 9223372036854775807
  row : ∃ cs' el fr, w'.heap[g]? = some (.cells cs' el fr) ∧ fr.1 = fr.2 ∧ C ≤ cs'.size ∧ (g = cb → cs'.size = N) ∧ ∀ (j : Nat) (v : Value), ins[j]? = some v → cs'[j]? = some v
  way : (g = cb ∧ w'.heap.size = w.heap.size ∧ ∀ c, c ≠ cb → w'.heap[c]? = w.heap[c]?) ∨ (g = w.heap.size ∧ w'.heap.size = w.heap.size + 1 ∧ ∀ c, c < w.heap.size → w'.heap[c]? = w.heap[c]?)
  tape : w'.tape = w.tape
  os : w'.os = w.os
  output : w'.output = w.output

section
variable {P : Program} {ρ : Ren}

theorem fz_of {w : World} {b : Nat} {cs : Array Value} {el : TypeId} {fr : Nat × Nat} (h : w.heap[b]? = some (.cells cs el fr)) (hf : fr.1 = fr.2) (j : Nat) : w.frozen? ⟨b, j, none⟩ = false := by
  obtain ⟨lo, hi⟩ := fr
  simp only at hf
  simp only [World.frozen?, h]
  simp; omega

theorem cellIs_of {w : World} {b : Nat} {cs : Array Value} {el : TypeId} {fr : Nat × Nat} (h : w.heap[b]? = some (.cells cs el fr)) (j : Nat) : w.cell? ⟨b, j, none⟩ = cs[j]? := by
  simp [World.cell?, h]

theorem drew_heap (w : World) (b : Nat) : w.drew.heap[b]? = w.heap[b]? := rfl

theorem insert_calls (L : Lays2.n21 P ρ) {cb n c i vb voff vc N : Nat} {cs : Array Value} {el : TypeId} {fr : Nat × Nat} {va : Array Value} {vel : TypeId} {vfr : Nat × Nat} {x : Value} {l : List Value} (w : World)
    (hs : w.heap[cb]? = some (.cells cs el fr)) (hN : cs.size = N) (hf : fr.1 = fr.2) (hc0 : 0 < c) (hcN : c ≤ N) (hnc : n ≤ c) (hbig : n < 1000000) (hl : l.length = n) (hlc : ∀ (j : Nat) (v : Value), l[j]? = some v → cs[j]? = some v) (hi : i ≤ n)
    (hv : w.heap[vb]? = some (.cells va vel vfr)) (hvf : vfr.1 = vfr.2) (hx : va[voff]? = some x) (hne : vb ≠ cb) (h1 : ∀ v ∈ l, v.oneCell' = true) (hx1 : x.oneCell' = true) (hc63 : c ≤ 9223372036854775807) :
    Calls P (ρ.f 21) #[.slice (some ⟨cb, 0, none⟩) n c, .int .i64 (i : Int), .slice (some ⟨vb, voff, none⟩) 1 vc] w fun e w' => ∃ g C, e = .returned (.slice (some ⟨g, 0, none⟩) (n + 1) C) ∧ InsPost w w' cb N n (insL l i x) g C := by
  have hsz : ∀ {b : Nat} {a : Array Value} {e : TypeId} {f : Nat × Nat}, w.heap[b]? = some (.cells a e f) → w.shape? b = some (e, a.size) := fun h => by simp [World.shape?, h]
  have hvs : ∀ j v, [x][j]? = some v → w.cell? ⟨vb, voff + j, none⟩ = some v := by
    intro j v hj
    match j, hj with
    | 0, hj => simp at hj; subst hj; rw [Nat.add_zero, cellIs_of hv]; exact hx
    | j + 1, hj => simp at hj
  have hx1' : ∀ v ∈ [x], v.oneCell' = true := by intro v hv; simp at hv; subst hv; exact hx1
  have hlt : cb < w.heap.size := by
    rcases Nat.lt_or_ge cb w.heap.size with h | h
    · exact h
    · rw [Array.getElem?_eq_none h] at hs; cases hs
  have hcell : ∀ j v, l[j]? = some v → w.cell? ⟨cb, 0 + j, none⟩ = some v := fun j v hj => by rw [Nat.zero_add, cellIs_of hs]; exact hlc j v hj
  by_cases hroom : n + 1 ≤ c
  · have hsome : ∀ j, j < n + 1 → (w.cell? ⟨cb, 0 + j, none⟩).isSome = true := fun j hj => by
      rw [Nat.zero_add, cellIs_of hs]
      have : j < cs.size := by omega
      simp [this]
    by_cases hin : i < n
    · -- room, in the midst
      refine (Any2.slices_Insert_int_shift L cb 0 n c i vb voff 1 vc l [x] w hin (by omega) hroom hc63 hne hl rfl hcell hsome (fun j _ => fz_of hs hf _) hvs h1 hx1' vel el va.size cs.size (hsz hv) (hsz hs) (by omega) (fz_of hv hvf _) (fz_of hv hvf _)).mono ?_
      rintro e w' ⟨rfl, rfl⟩
      obtain ⟨cs1, b1, c1, d1, e1⟩ := setCells_heap (l.drop i) (0 + (i + 1)) w.drew cs (by rw [drew_heap]; exact hs)
      obtain ⟨cs2, b2, c2, d2, e2⟩ := setCells_heap [x] (0 + i) _ cs1 c1
      refine ⟨cb, c, rfl, hroom, hc63, ⟨cs2, el, fr, c2, hf, by omega, fun _ => by omega, fun j v hj => ?_⟩, .inl ⟨rfl, by rw [b2.size, b1.size]; rfl, fun c hc => by rw [b2.other c hc, b1.other c hc]; rfl⟩, by rw [b2.tape, b1.tape]; rfl, by rw [b2.os, b1.os]; rfl, by rw [b2.output, b1.output]; rfl⟩
      rw [insL_get _ _ _ (by omega)] at hj
      have hjn : j < n + 1 := by
        by_cases q1 : j < i
        · omega
        · by_cases q2 : j = i
          · omega
          · rw [if_neg q1, if_neg q2] at hj
            have := (List.getElem?_eq_some_iff.1 hj).1
            omega
      rw [e2 j (by omega), e1 j (by omega)]
      simp only [Nat.zero_add, List.length_cons, List.length_nil, List.length_drop, hl]
      by_cases q1 : j < i
      · rw [if_pos q1] at hj
        rw [if_neg (by omega), if_neg (by omega)]
        exact hlc j v hj
      · by_cases q2 : j = i
        · subst q2
          rw [if_neg q1, if_pos rfl] at hj
          rw [if_pos (by omega), Nat.sub_self]
          simpa using hj
        · rw [if_neg q1, if_neg q2] at hj
          rw [if_neg (by omega), if_pos (by omega), List.getElem?_drop]
          rw [show i + (j - (i + 1)) = j - 1 by omega]
          exact hj
    · -- room, at the end
      obtain rfl : i = n := by omega
      refine (Any2.slices_Insert_int_end_room L cb 0 i c vb voff 1 vc [x] w (by omega) hroom hc63 rfl (fun j hj => by rw [show 0 + i + j = 0 + (i + j) by omega]; exact hsome (i + j) (by omega)) (fun j _ => fz_of hs hf _) hvs hx1').mono ?_
      rintro e w' ⟨rfl, rfl⟩
      obtain ⟨cs2, b2, c2, d2, e2⟩ := setCells_heap [x] (0 + i) w cs hs
      refine ⟨cb, c, rfl, hroom, hc63, ⟨cs2, el, fr, c2, hf, by omega, fun _ => by omega, fun j v hj => ?_⟩, .inl ⟨rfl, b2.size, fun c hc => b2.other c hc⟩, b2.tape, b2.os, b2.output⟩
      rw [insL_get _ _ _ (by omega)] at hj
      have hjn : j < i + 1 := by
        by_cases q1 : j < i
        · omega
        · by_cases q2 : j = i
          · omega
          · rw [if_neg q1, if_neg q2] at hj
            have := (List.getElem?_eq_some_iff.1 hj).1
            omega
      rw [e2 j (by omega)]
      simp only [Nat.zero_add, List.length_cons, List.length_nil]
      by_cases q1 : j < i
      · rw [if_pos q1] at hj
        rw [if_neg (by omega)]
        exact hlc j v hj
      · obtain rfl : j = i := by omega
        rw [if_neg q1, if_pos rfl] at hj
        rw [if_pos (by omega), Nat.sub_self]
        simpa using hj
  · have hcn : c = n := by omega
    have hge := grownCap_ge w (n + 1) c (ρ.t 3)
    have hml : grownCap w (n + 1) c (ρ.t 3) ≤ 9223372036854775807 := grownCap_le_maxLen w (n + 1) c (ρ.t 3) (by unfold maxLen; omega)
    by_cases hin : i < n
    · refine (Any2.slices_Insert_int_grow L cb 0 n c i vb voff 1 vc l [x] w hin (by omega) hnc (by omega) (by omega) hl rfl hcell hvs h1 hx1').mono ?_
      rintro e w' ⟨rfl, rfl⟩
      generalize hC : grownCap w (n + 1) c (ρ.t 3) = C at *
      have hnew : ∀ (o : Obj), (w.alloc o).drew.heap[w.heap.size]? = some o := fun o => by
        show (w.heap.push o)[w.heap.size]? = _
        rw [Array.getElem?_push, if_pos rfl]
      obtain ⟨cs1, b1, c1, d1, e1⟩ := setCells_heap [x] i _ _ (hnew (.cells ((l.take i).toArray ++ Builtin.zeroCells (Value.int .i64 0).cells (n + 1 - i) ++ Builtin.zeroCells (Value.int .i64 0).cells (C - (n + 1))) (ρ.t 3)))
      obtain ⟨cs2, b2, c2, d2, e2⟩ := setCells_heap (l.drop i) (i + 1) _ cs1 (by rw [drew_heap]; exact c1)
      have hz1 : (Value.int IntKind.i64 0).cells.size = 1 := rfl
      have hS : cs1.size = C := by
        rw [d1]
        simp only [Array.size_append, List.size_toArray, size_zeroCells, hz1, List.length_take, hl]
        omega
      refine ⟨w.heap.size, C, rfl, hge, hml, ⟨cs2, ρ.t 3, _, c2, rfl, by omega, fun h => by omega, fun j v hj => ?_⟩, .inr ⟨rfl, by rw [b2.size]; show (World.setCells _ _ _ _).heap.size = _; rw [b1.size]; show (w.heap.push _).size = _; simp, fun c hc => by
        rw [b2.other c (by omega)]
        show (World.setCells _ _ _ _).heap[c]? = _
        rw [b1.other c (by omega)]
        show (w.heap.push _)[c]? = _
        rw [Array.getElem?_push, if_neg (by omega)]⟩, by rw [b2.tape]; show (World.setCells _ _ _ _).tape = _; rw [b1.tape]; rfl, by rw [b2.os]; show (World.setCells _ _ _ _).os = _; rw [b1.os]; rfl, by rw [b2.output]; show (World.setCells _ _ _ _).output = _; rw [b1.output]; rfl⟩
      rw [insL_get _ _ _ (by omega)] at hj
      have hjn : j < n + 1 := by
        by_cases q1 : j < i
        · omega
        · by_cases q2 : j = i
          · omega
          · rw [if_neg q1, if_neg q2] at hj
            have := (List.getElem?_eq_some_iff.1 hj).1
            omega
      rw [e2 j (by omega), e1 j (by omega)]
      simp only [List.length_cons, List.length_nil, List.length_drop, hl]
      by_cases q1 : j < i
      · rw [if_pos q1] at hj
        rw [if_neg (by omega), if_neg (by omega), Array.getElem?_append_left (by simp; omega), Array.getElem?_append_left (by simp; omega)]
        simp only [List.getElem?_toArray]
        rw [List.getElem?_take, if_pos q1]
        exact hj
      · by_cases q2 : j = i
        · subst q2
          rw [if_neg q1, if_pos rfl] at hj
          rw [if_neg (by omega), if_pos (by omega), Nat.sub_self]
          simpa using hj
        · rw [if_neg q1, if_neg q2] at hj
          rw [if_pos (by omega), List.getElem?_drop]
          rw [show i + (j - (i + 1)) = j - 1 by omega]
          exact hj
    · obtain rfl : i = n := by omega
      refine (Any2.slices_Insert_int_end_grow L (some ⟨cb, 0, none⟩) i c vb voff 1 vc l [x] w (by omega) hnc (by omega) (by omega) hl rfl (by intro h; cases h) (by intro a ha j v hj; cases ha; rw [Addr.add_lit]; exact hcell j v hj) hvs hx1').mono ?_
      rintro e w' ⟨rfl, rfl⟩
      generalize hC : grownCap w (i + 1) c (ρ.t 3) = C at *
      have hz1 : (Value.int IntKind.i64 0).cells.size = 1 := rfl
      refine ⟨w.heap.size, C, rfl, hge, hml, ⟨_, ρ.t 3, (0, 0), by show (w.heap.push _)[w.heap.size]? = _; rw [Array.getElem?_push, if_pos rfl], rfl, by simp only [Array.size_append, List.size_toArray, size_zeroCells, hz1, List.length_append, List.length_cons, List.length_nil, hl]; omega, fun h => by omega, fun j v hj => ?_⟩, .inr ⟨rfl, by show (w.heap.push _).size = _; simp, fun c hc => by show (w.heap.push _)[c]? = _; rw [Array.getElem?_push, if_neg (by omega)]⟩, rfl, rfl, rfl⟩
      rw [insL_get _ _ _ (by omega)] at hj
      have hjn : j < i + 1 := by
        by_cases q1 : j < i
        · omega
        · by_cases q2 : j = i
          · omega
          · rw [if_neg q1, if_neg q2] at hj
            have := (List.getElem?_eq_some_iff.1 hj).1
            omega
      rw [Array.getElem?_append_left (by simp; omega), List.getElem?_toArray]
      by_cases q1 : j < i
      · rw [if_pos q1] at hj
        rw [List.getElem?_append_left (by omega)]
        exact hj
      · obtain rfl : j = i := by omega
        rw [if_neg q1, if_pos rfl] at hj
        rw [List.getElem?_append_right (by omega), hl, Nat.sub_self]
        simpa using hj
end
end Go.Proofs.YtmjogmpgamlhaaaGreat.Dm

namespace Go.Proofs.YtmjogmpgamlhaaaGreat.Dm
open Go Go.RowKit Go.Shelf Go.Proofs

noncomputable def insS (l : List SV) : Nat → SV → List SV
  | 0, x => x :: l
  | i + 1, x => match l with
    | [] => [x]
    | a :: r => a :: insS r i x

theorem insS_eq : ∀ (l : List SV) (i : Nat) (x : SV), i ≤ l.length → insS l i x = insL l i x
  | l, 0, x, _ => by simp [insS, insL]
  | [], i + 1, x, h => by simp at h
  | a :: r, i + 1, x, h => by
    have := insS_eq r i x (by simpa using h)
    simp only [insS, this]
    simp [insL]

noncomputable def insA (args : List AV) (h : Heap) : Option (AV × Heap) :=
  match args with
  | [.cv (.sc (.sl b o n cap z ex)), .cv (.sc (.i .i64 (.ofNat i))), .cv (.sc (.sl vb vo 1 vc 1 vex))] =>
    cnd (Nat.beq o 0 && Nat.beq z 1 && Nat.blt 0 cap && Nat.ble i n && Nat.blt n 1000000 && !(Nat.beq vb b) && !ex)
      (match h.get b, h.get vb with
      | some (.cells r false), some (.cells vr false) => match r.read 0 n, vr.get vo with
        | some l, some x => some (.cv (.sc (.sl h.next 0 (Nat.succ n) (Nat.succ n) 1 false)), (h.kill b).push (.cells (Row.ofList (insS l i x)) false))
        | _, _ => none
      | _, _ => none) none
  | _ => none

noncomputable def ovIns (g : FuncId) (call : CallK) : CallK := fun f args h => cnd (Nat.beq f g)
  (match insA args h with
  | some (v, h') => .ok v h'
  | none => call f args h) (call f args h)

theorem Rs.of_get {ι : Io} : ∀ {l : List SV} {r : List Value}, l.length = r.length → (∀ (i : Nat) (x : SV), l[i]? = some x → ∃ v, r[i]? = some v ∧ VR ι x v) → Rs ι l r
  | [], [], _, _ => trivial
  | [], _ :: _, h, _ => by simp at h
  | _ :: _, [], h, _ => by simp at h
  | a :: l, v :: r, h, k => by
    obtain ⟨u, h1, h2⟩ := k 0 a rfl
    simp at h1
    subst h1
    exact ⟨h2, Rs.of_get (by simpa using h) fun i x hx => by
      obtain ⟨u, h1, h2⟩ := k (i + 1) x (by simpa using hx)
      exact ⟨u, by simpa using h1, h2⟩⟩

theorem Rs.ins {ι : Io} {l : List SV} {r : List Value} {x : SV} {v : Value} (i : Nat) (h : Rs ι l r) (hx : VR ι x v) : Rs ι (insL l i x) (insL r i v) :=
  (h.take i).append (show Rs ι (x :: l.drop i) (v :: r.drop i) from ⟨hx, h.drop i⟩)

theorem ovIns_ok {P : Program} {ρ : Ren} (L : Lays2.n21 P ρ) (hE : Enters P (ρ.f 21)) : OvOk P (ovIns (ρ.f 21)) := by
  intro call hc f args h v h' hr
  unfold ovIns at hr
  cases hb : Nat.beq f (ρ.f 21) with
  | false => rw [hb] at hr; exact hc f args h v h' hr
  | true =>
    rw [hb] at hr; simp only [cnd_true] at hr
    split at hr
    case h_2 => exact hc f args h v h' hr
    rename_i v0 h0 hr0
    simp only [CRes.ok.injEq] at hr
    obtain ⟨rfl, rfl⟩ := hr
    have hr := hr0
    clear hr0
    obtain rfl := Nat.eq_of_beq_eq_true hb
    clear hb hc
    unfold insA at hr
    split at hr
    · rename_i b o n cap z ex i vb vo vc vex
      cases hcd : (Nat.beq o 0 && Nat.beq z 1 && Nat.blt 0 cap && Nat.ble i n && Nat.blt n 1000000 && !(Nat.beq vb b) && !ex) with
      | false => rw [hcd] at hr; cases hr
      | true =>
        rw [hcd] at hr; simp only [cnd_true] at hr
        simp only [Bool.and_eq_true, Bool.not_eq_true'] at hcd
        obtain ⟨⟨⟨⟨⟨⟨c1, c2⟩, c3⟩, c4⟩, c5⟩, c6⟩, c7⟩ := hcd
        obtain rfl := Nat.eq_of_beq_eq_true c1
        obtain rfl := Nat.eq_of_beq_eq_true c2
        have hcap : 0 < cap := Nat.le_of_ble_eq_true c3
        have hin : i ≤ n := Nat.le_of_ble_eq_true c4
        have hn6 : n < 1000000 := Nat.le_of_ble_eq_true c5
        have hvb : vb ≠ b := Nat.ne_of_beq_eq_false c6
        subst c7
        split at hr
        · rename_i r vr hgb hgv
          split at hr
          · rename_i l x hrd hvx
            simp only [Option.some.injEq, Prod.mk.injEq] at hr
            obtain ⟨rfl, rfl⟩ := hr
            refine ⟨hE, Nat.le_succ _, fun ι w aa rep has hf => ?_⟩
            obtain ⟨aa⟩ := aa
            obtain ⟨a1, a2, a3, rfl⟩ : ∃ a1 a2 a3, aa = [a1, a2, a3] := by
              match aa, has with
              | [a1, a2, a3], _ => exact ⟨a1, a2, a3, rfl⟩
              | [], h => exact h.elim
              | [_], h => exact h.2.elim
              | [_, _], h => exact h.2.2.elim
              | _ :: _ :: _ :: _ :: _, h => exact h.2.2.2.elim
            obtain ⟨h1, h2, h3, -⟩ := has
            obtain ⟨cb, N, o', capc, e1, rfl, k0, -, k2⟩ := (show VR ι (.sl b 0 n cap 1 false) a1 from h1)
            obtain rfl : a2 = .int .i64 (i : Int) := h2
            obtain ⟨cv, Nv, vo', vcc, e3, rfl, j0, j1, j2⟩ := (show VR ι (.sl vb vo 1 vc 1 vex) a3 from h3)
            obtain ⟨q1, q2, q3, q4⟩ := k2 rfl
            obtain rfl : o' = 0 := q2.resolve_left (by omega)
            obtain rfl : vo' = vo := by
              cases vex with
              | true => exact (j1 rfl).1
              | false => exact ((j2 rfl).2.1).resolve_left (by omega)
            obtain ⟨cb', N', g1, cs, el, fr, g2, g3, g4, g5, g6⟩ := rep.obj b _ hgb
            rw [e1] at g1
            simp only [Option.some.injEq, Prod.mk.injEq] at g1
            obtain ⟨rfl, rfl⟩ := g1
            obtain ⟨cv', Nv', p1, va, vel, vfr, p2, p3, p4, p5, p6⟩ := rep.obj vb _ hgv
            rw [e3] at p1
            simp only [Option.some.injEq, Prod.mk.injEq] at p1
            obtain ⟨rfl, rfl⟩ := p1
            obtain ⟨r1, r2⟩ := Row.read_spec r n 0 l hrd
            obtain ⟨X, x1, x2⟩ := p5 vo' x hvx
            have hne : cv ≠ cb := by
              rintro rfl
              exact hvb (rep.inj vb b _ _ cv Nv N hgv hgb e3 e1)
            have hnN : n ≤ N := by omega
            have hRs : Rs ι l (cs.toList.take n) := by
              refine Rs.of_get (by simp; omega) fun j y hy => ?_
              have hj : j < n := by
                have := (List.getElem?_eq_some_iff.1 hy).1
                omega
              have := r2 j hj
              rw [Nat.zero_add, hy] at this
              obtain ⟨V, v1, v2⟩ := g5 j y this
              exact ⟨V, by rw [List.getElem?_take, if_pos hj, Array.getElem?_toList]; exact v1, v2⟩
            have hll : (cs.toList.take n).length = n := by simp; omega
            refine (insert_calls L (vc := vcc) (el := el) (fr := fr) (vel := vel) (vfr := vfr) w g2 g3 (g6 rfl) (by omega : 0 < capc) (by omega) (by omega) hn6 hll (fun j v hj => by
              rw [List.getElem?_take] at hj
              split at hj
              · rw [Array.getElem?_toList] at hj; exact hj
              · cases hj) hin p2 (p6 rfl) x1 hne hRs.one (VR.one x2) q4).mono ?_
            rintro e w' ⟨g, C, rfl, hp⟩
            obtain ⟨cs', el', fr', w1, w2, w3, w4, w5⟩ := hp.row
            have hi2 : Rs ι (insS l i x) (insL (cs.toList.take n) i X) := by rw [insS_eq l i x (by omega)]; exact hRs.ins i x2
            have hlen : (insS l i x).length = n + 1 := by
              rw [insS_eq l i x (by omega)]
              unfold insL
              simp
              omega
            have hsub : Sub ι (fun y => if y = h.next then some (g, cs'.size) else ι y) := by
              intro y p hy
              by_cases eb : y = h.next
              · subst eb; rw [hf h.next (Nat.le_refl _) (Nat.lt_succ_self _)] at hy; cases hy
              · simp only [if_neg eb]; exact hy
            have hOR : OR (fun y => if y = h.next then some (g, cs'.size) else ι y) (.cells (Row.ofList (insS l i x)) false) g cs'.size w' :=
              ⟨cs', el', fr', w1, rfl, by show (insS l i x).length ≤ _; have := hp.room; omega, fun j y hy => by
                rw [Row.get_ofList] at hy
                obtain ⟨V, v1, v2⟩ := (Rs.mono hsub hi2).get hy
                exact ⟨V, w5 j V v1, v2⟩, fun _ => w2⟩
            refine ⟨_, fun y => if y = h.next then some (g, cs'.size) else ι y, rfl, ⟨g, cs'.size, 0, C, by simp, rfl, Nat.le_refl _, fun hh => (by cases hh), fun _ => ⟨hp.room, .inr rfl, by omega, hp.most⟩⟩, ?_⟩
            rcases hp.way with ⟨rfl, z1, z2⟩ | ⟨rfl, z1, z2⟩
            · rw [w4 rfl] at hOR ⊢
              exact Post.move rep hf hgb e1 z2 z1 hp.tape hp.os hp.output hOR
            · have hk := Post.kill b rep
              have hnk : (h.kill b).next = h.next := rfl
              have hpush := Post.push (ι := ι) (w' := w') (h := h.kill b) (.cells (Row.ofList (insS l i x)) false) cs'.size hk.rep (by exact hf) z2 z1 hp.tape hp.os hp.output (by rw [hnk]; exact hOR)
              rw [hnk] at hpush
              exact hk.trans hpush
          · cases hr
        · cases hr
    · cases hr
end Go.Proofs.YtmjogmpgamlhaaaGreat.Dm
