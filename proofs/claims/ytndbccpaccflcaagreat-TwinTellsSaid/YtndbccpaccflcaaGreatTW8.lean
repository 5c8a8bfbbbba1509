import Derived.Test.YtndbccpaccflcaaGreatProg
import Derived.Test.YtndbccpaccflcaaGreatTS1
import Derived.Test.YtndbccpaccflcaaGreatTW3
import Derived.Test.YtndbccpaccflcaaGreatTW4
set_option linter.unusedVariables false
set_option linter.unusedSimpArgs false
set_option linter.unusedSectionVars false
namespace Go.Proofs.YtndbccpaccflcaaGreat
open Go Go.RowKit Go.Tw Go.Lib Go.Maps

def xor64 (a b : Int) : Int := bits .xor .u64 a b

/-- A step with another Value, if it may. -/
def vary1 (l : List St) (g salt : Int) (s : St) : St := if varies l g s then { s with value := xor64 s.value salt } else s
def varyTo (l : List St) (g salt : Int) (k : Nat) : List St := (l.take k).map (vary1 l g salt) ++ l.drop k

theorem varyTo_length (l : List St) (g salt : Int) (k : Nat) : (varyTo l g salt k).length = l.length := by
  unfold varyTo
  simp
  omega
theorem varyTo_at {l : List St} {g salt : Int} {k : Nat} {s : St} (h : l[k]? = some s) : (varyTo l g salt k)[k]? = some s := by
  unfold varyTo
  have hk : k < l.length := by
    rcases Nat.lt_or_ge k l.length with h1 | h1
    · exact h1
    · rw [List.getElem?_eq_none h1] at h; cases h
  have hl : ((l.take k).map (vary1 l g salt)).length = k := by simp; omega
  rw [List.getElem?_append_right (by omega), hl, Nat.sub_self, List.getElem?_drop]
  simpa using h
theorem varyTo_succ {l : List St} {g salt : Int} {k : Nat} {s : St} (h : l[k]? = some s) : varyTo l g salt (k + 1) = (varyTo l g salt k).set k (vary1 l g salt s) := by
  have hk : k < l.length := by
    rcases Nat.lt_or_ge k l.length with h1 | h1
    · exact h1
    · rw [List.getElem?_eq_none h1] at h; cases h
  apply List.ext_getElem?
  intro i
  unfold varyTo
  have hl : ((l.take k).map (vary1 l g salt)).length = k := by simp; omega
  have hl1 : ((l.take (k + 1)).map (vary1 l g salt)).length = k + 1 := by simp; omega
  rw [List.getElem?_set]
  by_cases hik : k = i
  · subst hik
    rw [if_pos rfl, if_pos (by simp; omega), List.getElem?_append_left (by omega), List.getElem?_map, List.getElem?_take_of_lt (by omega), h]
    rfl
  · rw [if_neg hik]
    by_cases hlt : i < k
    · rw [List.getElem?_append_left (by omega), List.getElem?_append_left (by omega), List.getElem?_map, List.getElem?_map, List.getElem?_take_of_lt (by omega), List.getElem?_take_of_lt (by omega)]
    · rw [List.getElem?_append_right (by omega), List.getElem?_append_right (by omega), hl, hl1, List.getElem?_drop, List.getElem?_drop]
      congr 1
      omega

theorem varyTo_of {l : List St} {g salt : Int} {k i : Nat} {s : St} (h : (varyTo l g salt k)[i]? = some s) : ∃ s0, l[i]? = some s0 ∧ s.fails = s0.fails := by
  unfold varyTo at h
  by_cases hi : i < (l.take k).length
  · rw [List.getElem?_append_left (by simpa using hi), List.getElem?_map] at h
    cases h1 : (l.take k)[i]? with
    | none => rw [h1] at h; cases h
    | some s0 =>
      rw [h1] at h
      simp only [Option.map_some, Option.some.injEq] at h
      refine ⟨s0, ?_, ?_⟩
      · rw [List.getElem?_take] at h1
        split at h1
        · exact h1
        · cases h1
      · rw [← h]
        unfold vary1
        split <;> rfl
  · rw [List.getElem?_append_right (by simpa using hi), List.getElem?_drop] at h
    refine ⟨s, ?_, rfl⟩
    rw [← h]
    congr 1
    simp at hi ⊢
    have hk : k ≤ l.length ∨ l.length < k := by omega
    rcases hk with hk | hk
    · rw [Nat.min_eq_left hk] at *; omega
    · rw [Nat.min_eq_right (by omega)] at *
      exfalso
      have : l[k + (i - l.length)]? = none := List.getElem?_eq_none (by omega)
      simp at h
      rw [Nat.min_eq_right (by omega), this] at h
      cases h

theorem row_at {w : World} {base e gb gc n k : Nat} {l : List St} {gs : List Value} {s : St} {f : Value} (hs : l[k]? = some s) (hf : gs[k]? = some f) (hl : l.length = n)
    (h : w.ownsRow base e 12 (.slice (some ⟨gb, 0, none⟩) n gc) n (flat l gs)) (hk : k < n) : At w gb (k * 12) s f := by
  refine At.mk fun j hj => ?_
  rw [h.cellAt (k * 12 + j) (by omega)]
  exact flat_get l gs k s f j hs hf hj

theorem ownsRow_same {w w' : World} {base e size g n c : Nat} {xs : List Value} (h : w.ownsRow base e size (.slice (some ⟨g, 0, none⟩) n c) n xs) (hb : w'.heap[g]? = w.heap[g]?) :
    w'.ownsRow base e size (.slice (some ⟨g, 0, none⟩) n c) n xs := by
  obtain ⟨h1, h2⟩ := h
  refine ⟨h1, ?_⟩
  rcases h2 with ⟨h2, _⟩ | ⟨g', cap, cur, he, h3, h4, h5⟩
  · cases h2
  · simp only [Value.slice.injEq, Option.some.injEq, Addr.mk.injEq] at he
    obtain ⟨⟨rfl, _⟩, _⟩ := he
    exact .inr ⟨g, cap, cur, by simp only [Value.slice.injEq, Option.some.injEq, Addr.mk.injEq]; simp_all, h3, hb.trans h4, h5⟩

theorem flat_set11 : ∀ (l : List St) (gs : List Value) (k : Nat) (f : Value), gs.length = l.length → k < l.length → (flat l gs).set (k * 12 + 11) f = flat l (gs.set k f)
  | s :: l, g :: r, 0, f, _, _ => by
    simp [flat, St.cells]
  | s :: l, g :: r, k + 1, f, h, hk => by
    have := flat_set11 l r k f (by simpa using h) (by simpa using hk)
    simp only [flat, List.set_cons_succ]
    rw [List.set_append_right _ _ (by simp [St.cells]; omega), ← this]
    congr 2
    simp [St.cells]
    omega
  | [], _, _, _, _, hk => by simp at hk
  | _ :: _, [], _, _, h, _ => by simp at h

theorem flat_set4 : ∀ (l : List St) (gs : List Value) (k : Nat) (s : St) (v : Int), gs.length = l.length → l[k]? = some s → (flat l gs).set (k * 12 + 4) (.int .u64 v) = flat (l.set k { s with value := v }) gs
  | s :: l, g :: r, 0, s', v, _, h => by
    simp at h
    subst h
    simp [flat, St.cells]
  | s :: l, g :: r, k + 1, s', v, h, hk => by
    have := flat_set4 l r k s' v (by simpa using h) (by simpa using hk)
    simp only [flat, List.set_cons_succ]
    rw [List.set_append_right _ _ (by simp [St.cells]; omega), ← this]
    congr 2
    simp [St.cells]
    omega
  | [], _, _, _, _, _, hk => by simp at hk
  | _ :: _, [], _, _, _, h, _ => by simp at h

theorem set_self {α : Type} {l : List α} {k : Nat} {s : α} (h : l[k]? = some s) : l.set k s = l := by
  apply List.ext_getElem?
  intro i
  rw [List.getElem?_set]
  by_cases hik : k = i
  · subst hik
    rw [if_pos rfl, h]
    have : k < l.length := by
      rcases Nat.lt_or_ge k l.length with h1 | h1
      · exact h1
      · rw [List.getElem?_eq_none h1] at h; cases h
    rw [if_pos this]
  · rw [if_neg hik]

theorem Bools_setCell {B : Nat} {w : World} {v : Value} {l : List Bool} (h : Bools B w v l) {p : Addr} {x : Value} (hp : w.cell? p = some x) (hx : ∀ c, x ≠ .bool c) (u : Value) : Bools B (w.setCell p u) v l := by
  obtain ⟨a, cap, rfl, h3⟩ := h
  refine ⟨a, cap, rfl, ?_⟩
  rcases h3 with h3 | ⟨b, off, rfl, hB, hc⟩
  · exact .inl h3
  · refine .inr ⟨b, off, rfl, hB, fun j y hj => ?_⟩
    have := hc j y hj
    rw [World.cell?_setCell_other]
    · exact this
    · rintro rfl
      rw [hp] at this
      simp only [Option.some.injEq] at this
      subst this
      rw [List.getElem?_map] at hj
      cases hb : l[j]? with
      | none => rw [hb] at hj; cases hj
      | some c => rw [hb] at hj; simp at hj; exact hx c hj.symm

theorem Bools.shape {B : Nat} {w : World} {v : Value} {l : List Bool} (h : Bools B w v l) : ∃ a c, v = .slice a l.length c := by
  obtain ⟨a, c, h, _⟩ := h
  exact ⟨a, c, h⟩

/-- What stands behind a call that makes memory alone: the row and the box, as they were. -/
theorem kept_row {w0 w3 : World} {cs : Array Value} {base gb gc n k : Nat} {l : List St} {gs : List Value} {s : St} {f : Value} (hs : l[k]? = some s) (hf : gs[k]? = some f) (hl : l.length = n)
    (h : w0.ownsRow base 31 12 (.slice (some ⟨gb, 0, none⟩) n gc) n (flat l gs)) (hk : k < n) (hg : gb < w0.heap.size) (h3 : Below (w0.alloc (.cells cs 31)).heap.size (w0.alloc (.cells cs 31)) w3) :
    w3.ownsRow base 31 12 (.slice (some ⟨gb, 0, none⟩) n gc) n (flat l gs) ∧ At w3 gb (k * 12) s f ∧ (∀ j, w3.frozen? ⟨gb, k * 12 + j, none⟩ = false) ∧ ∀ j, w3.cell? ⟨w0.heap.size, j, none⟩ = cs[j]? := by
  have e1 : w3.heap[gb]? = w0.heap[gb]? := by
    rw [h3.block gb (by simp; omega)]
    exact Below.heap_alloc _ _ _ hg
  have h' := ownsRow_same h e1
  refine ⟨h', row_at hs hf hl h' hk, fun j => h'.frozenAt _, fun j => ?_⟩
  rw [h3.cell (by simp)]
  have h : (w0.alloc (.cells cs 31)).heap[w0.heap.size]? = some (.cells cs 31) := by
    show (w0.heap.push (.cells cs 31))[w0.heap.size]? = _
    rw [Array.getElem?_push, if_pos rfl]
  simp only [World.cell?, h]
  rfl

set_option maxRecDepth 100000 in
set_option maxHeartbeats 4000000 in
theorem Vary_some (b off n cap B : Nat) (l : List St) (fs : List Value) (g salt : Int) (w : World) (hn : l.length = n) (h0 : 0 < n) (hbig : n ≤ 1000000) (hBw : B ≤ w.heap.size)
    (hx : StepsF B w (.slice (some ⟨b, off, none⟩) n cap) l fs) (hok : ∀ s ∈ l, (Lit.int .i64 s.page).wf = true) (hfl : ∀ s ∈ l, s.fails.length ≤ 1000000) :
    Calls Tryz.prog 7 #[.slice (some ⟨b, off, none⟩) n cap, .int .i64 g, .int .u64 salt] w fun e w' => ∃ r gs, e = .returned r ∧ Below w.heap.size w w' ∧ StepsF w'.heap.size w' r (varyTo l g salt n) gs := by
  have HX : Aside (StepsF B w (.slice (some ⟨b, off, none⟩) n cap) l fs) := hx
  have HF : Aside (∀ s ∈ l, s.fails.length ≤ 1000000) := hfl
  have OK : Aside (∀ s ∈ l, (Lit.int .i64 s.page).wf = true) := hok
  have HL : Aside (Calls Tryz.prog 17 #[.slice (some ⟨b, off, none⟩) n cap, .int .i64 g] w fun e w' => e = .returned (.tuple #[.map (some w.heap.size), .map (some (w.heap.size + 1))]) ∧ Below w.heap.size w w' ∧
      Marks Tryz.prog 3 4 w' w.heap.size n (own l g) ∧ Marks Tryz.prog 3 4 w' (w.heap.size + 1) n (others l g)) := by
    have := hx.1
    obtain ⟨s0, hs0⟩ : ∃ s, l[0]? = some s := ⟨_, List.getElem?_eq_getElem (by omega)⟩
    obtain ⟨f0, hf0⟩ : ∃ s, fs[0]? = some s := ⟨_, List.getElem?_eq_getElem (by omega)⟩
    subst hn
    refine lent_any b off cap l fs g w (by omega) (Nat.lt_of_lt_of_le (hx.at hs0 hf0).1 hBw) (by intro h; rw [h] at h0; simp at h0) hx.1 ?_ ?_ hok
    · intro f hf
      obtain ⟨i, hi, rfl⟩ := List.getElem_of_mem hf
      obtain ⟨a, c, h, _⟩ := hx.2.1 i l[i] fs[i] (List.getElem?_eq_getElem (by omega)) (List.getElem?_eq_getElem hi)
      exact ⟨_, _, _, h⟩
    · intro i s f hs hf
      exact (hx.at hs hf).2
  have HC : Aside (∀ w1, Below w.heap.size w w1 → Calls Tryz.prog 18 #[.slice (some ⟨b, off, none⟩) n cap] w1 fun e w' => ∃ gb gc, e = .returned (.slice (some ⟨gb, 0, none⟩) n gc) ∧ w1.heap.size ≤ gb ∧ Below w1.heap.size w1 w' ∧ w'.ownsRow w1.heap.size 31 12 (.slice (some ⟨gb, 0, none⟩) n gc) n (flat l fs)) := by
    intro w1 h1
    subst hn
    refine (CloneS_calls (hx.below (h1.mono hBw)) (by omega)).mono ?_
    rintro e w' ⟨r, rfl, h1, h2⟩
    have h3 := h2
    rcases h2.2 with ⟨_, h⟩ | ⟨gb, gc, cur, rfl, h, _⟩
    · omega
    · exact ⟨gb, gc, rfl, h, h1, h3⟩
  clear hx hok hfl
  go_enter Tryz.func7, Tryz.ntmps7
  go_wp2_with (first
    | (go_at_call 17; refine HL.out.mono ?_; rintro e w1 ⟨rfl, hw1, hm1, hm2⟩)
    | (go_at_call 18; refine (HC.out _ hw1).mono ?_; rintro e w2 ⟨gb, gc, rfl, hgb, hw2, hown⟩))
  go_loopw [22] (fun i wr => ∃ k : Nat, k ≤ n ∧ i = .int .i64 k ∧ Below w1.heap.size w1 wr ∧ gb < wr.heap.size ∧ ∃ gs : List Value, gs.length = n ∧
      wr.ownsRow w1.heap.size 31 12 (.slice (some ⟨gb, 0, none⟩) n gc) n (flat (varyTo l g salt k) gs) ∧ ∀ (i : Nat) (s : St) (f : Value), l[i]? = some s → gs[i]? = some f → Bools wr.heap.size wr f s.fails)
    (fun i _ => n - (RowKit.intOf i).toNat)
  case atStart =>
    refine ⟨0, Nat.zero_le _, rfl, hw2, (hown.lt gb rfl).2, fs, by have := HX.out.1; omega, by simpa [varyTo] using hown, fun i s f h1 h2 => ?_⟩
    exact ((HX.out.2.1 i s f h1 h2).below ((hw1.trans (hw2.mono hw1.size)).mono hBw)).up (by have := hw1.size; have := hw2.size; omega)
  case round =>
    obtain ⟨k, hk, rfl, hbl, hgl, gs, hgs, hrow, hbo⟩ := hrel
    by_cases hlt : k < n
    · obtain ⟨s, hs⟩ : ∃ s, l[k]? = some s := ⟨_, List.getElem?_eq_getElem (by omega)⟩
      obtain ⟨f, hf⟩ : ∃ f, gs[k]? = some f := ⟨_, List.getElem?_eq_getElem (by omega)⟩
      have hbf := hbo k s f hs hf
      obtain ⟨fa, fc, hfe, _⟩ := hbf
      obtain ⟨c0, c1, c2, c3, c4, c5, c6, c7, c8, c9, c10, c11⟩ := row_at (varyTo_at hs) hf (by rw [varyTo_length]; omega) hrow (by omega)
      have hi : (k : Int) < (n : Int) := by omega
      have HR : Aside (wr.ownsRow w1.heap.size 31 12 (.slice (some ⟨gb, 0, none⟩) n gc) n (flat (varyTo l g salt k) gs)) := hrow
      have HO : Aside (∀ (i : Nat) (s : St) (f : Value), l[i]? = some s → gs[i]? = some f → Bools wr.heap.size wr f s.fails) := hbo
      have HB : Aside (Below w1.heap.size w1 wr) := hbl
      have HS : Aside (l[k]? = some s) := hs
      have HG : Aside (gs[k]? = some f) := hf
      clear hrow hbo hbl hs hf
      subst hfe
      have HK : Aside (∀ w3, Below wr.heap.size wr w3 → Calls Tryz.prog 19 #[.slice fa s.fails.length fc] w3 fun e w' => ∃ r, e = .returned r ∧ Below w3.heap.size w3 w' ∧ Bools w'.heap.size w' r s.fails) :=
        fun w3 h3 => CloneB_calls ((HO.out k s _ HS.out HG.out).below h3) (by have := HF.out s (List.mem_of_getElem? HS.out); omega)
      have HV : Aside (∀ w4, Below w1.heap.size w1 w4 → ∀ (fa : Option Addr) (fn fc : Nat), Calls Tryz.prog 20 #[s.val (.slice fa fn fc), .int .i64 g, .map (some w.heap.size)] w4 fun e w' => e = .returned (.bool (varies l g s)) ∧ Below w4.heap.size w4 w') :=
        fun w4 h4 fa fn fc => varies_any s fa fn fc g w.heap.size n (own l g) w4 (hm1.same (h4.block _ hm1.lt)) (OK.out s (List.mem_of_getElem? HS.out))
      unfold St.val at HV
      generalize hvc : varies l g s = vc at HV
      go_wp2_with fail
      refine (HK.out _ ((Below.refl _ _).alloc (Nat.le_refl _) _)).mono ?_
      rintro e w3 ⟨r, rfl, hw3, hr⟩
      obtain ⟨ra, rc, rfl⟩ := Bools.shape hr
      obtain ⟨R3, ⟨x0, x1, x2, x3, x4, x5, x6, x7, x8, x9, x10, x11⟩, hfz, hbx⟩ := kept_row (varyTo_at HS.out) HG.out (by rw [varyTo_length]; omega) HR.out hlt hgl hw3
      have hfz11 := hfz 11
      have hfz4 := hfz 4
      have y0 := hbx 0
      have y1 := hbx 1
      have y2 := hbx 2
      have y3 := hbx 3
      have y4 := hbx 4
      have y5 := hbx 5
      have y6 := hbx 6
      have y7 := hbx 7
      have y8 := hbx 8
      have y9 := hbx 9
      have y10 := hbx 10
      have y11 := hbx 11
      clear hbx hfz c0 c1 c2 c3 c4 c5 c6 c7 c8 c9 c10 c11
      simp only [List.getElem?_toArray, List.getElem?_cons_zero, List.getElem?_cons_succ] at y0 y1 y2 y3 y4 y5 y6 y7 y8 y9 y10 y11
      have HR3 : Aside (w3.ownsRow w1.heap.size 31 12 (.slice (some ⟨gb, 0, none⟩) n gc) n (flat (varyTo l g salt k) gs)) := R3
      have HRR : Aside (Bools w3.heap.size w3 (.slice ra s.fails.length rc) s.fails) := hr
      have HX11 : Aside (w3.cell? ⟨gb, k * 12 + 11, none⟩ = some (.slice fa s.fails.length fc)) := x11
      have hB3 : Below wr.heap.size wr w3 := ((Below.refl _ _).alloc (Nat.le_refl _) _).trans (hw3.mono (by simp))
      have HW3 : Aside (Below wr.heap.size wr w3) := hB3
      clear R3 hw3 hr hB3
      go_wp2_with fail
      have hB3 : Below w1.heap.size w1 w3 := HB.out.trans (HW3.out.mono HB.out.size)
      have hB4 : Below w1.heap.size w1 (w3.setCell ⟨gb, k * 12 + 11, none⟩ (.slice ra s.fails.length rc)) := hB3.setCell hgb _
      have hR4 : (w3.setCell ⟨gb, k * 12 + 11, none⟩ (.slice ra s.fails.length rc)).ownsRow w1.heap.size 31 12 (.slice (some ⟨gb, 0, none⟩) n gc) n (flat (varyTo l g salt k) (gs.set k (.slice ra s.fails.length rc))) := by
        have := World.ownsRow.stored HR3.out (k * 12 + 11) (.slice ra s.fails.length rc)
        rw [flat_set11 _ _ _ _ (by rw [varyTo_length]; omega) (by rw [varyTo_length]; omega)] at this
        exact this.1
      have hg4 : gb < (w3.setCell ⟨gb, k * 12 + 11, none⟩ (.slice ra s.fails.length rc)).heap.size := (hR4.lt gb rfl).2
      refine (HV.out _ hB4 _ _ _).mono ?_
      rintro e w5 ⟨rfl, hw5⟩
      have hR5 := ownsRow_same hR4 (hw5.block gb hg4)
      have v4 := (row_at (varyTo_at HS.out) (by rw [List.getElem?_set, if_pos rfl, if_pos (by omega)]) (by rw [varyTo_length]; omega) hR5 hlt).2.2.2.2.1
      have fz4 := hR5.frozenAt (k * 12 + 4)
      have HR5 : Aside (w5.ownsRow w1.heap.size 31 12 (.slice (some ⟨gb, 0, none⟩) n gc) n (flat (varyTo l g salt k) (gs.set k (.slice ra s.fails.length rc)))) := hR5
      have HB5 : Aside (Below w1.heap.size w1 w5) := hB4.trans (hw5.mono (by have := hB4.size; omega))
      have HG5 : Aside (gb < w5.heap.size) := Nat.lt_of_lt_of_le hg4 hw5.size
      have HO5 : Aside (∀ (i : Nat) (s' : St) (f : Value), l[i]? = some s' → (gs.set k (.slice ra s.fails.length rc))[i]? = some f → Bools w5.heap.size w5 f s'.fails) := by
        intro i s' f' h1 h2
        rw [List.getElem?_set] at h2
        by_cases hik : k = i
        · subst hik
          rw [if_pos rfl, if_pos (by omega)] at h2
          simp only [Option.some.injEq] at h2
          subst h2
          have := HS.out.symm.trans h1
          simp only [Option.some.injEq] at this
          subst this
          have := Bools_setCell HRR.out HX11.out (by intro c hc; cases hc) (.slice ra s.fails.length rc)
          exact (this.below (hw5.mono (by simp [World.setCell]))).up (by have := hw5.size; simp [World.setCell] at this; omega)
        · rw [if_neg hik] at h2
          have := Bools_setCell ((HO.out i s' f' h1 h2).below HW3.out) HX11.out (by intro c hc; cases hc) (.slice ra s.fails.length rc)
          exact (this.below (hw5.mono (by have := HW3.out.size; simp [World.setCell]; omega))).up (by have := hw5.size; have := HW3.out.size; simp [World.setCell] at *; omega)
      have HX4 : Aside (w5.cell? ⟨gb, k * 12 + 4, none⟩ = some (.int .u64 s.value)) := v4
      clear hB3 hB4 hR4 hR5 hw5 hg4 x0 x1 x2 x3 x4 x5 x6 x7 x8 x9 x10 x11 y0 y1 y2 y3 y4 y5 y6 y7 y8 y9 y10 y11 hfz11 hfz4
      go_wp2_with fail
      · have hv : vc = true := by assumption
        go_roundw
        case rel =>
          refine ⟨k + 1, by omega, by go_num, HB5.out.setCell hgb _, by simpa [World.setCell] using HG5.out, gs.set k (.slice ra s.fails.length rc), by simpa using hgs, ?_, fun i s' f' h1 h2 => ?_⟩
          · have := World.ownsRow.stored HR5.out (k * 12 + 4) (.int .u64 (bits .xor .u64 s.value salt))
            rw [flat_set4 _ _ _ s _ (by rw [varyTo_length]; simp; omega) (varyTo_at HS.out)] at this
            rw [varyTo_succ HS.out]
            unfold vary1
            rw [hvc, hv]
            exact this.1
          · have := HO5.out i s' f' h1 h2
            have := Bools_setCell this HX4.out (by intro c hc; cases hc) (.int .u64 (bits .xor .u64 s.value salt))
            exact this.up (by simp [World.setCell])
        case measure => simp [RowKit.intOf]; omega
      · have hv : vc = false := by assumption
        go_roundw
        case rel =>
          refine ⟨k + 1, by omega, by go_num, HB5.out, HG5.out, gs.set k (.slice ra s.fails.length rc), by simpa using hgs, ?_, HO5.out⟩
          rw [varyTo_succ HS.out]
          unfold vary1
          rw [hvc, hv]
          simp only [Bool.false_eq_true, if_false]
          rw [set_self (varyTo_at HS.out)]
          exact HR5.out
        case measure => simp [RowKit.intOf]; omega
    · have hkn : k = n := by omega
      subst hkn
      have HR : Aside (wr.ownsRow w1.heap.size 31 12 (.slice (some ⟨gb, 0, none⟩) k gc) k (flat (varyTo l g salt k) gs)) := hrow
      clear hrow
      go_wp2
      go_ret
      refine ⟨_, gs, rfl, hw1.trans (hbl.mono hw1.size), StepsF.owned HR.out (by rw [varyTo_length]; omega) fun i s f h1 h2 => ?_⟩
      obtain ⟨s0, h0, hs0⟩ := varyTo_of h1
      rw [hs0]
      exact hbo i s0 f h0 h2
end Go.Proofs.YtndbccpaccflcaaGreat

namespace Go.Proofs.YtndbccpaccflcaaGreat
open Go Go.RowKit Go.Tw Go.Lib Go.Maps

set_option maxRecDepth 100000 in
theorem Vary_none (a : Option Addr) (cap B : Nat) (fs : List Value) (g salt : Int) (w : World) (hBw : B ≤ w.heap.size) (hx : StepsF B w (.slice a 0 cap) [] fs) :
    Calls Tryz.prog 7 #[.slice a 0 cap, .int .i64 g, .int .u64 salt] w fun e w' => ∃ r gs, e = .returned r ∧ Below w.heap.size w w' ∧ StepsF w'.heap.size w' r [] gs := by
  have HL : Aside (Calls Tryz.prog 17 #[.slice a 0 cap, .int .i64 g] w fun e w' => e = .returned (.tuple #[.map (some w.heap.size), .map (some (w.heap.size + 1))]) ∧ Below w.heap.size w w') :=
    (lent_none a cap g w).mono fun e w' h => ⟨h.1, h.2.1⟩
  have HC : Aside (∀ w1, Below B w w1 → Calls Tryz.prog 18 #[.slice a 0 cap] w1 fun e w' => ∃ ra rc, e = .returned (.slice ra 0 rc) ∧ Below w1.heap.size w1 w' ∧ w'.ownsRow w1.heap.size 31 12 (.slice ra 0 rc) 0 []) := by
    intro w1 h1
    refine (CloneS_calls (hx.below h1) (by simp)).mono ?_
    rintro e w' ⟨r, rfl, h1, h2⟩
    have hf : flat [] fs = [] := by simp [flat]
    rw [hf] at h2
    have h3 := h2
    rcases h2.2 with ⟨rfl, h⟩ | ⟨gb, gc, cur, rfl, h, _⟩
    · exact ⟨none, 0, rfl, h1, h3⟩
    · exact ⟨_, gc, rfl, h1, h3⟩
  clear hx
  go_enter Tryz.func7, Tryz.ntmps7
  go_wp2_with (first
    | (go_at_call 17; refine HL.out.mono ?_; rintro e w1 ⟨rfl, hw1⟩)
    | (go_at_call 18; refine (HC.out _ (hw1.mono hBw)).mono ?_; rintro e w2 ⟨ra, rc, rfl, hw2, hown⟩))
  have HR : Aside (w2.ownsRow w1.heap.size 31 12 (.slice ra 0 rc) 0 []) := hown
  clear hown
  refine wp_loop_rounds 1 ?_
  rw [rounds_succ]
  go_wp2
  go_ret
  exact ⟨_, [], rfl, hw1.trans (hw2.mono hw1.size), StepsF.owned (l := []) HR.out rfl (fun i s f h => by simp at h)⟩

theorem lent_calls {B : Nat} {w : World} {x : Value} {l : List St} {fs : List Value} (g : Int) (hBw : B ≤ w.heap.size) (hx : StepsF B w x l fs) (hbig : l.length ≤ 1000000) (hok : ∀ s ∈ l, (Lit.int .i64 s.page).wf = true) :
    Calls Tryz.prog 17 #[x, .int .i64 g] w fun e w' => e = .returned (.tuple #[.map (some w.heap.size), .map (some (w.heap.size + 1))]) ∧ Below w.heap.size w w' ∧
      Marks Tryz.prog 3 4 w' w.heap.size l.length (own l g) ∧ Marks Tryz.prog 3 4 w' (w.heap.size + 1) l.length (others l g) := by
  obtain ⟨a, c, rfl, ha⟩ := hx.shape
  by_cases hl : l = []
  · subst hl
    exact lent_none a c g w
  · obtain ⟨b, off, rfl⟩ := ha hl
    have h0 : 0 < l.length := by
      rcases Nat.eq_zero_or_pos l.length with h | h
      · exact absurd (List.eq_nil_of_length_eq_zero h) hl
      · exact h
    have := hx.1
    obtain ⟨s0, hs0⟩ : ∃ s, l[0]? = some s := ⟨_, List.getElem?_eq_getElem (by omega)⟩
    obtain ⟨f0, hf0⟩ : ∃ s, fs[0]? = some s := ⟨_, List.getElem?_eq_getElem (by omega)⟩
    refine lent_any b off c l fs g w (by omega) (Nat.lt_of_lt_of_le (hx.at hs0 hf0).1 hBw) hl hx.1 ?_ ?_ hok
    · intro f hf
      obtain ⟨i, hi, rfl⟩ := List.getElem_of_mem hf
      obtain ⟨a, c, h, _⟩ := hx.2.1 i l[i] fs[i] (List.getElem?_eq_getElem (by omega)) (List.getElem?_eq_getElem hi)
      exact ⟨_, _, _, h⟩
    · intro i s f hs hf
      exact (hx.at hs hf).2

theorem varyTo_all (l : List St) (g salt : Int) : varyTo l g salt l.length = l.map (vary1 l g salt) := by
  unfold varyTo
  simp

/-- What Vary comes to: a script of its own, each step varied. -/
theorem Vary_calls {B : Nat} {w : World} {x : Value} {l : List St} {fs : List Value} (g salt : Int) (hBw : B ≤ w.heap.size) (hx : StepsF B w x l fs) (hbig : l.length ≤ 1000000) (hok : ∀ s ∈ l, (Lit.int .i64 s.page).wf = true) (hfl : ∀ s ∈ l, s.fails.length ≤ 1000000) :
    Calls Tryz.prog 7 #[x, .int .i64 g, .int .u64 salt] w fun e w' => ∃ r gs, e = .returned r ∧ Below w.heap.size w w' ∧ StepsF w'.heap.size w' r (l.map (vary1 l g salt)) gs := by
  obtain ⟨a, c, rfl, ha⟩ := hx.shape
  by_cases hl : l = []
  · subst hl
    exact Vary_none a c B fs g salt w hBw hx
  · obtain ⟨b, off, rfl⟩ := ha hl
    have h0 : 0 < l.length := by
      rcases Nat.eq_zero_or_pos l.length with h | h
      · exact absurd (List.eq_nil_of_length_eq_zero h) hl
      · exact h
    have := Vary_some b off l.length c B l fs g salt w rfl h0 hbig hBw hx hok hfl
    rw [varyTo_all] at this
    exact this
end Go.Proofs.YtndbccpaccflcaaGreat
