/- Blocks that come, that are changed, that are forgotten. -/
import Derived.Test.YtndbccpaccflcaaGreatDmRel
set_option linter.unusedVariables false
set_option linter.unusedSimpArgs false
set_option linter.unusedSectionVars false
namespace Go.Proofs.YtndbccpaccflcaaGreat.Dm
open Go

theorem Heap.get_put (h : Heap) (b : Nat) (o : AO) (x : Nat) : (h.put b o).get x = if x = b then some o else h.get x := Tr.get_put _ _ _ _
theorem Heap.get_kill (h : Heap) (b x : Nat) : (h.kill b).get x = if x = b then none else h.get x := Tr.get_put _ _ _ _
theorem Heap.get_push (h : Heap) (o : AO) (x : Nat) : (h.push o).get x = if x = h.next then some o else h.get x := Tr.get_put _ _ _ _

theorem Post.push {ι : Io} {w w' : World} {h : Heap} (o : AO) (N : Nat) (r : Rep ι w h) (hf : Free ι h.next (h.push o).next)
    (hw : ∀ c, c < w.heap.size → w'.heap[c]? = w.heap[c]?) (hz : w'.heap.size = w.heap.size + 1)
    (ht : w'.tape = w.tape) (ho : w'.os = w.os) (hp : w'.output = w.output)
    (hr : OR (fun b => if b = h.next then some (w.heap.size, N) else ι b) o w.heap.size N w') :
    Post ι h (h.push o) w w' (fun b => if b = h.next then some (w.heap.size, N) else ι b) := by
  have hn : ι h.next = none := hf h.next (Nat.le_refl _) (Nat.lt_succ_self _)
  have hs : Sub ι (fun b => if b = h.next then some (w.heap.size, N) else ι b) := by
    intro b p hb
    by_cases e : b = h.next
    · subst e; rw [hn] at hb; cases hb
    · simp only [if_neg e]; exact hb
  refine ⟨⟨?_, ?_, ?_, ?_⟩, ?_, Nat.le_succ _, fun c hc _ => hw c hc, by omega, ?_, ht, ho, hp⟩
  · intro b x hb
    rw [Heap.get_push] at hb
    show b < h.next + 1
    by_cases e : b = h.next
    · omega
    · rw [if_neg e] at hb; have := r.lt b x hb; omega
  · intro b x hb
    rw [Heap.get_push] at hb
    by_cases e : b = h.next
    · rw [if_pos e] at hb
      simp only [Option.some.injEq] at hb; subst hb
      exact ⟨w.heap.size, N, by simp only [if_pos e], hr⟩
    · rw [if_neg e] at hb
      obtain ⟨cb, M, h1, h2⟩ := r.obj b x hb
      exact ⟨cb, M, by simp only [if_neg e]; exact h1, OR.mono hs (hw cb (r.dom b cb M h1)) h2⟩
  · intro b b' x x' c M M' hb hb' h1 h2
    rw [Heap.get_push] at hb hb'
    by_cases e : b = h.next <;> by_cases e' : b' = h.next
    · omega
    · rw [if_pos e] at h1; rw [if_neg e'] at h2
      simp only [Option.some.injEq, Prod.mk.injEq] at h1
      have := r.dom b' c M' h2; omega
    · rw [if_neg e] at h1; rw [if_pos e'] at h2
      simp only [Option.some.injEq, Prod.mk.injEq] at h2
      have := r.dom b c M h1; omega
    · rw [if_neg e] at h1 hb; rw [if_neg e'] at h2 hb'
      exact r.inj b b' x x' c M M' hb hb' h1 h2
  · intro b c M h1
    by_cases e : b = h.next
    · rw [if_pos e] at h1; simp only [Option.some.injEq, Prod.mk.injEq] at h1; omega
    · rw [if_neg e] at h1; have := r.dom b c M h1; omega
  · intro b hb
    have : b ≠ h.next := by
      rcases hb with hb | hb
      · omega
      · have : h.next + 1 ≤ b := hb; omega
    simp only [if_neg this]
  · intro b x c M hb h1
    rw [Heap.get_push] at hb
    by_cases e : b = h.next
    · rw [if_pos e] at h1; simp only [Option.some.injEq, Prod.mk.injEq] at h1; right; omega
    · rw [if_neg e] at h1 hb; exact .inl ⟨b, x, M, hb, h1⟩

theorem Post.put {ι : Io} {w w' : World} {h : Heap} {b cb N : Nat} {o o' : AO} (r : Rep ι w h) (hb : h.get b = some o) (hi : ι b = some (cb, N))
    (hw : ∀ c, c ≠ cb → w'.heap[c]? = w.heap[c]?) (hz : w'.heap.size = w.heap.size)
    (ht : w'.tape = w.tape) (ho : w'.os = w.os) (hp : w'.output = w.output) (hr : OR ι o' cb N w') :
    Post ι h (h.put b o') w w' ι := by
  refine ⟨⟨?_, ?_, ?_, ?_⟩, fun _ _ => rfl, Nat.le_refl _, ?_, by omega, ?_, ht, ho, hp⟩
  · intro x y hx
    rw [Heap.get_put] at hx
    show x < h.next
    by_cases e : x = b
    · subst e; exact r.lt x o hb
    · rw [if_neg e] at hx; exact r.lt x y hx
  · intro x y hx
    rw [Heap.get_put] at hx
    by_cases e : x = b
    · rw [if_pos e] at hx; simp only [Option.some.injEq] at hx; subst hx; subst e
      exact ⟨cb, N, hi, hr⟩
    · rw [if_neg e] at hx
      obtain ⟨c, M, h1, h2⟩ := r.obj x y hx
      refine ⟨c, M, h1, OR.mono (Sub.refl ι) (hw c ?_) h2⟩
      intro hc; subst hc
      exact e (r.inj x b y o c M N hx hb h1 hi)
  · intro x x' y y' c M M' hx hx' h1 h2
    rw [Heap.get_put] at hx hx'
    have A : ∃ z, h.get x = some z := by
      by_cases e : x = b
      · exact ⟨o, e ▸ hb⟩
      · rw [if_neg e] at hx; exact ⟨y, hx⟩
    have B : ∃ z, h.get x' = some z := by
      by_cases e : x' = b
      · exact ⟨o, e ▸ hb⟩
      · rw [if_neg e] at hx'; exact ⟨y', hx'⟩
    obtain ⟨z, hz'⟩ := A
    obtain ⟨z', hz''⟩ := B
    exact r.inj x x' z z' c M M' hz' hz'' h1 h2
  · intro x c M h1; rw [hz]; exact r.dom x c M h1
  · intro c _ hno
    apply hw
    intro hc; subst hc
    exact hno b o N hb hi
  · intro x y c M hx hc
    rw [Heap.get_put] at hx
    by_cases e : x = b
    · exact .inl ⟨x, o, M, e ▸ hb, hc⟩
    · rw [if_neg e] at hx; exact .inl ⟨x, y, M, hx, hc⟩

theorem Post.kill {ι : Io} {w : World} {h : Heap} (b : Nat) (r : Rep ι w h) : Post ι h (h.kill b) w w ι := by
  have g : ∀ x y, (h.kill b).get x = some y → h.get x = some y := by
    intro x y hx
    rw [Heap.get_kill] at hx
    by_cases e : x = b
    · rw [if_pos e] at hx; cases hx
    · rw [if_neg e] at hx; exact hx
  exact ⟨⟨fun x y hx => r.lt x y (g x y hx), fun x y hx => r.obj x y (g x y hx), fun x x' y y' c N N' hx hx' => r.inj x x' y y' c N N' (g x y hx) (g x' y' hx'), r.dom⟩,
    fun _ _ => rfl, Nat.le_refl _, fun _ _ _ => rfl, Nat.le_refl _, fun x y c N hx hc => .inl ⟨x, y, N, g x y hx, hc⟩, rfl, rfl, rfl⟩

/-- Nothing that is known of memory turns: draws, marks beyond rows' ends. -/
theorem Post.still {ι : Io} {w w' : World} {h : Heap} (r : Rep ι w h) (hw : w'.heap = w.heap) (ht : w'.tape = w.tape) (ho : w'.os = w.os) (hp : w'.output = w.output) :
    Post ι h h w w' ι :=
  ⟨r.same (fun c _ => by rw [hw]) (by rw [hw]; exact Nat.le_refl _), fun _ _ => rfl, Nat.le_refl _, fun c _ _ => by rw [hw], by rw [hw]; exact Nat.le_refl _, fun b o c N h k => .inl ⟨b, o, N, h, k⟩, ht, ho, hp⟩

/-! ### rows -/

theorem Row.get_lt {r : Row} {i : Nat} {v : SV} (h : r.get i = some v) : i < r.n := by
  unfold Row.get at h
  cases hb : Nat.blt i r.n with
  | false => rw [hb] at h; cases h
  | true => exact Nat.le_of_ble_eq_true hb

theorem Row.get_ge {r : Row} {i : Nat} (h : r.n ≤ i) : r.get i = none := by
  cases h' : r.get i with
  | none => rfl
  | some v => have := Row.get_lt h'; omega

theorem Row.get_some {r : Row} {i : Nat} (h : i < r.n) : ∃ v, r.get i = some v := by
  unfold Row.get
  have : Nat.blt i r.n = true := Nat.ble_eq_true_of_le h
  rw [this]
  simp only [cnd_true]
  split
  · exact ⟨_, rfl⟩
  · exact ⟨_, rfl⟩

theorem Row.get_putAll : ∀ (l : List SV) (t : Tr SV) (i j : Nat), (Row.putAll t i l).get j = if i ≤ j then (match l[j - i]? with | some v => some v | none => t.get j) else t.get j
  | [], t, i, j => by simp [Row.putAll]
  | v :: l, t, i, j => by
    simp only [Row.putAll]
    rw [Row.get_putAll l, Tr.get_put]
    by_cases h1 : i ≤ j
    · rw [if_pos h1]
      by_cases h2 : Nat.succ i ≤ j
      · rw [if_pos h2]
        have : j - i = (j - Nat.succ i) + 1 := by omega
        rw [this, List.getElem?_cons_succ, if_neg (by omega)]
      · rw [if_neg h2]
        have : j = i := by omega
        subst this; simp
    · rw [if_neg h1, if_neg (by omega), if_neg (by omega)]

theorem Row.get_ofList (l : List SV) (i : Nat) : (Row.ofList l).get i = l[i]? := by
  unfold Row.get Row.ofList
  simp only [Row.get_putAll, Nat.zero_le, if_true, Nat.sub_zero]
  cases hb : Nat.blt i l.length with
  | false =>
    have : ¬ i < l.length := fun h => by rw [show Nat.blt i l.length = true from Nat.ble_eq_true_of_le h] at hb; cases hb
    rw [List.getElem?_eq_none (by omega)]; rfl
  | true =>
    have : i < l.length := Nat.le_of_ble_eq_true hb
    rw [List.getElem?_eq_getElem this]; rfl

theorem Row.get_rep (n : Nat) (d : SV) (i : Nat) : (Row.rep n d).get i = if i < n then some d else none := by
  unfold Row.get Row.rep
  cases hb : Nat.blt i n with
  | false =>
    have : ¬ i < n := fun h => by rw [show Nat.blt i n = true from Nat.ble_eq_true_of_le h] at hb; cases hb
    rw [if_neg this]; rfl
  | true =>
    have : i < n := Nat.le_of_ble_eq_true hb
    rw [if_pos this]; rfl

theorem Row.get_write {r r' : Row} {o : Nat} {l : List SV} (h : r.write o l = some r') : o + l.length ≤ r.n ∧ r'.n = r.n ∧
    ∀ i, r'.get i = if o ≤ i ∧ i < o + l.length then l[i - o]? else r.get i := by
  unfold Row.write at h
  cases hb : Nat.ble (Nat.add o l.length) r.n with
  | false => rw [hb] at h; cases h
  | true =>
    rw [hb] at h
    simp only [cnd_true, Option.some.injEq] at h
    have hle : o + l.length ≤ r.n := Nat.le_of_ble_eq_true hb
    subst h
    refine ⟨hle, rfl, fun i => ?_⟩
    unfold Row.get
    simp only [Row.get_putAll]
    cases hc : Nat.blt i r.n with
    | false =>
      have : ¬ i < r.n := fun h => by rw [show Nat.blt i r.n = true from Nat.ble_eq_true_of_le h] at hc; cases hc
      have e : ¬ (o ≤ i ∧ i < o + l.length) := by omega
      rw [if_neg e]; rfl
    | true =>
      simp only [cnd_true]
      by_cases h1 : o ≤ i
      · rw [if_pos h1]
        by_cases h2 : i < o + l.length
        · rw [if_pos ⟨h1, h2⟩, List.getElem?_eq_getElem (by omega)]
        · rw [if_neg (by omega), List.getElem?_eq_none (by omega)]
      · rw [if_neg h1, if_neg (by omega)]

theorem Row.get_app (r : Row) (l : List SV) (i : Nat) : (r.app l).get i = if i < r.n then r.get i else l[i - r.n]? := by
  unfold Row.get Row.app
  simp only [Row.get_putAll]
  by_cases h : i < r.n
  · rw [if_pos h, if_neg (by omega), show Nat.blt i r.n = true from Nat.ble_eq_true_of_le h,
      show Nat.blt i (Nat.add r.n l.length) = true from Nat.ble_eq_true_of_le (show i + 1 ≤ r.n + l.length by omega)]
  · rw [if_neg h, if_pos (by omega)]
    by_cases h2 : i < r.n + l.length
    · rw [show Nat.blt i (Nat.add r.n l.length) = true from Nat.ble_eq_true_of_le (show i + 1 ≤ r.n + l.length by omega), List.getElem?_eq_getElem (by omega)]
      rfl
    · have : Nat.blt i (Nat.add r.n l.length) = false := by
        cases hb : Nat.blt i (Nat.add r.n l.length) with
        | false => rfl
        | true => exact absurd (Nat.le_of_ble_eq_true hb) (show ¬ i + 1 ≤ r.n + l.length by omega)
      rw [this, List.getElem?_eq_none (by omega)]; rfl

theorem Row.read_spec (r : Row) : ∀ (k o : Nat) (l : List SV), r.read o k = some l → l.length = k ∧ ∀ i, i < k → r.get (o + i) = l[i]?
  | 0, o, l, h => by simp [Row.read] at h; subst h; simp
  | k + 1, o, l, h => by
    simp only [Row.read] at h
    cases h1 : r.get o with
    | none => rw [h1] at h; cases h
    | some v =>
      rw [h1] at h
      simp only [] at h
      cases h2 : r.read (Nat.succ o) k with
      | none => rw [h2] at h; cases h
      | some l' =>
        rw [h2] at h
        simp only [Option.some.injEq] at h
        subst h
        obtain ⟨a, b⟩ := Row.read_spec r k (Nat.succ o) l' h2
        refine ⟨by simp [a], fun i hi => ?_⟩
        cases i with
        | zero => simpa using h1
        | succ i =>
          have := b i (by omega)
          rw [List.getElem?_cons_succ, ← this]
          congr 1; omega

/-- A block is known by a new name; the elder one is forgotten. -/
theorem Post.move {ι : Io} {w w' : World} {h : Heap} {b cb N : Nat} {o o' : AO} (r : Rep ι w h) (hf : Free ι h.next (h.push o').next) (hb : h.get b = some o) (hi : ι b = some (cb, N))
    (hw : ∀ c, c ≠ cb → w'.heap[c]? = w.heap[c]?) (hz : w'.heap.size = w.heap.size)
    (ht : w'.tape = w.tape) (ho : w'.os = w.os) (hp : w'.output = w.output)
    (hr : OR (fun x => if x = h.next then some (cb, N) else ι x) o' cb N w') :
    Post ι h ((h.kill b).push o') w w' (fun x => if x = h.next then some (cb, N) else ι x) := by
  have hn : ι h.next = none := hf h.next (Nat.le_refl _) (Nat.lt_succ_self _)
  have hs : Sub ι (fun x => if x = h.next then some (cb, N) else ι x) := by
    intro x p hx
    by_cases e : x = h.next
    · subst e; rw [hn] at hx; cases hx
    · simp only [if_neg e]; exact hx
  have hcb := r.dom b cb N hi
  have g : ∀ x y, ((h.kill b).push o').get x = some y → (x = h.next ∧ y = o') ∨ (x ≠ h.next ∧ x ≠ b ∧ h.get x = some y) := by
    intro x y hx
    rw [Heap.get_push] at hx
    have : (h.kill b).next = h.next := rfl
    rw [this] at hx
    by_cases e : x = h.next
    · rw [if_pos e] at hx; simp only [Option.some.injEq] at hx; exact .inl ⟨e, hx.symm⟩
    · rw [if_neg e, Heap.get_kill] at hx
      by_cases e' : x = b
      · rw [if_pos e'] at hx; cases hx
      · rw [if_neg e'] at hx; exact .inr ⟨e, e', hx⟩
  have other : ∀ x y c M, x ≠ b → h.get x = some y → ι x = some (c, M) → c ≠ cb := by
    intro x y c M hx hy hc e
    subst e
    exact hx (r.inj x b y o c M N hy hb hc hi)
  refine ⟨⟨?_, ?_, ?_, ?_⟩, ?_, Nat.le_succ _, ?_, by omega, ?_, ht, ho, hp⟩
  · intro x y hx
    show x < h.next + 1
    rcases g x y hx with ⟨e, _⟩ | ⟨_, _, hx⟩
    · omega
    · have := r.lt x y hx; omega
  · intro x y hx
    rcases g x y hx with ⟨e, rfl⟩ | ⟨e, e', hx⟩
    · exact ⟨cb, N, by simp only [if_pos e], hr⟩
    · obtain ⟨c, M, h1, h2⟩ := r.obj x y hx
      exact ⟨c, M, by simp only [if_neg e]; exact h1, OR.mono hs (hw c (other x y c M e' hx h1)) h2⟩
  · intro x x' y y' c M M' hx hx' h1 h2
    rcases g x y hx with ⟨e, _⟩ | ⟨e, e', hx⟩ <;> rcases g x' y' hx' with ⟨k, _⟩ | ⟨k, k', hx'⟩
    · omega
    · rw [if_pos e] at h1; rw [if_neg k] at h2
      simp only [Option.some.injEq, Prod.mk.injEq] at h1
      exact absurd h1.1.symm (other x' y' c M' k' hx' h2)
    · rw [if_neg e] at h1; rw [if_pos k] at h2
      simp only [Option.some.injEq, Prod.mk.injEq] at h2
      exact absurd h2.1.symm (other x y c M e' hx h1)
    · rw [if_neg e] at h1; rw [if_neg k] at h2
      exact r.inj x x' y y' c M M' hx hx' h1 h2
  · intro x c M h1
    by_cases e : x = h.next
    · rw [if_pos e] at h1; simp only [Option.some.injEq, Prod.mk.injEq] at h1; omega
    · rw [if_neg e] at h1; have := r.dom x c M h1; omega
  · intro x hx
    have : x ≠ h.next := by
      rcases hx with hx | hx
      · omega
      · have : h.next + 1 ≤ x := hx; omega
    simp only [if_neg this]
  · intro c _ hno
    apply hw
    intro e; subst e
    exact hno b o N hb hi
  · intro x y c M hx h1
    rcases g x y hx with ⟨e, _⟩ | ⟨e, e', hx⟩
    · rw [if_pos e] at h1; simp only [Option.some.injEq, Prod.mk.injEq] at h1
      obtain ⟨rfl, rfl⟩ := h1
      exact .inl ⟨b, o, N, hb, hi⟩
    · rw [if_neg e] at h1; exact .inl ⟨x, y, M, hx, h1⟩

end Go.Proofs.YtndbccpaccflcaaGreat.Dm
