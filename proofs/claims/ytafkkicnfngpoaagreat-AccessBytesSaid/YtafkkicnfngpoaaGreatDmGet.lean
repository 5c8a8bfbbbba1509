/- bits.Get and bits.Put at a place that is known by its name: the overrides. -/
import Derived.Test.YtafkkicnfngpoaaGreatDmSeat
set_option linter.unusedVariables false
set_option linter.unusedSimpArgs false
set_option linter.unusedSectionVars false
namespace Go.Proofs.YtafkkicnfngpoaaGreat.Dm
open Go Go.RowKit

noncomputable def leNat : List Nat → Nat
  | [] => 0
  | a :: l => Nat.add a (Nat.mul 256 (leNat l))

noncomputable def szOk (s : Nat) : Bool := Nat.beq s 8 || Nat.beq s 4 || Nat.beq s 1 || Nat.beq s 2

noncomputable def getA (args : List AV) (h : Heap) : Option AV :=
  match args with
  | [.cv (.sc (.sl b o n cap z ex)), .cv (.sc (.i .i64 (.ofNat at_))), .cv (.sc (.i .i64 (.ofNat s)))] =>
    cnd (Nat.beq z 1 && szOk s && Nat.beq (Nat.mod at_ s) 0 && Nat.ble (Nat.add at_ s) n && Nat.ble n 1000000)
      (match h.get b with
      | some (.cells r _) => match bytesOf r (Nat.add o at_) s with
        | some l => some (.tu [.sc (.i .u64 (.ofNat (leNat l))), .sc (.i .i64 0)])
        | none => none
      | _ => none) none
  | _ => none

noncomputable def ovGet (g : FuncId) (call : CallK) : CallK := fun f args h => cnd (Nat.beq f g)
  (match getA args h with
  | some v => .ok v h
  | none => call f args h) (call f args h)

theorem bytesOf_at (r : Row) : ∀ (k o : Nat) (l : List Nat), bytesOf r o k = some l → l.length = k ∧ ∀ (i a : Nat), l[i]? = some a → a < 256 ∧ r.get (o + i) = some (.i .u8 (.ofNat a))
  | 0, o, l, h => by
    simp only [bytesOf, Option.some.injEq] at h
    subst h
    exact ⟨rfl, fun i a h => by simp at h⟩
  | k + 1, o, l, h => by
    unfold bytesOf at h
    split at h
    · rename_i a ha
      split at h
      · rename_i l' hl'
        cases hb : Nat.blt a 256 with
        | false => rw [hb] at h; cases h
        | true =>
          rw [hb] at h; simp only [cnd_true, Option.some.injEq] at h
          subst h
          obtain ⟨i1, i2⟩ := bytesOf_at r k (Nat.succ o) l' hl'
          refine ⟨by simp [i1], fun i c hc => ?_⟩
          cases i with
          | zero =>
            simp at hc
            subst hc
            exact ⟨Nat.le_of_ble_eq_true hb, ha⟩
          | succ i =>
            have := i2 i c (by simpa using hc)
            rw [show Nat.succ o + i = o + (i + 1) by omega] at this
            exact this
      · cases h
    · cases h

/-- What the contract of bits.Get says. -/
def GetOk (P : Program) (g : FuncId) : Prop := Enters P g ∧ ∀ {cb o n c at_ s : Nat} {l : List Nat}, (s = 1 ∨ s = 2 ∨ s = 4 ∨ s = 8) → at_ % s = 0 → at_ + s ≤ n → n ≤ 1000000 → ∀ (w : World), l.length = s → (∀ a ∈ l, a < 256) →
  (∀ (j a : Nat), l[j]? = some a → w.cell? ⟨cb, o + (at_ + j), none⟩ = some (.int .u8 (a : Int))) →
  Calls P g #[.slice (some ⟨cb, o, none⟩) n c, .int .i64 (at_ : Int), .int .i64 (s : Int)] w fun e w' => e = .returned (.tuple #[.int .u64 (leNat l : Nat), .int .i64 0]) ∧ Below w.heap.size w w'

theorem ovGet_ok {P : Program} {g : FuncId} (hG : GetOk P g) : OvOk P (ovGet g) := by
  intro call hc f args h v h' hr
  unfold ovGet at hr
  cases hb : Nat.beq f g with
  | false => rw [hb] at hr; exact hc f args h v h' hr
  | true =>
    rw [hb] at hr; simp only [cnd_true] at hr
    split at hr
    · rename_i u hu
      obtain rfl := Nat.eq_of_beq_eq_true hb
      simp only [CRes.ok.injEq] at hr
      obtain ⟨rfl, rfl⟩ := hr
      unfold getA at hu
      split at hu
      · rename_i b o n cap z ex at_ s
        cases hcd : (Nat.beq z 1 && szOk s && Nat.beq (Nat.mod at_ s) 0 && Nat.ble (Nat.add at_ s) n && Nat.ble n 1000000) with
        | false => rw [hcd] at hu; cases hu
        | true =>
          rw [hcd] at hu; simp only [cnd_true] at hu
          simp only [Bool.and_eq_true] at hcd
          obtain ⟨⟨⟨⟨c1, c2⟩, c3⟩, c4⟩, c5⟩ := hcd
          obtain rfl := Nat.eq_of_beq_eq_true c1
          have hs : s = 1 ∨ s = 2 ∨ s = 4 ∨ s = 8 := by
            unfold szOk at c2
            simp only [Bool.or_eq_true] at c2
            rcases c2 with ((c2 | c2) | c2) | c2 <;> have := Nat.eq_of_beq_eq_true c2 <;> omega
          have hmd : at_ % s = 0 := Nat.eq_of_beq_eq_true c3
          have hn : at_ + s ≤ n := Nat.le_of_ble_eq_true c4
          have hn6 : n ≤ 1000000 := Nat.le_of_ble_eq_true c5
          split at hu
          · rename_i r ro hgb
            split at hu
            · rename_i l hl
              simp only [Option.some.injEq] at hu
              subst hu
              refine ⟨hG.1, Nat.le_refl _, fun ι w as rep has hf => ?_⟩
              obtain ⟨as⟩ := as
              obtain ⟨a1, a2, a3, rfl⟩ : ∃ a1 a2 a3, as = [a1, a2, a3] := by
                match as, has with
                | [a1, a2, a3], _ => exact ⟨a1, a2, a3, rfl⟩
                | [], h => exact h.elim
                | [_], h => exact h.2.elim
                | [_, _], h => exact h.2.2.elim
                | _ :: _ :: _ :: _ :: _, h => exact h.2.2.2.elim
              obtain ⟨h1, h2, h3, -⟩ := has
              obtain ⟨cb, N, o', capc, e1, rfl, k0, k1, k2⟩ := (show VR ι (.sl b o n cap 1 ex) a1 from h1)
              obtain rfl : a2 = .int .i64 (at_ : Int) := h2
              obtain rfl : a3 = .int .i64 (s : Int) := h3
              obtain rfl : o' = o := by
                cases ex with
                | true => exact (k1 rfl).1
                | false => exact ((k2 rfl).2.1).resolve_left (by omega)
              obtain ⟨cb', N', g1, cs, el, fr, g2, g3, g4, g5, g6⟩ := rep.obj b _ hgb
              rw [e1] at g1
              simp only [Option.some.injEq, Prod.mk.injEq] at g1
              obtain ⟨rfl, rfl⟩ := g1
              obtain ⟨l1, l2⟩ := bytesOf_at r s (Nat.add o' at_) l hl
              refine (hG.2 (l := l) hs hmd hn hn6 w l1 (fun a ha => by obtain ⟨j, hj⟩ := List.getElem?_of_mem ha; exact (l2 j a hj).1) (fun j a hj => by
                obtain ⟨V, v1, v2⟩ := g5 _ _ (l2 j a hj).2
                obtain rfl : V = .int .u8 (a : Int) := v2
                rw [show o' + (at_ + j) = Nat.add o' at_ + j from (Nat.add_assoc o' at_ j).symm]
                simp only [World.cell?, g2]
                simpa using v1)).mono ?_
              rintro e w' ⟨rfl, hb⟩
              exact ⟨_, ι, rfl, ⟨_, rfl, rfl, rfl, trivial⟩, post_below rep hb⟩
            · cases hu
          · cases hu
      · cases hu
    · exact hc f args h v h' hr
end Go.Proofs.YtafkkicnfngpoaaGreat.Dm

namespace Go.Proofs.YtafkkicnfngpoaaGreat.Dm
open Go Go.RowKit

/-- A new block, wherever it lies behind the old ones. -/
theorem Post.pushAt {ι : Io} {w w' : World} {h : Heap} (o : AO) (g N : Nat) (r : Rep ι w h) (hf : Free ι h.next (h.push o).next)
    (hw : ∀ c, c < w.heap.size → w'.heap[c]? = w.heap[c]?) (hg : w.heap.size ≤ g) (hgl : g < w'.heap.size) (hz : w.heap.size ≤ w'.heap.size)
    (ht : w'.tape = w.tape) (ho : w'.os = w.os) (hp : w'.output = w.output)
    (hr : OR (fun b => if b = h.next then some (g, N) else ι b) o g N w') :
    Post ι h (h.push o) w w' (fun b => if b = h.next then some (g, N) else ι b) := by
  have hn : ι h.next = none := hf h.next (Nat.le_refl _) (Nat.lt_succ_self _)
  have hs : Sub ι (fun b => if b = h.next then some (g, N) else ι b) := by
    intro b p hb
    by_cases e : b = h.next
    · subst e; rw [hn] at hb; cases hb
    · simp only [if_neg e]; exact hb
  refine ⟨⟨?_, ?_, ?_, ?_⟩, ?_, Nat.le_succ _, fun c hc _ => hw c hc, hz, ?_, ht, ho, hp⟩
  · intro b x hb
    rw [Heap.get_push] at hb
    show b < h.next + 1
    by_cases e : b = h.next
    · omega
    · rw [if_neg e] at hb; have := r.lt b x hb; omega
  · intro b x hb
    rw [Heap.get_push] at hb
    by_cases e : b = h.next
    · rw [if_pos e] at hb
      simp only [Option.some.injEq] at hb; subst hb
      exact ⟨g, N, by simp only [if_pos e], hr⟩
    · rw [if_neg e] at hb
      obtain ⟨cb, M, h1, h2⟩ := r.obj b x hb
      exact ⟨cb, M, by simp only [if_neg e]; exact h1, OR.mono hs (hw cb (r.dom b cb M h1)) h2⟩
  · intro b b' x x' c M M' hb hb' h1 h2
    rw [Heap.get_push] at hb hb'
    by_cases e : b = h.next <;> by_cases e' : b' = h.next
    · omega
    · rw [if_pos e] at h1; rw [if_neg e'] at h2
      simp only [Option.some.injEq, Prod.mk.injEq] at h1
      have := r.dom b' c M' h2; omega
    · rw [if_neg e] at h1; rw [if_pos e'] at h2
      simp only [Option.some.injEq, Prod.mk.injEq] at h2
      have := r.dom b c M h1; omega
    · rw [if_neg e] at h1 hb; rw [if_neg e'] at h2 hb'
      exact r.inj b b' x x' c M M' hb hb' h1 h2
  · intro b c M h1
    by_cases e : b = h.next
    · rw [if_pos e] at h1; simp only [Option.some.injEq, Prod.mk.injEq] at h1; omega
    · rw [if_neg e] at h1; have := r.dom b c M h1; omega
  · intro b hb
    have : b ≠ h.next := by
      rcases hb with hb | hb
      · omega
      · have : h.next + 1 ≤ b := hb; omega
    simp only [if_neg this]
  · intro b x c M hb h1
    rw [Heap.get_push] at hb
    by_cases e : b = h.next
    · subst e
      simp only [if_true, Option.some.injEq, Prod.mk.injEq] at h1
      exact .inr (by omega)
    · rw [if_neg e] at hb
      simp only [if_neg e] at h1
      exact .inl ⟨b, x, M, hb, h1⟩

noncomputable def isE : Tr SV → Bool
  | .e => true
  | _ => false
noncomputable def zeroRow (r : Row) : Bool := Nat.beq r.n 4096 && (sveq r.d (.i .u8 (.ofNat 0)) && isE r.t)
noncomputable def okPl (k : IntKind) (n z o : Nat) (hi m r s : Nat) : Bool := keq k .i64 && (Nat.beq z 1 && (Nat.beq o 0 && (Nat.beq n 4096 && (szOk s && (Nat.beq (Nat.mod m s) 0 && (Nat.beq (Nat.mod r s) 0 && Nat.ble (Nat.add hi s) 4096))))))

noncomputable def getRA (args : List AV) (h : Heap) : Option AV :=
  match args with
  | [.cv (.sc (.sl b o n cap z ex)), .cv (.sc (.rg k id ops lo hi m r)), .cv (.sc (.i .i64 (.ofNat s)))] =>
    cnd (okPl k n z o hi m r s)
      (match h.get b with
      | some (.cells r0 _) => cnd (zeroRow r0) (some (.tu [.sc (.i .u64 (.ofNat 0)), .sc (.i .i64 0)])) none
      | some (.by zz p) => some (.tu [.sc (.gt zz p id ops s), .sc (.i .i64 0)])
      | _ => none) none
  | _ => none

noncomputable def putRA (args : List AV) (h : Heap) : Option (AV × Heap) :=
  match args with
  | [.cv (.sc (.sl b o n cap z ex)), .cv (.sc (.rg k id ops lo hi m r)), .cv (.sc (.i .i64 (.ofNat s))), .cv (.sc (.rg .u64 iv [] _ _ _ _))] =>
    cnd (okPl k n z o hi m r s)
      (match h.get b with
      | some (.cells r0 _) => cnd (zeroRow r0) (some (.tu [.sc (.sl h.next 0 4096 4096 1 false), .sc (.i .i64 0)], h.push (.by true [(id, ops, s, iv)]))) none
      | some (.by zz p) => some (.tu [.sc (.sl h.next 0 4096 4096 1 false), .sc (.i .i64 0)], h.push (.by zz ((id, ops, s, iv) :: p)))
      | _ => none) none
  | _ => none

noncomputable def ovRg (g q : FuncId) (call : CallK) : CallK := fun f args h => cnd (Nat.beq f g)
  (match getRA args h with
  | some v => .ok v h
  | none => call f args h) (cnd (Nat.beq f q)
  (match putRA args h with
  | some (v, h') => .ok v h'
  | none => call f args h) (call f args h))

/-- What the contract of bits.Put says. -/
def PutOk (P : Program) (g : FuncId) : Prop := Enters P g ∧ ∀ {cb c at_ s v : Nat} {f : Nat → Nat}, (s = 1 ∨ s = 2 ∨ s = 4 ∨ s = 8) → at_ % s = 0 → at_ + s ≤ 4096 → ∀ (w : World),
  (∀ i, i < 4096 → f i < 256 ∧ w.cell? ⟨cb, i, none⟩ = some (.int .u8 (f i : Nat))) →
  Calls P g #[.slice (some ⟨cb, 0, none⟩) 4096 c, .int .i64 (at_ : Int), .int .i64 (s : Int), .int .u64 (v : Int)] w fun e w' => ∃ (nb capc : Nat) (cs : Array Value) (el : TypeId),
    e = .returned (.tuple #[.slice (some ⟨nb, 0, none⟩) 4096 capc, .int .i64 0]) ∧ w'.heap[nb]? = some (.cells cs el (0, 0)) ∧ 4096 ≤ capc ∧ capc ≤ cs.size ∧ capc ≤ 9223372036854775807 ∧
    (∀ i, i < 4096 → cs[i]? = some (.int .u8 (putF f at_ s v i : Nat))) ∧ w.heap.size ≤ nb ∧ nb < w'.heap.size ∧ Below w.heap.size w w'

theorem putF_lt {f : Nat → Nat} {x s v i : Nat} (h : f i < 256) : putF f x s v i < 256 := by
  unfold putF
  split
  · exact Nat.mod_lt _ (by decide)
  · exact h

theorem BY.lt {ι : Io} {z : Bool} : ∀ {p : Puts} {f : Nat → Nat}, BY ι z p f → ∀ i, i < 4096 → f i < 256
  | [], f, h, i, hi => by
    cases z
    · exact (h i hi).choose_spec.2
    · rw [h i]; decide
  | _ :: _, f, ⟨g, c, a, c', v, h1, h2, h3, h4⟩, i, hi => by
    subst h4
    exact putF_lt (BY.lt h1 i hi)

theorem szOk_iff {s : Nat} (h : szOk s = true) : s = 1 ∨ s = 2 ∨ s = 4 ∨ s = 8 := by
  unfold szOk at h
  simp only [Bool.or_eq_true] at h
  rcases h with ((h | h) | h) | h <;> have := Nat.eq_of_beq_eq_true h <;> omega

theorem zeroRow_get {r : Row} (h : zeroRow r = true) : r.n = 4096 ∧ ∀ i, i < 4096 → r.get i = some (.i .u8 0) := by
  unfold zeroRow at h
  simp only [Bool.and_eq_true] at h
  obtain ⟨h1, h2, h3⟩ := h
  have hn := Nat.eq_of_beq_eq_true h1
  refine ⟨hn, fun i hi => ?_⟩
  obtain ⟨n, d, t⟩ := r
  simp only at hn h2 h3
  obtain rfl := sveq_eq h2
  unfold Row.get
  simp only
  rw [show Nat.blt i n = true from Nat.ble_eq_true_of_le (by rw [hn]; exact hi), cnd_true]
  cases t with
  | e => rfl
  | n => cases h3

/-- A page's bytes, as its block has them. -/
theorem page_of {ι : Io} {w : World} {h : Heap} (rep : Rep ι w h) {b : Nat} {o : AO} (hb : h.get b = some o) {cb N : Nat} (hi : ι b = some (cb, N)) :
    (∀ r ro, o = .cells r ro → zeroRow r = true → ∀ i, i < 4096 → w.cell? ⟨cb, i, none⟩ = some (.int .u8 (0 : Nat))) ∧
    (∀ z p, o = .by z p → ∃ f, BY ι z p f ∧ ∀ i, i < 4096 → w.cell? ⟨cb, i, none⟩ = some (.int .u8 (f i : Nat))) := by
  obtain ⟨cb', N', g1, g2⟩ := rep.obj b o hb
  rw [hi] at g1
  simp only [Option.some.injEq, Prod.mk.injEq] at g1
  obtain ⟨rfl, rfl⟩ := g1
  refine ⟨fun r ro e hz i hi => ?_, fun z p e => ?_⟩
  · subst e
    obtain ⟨cs, el, fr, k1, k2, k3, k4, k5⟩ := g2
    obtain ⟨V, v1, v2⟩ := k4 i _ ((zeroRow_get hz).2 i hi)
    obtain rfl : V = .int .u8 0 := v2
    simp only [World.cell?, k1]; simpa using v1
  · subst e
    obtain ⟨cs, el, fr, f, k1, k2, k3, k4, k5, k6⟩ := g2
    exact ⟨f, k5, fun i hi => by simp only [World.cell?, k1]; simpa using k6 i hi⟩

theorem leNat_leF (f : Nat → Nat) (x : Nat) : ∀ s, leNat ((List.range' x s).map f) = leF f x s
  | 0 => rfl
  | s + 1 => by
    show f x + 256 * leNat ((List.range' (x + 1) s).map f) = f x + 256 * leF f (x + 1) s
    rw [leNat_leF f (x + 1) s]

theorem leF_zero (x : Nat) : ∀ s, leF (fun _ => 0) x s = 0
  | 0 => rfl
  | s + 1 => by simp [leF, leF_zero (x + 1) s]

theorem getRg_ok {P : Program} {g : FuncId} (hG : GetOk P g) {args : List AV} {h : Heap} {v : AV} (hr : getRA args h = some v) :
    Enters P g ∧ h.next ≤ h.next ∧ ∀ ι w (as : Array Value), Rep ι w h → ARs ι args as.toList → Free ι h.next h.next → Calls P g as w fun e w' => ∃ V ι', e = .returned V ∧ AVR ι' v V ∧ Post ι h h w w' ι' := by
  unfold getRA at hr
  split at hr
  · rename_i b o n cap z ex k id ops lo hi m r s
    cases hcd : okPl k n z o hi m r s with
    | false => rw [hcd] at hr; cases hr
    | true =>
      rw [hcd] at hr; simp only [cnd_true] at hr
      unfold okPl at hcd
      simp only [Bool.and_eq_true] at hcd
      obtain ⟨c1, c2, c3, c4, c5, c6, c7, c8⟩ := hcd
      obtain rfl := keq_iff.1 c1
      obtain rfl := Nat.eq_of_beq_eq_true c2
      obtain rfl := Nat.eq_of_beq_eq_true c3
      obtain rfl := Nat.eq_of_beq_eq_true c4
      have hs := szOk_iff c5
      have hms : m % s = 0 := Nat.eq_of_beq_eq_true c6
      have hrs : r % s = 0 := Nat.eq_of_beq_eq_true c7
      have hhi : hi + s ≤ 4096 := Nat.le_of_ble_eq_true c8
      refine ⟨hG.1, Nat.le_refl _, fun ι w aa rep has hf => ?_⟩
      obtain ⟨aa⟩ := aa
      obtain ⟨a1, a2, a3, rfl⟩ : ∃ a1 a2 a3, aa = [a1, a2, a3] := by
        match aa, has with
        | [a1, a2, a3], _ => exact ⟨a1, a2, a3, rfl⟩
        | [], h => exact h.elim
        | [_], h => exact h.2.elim
        | [_, _], h => exact h.2.2.elim
        | _ :: _ :: _ :: _ :: _, h => exact h.2.2.2.elim
      obtain ⟨h1, h2, h3, -⟩ := has
      obtain ⟨cb, N, o', capc, e1, rfl, k0, k1, k2⟩ := (show VR ι (.sl b 0 4096 cap 1 ex) a1 from h1)
      obtain ⟨c0, a, q1, rfl, q2, q3, q4⟩ := (show VR ι (.rg .i64 id ops lo hi m r) a2 from h2)
      obtain rfl : a3 = .int .i64 (s : Int) := h3
      obtain rfl : o' = 0 := by
        cases ex with
        | true => exact (k1 rfl).1
        | false => exact ((k2 rfl).2.1).resolve_left (by omega)
      have hal : evalO ops a % s = 0 := by
        rw [← Nat.mod_mod_of_dvd (evalO ops a) (Nat.dvd_of_mod_eq_zero hms), q4]; exact hrs
      have run : ∀ f : Nat → Nat, (∀ i, i < 4096 → f i < 256 ∧ w.cell? ⟨cb, i, none⟩ = some (.int .u8 (f i : Nat))) →
          Calls P g #[.slice (some ⟨cb, 0, none⟩) (4096 : Nat) capc, .int .i64 (evalO ops a : Nat), .int .i64 (s : Int)] w fun e w' => e = .returned (.tuple #[.int .u64 (leF f (evalO ops a) s : Nat), .int .i64 0]) ∧ Below w.heap.size w w' := by
        intro f hfc
        have := hG.2 (cb := cb) (o := 0) (n := 4096) (c := capc) (at_ := evalO ops a) (s := s) (l := (List.range' (evalO ops a) s).map f) hs hal (by omega) (by decide) w (by simp) (fun x hx => by
          simp only [List.mem_map, List.mem_range'_1] at hx
          obtain ⟨i, hi, rfl⟩ := hx
          exact (hfc i (by omega)).1) (fun j x hj => by
          rw [List.getElem?_map, Option.map_eq_some_iff] at hj
          obtain ⟨i, hi, rfl⟩ := hj
          have hj : j < s := by
            have := (List.getElem?_eq_some_iff.1 hi).1
            simpa using this
          rw [List.getElem?_range' (by exact hj)] at hi
          simp only [Option.some.injEq] at hi
          have hi : evalO ops a + j = i := by omega
          rw [show 0 + (evalO ops a + j) = i by omega]
          exact (hfc i (by omega)).2)
        rw [leNat_leF] at this
        exact this
      split at hr
      · rename_i r0 ro hgb
        cases hz : zeroRow r0 with
        | false => rw [hz] at hr; cases hr
        | true =>
          rw [hz] at hr; simp only [cnd_true, Option.some.injEq] at hr
          subst hr
          refine (run (fun _ => 0) (fun i hi => ⟨by decide, (page_of rep hgb e1).1 _ _ rfl hz i hi⟩)).mono ?_
          rintro e w' ⟨rfl, hb⟩
          rw [leF_zero]
          exact ⟨_, ι, rfl, ⟨_, rfl, rfl, rfl, trivial⟩, post_below rep hb⟩
      · rename_i zz p hgb
        simp only [Option.some.injEq] at hr
        subst hr
        obtain ⟨f, f1, f2⟩ := (page_of rep hgb e1).2 _ _ rfl
        refine (run f (fun i hi => ⟨f1.lt i hi, f2 i hi⟩)).mono ?_
        rintro e w' ⟨rfl, hb⟩
        exact ⟨_, ι, rfl, ⟨_, rfl, ⟨f, c0, a, f1, q1, rfl⟩, rfl, trivial⟩, post_below rep hb⟩
      · cases hr
  · cases hr

theorem putRg_ok {P : Program} {g : FuncId} (hG : PutOk P g) {args : List AV} {h h' : Heap} {v : AV} (hr : putRA args h = some (v, h')) :
    Enters P g ∧ h.next ≤ h'.next ∧ ∀ ι w (as : Array Value), Rep ι w h → ARs ι args as.toList → Free ι h.next h'.next → Calls P g as w fun e w' => ∃ V ι', e = .returned V ∧ AVR ι' v V ∧ Post ι h h' w w' ι' := by
  unfold putRA at hr
  split at hr
  · rename_i b o n cap z ex k id ops lo hi m r s iv lo2 hi2 m2 r2
    cases hcd : okPl k n z o hi m r s with
    | false => rw [hcd] at hr; cases hr
    | true =>
      rw [hcd] at hr; simp only [cnd_true] at hr
      unfold okPl at hcd
      simp only [Bool.and_eq_true] at hcd
      obtain ⟨c1, c2, c3, c4, c5, c6, c7, c8⟩ := hcd
      obtain rfl := keq_iff.1 c1
      obtain rfl := Nat.eq_of_beq_eq_true c2
      obtain rfl := Nat.eq_of_beq_eq_true c3
      obtain rfl := Nat.eq_of_beq_eq_true c4
      have hs := szOk_iff c5
      have hms : m % s = 0 := Nat.eq_of_beq_eq_true c6
      have hrs : r % s = 0 := Nat.eq_of_beq_eq_true c7
      have hhi : hi + s ≤ 4096 := Nat.le_of_ble_eq_true c8
      have main : ∀ zz p, (∀ ι w cb N, Rep ι w h → ι b = some (cb, N) → ∃ f, BY ι zz p f ∧ ∀ i, i < 4096 → w.cell? ⟨cb, i, none⟩ = some (.int .u8 (f i : Nat))) →
          (v, h') = (.tu [.sc (.sl h.next 0 4096 4096 1 false), .sc (.i .i64 0)], h.push (.by zz ((id, ops, s, iv) :: p))) →
          Enters P g ∧ h.next ≤ h'.next ∧ ∀ ι w (as : Array Value), Rep ι w h → ARs ι [.cv (.sc (.sl b 0 4096 cap 1 ex)), .cv (.sc (.rg .i64 id ops lo hi m r)), .cv (.sc (.i .i64 (.ofNat s))), .cv (.sc (.rg .u64 iv [] lo2 hi2 m2 r2))] as.toList → Free ι h.next h'.next →
            Calls P g as w fun e w' => ∃ V ι', e = .returned V ∧ AVR ι' v V ∧ Post ι h h' w w' ι' := by
        intro zz p hpg he
        simp only [Prod.mk.injEq] at he
        obtain ⟨rfl, rfl⟩ := he
        refine ⟨hG.1, Nat.le_succ _, fun ι w aa rep has hf => ?_⟩
        obtain ⟨aa⟩ := aa
        obtain ⟨a1, a2, a3, a4, rfl⟩ : ∃ a1 a2 a3 a4, aa = [a1, a2, a3, a4] := by
          match aa, has with
          | [a1, a2, a3, a4], _ => exact ⟨a1, a2, a3, a4, rfl⟩
          | [], h => exact h.elim
          | [_], h => exact h.2.elim
          | [_, _], h => exact h.2.2.elim
          | [_, _, _], h => exact h.2.2.2.elim
          | _ :: _ :: _ :: _ :: _ :: _, h => exact h.2.2.2.2.elim
        obtain ⟨h1, h2, h3, h4, -⟩ := has
        obtain ⟨cb, N, o', capc, e1, rfl, k0, k1, k2⟩ := (show VR ι (.sl b 0 4096 cap 1 ex) a1 from h1)
        obtain ⟨c0, a, q1, rfl, q2, q3, q4⟩ := (show VR ι (.rg .i64 id ops lo hi m r) a2 from h2)
        obtain rfl : a3 = .int .i64 (s : Int) := h3
        obtain ⟨c9, vv, t1, rfl, -⟩ := (show VR ι (.rg .u64 iv [] lo2 hi2 m2 r2) a4 from h4)
        obtain rfl : o' = 0 := by
          cases ex with
          | true => exact (k1 rfl).1
          | false => exact ((k2 rfl).2.1).resolve_left (by omega)
        have hal : evalO ops a % s = 0 := by
          rw [← Nat.mod_mod_of_dvd (evalO ops a) (Nat.dvd_of_mod_eq_zero hms), q4]; exact hrs
        obtain ⟨f, f1, f2⟩ := hpg ι w cb N rep e1
        refine (hG.2 (cb := cb) (c := capc) (at_ := evalO ops a) (s := s) (v := evalO [] vv) (f := f) hs hal (by omega) w (fun i hi => ⟨f1.lt i hi, f2 i hi⟩)).mono ?_
        rintro e w' ⟨nb, capn, cs, el, rfl, g1, g2, g3, g4, g5, g6, g7, hbl⟩
        have hsub : Sub ι (fun y => if y = h.next then some (nb, cs.size) else ι y) := by
          intro y p hy
          by_cases eb : y = h.next
          · subst eb; rw [hf h.next (Nat.le_refl _) (Nat.lt_succ_self _)] at hy; cases hy
          · simp only [if_neg eb]; exact hy
        have hOR : OR (fun y => if y = h.next then some (nb, cs.size) else ι y) (.by zz ((id, ops, s, iv) :: p)) nb cs.size w' :=
          ⟨cs, el, (0, 0), _, g1, rfl, by omega, rfl, ⟨f, c0, a, c9, vv, f1.mono hsub, hsub _ _ q1, hsub _ _ t1, rfl⟩, g5⟩
        exact ⟨_, _, rfl, ⟨_, rfl, ⟨nb, cs.size, 0, capn, by simp, rfl, Nat.le_refl _, fun hh => (by cases hh), fun _ => ⟨g2, .inr rfl, by omega, g4⟩⟩, rfl, trivial⟩,
          Post.pushAt _ nb cs.size rep hf (fun c hc => hbl.block c hc) g6 g7 hbl.size hbl.tape hbl.os hbl.output hOR⟩
      split at hr
      · rename_i r0 ro hgb
        cases hz : zeroRow r0 with
        | false => rw [hz] at hr; cases hr
        | true =>
          rw [hz] at hr; simp only [cnd_true, Option.some.injEq] at hr
          exact main true [] (fun ι w cb N rep hi => ⟨fun _ => 0, fun _ => rfl, fun i hi' => (page_of rep hgb hi).1 _ _ rfl hz i hi'⟩) hr.symm
      · rename_i zz p hgb
        simp only [Option.some.injEq] at hr
        exact main zz p (fun ι w cb N rep hi => (page_of rep hgb hi).2 _ _ rfl) hr.symm
      · cases hr
  · cases hr

theorem ovRg_ok {P : Program} {g q : FuncId} (hG : GetOk P g) (hQ : PutOk P q) : OvOk P (ovRg g q) := by
  intro call hc f args h v h' hr
  unfold ovRg at hr
  cases hb : Nat.beq f g with
  | true =>
    rw [hb] at hr; simp only [cnd_true] at hr
    obtain rfl := Nat.eq_of_beq_eq_true hb
    split at hr
    · rename_i u hu
      simp only [CRes.ok.injEq] at hr
      obtain ⟨rfl, rfl⟩ := hr
      exact getRg_ok hG hu
    · exact hc f args h v h' hr
  | false =>
    rw [hb] at hr; simp only [cnd_false] at hr
    cases hb2 : Nat.beq f q with
    | false => rw [hb2] at hr; exact hc f args h v h' hr
    | true =>
      rw [hb2] at hr; simp only [cnd_true] at hr
      obtain rfl := Nat.eq_of_beq_eq_true hb2
      split at hr
      · rename_i u h0 hu
        simp only [CRes.ok.injEq] at hr
        obtain ⟨rfl, rfl⟩ := hr
        exact putRg_ok hQ hu
      · exact hc f args h v h' hr
end Go.Proofs.YtafkkicnfngpoaaGreat.Dm
