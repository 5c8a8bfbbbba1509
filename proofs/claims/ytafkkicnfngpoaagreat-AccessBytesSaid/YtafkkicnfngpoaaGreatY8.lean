/- What stores and loads do in the world. -/
import Derived.Test.YtafkkicnfngpoaaGreatY7
set_option linter.unusedVariables false
set_option linter.unusedSimpArgs false
set_option linter.unusedSectionVars false
namespace Go.Proofs.YtafkkicnfngpoaaGreat
open Go Go.RowKit Go.Lib Go.Proofs.YtafkkicnfngpoaaGreat.Dm

theorem self0 : mtAll (false, []) noS (dl 0 0) S0.next S0.t S0.t L0 = true ∧ injL (mapN noS L0) = true := ⟨by kernel_rfl, by kernel_rfl⟩
theorem self1 : mtAll (false, []) noS (dl 0 0) S1.next S1.t S1.t L1 = true ∧ injL (mapN noS L1) = true := ⟨by kernel_rfl, by kernel_rfl⟩
theorem self2 : mtAll (false, []) noS (dl 0 0) S2.next S2.t S2.t L2 = true ∧ injL (mapN noS L2) = true := ⟨by kernel_rfl, by kernel_rfl⟩
theorem selfA (i : Nat) (hi : i ≤ 2) : mtAll (false, []) noS (dl 0 0) (ST i).next (ST i).t (ST i).t (SL i) = true ∧ injL (mapN noS (SL i)) = true ∧ pick (ST i).t (SL i) = (ST i).t := by
  match i, hi with
  | 0, _ => exact ⟨self0.1, self0.2, l0⟩
  | 1, _ => exact ⟨self1.1, self1.2, l1⟩
  | 2, _ => exact ⟨self2.1, self2.2, l2⟩
  | n + 3, h => exact absurd h (by omega)

theorem Wy.congr {A : Nat → Prop} {cb : Nat} {g : Heap} {f f' : Nat → Nat} {w : World} (h : Wy A cb g f w) (he : ∀ i, i < 4096 → f i = f' i) : Wy A cb g f' w := by
  obtain ⟨ι, h1, h2, h3, h4, h5, h6, h7⟩ := h
  exact ⟨ι, h1, h2, h3, h4, h5, fun i hi => by rw [← he i hi]; exact h6 i hi, h7⟩

/-- A fault. -/
def Flt (v : Value) : Prop := ∃ (f1 f2 f3 f4 : Int) (f5 : Bool), v = .agg #[.int .i64 f1, .int .i64 f2, .int .i64 f3, .int .u64 f4, .bool f5]

theorem ag5 {ι : Io} {x0 x1 x2 x3 x4 : SV} {v : Value} (h : CVR ι (.ag [x0, x1, x2, x3, x4]) v) : ∃ b0 b1 b2 b3 b4, v = .agg #[b0, b1, b2, b3, b4] ∧ VR ι x0 b0 ∧ VR ι x1 b1 ∧ VR ι x2 b2 ∧ VR ι x3 b3 ∧ VR ι x4 b4 := by
  obtain ⟨b, rfl, hv⟩ := h
  obtain ⟨b⟩ := b
  obtain ⟨b0, b1, b2, b3, b4, rfl⟩ : ∃ b0 b1 b2 b3 b4, b = [b0, b1, b2, b3, b4] := by
    match b, hv with
    | [b1, b2, b3, b4, b5], _ => exact ⟨b1, b2, b3, b4, b5, rfl⟩
    | [], h => exact h.elim
    | [_], h => exact h.2.elim
    | [_, _], h => exact h.2.2.elim
    | [_, _, _], h => exact h.2.2.2.elim
    | [_, _, _, _], h => exact h.2.2.2.2.elim
    | _ :: _ :: _ :: _ :: _ :: _ :: _, h => exact h.2.2.2.2.2.elim
  obtain ⟨e0, e1, e2, e3, e4, -⟩ := hv
  exact ⟨b0, b1, b2, b3, b4, rfl, e0, e1, e2, e3, e4⟩

theorem okR_v {val : SV → Bool} {page er : Nat → Bool} {v : AV} (h : okR val page er v = true) : ∃ x c1 c2 c3 e, v = .tu [.sc x, c1, c2, c3, .sc (.i .i64 (.ofNat e))] ∧ val x = true ∧ er e = true ∧ ∀ (ι : Io) u, CVR ι c2 u → Flt u := by
  unfold okR at h
  split at h
  · simp only [Bool.and_eq_true] at h
    refine ⟨_, _, _, _, _, rfl, h.1, h.2.2, fun ι u hu => ?_⟩
    obtain ⟨b0, b1, b2, b3, b4, rfl, e0, e1, e2, e3, e4⟩ := ag5 hu
    exact ⟨_, _, _, _, _, by rw [show b0 = _ from e0, show b1 = _ from e1, show b2 = _ from e2, show b3 = _ from e3, show b4 = _ from e4]⟩
  · simp only [Bool.and_eq_true] at h
    refine ⟨_, _, _, _, _, rfl, h.1, h.2.2, fun ι u hu => ?_⟩
    obtain ⟨b0, b1, b2, b3, b4, rfl, e0, e1, e2, ⟨c, a, k1, rfl, -⟩, e4⟩ := ag5 hu
    exact ⟨_, _, _, _, _, by rw [show b0 = _ from e0, show b1 = _ from e1, show b2 = _ from e2, show b4 = _ from e4]⟩
  · cases h

theorem tu5 {ι : Io} {c0 c1 c2 c3 c4 : CV} {U : Value} (h : AVR ι (.tu [c0, c1, c2, c3, c4]) U) : ∃ b0 b1 b2 b3 b4, U = .tuple #[b0, b1, b2, b3, b4] ∧ CVR ι c0 b0 ∧ CVR ι c2 b2 ∧ CVR ι c4 b4 := by
  obtain ⟨b, rfl, hv⟩ := h
  obtain ⟨b⟩ := b
  obtain ⟨b0, b1, b2, b3, b4, rfl⟩ : ∃ b0 b1 b2 b3 b4, b = [b0, b1, b2, b3, b4] := by
    match b, hv with
    | [b1, b2, b3, b4, b5], _ => exact ⟨b1, b2, b3, b4, b5, rfl⟩
    | [], h => exact h.elim
    | [_], h => exact h.2.elim
    | [_, _], h => exact h.2.2.elim
    | [_, _, _], h => exact h.2.2.2.elim
    | [_, _, _, _], h => exact h.2.2.2.2.elim
    | _ :: _ :: _ :: _ :: _ :: _ :: _, h => exact h.2.2.2.2.2.elim
  obtain ⟨e0, -, e2, -, e4, -⟩ := hv
  exact ⟨b0, b1, b2, b3, b4, rfl, e0, e2, e4⟩

theorem sg_11 (b' : Nat) : sg b' 11 = 11 := rfl

theorem BY.uniq {ι : Io} {f f' : Nat → Nat} (h : BY ι false [] f) (h' : BY ι false [] f') : ∀ i, i < 4096 → f' i = f i := by
  intro i hi
  obtain ⟨c, q1, -⟩ := h i hi
  obtain ⟨c', q2, -⟩ := h' i hi
  rw [q1] at q2
  simp only [Option.some.injEq, Prod.mk.injEq] at q2
  exact q2.2.symm

theorem place_at {at_ : Nat} (h : at_ < 4096) : evalO opsP (24576 + at_) = at_ := by
  show ((24576 + at_) % 4096 + 40960) % 4096 = at_
  omega

/-- A checked access. -/
theorem chkY_W {args : List AV} {ok : AV → Bool} {i j : Nat} {ep : Bool × Puts} {a b : Nat} (hi : i ≤ 2) (hj : j ≤ 2) (hck : chkY args ok i j ep a b = true)
    {A : Nat → Prop} {cb : Nat} {f F : Nat → Nat} {w : World} (hA : ∀ c, A c → c < w.heap.size) (hw : Wy A cb (ST i) f w) (va V : Nat)
    (hF : ∀ ι' : Io, (∃ c, ι' (atomKey 1) = some (c, va)) → (∃ c, ι' (atomKey 5) = some (c, V)) → BY ι' false [] f → BY ι' ep.1 ep.2 F)
    (hFu : ∀ ι' : Io, (∃ c, ι' (atomKey 1) = some (c, va)) → (∃ c, ι' (atomKey 5) = some (c, V)) → BY ι' false [] f → ∀ F', BY ι' ep.1 ep.2 F' → ∀ i, i < 4096 → F' i = F i)
    {vs : Array Value} (has : ∀ ι, (∃ N, ι 11 = some (cb, N)) → (∃ c, ι (atomKey 1) = some (c, va)) → (∃ c, ι (atomKey 5) = some (c, V)) → ARs ι args vs.toList) :
    Calls Tryz.prog 9 vs w fun e w' => ∃ U ι' v, e = .returned U ∧ ok v = true ∧ AVR ι' v U ∧ (∃ c, ι' (atomKey 1) = some (c, va)) ∧ BY ι' false [] f ∧ Wy A cb (ST j) F w' ∧ Kp A w w' := by
  unfold chkY at hck
  generalize hx : (evY 600).c 9 args (ST i) = x at hck
  cases x with
  | bad n => cases hck
  | ok v h =>
    simp only [Bool.and_eq_true] at hck
    obtain ⟨c1, c2, c3, c4⟩ := hck
    obtain ⟨p1, p2, p3⟩ := selfA i hi
    obtain ⟨-, -, q3⟩ := selfA j hj
    have ni : (ST i).next = 1000 := st_next i
    have nj : (ST j).next = 1000 := st_next j
    refine (stepY (evY_ok 600).2 q3 p3 hx c2 c3 (by rw [nj]; exact c4) p1 p2 (by rw [ni]; omega) (by rw [nj]; omega) (by rw [nj]; show 1000 ≤ 1000000000000 + 0; omega) (sg_11 _) hA hw va V hF hFu has).mono ?_
    rintro e w' ⟨U, ι', he, hv, h1, h2, h3, h4⟩
    exact ⟨U, ι', v, he, c1, hv, h1, h2, h3, h4⟩

theorem isN_iff {n m : Nat} (h : isN n m = true) : m = n := Nat.eq_of_beq_eq_true h

theorem store_W1 {A : Nat → Prop} {cb i s : Nat} {f : Nat → Nat} {w : World} (hi : i ≤ 2) (hck : chkS i s = true) (hA : ∀ c, A c → c < w.heap.size) (hw : Wy A cb (ST i) f w) (h0 : i < 2 → ∀ k, k < 4096 → f k = 0) (hs : 0 < s) (hs8 : s ≤ 8)
    {at_ V : Nat} (ha : at_ + s ≤ 4096) (hm : (24576 + at_) % s = 0) (hV : V < 18446744073709551616) :
    Calls Tryz.prog 9 #[.pointer (some ⟨cb, 0, none⟩), .int .i64 1, .int .u64 ((24576 + at_ : Nat) : Int), .int .i64 2, .int .i64 (s : Int), .int .u64 (V : Int), .int .i64 0] w fun e w' =>
      ∃ x p q n, e = .returned (.tuple #[x, p, q, n, .int .i64 0]) ∧ Flt q ∧ Wy A cb (ST 2) (putF f at_ s V) w' ∧ Kp A w w' := by
  have hsub : Nat.sub 28672 s = 28672 - s := rfl
  have main : ∀ F, (∀ k, k < 4096 → F k = putF f at_ s V k) →
      (∀ ι' : Io, (∃ c, ι' (atomKey 1) = some (c, 24576 + at_)) → (∃ c, ι' (atomKey 5) = some (c, V)) → BY ι' false [] f → BY ι' (Nat.blt i 2) [(1, opsP, s, 5)] F) →
      (∀ ι' : Io, (∃ c, ι' (atomKey 1) = some (c, 24576 + at_)) → (∃ c, ι' (atomKey 5) = some (c, V)) → BY ι' false [] f → ∀ F', BY ι' (Nat.blt i 2) [(1, opsP, s, 5)] F' → ∀ i, i < 4096 → F' i = F i) →
      Calls Tryz.prog 9 #[.pointer (some ⟨cb, 0, none⟩), .int .i64 1, .int .u64 ((24576 + at_ : Nat) : Int), .int .i64 2, .int .i64 (s : Int), .int .u64 (V : Int), .int .i64 0] w fun e w' =>
      ∃ x p q n, e = .returned (.tuple #[x, p, q, n, .int .i64 0]) ∧ Flt q ∧ Wy A cb (ST 2) (putF f at_ s V) w' ∧ Kp A w w' := by
    intro F hFe hF hFu
    refine (chkY_W hi (by omega) hck hA hw (24576 + at_) V hF hFu (fun ι i1 i2 i3 => ?_)).mono ?_
    · obtain ⟨N, i1⟩ := i1
      obtain ⟨c, i2⟩ := i2
      obtain ⟨c', i3⟩ := i3
      exact ⟨⟨cb, N, i1, rfl⟩, rfl, ⟨c, 24576 + at_, i2, rfl, Nat.le_add_right _ _, by rw [hsub]; show 24576 + at_ ≤ _; omega, hm⟩, rfl, rfl, ⟨c', V, i3, rfl, Nat.zero_le _, by show V ≤ _; omega, Nat.mod_one _⟩, rfl, trivial⟩
    · rintro e w' ⟨U, ι', v, rfl, hok, hv, -, -, hw', hk⟩
      obtain ⟨x, c1, c2, c3, er, rfl, -, her, hfl⟩ := okR_v hok
      obtain rfl := isN_iff her
      obtain ⟨b0, b1, b2, b3, b4, rfl, -, e2, e4⟩ := tu5 hv
      obtain rfl : b4 = .int .i64 0 := e4
      exact ⟨b0, b1, b2, b3, rfl, hfl _ _ e2, hw'.congr hFe, hk⟩
  have hpl := place_at (at_ := at_) (by omega)
  cases hb : Nat.blt i 2 with
  | true =>
    have hz := h0 (Nat.le_of_ble_eq_true hb)
    rw [hb] at main
    refine main (putF (fun _ => 0) at_ s V) (fun k hk => ?_) (fun ι' h1 h5 _ => ?_) (fun ι' h1 h5 _ F' hF' k hk => ?_)
    · unfold putF
      split
      · rfl
      · rw [hz k hk]
    · obtain ⟨c, h1⟩ := h1
      obtain ⟨c', h5⟩ := h5
      exact ⟨fun _ => 0, c, 24576 + at_, c', V, fun _ => rfl, h1, h5, by rw [hpl]⟩
    · obtain ⟨c, h1⟩ := h1
      obtain ⟨c', h5⟩ := h5
      obtain ⟨g, d, x, d', y, k0, k1, k5, rfl⟩ := hF'
      rw [h1] at k1
      rw [h5] at k5
      simp only [Option.some.injEq, Prod.mk.injEq] at k1 k5
      obtain ⟨-, rfl⟩ := k1
      obtain ⟨-, rfl⟩ := k5
      rw [hpl]
      unfold putF
      split
      · rfl
      · exact k0 k
  | false =>
    rw [hb] at main
    refine main (putF f at_ s V) (fun k hk => rfl) (fun ι' h1 h5 hf => ?_) (fun ι' h1 h5 hf F' hF' k hk => ?_)
    · obtain ⟨c, h1⟩ := h1
      obtain ⟨c', h5⟩ := h5
      exact ⟨f, c, 24576 + at_, c', V, hf, h1, h5, by rw [hpl]⟩
    · obtain ⟨c, h1⟩ := h1
      obtain ⟨c', h5⟩ := h5
      obtain ⟨g, d, x, d', y, k0, k1, k5, rfl⟩ := hF'
      rw [h1] at k1
      rw [h5] at k5
      simp only [Option.some.injEq, Prod.mk.injEq] at k1 k5
      obtain ⟨-, rfl⟩ := k1
      obtain ⟨-, rfl⟩ := k5
      rw [hpl]
      unfold putF
      split
      · rfl
      · exact BY.uniq hf k0 k hk

theorem chkS_all (i s : Nat) (hi : i ≤ 2) (hs : s = 1 ∨ s = 2 ∨ s = 4 ∨ s = 8) : chkS i s = true := by
  match i, hi with
  | 0, _ =>
    rcases hs with rfl | rfl | rfl | rfl
    · exact s01
    · exact s02
    · exact s04
    · exact s08
  | 1, _ =>
    rcases hs with rfl | rfl | rfl | rfl
    · exact s11
    · exact s12
    · exact s14
    · exact s18
  | 2, _ =>
    rcases hs with rfl | rfl | rfl | rfl
    · exact s21
    · exact s22
    · exact s24
    · exact s28
  | n + 3, h => exact absurd h (by omega)

theorem mod_va {at_ s : Nat} (hs : s = 1 ∨ s = 2 ∨ s = 4 ∨ s = 8) : (24576 + at_) % s = at_ % s := by
  rcases hs with rfl | rfl | rfl | rfl <;> omega

/-- A store of s bytes: it lies there, and nothing else is changed. -/
theorem Store_W {A : Nat → Prop} {cb i s : Nat} {f : Nat → Nat} {w : World} (hi : i ≤ 2) (hA : ∀ c, A c → c < w.heap.size) (hw : Wy A cb (ST i) f w) (h0 : i < 2 → ∀ k, k < 4096 → f k = 0) (hs : s = 1 ∨ s = 2 ∨ s = 4 ∨ s = 8)
    {at_ V : Nat} (ha : at_ + s ≤ 4096) (hm : at_ % s = 0) (hV : V < 18446744073709551616) :
    Calls Tryz.prog 9 #[.pointer (some ⟨cb, 0, none⟩), .int .i64 1, .int .u64 ((24576 + at_ : Nat) : Int), .int .i64 2, .int .i64 (s : Int), .int .u64 (V : Int), .int .i64 0] w fun e w' =>
      ∃ x p q n, e = .returned (.tuple #[x, p, q, n, .int .i64 0]) ∧ Flt q ∧ Wy A cb (ST 2) (putF f at_ s V) w' ∧ Kp A w w' :=
  store_W1 hi (chkS_all i s hi hs) hA hw h0 (by omega) (by omega) ha (by rw [mod_va hs]; exact hm) hV

theorem leF_congr {f g : Nat → Nat} : ∀ (s x : Nat), (∀ i, x ≤ i → i < x + s → f i = g i) → leF f x s = leF g x s
  | 0, x, h => rfl
  | s + 1, x, h => by
    show f x + 256 * leF f (x + 1) s = g x + 256 * leF g (x + 1) s
    rw [h x (Nat.le_refl _) (by omega), leF_congr s (x + 1) (fun i h1 h2 => h i (by omega) (by omega))]

theorem load_W1 {A : Nat → Prop} {cb i s : Nat} {f : Nat → Nat} {w : World} (hi : i ≤ 2) (hck : chkLd i s = true) (hA : ∀ c, A c → c < w.heap.size) (hw : Wy A cb (ST i) f w) (h0 : i < 2 → ∀ k, k < 4096 → f k = 0) (hs8 : s ≤ 8)
    {at_ : Nat} (ha : at_ + s ≤ 4096) (hs : 0 < s) (hm : (24576 + at_) % s = 0) :
    Calls Tryz.prog 9 #[.pointer (some ⟨cb, 0, none⟩), .int .i64 1, .int .u64 ((24576 + at_ : Nat) : Int), .int .i64 1, .int .i64 (s : Int), .int .u64 0, .int .i64 0] w fun e w' =>
      ∃ p q n, e = .returned (.tuple #[.int .u64 (leF f at_ s : Nat), p, q, n, .int .i64 0]) ∧ Flt q ∧ Wy A cb (ST (nxL i)) f w' ∧ Kp A w w' := by
  have hsub : Nat.sub 28672 s = 28672 - s := rfl
  have hnx : nxL i ≤ 2 := by
    unfold nxL
    cases Nat.beq i 0
    · exact hi
    · show 1 ≤ 2; omega
  refine (chkY_W hi hnx hck hA hw (24576 + at_) 0 (fun ι' _ _ hf => hf) (fun ι' _ _ hf F' hF' => BY.uniq hf hF') (fun ι i1 i2 i3 => ?_)).mono ?_
  · obtain ⟨N, i1⟩ := i1
    obtain ⟨c, i2⟩ := i2
    exact ⟨⟨cb, N, i1, rfl⟩, rfl, ⟨c, 24576 + at_, i2, rfl, Nat.le_add_right _ _, by rw [hsub]; show 24576 + at_ ≤ _; omega, hm⟩, rfl, rfl, rfl, rfl, trivial⟩
  · rintro e w' ⟨U, ι', v, rfl, hok, hv, h1, hf, hw', hk⟩
    obtain ⟨x, c1, c2, c3, er, rfl, hx, her, hfl⟩ := okR_v hok
    obtain rfl := isN_iff her
    obtain ⟨b0, b1, b2, b3, b4, rfl, e0, e2, e4⟩ := tu5 hv
    obtain rfl : b4 = .int .i64 0 := e4
    have hx : sveq x (vOf i s) = true := hx
    obtain rfl := sveq_eq hx
    have hval : b0 = .int .u64 (leF f at_ s : Nat) := by
      rcases (by omega : i = 2 ∨ i = 0 ∨ i = 1) with rfl | rfl | rfl
      · obtain ⟨f', c, a, k0, k1, rfl⟩ := (show VR ι' (.gt false [] 1 opsP s) b0 from e0)
        obtain ⟨c', h1⟩ := h1
        rw [h1] at k1
        simp only [Option.some.injEq, Prod.mk.injEq] at k1
        obtain ⟨-, rfl⟩ := k1
        rw [place_at (by omega), leF_congr s at_ (fun j _ hj => BY.uniq hf k0 j (by omega))]
      · obtain rfl : b0 = .int .u64 (.ofNat 0) := e0
        rw [leF_congr (g := fun _ => 0) s at_ (fun j _ hj => h0 (by omega) j (by omega)), leF_zero]
        rfl
      · obtain rfl : b0 = .int .u64 (.ofNat 0) := e0
        rw [leF_congr (g := fun _ => 0) s at_ (fun j _ hj => h0 (by omega) j (by omega)), leF_zero]
        rfl
    subst hval
    exact ⟨b1, b2, b3, rfl, hfl _ _ e2, hw', hk⟩

theorem chkL_all (s : Nat) (hs : s = 1 ∨ s = 2 ∨ s = 4 ∨ s = 8) : chkLd 2 s = true := by
  rcases hs with rfl | rfl | rfl | rfl
  · exact d21
  · exact d22
  · exact d24
  · exact d28

theorem Load_W {A : Nat → Prop} {cb s : Nat} {f : Nat → Nat} {w : World} (hA : ∀ c, A c → c < w.heap.size) (hw : Wy A cb (ST 2) f w) (hs : s = 1 ∨ s = 2 ∨ s = 4 ∨ s = 8)
    {at_ : Nat} (ha : at_ + s ≤ 4096) (hm : at_ % s = 0) :
    Calls Tryz.prog 9 #[.pointer (some ⟨cb, 0, none⟩), .int .i64 1, .int .u64 ((24576 + at_ : Nat) : Int), .int .i64 1, .int .i64 (s : Int), .int .u64 0, .int .i64 0] w fun e w' =>
      ∃ p q n, e = .returned (.tuple #[.int .u64 (leF f at_ s : Nat), p, q, n, .int .i64 0]) ∧ Flt q ∧ Wy A cb (ST 2) f w' ∧ Kp A w w' :=
  load_W1 (i := 2) (by omega) (chkL_all s hs) hA hw (by omega) (by omega) ha (by omega) (by rw [mod_va hs]; exact hm)

theorem Load8_W {A : Nat → Prop} {cb i : Nat} {f : Nat → Nat} {w : World} (hi : i ≤ 2) (hA : ∀ c, A c → c < w.heap.size) (hw : Wy A cb (ST i) f w) (h0 : i < 2 → ∀ k, k < 4096 → f k = 0)
    {at_ : Nat} (ha : at_ + 8 ≤ 4096) (hm : at_ % 8 = 0) :
    Calls Tryz.prog 9 #[.pointer (some ⟨cb, 0, none⟩), .int .i64 1, .int .u64 ((24576 + at_ : Nat) : Int), .int .i64 1, .int .i64 8, .int .u64 0, .int .i64 0] w fun e w' =>
      ∃ p q n j, e = .returned (.tuple #[.int .u64 (leF f at_ 8 : Nat), p, q, n, .int .i64 0]) ∧ Flt q ∧ j ≤ 2 ∧ (j < 2 → i < 2) ∧ Wy A cb (ST j) f w' ∧ Kp A w w' := by
  have hck : chkLd i 8 = true := by
    rcases (by omega : i = 2 ∨ i = 0 ∨ i = 1) with rfl | rfl | rfl
    · exact d28
    · exact d08
    · exact d18
  refine (load_W1 hi hck hA hw h0 (by omega) ha (by omega) (by omega)).mono ?_
  rintro e w' ⟨p, q, n, he, hfq, h1, h2⟩
  refine ⟨p, q, n, nxL i, he, hfq, ?_, ?_, h1, h2⟩
  · rcases (by omega : i = 2 ∨ i = 0 ∨ i = 1) with rfl | rfl | rfl
    · exact (by decide : 2 ≤ 2)
    · exact (by decide : 1 ≤ 2)
    · exact (by decide : 1 ≤ 2)
  · rcases (by omega : i = 2 ∨ i = 0 ∨ i = 1) with rfl | rfl | rfl
    · exact fun h => absurd h (by decide : ¬ 2 < 2)
    · intro _; omega
    · intro _; omega

/-- One that is not aligned is refused. -/
theorem Mis_W {A : Nat → Prop} {cb s : Nat} {f : Nat → Nat} {w : World} (hA : ∀ c, A c → c < w.heap.size) (hw : Wy A cb (ST 2) f w) (hs : s = 2 ∨ s = 4 ∨ s = 8) {at_ : Nat} (ha : at_ < 4096) (hm : at_ % s = 1) :
    Calls Tryz.prog 9 #[.pointer (some ⟨cb, 0, none⟩), .int .i64 1, .int .u64 ((24576 + at_ : Nat) : Int), .int .i64 1, .int .i64 (s : Int), .int .u64 0, .int .i64 0] w fun e w' =>
      ∃ x p q n, e = .returned (.tuple #[x, p, q, n, .int .i64 3]) ∧ Flt q ∧ Wy A cb (ST 2) f w' ∧ Kp A w w' := by
  have hck : chkM s = true := by
    rcases hs with rfl | rfl | rfl
    · exact m2
    · exact m4
    · exact m8
  refine (chkY_W (i := 2) (j := 2) (by omega) (by omega) hck hA hw (24576 + at_) 0 (fun ι' _ _ hf => hf) (fun ι' _ _ hf F' hF' => BY.uniq hf hF') (fun ι i1 i2 i3 => ?_)).mono ?_
  · obtain ⟨N, i1⟩ := i1
    obtain ⟨c, i2⟩ := i2
    exact ⟨⟨cb, N, i1, rfl⟩, rfl, ⟨c, 24576 + at_, i2, rfl, Nat.le_add_right _ _, by show 24576 + at_ ≤ 28671; omega, by show (24576 + at_) % s = 1; rcases hs with rfl | rfl | rfl <;> omega⟩, rfl, rfl, rfl, rfl, trivial⟩
  · rintro e w' ⟨U, ι', v, rfl, hok, hv, h1, hf, hw', hk⟩
    obtain ⟨x, c1, c2, c3, er, rfl, hx, her, hfl⟩ := okR_v hok
    obtain rfl := isN_iff her
    obtain ⟨b0, b1, b2, b3, b4, rfl, e0, e2, e4⟩ := tu5 hv
    obtain rfl : b4 = .int .i64 3 := e4
    exact ⟨b0, b1, b2, b3, rfl, hfl _ _ e2, hw', hk⟩

/-- One beyond the page. -/
theorem Far_W {A : Nat → Prop} {cb : Nat} {f : Nat → Nat} {w : World} (hA : ∀ c, A c → c < w.heap.size) (hw : Wy A cb (ST 2) f w) :
    Calls Tryz.prog 9 #[.pointer (some ⟨cb, 0, none⟩), .int .i64 1, .int .u64 28672, .int .i64 1, .int .i64 2, .int .u64 0, .int .i64 0] w fun e w' =>
      ∃ x p q n er, e = .returned (.tuple #[x, p, q, n, .int .i64 er]) ∧ Flt q ∧ Wy A cb (ST 2) f w' ∧ Kp A w w' := by
  refine (chkY_W (i := 2) (j := 2) (by omega) (by omega) f2 hA hw 0 0 (fun ι' _ _ hf => hf) (fun ι' _ _ hf F' hF' => BY.uniq hf hF') (fun ι i1 i2 i3 => ?_)).mono ?_
  · obtain ⟨N, i1⟩ := i1
    exact ⟨⟨cb, N, i1, rfl⟩, rfl, rfl, rfl, rfl, rfl, rfl, trivial⟩
  · rintro e w' ⟨U, ι', v, rfl, hok, hv, h1, hf, hw', hk⟩
    obtain ⟨x, c1, c2, c3, er, rfl, hx, her, hfl⟩ := okR_v hok
    obtain ⟨b0, b1, b2, b3, b4, rfl, e0, e2, e4⟩ := tu5 hv
    obtain rfl : b4 = .int .i64 (.ofNat er) := e4
    exact ⟨b0, b1, b2, b3, _, rfl, hfl _ _ e2, hw', hk⟩
end Go.Proofs.YtafkkicnfngpoaaGreat
