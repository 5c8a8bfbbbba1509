/- heat.Touch by its contract, in place of its run; the evaluator with it. -/
import GoSem.Core.Float
import Derived.Laws.FloatArith
import Derived.Test.YtmjogmpgamlhaaaGreatAL1
import Derived.Laws.ComplexArith
import Derived.Test.YtmjogmpgamlhaaaGreatDmEnds
import Derived.Test.YtmjogmpgamlhaaaGreatSI1
set_option linter.unusedVariables false
set_option linter.unusedSimpArgs false
set_option linter.unusedSectionVars false
namespace Go.Fl
open Ieee

theorem log2_shl (m s : Nat) (hm : m ≠ 0) : (m * 2 ^ s).log2 = m.log2 + s := by
  rw [Nat.log2_eq_iff (by have := Nat.pos_of_ne_zero hm; have := Nat.two_pow_pos s; exact Nat.ne_of_gt (Nat.mul_pos ‹0 < m› this))]
  have h1 := Nat.log2_self_le hm
  have h2 : m < 2 ^ (m.log2 + 1) := Nat.lt_log2_self
  refine ⟨?_, ?_⟩
  · rw [Nat.pow_add]
    exact Nat.mul_le_mul_right _ h1
  · rw [show m.log2 + s + 1 = m.log2 + 1 + s by omega, Nat.pow_add]
    exact Nat.mul_lt_mul_of_pos_right h2 (Nat.two_pow_pos s)

/-- The rung of a whole number. -/
def rung (m : Nat) : Nat := (m.log2 + 1022) * 4503599627370496 + m * 2 ^ (52 - m.log2)

theorem log2_le {m : Nat} (h0 : m ≠ 0) (h : m < 9007199254740992) : m.log2 ≤ 52 := by
  have h1 := Nat.log2_self_le h0
  have : 2 ^ m.log2 < 2 ^ 53 := Nat.lt_of_le_of_lt h1 h
  have := (Nat.pow_lt_pow_iff_right (by omega : 1 < 2)).1 this
  omega

theorem kept_range {m : Nat} (h0 : m ≠ 0) (h : m < 9007199254740992) : 4503599627370496 ≤ m * 2 ^ (52 - m.log2) ∧ m * 2 ^ (52 - m.log2) < 9007199254740992 := by
  have hl := log2_le h0 h
  have h1 := Nat.log2_self_le h0
  have h2 : m < 2 ^ (m.log2 + 1) := Nat.lt_log2_self
  have e1 : 2 ^ m.log2 * 2 ^ (52 - m.log2) = 4503599627370496 := by rw [← Nat.pow_add, show m.log2 + (52 - m.log2) = 52 by omega]
  have e2 : 2 ^ (m.log2 + 1) * 2 ^ (52 - m.log2) = 9007199254740992 := by rw [← Nat.pow_add, show m.log2 + 1 + (52 - m.log2) = 53 by omega]
  refine ⟨?_, ?_⟩
  · rw [← e1]; exact Nat.mul_le_mul_right _ h1
  · rw [← e2]; exact Nat.mul_lt_mul_of_pos_right h2 (Nat.two_pow_pos _)

theorem cut_zero (neg : Bool) (n : Nat) : Toward.even.cut neg n 0 = n := by
  unfold Toward.cut
  simp [Nat.mod_one]

theorem cut_mul (neg : Bool) (k d : Nat) (hk : k ≠ 0) (way : Toward) : way.cut neg (k * 2 ^ d) d = k := by
  unfold Toward.cut
  have e : min d ((k * 2 ^ d).log2 + 2) = d := by rw [log2_shl k d hk]; omega
  rw [e, Nat.shiftLeft_eq, Nat.one_mul]
  have h1 : k * 2 ^ d / 2 ^ d = k := Nat.mul_div_cancel _ (Nat.two_pow_pos d)
  have h2 : k * 2 ^ d % 2 ^ d = 0 := Nat.mul_mod_left _ _
  simp only [h1, h2]
  have h3 : (2 ^ d == 0) = false := by
    rw [beq_eq_false_iff_ne]; exact Nat.ne_of_gt (Nat.two_pow_pos d)
  cases way <;> simp [h3]

theorem nearest_val (neg : Bool) {m : Nat} (s : Nat) (h0 : m ≠ 0) (h : m < 9007199254740992) : double.nearest neg (m * 2 ^ s) (-(s : Int)) = double.word neg (rung m) := by
  have hl := log2_le h0 h
  have hk := kept_range h0 h
  have hm : m * 2 ^ s ≠ 0 := Nat.ne_of_gt (Nat.mul_pos (Nat.pos_of_ne_zero h0) (Nat.two_pow_pos s))
  unfold Format.nearest
  rw [if_neg hm]
  have hlast : max (-(s : Int) + ((m * 2 ^ s).log2 : Nat) - (double.fractionBits : Nat)) double.leastPlace = (m.log2 : Int) - 52 := by
    rw [log2_shl m s h0]
    show max (-(s : Int) + ((m.log2 + s : Nat) : Int) - 52) (2 - 2 ^ 10 - 52) = _
    omega
  have hcut : Toward.even.cut neg ((m * 2 ^ s) <<< (-(s : Int) - ((m.log2 : Int) - 52)).toNat) ((m.log2 : Int) - 52 - -(s : Int)).toNat = m * 2 ^ (52 - m.log2) := by
    by_cases hs : s ≤ 52 - m.log2
    · have e1 : (-(s : Int) - ((m.log2 : Int) - 52)).toNat = 52 - m.log2 - s := by omega
      have e2 : ((m.log2 : Int) - 52 - -(s : Int)).toNat = 0 := by omega
      rw [e1, e2, cut_zero, Nat.shiftLeft_eq, Nat.mul_assoc, ← Nat.pow_add, show s + (52 - m.log2 - s) = 52 - m.log2 by omega]
    · have e1 : (-(s : Int) - ((m.log2 : Int) - 52)).toNat = 0 := by omega
      have e2 : ((m.log2 : Int) - 52 - -(s : Int)).toNat = s - (52 - m.log2) := by omega
      rw [e1, e2, Nat.shiftLeft_zero]
      have e3 : m * 2 ^ s = m * 2 ^ (52 - m.log2) * 2 ^ (s - (52 - m.log2)) := by rw [Nat.mul_assoc, ← Nat.pow_add, show 52 - m.log2 + (s - (52 - m.log2)) = s by omega]
      rw [e3]
      exact cut_mul neg _ _ (by omega) _
  simp only [hlast, hcut]
  congr 1
  have e4 : ((m.log2 : Int) - 52 - double.leastPlace).toNat = m.log2 + 1022 := by
    show ((m.log2 : Int) - 52 - (2 - 2 ^ 10 - 52)).toNat = _
    omega
  have e5 : double.binade = 4503599627370496 := rfl
  have e6 : double.infRung = 9218868437227405312 := rfl
  rw [e4, e5, e6]
  unfold rung
  omega

theorem read_word (neg : Bool) {m : Nat} (h0 : m ≠ 0) (h : m < 9007199254740992) : double.read (double.word neg (rung m)) = .number neg (m * 2 ^ (52 - m.log2)) (-((52 - m.log2 : Nat) : Int)) := by
  have hl := log2_le h0 h
  have hk := kept_range h0 h
  have e5 : double.binade = 4503599627370496 := rfl
  have e6 : double.infRung = 9218868437227405312 := rfl
  have e7 : double.signWeight = 9223372036854775808 := rfl
  have e8 : double.leastPlace = -1074 := rfl
  have hr : rung m < 9223372036854775808 ∧ 4503599627370496 ≤ rung m ∧ rung m < 9218868437227405312 ∧ rung m % 4503599627370496 = m * 2 ^ (52 - m.log2) - 4503599627370496 ∧ rung m / 4503599627370496 = m.log2 + 1023 := by
    unfold rung
    omega
  obtain ⟨r1, r2, r3, r4, r5⟩ := hr
  have w1 : double.word neg (rung m) / 9223372036854775808 % 2 = if neg then 1 else 0 := by
    unfold Format.word
    rw [e7]
    cases neg <;> simp <;> omega
  have w2 : double.word neg (rung m) % 9223372036854775808 = rung m := by
    unfold Format.word
    rw [e7]
    cases neg <;> simp <;> omega
  unfold Format.read
  simp only [e5, e6, e7, e8, w1, w2]
  rw [if_neg (by omega), if_pos r3, r4, r5]
  have a1 : ((if neg = true then 1 else 0) == 1) = neg := by cases neg <;> rfl
  have a2 : 4503599627370496 + (m * 2 ^ (52 - m.log2) - 4503599627370496) = m * 2 ^ (52 - m.log2) := by omega
  have a3 : (-1074 : Int) + ((m.log2 + 1023 - 1 : Nat) : Int) = -((52 - m.log2 : Nat) : Int) := by omega
  rw [a1, a2, a3]

/-- The bits of a whole number. -/
def fb (n : Int) : Nat := FloatKind.f64.nearest n

theorem fb_eq {n : Int} (h0 : n ≠ 0) (h : n.natAbs < 9007199254740992) : fb n = double.word (decide (n < 0)) (rung n.natAbs) := by
  have := nearest_val (decide (n < 0)) (m := n.natAbs) 0 (by omega) h
  rw [Nat.pow_zero, Nat.mul_one] at this
  exact this
theorem fb_zero : fb 0 = 0 := rfl

/-- A datum that is the whole number n. -/
def DW (d : Datum) (n : Int) : Prop := ∃ neg t, d = .number neg (n.natAbs * 2 ^ t) (-((t : Nat) : Int)) ∧ (n ≠ 0 → neg = decide (n < 0))
/-- The same; of 0 the sign is no minus. -/
def DC (d : Datum) (n : Int) : Prop := ∃ t, d = .number (decide (n < 0)) (n.natAbs * 2 ^ t) (-((t : Nat) : Int))

theorem DC.dw {d : Datum} {n : Int} (h : DC d n) : DW d n := by
  obtain ⟨t, h⟩ := h
  exact ⟨_, t, h, fun _ => rfl⟩

/-- Bits that are the whole number n. -/
def Wh (b : Nat) (n : Int) : Prop := b = fb n ∨ (n = 0 ∧ b = 9223372036854775808)
theorem Wh.of (n : Int) : Wh (fb n) n := .inl rfl

theorem read_zero (neg : Bool) : double.read (if neg then 9223372036854775808 else 0) = .number neg 0 (-((1074 : Nat) : Int)) := by cases neg <;> decide

theorem read_fb {n : Int} (h : n.natAbs < 9007199254740992) : DC (double.read (fb n)) n := by
  by_cases h0 : n = 0
  · subst h0
    have key : ∀ t : Nat, t = 1074 → DC (double.read (fb 0)) 0 := fun t ht => ⟨t, by
      rw [show (0 : Int).natAbs * 2 ^ t = 0 from Nat.zero_mul _, ht]
      exact read_zero false⟩
    exact key _ rfl
  · rw [fb_eq h0 h, read_word _ (by omega) h]
    exact ⟨_, rfl⟩

theorem Wh.read {b : Nat} {n : Int} (w : Wh b n) (h : n.natAbs < 9007199254740992) : DW (double.read b) n := by
  rcases w with rfl | ⟨rfl, rfl⟩
  · exact (read_fb h).dw
  · have key : ∀ t : Nat, t = 1074 → DW (double.read 9223372036854775808) 0 := fun t ht => ⟨true, t, by
      rw [show (0 : Int).natAbs * 2 ^ t = 0 from Nat.zero_mul _, ht]
      exact read_zero true, fun h => absurd rfl h⟩
    exact key _ rfl

theorem DW.write {d : Datum} {n : Int} (hd : DW d n) (h : n.natAbs < 9007199254740992) : Wh (double.write d) n := by
  obtain ⟨neg, t, rfl, hs⟩ := hd
  by_cases h0 : n = 0
  · subst h0
    show Wh (double.nearest neg (0 * 2 ^ t) _) 0
    rw [Nat.zero_mul]
    unfold Format.nearest
    rw [if_pos rfl]
    cases neg
    · exact .inl rfl
    · exact .inr ⟨rfl, rfl⟩
  · left
    show double.nearest neg _ _ = _
    rw [nearest_val neg t (by omega) h, fb_eq h0 h, hs h0]

theorem DC.write {d : Datum} {n : Int} (hd : DC d n) (h : n.natAbs < 9007199254740992) : double.write d = fb n := by
  obtain ⟨t, rfl⟩ := hd
  by_cases h0 : n = 0
  · subst h0
    show double.nearest _ (0 * 2 ^ t) _ = _
    rw [Nat.zero_mul]
    unfold Format.nearest
    rw [if_pos rfl]
    rfl
  · show double.nearest _ _ _ = _
    rw [nearest_val _ t (by omega) h, fb_eq h0 h]

theorem DW.opp {d : Datum} {n : Int} (h : DW d n) : DW d.opposite (-n) := by
  obtain ⟨neg, t, rfl, hs⟩ := h
  refine ⟨!neg, t, ?_, fun h0 => ?_⟩
  · show Datum.number _ _ _ = _
    rw [Int.natAbs_neg]
  · rw [hs (by omega)]
    by_cases h1 : n < 0
    · simp [h1]; omega
    · simp [h1]; omega

theorem signed_val {neg : Bool} {n : Int} {t T : Nat} (h : n ≠ 0 → neg = decide (n < 0)) (ht : t ≤ T) : signed neg (n.natAbs * 2 ^ t) (T - t) = n * 2 ^ T := by
  unfold signed
  rw [Nat.shiftLeft_eq, Nat.mul_assoc, ← Nat.pow_add, show t + (T - t) = T by omega]
  by_cases h0 : n = 0
  · subst h0
    cases neg <;> simp
  · rw [h h0]
    by_cases h1 : n < 0
    · rw [if_pos (by simpa using h1)]
      have e : ((n.natAbs : Nat) : Int) = -n := by omega
      rw [Int.natCast_mul, e, Int.neg_mul, Int.neg_neg]
      simp
    · rw [if_neg (by simpa using h1)]
      have e : ((n.natAbs : Nat) : Int) = n := by omega
      rw [Int.natCast_mul, e]
      simp

theorem mul_pow_neg {n : Int} {T : Nat} : (n * 2 ^ T < 0 ↔ n < 0) ∧ (n * 2 ^ T = 0 ↔ n = 0) := by
  have hp : (0 : Int) < 2 ^ T := Int.pow_pos (by omega)
  refine ⟨⟨fun h => ?_, fun h => Int.mul_neg_of_neg_of_pos h hp⟩, ⟨fun h => ?_, fun h => by rw [h, Int.zero_mul]⟩⟩
  · rcases (by omega : n < 0 ∨ 0 ≤ n) with h1 | h1
    · exact h1
    · have := Int.mul_nonneg h1 (Int.le_of_lt hp)
      omega
  · rcases Int.mul_eq_zero.1 h with h1 | h1
    · exact h1
    · omega

theorem natAbs_pow (n : Int) (T : Nat) : (n * 2 ^ T).natAbs = n.natAbs * 2 ^ T := by
  rw [Int.natAbs_mul, Int.natAbs_pow]
  rfl

theorem sum_gen {a b : Int} {s u : Bool} {t1 t2 : Nat} (hs : a ≠ 0 → s = decide (a < 0)) (hu : b ≠ 0 → u = decide (b < 0)) :
    Datum.sum (.number s (a.natAbs * 2 ^ t1) (-((t1 : Nat) : Int))) (.number u (b.natAbs * 2 ^ t2) (-((t2 : Nat) : Int))) =
      some (.number (if a + b = 0 then s && u else decide (a + b < 0)) ((a + b).natAbs * 2 ^ max t1 t2) (-((max t1 t2 : Nat) : Int))) := by
  have hb : min (-((t1 : Nat) : Int)) (-((t2 : Nat) : Int)) = -((max t1 t2 : Nat) : Int) := by omega
  have h1 : (-((t1 : Nat) : Int) - -((max t1 t2 : Nat) : Int)).toNat = max t1 t2 - t1 := by omega
  have h2 : (-((t2 : Nat) : Int) - -((max t1 t2 : Nat) : Int)).toNat = max t1 t2 - t2 := by omega
  have e : signed s (a.natAbs * 2 ^ t1) (max t1 t2 - t1) + signed u (b.natAbs * 2 ^ t2) (max t1 t2 - t2) = (a + b) * 2 ^ max t1 t2 := by
    rw [signed_val hs (by omega), signed_val hu (by omega), Int.add_mul]
  simp only [Datum.sum, hb, h1, h2, e]
  rw [natAbs_pow]
  congr 2
  by_cases h0 : a + b = 0
  · rw [if_pos (mul_pow_neg.2.2 h0), if_pos h0]
  · rw [if_neg (fun h => h0 (mul_pow_neg.2.1 h)), if_neg h0]
    by_cases hn : a + b < 0
    · simp [hn, mul_pow_neg.1.2 hn]
    · have := mt (mul_pow_neg (n := a + b) (T := max t1 t2)).1.1 hn
      simp [hn, this]

theorem DW.sum {d e : Datum} {a b : Int} (h : DW d a) (k : DW e b) : ∃ f, d.sum e = some f ∧ DW f (a + b) := by
  obtain ⟨s, t1, rfl, hs⟩ := h
  obtain ⟨u, t2, rfl, hu⟩ := k
  exact ⟨_, sum_gen hs hu, _, _, rfl, fun h0 => by rw [if_neg h0]⟩

theorem DC.sum {d e : Datum} {a b : Int} (h : DC d a) (k : DC e b) : ∃ f, d.sum e = some f ∧ DC f (a + b) := by
  obtain ⟨t1, rfl⟩ := h
  obtain ⟨t2, rfl⟩ := k
  refine ⟨_, sum_gen (fun _ => rfl) (fun _ => rfl), max t1 t2, ?_⟩
  congr 1
  by_cases h0 : a + b = 0
  · rw [if_pos h0]
    by_cases h1 : a < 0
    · have h2 : ¬ b < 0 := by omega
      simp [h1, h2, h0]
    · simp [h1, h0]
  · rw [if_neg h0]

theorem DW.product {d e : Datum} {a b : Int} (h : DW d a) (k : DW e b) : ∃ f, d.product e = some f ∧ DW f (a * b) := by
  obtain ⟨s, t1, rfl, hs⟩ := h
  obtain ⟨u, t2, rfl, hu⟩ := k
  refine ⟨_, rfl, s ^^ u, t1 + t2, ?_, fun h0 => ?_⟩
  · congr 1
    · rw [Int.natAbs_mul, Nat.pow_add, Nat.mul_mul_mul_comm]
    · omega
  · have ha : a ≠ 0 := fun h => h0 (by rw [h, Int.zero_mul])
    have hb : b ≠ 0 := fun h => h0 (by rw [h, Int.mul_zero])
    rw [hs ha, hu hb]
    rcases Int.lt_or_gt_of_ne ha with h1 | h1 <;> rcases Int.lt_or_gt_of_ne hb with h2 | h2
    · have := Int.mul_pos_of_neg_of_neg h1 h2
      simp [h1, h2]; omega
    · have := Int.mul_neg_of_neg_of_pos h1 h2
      simp [h1, this]; omega
    · have := Int.mul_neg_of_pos_of_neg h1 h2
      simp [h2, this]; omega
    · have := Int.mul_pos h1 h2
      have n1 : ¬ a < 0 := by omega
      have n2 : ¬ b < 0 := by omega
      have n3 : ¬ a * b < 0 := by omega
      simp [n1, n2, n3]

theorem DW.toInt {d : Datum} {n : Int} (h : DW d n) : d.toInt .zero = some n := by
  obtain ⟨neg, t, rfl, hs⟩ := h
  unfold Datum.toInt Datum.integral
  have e1 : (-((t : Nat) : Int)).toNat = 0 := by omega
  have e2 : (- -((t : Nat) : Int)).toNat = t := by omega
  simp only [e1, e2, Nat.shiftLeft_zero]
  by_cases h0 : n = 0
  · subst h0
    have : Toward.zero.cut neg (0 * 2 ^ t) t = 0 := by
      unfold Toward.cut
      simp
    show some (signed neg (Toward.zero.cut neg (0 * 2 ^ t) t) 0) = some 0
    rw [this]
    cases neg <;> rfl
  · rw [cut_mul neg _ t (by omega)]
    have := signed_val (neg := neg) (n := n) (t := 0) (T := 0) hs (Nat.le_refl _)
    rw [Nat.pow_zero, Nat.mul_one] at this
    rw [this]
    simp

theorem DW.order {d e : Datum} {a b : Int} (h : DW d a) (k : DW e b) : d.order e = some (compare a b) := by
  obtain ⟨s, t1, rfl, hs⟩ := h
  obtain ⟨u, t2, rfl, hu⟩ := k
  have hb : min (-((t1 : Nat) : Int)) (-((t2 : Nat) : Int)) = -((max t1 t2 : Nat) : Int) := by omega
  have h1 : (-((t1 : Nat) : Int) - -((max t1 t2 : Nat) : Int)).toNat = max t1 t2 - t1 := by omega
  have h2 : (-((t2 : Nat) : Int) - -((max t1 t2 : Nat) : Int)).toNat = max t1 t2 - t2 := by omega
  simp only [Datum.order, hb, h1, h2, signed_val hs (by omega : t1 ≤ max t1 t2), signed_val hu (by omega : t2 ≤ max t1 t2)]
  have hp : (0 : Int) < 2 ^ max t1 t2 := Int.pow_pos (by omega)
  congr 1
  rcases Int.lt_trichotomy a b with h | h | h
  · rw [Int.compare_eq_lt.2 h, Int.compare_eq_lt.2 (Int.mul_lt_mul_of_pos_right h hp)]
  · subst h
    simp
  · rw [Int.compare_eq_gt.2 h, Int.compare_eq_gt.2 (Int.mul_lt_mul_of_pos_right h hp)]

/-! ### On bits -/

section
variable {x y : Nat} {a b : Int}

theorem add_fb (ha : a.natAbs < 9007199254740992) (hb : b.natAbs < 9007199254740992) (hs : (a + b).natAbs < 9007199254740992) : floatBits .add .f64 (fb a) (fb b) = some (fb (a + b)) := by
  obtain ⟨f, h1, h2⟩ := (read_fb ha).sum (read_fb hb)
  show (((double.read (fb a)).sum (double.read (fb b))).map double.write) = _
  rw [h1, Option.map_some, h2.write hs]

theorem add_wh (hx : Wh x a) (hy : Wh y b) (ha : a.natAbs < 9007199254740992) (hb : b.natAbs < 9007199254740992) (hs : (a + b).natAbs < 9007199254740992) : ∃ r, floatBits .add .f64 x y = some r ∧ Wh r (a + b) := by
  obtain ⟨f, h1, h2⟩ := (hx.read ha).sum (hy.read hb)
  refine ⟨double.write f, ?_, h2.write hs⟩
  show (((double.read x).sum (double.read y)).map double.write) = _
  rw [h1, Option.map_some]

theorem sub_wh (hx : Wh x a) (hy : Wh y b) (ha : a.natAbs < 9007199254740992) (hb : b.natAbs < 9007199254740992) (hs : (a - b).natAbs < 9007199254740992) : ∃ r, floatBits .sub .f64 x y = some r ∧ Wh r (a - b) := by
  obtain ⟨f, h1, h2⟩ := (hx.read ha).sum (hy.read hb).opp
  rw [← Int.sub_eq_add_neg] at h2
  refine ⟨double.write f, ?_, h2.write hs⟩
  show (((double.read x).sum (double.read y).opposite).map double.write) = _
  rw [h1, Option.map_some]

theorem mul_wh (hx : Wh x a) (hy : Wh y b) (ha : a.natAbs < 9007199254740992) (hb : b.natAbs < 9007199254740992) (hs : (a * b).natAbs < 9007199254740992) : ∃ r, floatBits .mul .f64 x y = some r ∧ Wh r (a * b) := by
  obtain ⟨f, h1, h2⟩ := (hx.read ha).product (hy.read hb)
  refine ⟨double.write f, ?_, h2.write hs⟩
  show (((double.read x).product (double.read y)).map double.write) = _
  rw [h1, Option.map_some]

theorem toInt_wh (hx : Wh x a) (ha : a.natAbs < 9007199254740992) : (FloatKind.f64.decode x).toInt .zero = some a := (hx.read ha).toInt
theorem order_wh (hx : Wh x a) (hy : Wh y b) (ha : a.natAbs < 9007199254740992) (hb : b.natAbs < 9007199254740992) : FloatKind.f64.format.order x y = some (compare a b) := (hx.read ha).order (hy.read hb)
end

theorem fb_inj {a b : Int} (ha : a.natAbs < 9007199254740992) (hb : b.natAbs < 9007199254740992) (h : fb a = fb b) : a = b := by
  have h1 := (read_fb ha).dw.toInt
  have h2 := (read_fb hb).dw.toInt
  rw [h] at h1
  rw [h1] at h2
  exact Option.some.inj h2
end Go.Fl

namespace Go.Proofs.YtmjogmpgamlhaaaGreat
open Go Go.RowKit Go.Lib Go.Fl

theorem order_eq {x y : Nat} {a b : Int} (hx : Wh x a) (hy : Wh y b) (ha : a.natAbs < 9007199254740992) (hb : b.natAbs < 9007199254740992) : (FloatKind.f64.format.order x y == some Ordering.eq) = decide (a = b) := by
  rw [order_wh hx hy ha hb]
  by_cases h : a = b
  · subst h
    simp
  · rcases (by omega : a < b ∨ b < a) with h1 | h1
    · rw [Int.compare_eq_lt.2 h1]; simp [h]
    · rw [Int.compare_eq_gt.2 h1]; simp [h]

theorem geq_far {x : Nat} {a : Int} (hx : Wh x a) (ha : a.natAbs ≤ 4503599627370496) :
    (FloatKind.f64.format.order x 14064741636278059008 == some Ordering.gt || FloatKind.f64.format.order x 14064741636278059008 == some Ordering.eq) = true ∧
    (FloatKind.f64.format.order x 4841369599423283200 == some Ordering.lt || FloatKind.f64.format.order x 4841369599423283200 == some Ordering.eq) = true := by
  have f1 : fb (-4503599627370496) = 14064741636278059008 := by decide
  have f2 : fb 4503599627370496 = 4841369599423283200 := by decide
  rw [← f1, ← f2, order_wh hx (Wh.of _) (by omega) (by decide), order_wh hx (Wh.of _) (by omega) (by decide)]
  refine ⟨?_, ?_⟩
  · rcases (by omega : a = -4503599627370496 ∨ -4503599627370496 < a) with h | h
    · subst h; rfl
    · rw [Int.compare_eq_gt.2 h]; rfl
  · rcases (by omega : a = 4503599627370496 ∨ a < 4503599627370496) with h | h
    · subst h; rfl
    · rw [Int.compare_eq_lt.2 h]; rfl

theorem conv_int {x : Nat} {a : Int} (hx : Wh x a) (ha : a.natAbs ≤ 4503599627370496) (w : World) : Sem.run Tryz.prog (convert 514 3 (.float .f64 x)) w = .ok (.int .i64 a) w := by
  refine run_convert_float_int w 514 3 .f64 .i64 x a (by rw [Tryz.underlying514]; rfl) Tryz.underlying3 ?_
  unfold floatToIntVal
  rw [toInt_wh hx (by omega)]
  simp only
  rw [if_pos]
  show -9223372036854775808 ≤ a ∧ a ≤ 9223372036854775807
  omega

set_option maxRecDepth 100000 in
theorem within_calls {x y : Nat} {a b : Int} (hx : Wh x a) (hy : Wh y b) (ha : a.natAbs ≤ 4503599627370496) (hb : b.natAbs ≤ 4503599627370496) (w : World) :
    Calls Tryz.prog 415 #[.complex .f64 x y, .float .f64 4841369599423283200] w fun e w' => e = .returned (.bool true) ∧ w' = w := by
  have e1 : ∀ (w : World), Sem.run Tryz.prog (Builtin.real_ #[51] 514 #[.complex .f64 x y]) w = .ok (.float .f64 x) w := fun w => rfl
  have e2 : ∀ (w : World), Sem.run Tryz.prog (Builtin.imag_ #[51] 514 #[.complex .f64 x y]) w = .ok (.float .f64 y) w := fun w => rfl
  have i0 : ∀ (w : World), Sem.run Tryz.prog (Instr.index 535 (.agg #[.float .f64 x, .float .f64 y]) (.int .i64 0)) w = .ok (.float .f64 x) w := fun w => by kernel_rfl
  have i1 : ∀ (w : World), Sem.run Tryz.prog (Instr.index 535 (.agg #[.float .f64 x, .float .f64 y]) (.int .i64 1)) w = .ok (.float .f64 y) w := fun w => by kernel_rfl
  have hng : ∀ (w : World), Sem.run Tryz.prog (Op.unary UnOp.neg (.float .f64 4841369599423283200)) w = .ok (.float .f64 14064741636278059008) w := fun w => by kernel_rfl
  have c1 := conv_int hx ha
  have c2 := conv_int hy hb
  obtain ⟨g1, g2⟩ := geq_far hx ha
  obtain ⟨g3, g4⟩ := geq_far hy hb
  have o1 := order_eq (Wh.of a) hx (by omega) (by omega)
  have o2 := order_eq (Wh.of b) hy (by omega) (by omega)
  rw [decide_eq_true rfl] at o1 o2
  have o1 : (FloatKind.f64.format.order (floatOfInt .f64 a) x != some Ordering.eq) = false := by
    show (!(FloatKind.f64.format.order (fb a) x == some Ordering.eq)) = false
    rw [o1]; rfl
  have o2 : (FloatKind.f64.format.order (floatOfInt .f64 b) y != some Ordering.eq) = false := by
    show (!(FloatKind.f64.format.order (fb b) y == some Ordering.eq)) = false
    rw [o2]; rfl
  clear hx hy ha hb
  go_enter Tryz.func415, Tryz.ntmps415
  go_wp2
  go_loopw [12] (fun i wr => ∃ k : Nat, k ≤ 2 ∧ i = .int .i64 k ∧ wr = w) (fun i _ => 2 - (RowKit.intOf i).toNat)
  case atStart => exact ⟨0, by omega, rfl, rfl⟩
  case round =>
    obtain ⟨k, hk, rfl, rfl⟩ := hrel
    rcases (by omega : k = 0 ∨ k = 1 ∨ k = 2) with rfl | rfl | rfl
    · go_wp2
      go_roundw
      case rel => exact ⟨1, by omega, by go_num, by first | trivial | rfl⟩
      case measure => simp [RowKit.intOf]
    · go_wp2
      go_roundw
      case rel => exact ⟨2, by omega, by go_num, by first | trivial | rfl⟩
      case measure => simp [RowKit.intOf]
    · go_wp2
      go_ret
      exact ⟨rfl, rfl⟩

set_option maxRecDepth 100000 in
theorem Parts_calls {a b : Int} (ha : 0 ≤ a ∧ a ≤ 1048576) (hb : 0 ≤ b ∧ b ≤ 1048576) (w : World) :
    Calls Tryz.prog 380 #[.complex .f64 (fb a) (fb b)] w fun e w' => e = .returned (.tuple #[.int .i64 a, .int .i64 b, .int .i64 0]) ∧ w' = w := by
  have e1 : ∀ (w : World), Sem.run Tryz.prog (Builtin.real_ #[51] 514 #[.complex .f64 (fb a) (fb b)]) w = .ok (.float .f64 (fb a)) w := fun w => rfl
  have e2 : ∀ (w : World), Sem.run Tryz.prog (Builtin.imag_ #[51] 514 #[.complex .f64 (fb a) (fb b)]) w = .ok (.float .f64 (fb b)) w := fun w => rfl
  have c1 := conv_int (Wh.of a) (by omega)
  have c2 := conv_int (Wh.of b) (by omega)
  have HW : Aside (∀ w, Calls Tryz.prog 415 #[.complex .f64 (fb a) (fb b), .float .f64 4841369599423283200] w fun e w' => e = .returned (.bool true) ∧ w' = w) := within_calls (Wh.of a) (Wh.of b) (by omega) (by omega)
  generalize fb a = x at *
  generalize fb b = y at *
  clear ha hb
  go_enter Tryz.func380, Tryz.ntmps380
  go_wp2_with (go_at_call 415; refine (HW.out _).mono ?_; rintro e w' ⟨rfl, rfl⟩)
  refine bodyPost_ret (v := .tuple #[.int .i64 a, .int .i64 b, .int .i64 0]) (by simp [results, Tryz.results380, go_sem]) rfl ⟨rfl, rfl⟩

set_option maxRecDepth 100000 in
theorem Right_calls {a b : Int} (ha : 0 ≤ a ∧ a ≤ 1048576) (hb : 0 ≤ b ∧ b ≤ 1048576) (w : World) :
    Calls Tryz.prog 328 #[.complex .f64 (fb a) (fb b)] w fun e w' => e = .returned (.bool true) ∧ w' = w := by
  have HP : Aside (∀ w, Calls Tryz.prog 380 #[.complex .f64 (fb a) (fb b)] w fun e w' => e = .returned (.tuple #[.int .i64 a, .int .i64 b, .int .i64 0]) ∧ w' = w) := Parts_calls ha hb
  generalize fb a = x at *
  generalize fb b = y at *
  go_enter Tryz.func328, Tryz.ntmps328
  go_wp2_with (go_at_call 380; refine (HP.out _).mono ?_; rintro e w' ⟨rfl, rfl⟩)
  go_ret
  refine ⟨?_, rfl⟩
  show Ending.returned (.bool (decide (max a b ≤ 1048576))) = _
  rw [decide_eq_true (by omega)]

set_option maxRecDepth 100000 in
theorem parts_calls {a b : Int} (ha : 0 ≤ a ∧ a ≤ 1048576) (hb : 0 ≤ b ∧ b ≤ 1048576) (w : World) :
    Calls Tryz.prog 367 #[.complex .f64 (fb a) (fb b)] w fun e w' => e = .returned (.tuple #[.int .i64 a, .int .i64 b]) ∧ w' = w := by
  have HP : Aside (∀ w, Calls Tryz.prog 380 #[.complex .f64 (fb a) (fb b)] w fun e w' => e = .returned (.tuple #[.int .i64 a, .int .i64 b, .int .i64 0]) ∧ w' = w) := Parts_calls ha hb
  have HR : Aside (∀ w, Calls Tryz.prog 328 #[.complex .f64 (fb a) (fb b)] w fun e w' => e = .returned (.bool true) ∧ w' = w) := Right_calls ha hb
  generalize fb a = x at *
  generalize fb b = y at *
  clear ha hb
  go_enter Tryz.func367, Tryz.ntmps367
  go_wp2_with (first | (go_at_call 328; refine (HR.out _).mono ?_; rintro e w' ⟨rfl, rfl⟩) | (go_at_call 380; refine (HP.out _).mono ?_; rintro e w' ⟨rfl, rfl⟩))
  refine bodyPost_ret (v := .tuple #[.int .i64 a, .int .i64 b]) (by simp [results, Tryz.results367, go_sem]) rfl ⟨rfl, rfl⟩

set_option maxRecDepth 100000 in
theorem Of_calls {a b : Int} (ha : 0 ≤ a ∧ a ≤ 1048576) (hb : 0 ≤ b ∧ b ≤ 1048576) (w : World) :
    Calls Tryz.prog 409 #[.int .i64 a, .int .i64 b] w fun e w' => e = .returned (.tuple #[.complex .f64 (fb a) (fb b), .int .i64 0]) ∧ w' = w := by
  have e3 : ∀ (p q : Nat) (w : World), Sem.run Tryz.prog (Builtin.complex_ #[514, 514] 51 #[.float .f64 p, .float .f64 q]) w = .ok (.complex .f64 p q) w := fun p q w => rfl
  go_enter Tryz.func409, Tryz.ntmps409
  go_wp2
  refine bodyPost_ret (v := .tuple #[.complex .f64 (fb a) (fb b), .int .i64 0]) (by simp [results, Tryz.results409, go_sem, fb, floatOfInt]) rfl ⟨rfl, rfl⟩

set_option maxRecDepth 100000 in
theorem of_calls {a b : Int} (ha : 0 ≤ a ∧ a ≤ 2000000) (hb : 0 ≤ b ∧ b ≤ 2000000) (w : World) :
    Calls Tryz.prog 368 #[.int .i64 a, .int .i64 b] w fun e w' => e = .returned (.complex .f64 (fb (min a 1048576)) (fb (min b 1048576))) ∧ w' = w := by
  have HO : Aside (∀ w, Calls Tryz.prog 409 #[.int .i64 (min a 1048576), .int .i64 (min b 1048576)] w fun e w' => e = .returned (.tuple #[.complex .f64 (fb (min a 1048576)) (fb (min b 1048576)), .int .i64 0]) ∧ w' = w) := Of_calls (by omega) (by omega)
  generalize fb (min a 1048576) = x at *
  generalize fb (min b 1048576) = y at *
  go_enter Tryz.func368, Tryz.ntmps368
  go_wp2_with (go_at_call 409; refine (HO.out _).mono ?_; rintro e w' ⟨rfl, rfl⟩)
  go_ret
  exact ⟨rfl, rfl⟩

set_option maxRecDepth 100000 in
theorem Touch_calls {a b : Int} (ha : 0 ≤ a ∧ a ≤ 1048576) (hb : 0 ≤ b ∧ b ≤ 1048576) (s : Bool) (w : World) :
    Calls Tryz.prog 408 #[.complex .f64 (fb a) (fb b), .bool s] w fun e w' => e = .returned (.complex .f64 (fb (min (if s then a else a + 1) 1048576)) (fb (min (if s then b + 1 else b) 1048576))) ∧ w' = w := by
  have HP : Aside (∀ w, Calls Tryz.prog 367 #[.complex .f64 (fb a) (fb b)] w fun e w' => e = .returned (.tuple #[.int .i64 a, .int .i64 b]) ∧ w' = w) := parts_calls ha hb
  have HO : Aside (∀ c d : Int, 0 ≤ c ∧ c ≤ 2000000 → 0 ≤ d ∧ d ≤ 2000000 → ∀ w, Calls Tryz.prog 368 #[.int .i64 c, .int .i64 d] w fun e w' => e = .returned (.complex .f64 (fb (min c 1048576)) (fb (min d 1048576))) ∧ w' = w) := fun c d hc hd => of_calls hc hd
  generalize fb a = x at *
  generalize fb b = y at *
  go_enter Tryz.func408, Tryz.ntmps408
  cases s
  · go_wp2_with (first | (go_at_call 367; refine (HP.out _).mono ?_; rintro e w' ⟨rfl, rfl⟩) | (go_at_call 368; refine (HO.out (a + 1) b (by omega) (by omega) _).mono ?_; rintro e w' ⟨rfl, rfl⟩))
    go_ret
    exact ⟨rfl, rfl⟩
  · go_wp2_with (first | (go_at_call 367; refine (HP.out _).mono ?_; rintro e w' ⟨rfl, rfl⟩) | (go_at_call 368; refine (HO.out a (b + 1) (by omega) (by omega) _).mono ?_; rintro e w' ⟨rfl, rfl⟩))
    go_ret
    exact ⟨rfl, rfl⟩
end Go.Proofs.YtmjogmpgamlhaaaGreat

namespace Go.Proofs.YtmjogmpgamlhaaaGreat.Dm
open Go Go.RowKit

noncomputable def touchA (args : List AV) : Option AV :=
  match args with
  | [.cv (.sc (.hz i a b)), .cv (.sc (.b s))] => some (cnd s (.cv (.sc (.hz i a (Nat.succ b)))) (.cv (.sc (.hz i (Nat.succ a) b))))
  | _ => none

noncomputable def ovTouch (g : FuncId) (call : CallK) : CallK := fun f args h => cnd (Nat.beq f g)
  (match touchA args with
  | some v => .ok v h
  | none => call f args h) (call f args h)

def TouchOk (P : Program) (g : FuncId) : Prop := Enters P g ∧ ∀ (r k : Nat) (s : Bool) (w : World),
  Calls P g #[.complex .f64 (hfb r) (hfb k), .bool s] w fun e w' => e = .returned (.complex .f64 (hfb (cnd s r (r + 1))) (hfb (cnd s (k + 1) k))) ∧ w' = w

theorem ovTouch_ok {P : Program} {g : FuncId} (hG : TouchOk P g) : OvOk P (ovTouch g) := by
  intro call hc f args h v h' hr
  unfold ovTouch at hr
  cases hb : Nat.beq f g with
  | false => rw [hb] at hr; exact hc f args h v h' hr
  | true =>
    rw [hb] at hr; simp only [cnd_true] at hr
    split at hr
    · rename_i u hu
      obtain rfl := Nat.eq_of_beq_eq_true hb
      simp only [CRes.ok.injEq] at hr
      obtain ⟨rfl, rfl⟩ := hr
      unfold touchA at hu
      split at hu
      · rename_i i a b s
        simp only [Option.some.injEq] at hu
        subst hu
        refine ⟨hG.1, Nat.le_refl _, fun ι w vs rep has hf => ?_⟩
        obtain ⟨vs⟩ := vs
        obtain ⟨a1, a2, rfl⟩ : ∃ a1 a2, vs = [a1, a2] := by
          match vs, has with
          | [a1, a2], _ => exact ⟨a1, a2, rfl⟩
          | [], h => exact h.elim
          | [_], h => exact h.2.elim
          | _ :: _ :: _ :: _, h => exact h.2.2.elim
        obtain ⟨h1, h2, -⟩ := has
        obtain ⟨c, c', r, k, e1, e2, rfl⟩ := (show VR ι (.hz i a b) a1 from h1)
        obtain rfl : a2 = .bool s := h2
        refine (hG.2 (r + a) (k + b) s w).mono ?_
        rintro e w' ⟨rfl, rfl⟩
        refine ⟨_, ι, rfl, ?_, Post.refl rep⟩
        cases s
        · exact ⟨c, c', r, k, e1, e2, rfl⟩
        · exact ⟨c, c', r, k, e1, e2, rfl⟩
      · cases hu
    · exact hc f args h v h' hr

noncomputable def rightA (args : List AV) : Option AV :=
  match args with
  | [.cv (.sc (.hz _ _ _))] => some (.cv (.sc (.b true)))
  | _ => none
noncomputable def ovRight (g : FuncId) (call : CallK) : CallK := fun f args h => cnd (Nat.beq f g)
  (match rightA args with
  | some v => .ok v h
  | none => call f args h) (call f args h)
def RightOk (P : Program) (g : FuncId) : Prop := Enters P g ∧ ∀ (r k : Nat) (w : World), Calls P g #[.complex .f64 (hfb r) (hfb k)] w fun e w' => e = .returned (.bool true) ∧ w' = w
theorem ovRight_ok {P : Program} {g : FuncId} (hG : RightOk P g) : OvOk P (ovRight g) := by
  intro call hc f args h v h' hr
  unfold ovRight at hr
  cases hb : Nat.beq f g with
  | false => rw [hb] at hr; exact hc f args h v h' hr
  | true =>
    rw [hb] at hr; simp only [cnd_true] at hr
    split at hr
    · rename_i u hu
      obtain rfl := Nat.eq_of_beq_eq_true hb
      simp only [CRes.ok.injEq] at hr
      obtain ⟨rfl, rfl⟩ := hr
      unfold rightA at hu
      split at hu
      · rename_i i a b
        simp only [Option.some.injEq] at hu
        subst hu
        refine ⟨hG.1, Nat.le_refl _, fun ι w vs rep has hf => ?_⟩
        obtain ⟨vs⟩ := vs
        obtain ⟨a1, rfl⟩ : ∃ a1, vs = [a1] := by
          match vs, has with
          | [a1], _ => exact ⟨a1, rfl⟩
          | [], h => exact h.elim
          | _ :: _ :: _, h => exact h.2.elim
        obtain ⟨h1, -⟩ := has
        obtain ⟨c, c', r, k, e1, e2, rfl⟩ := (show VR ι (.hz i a b) a1 from h1)
        refine (hG.2 (r + a) (k + b) w).mono ?_
        rintro e w' ⟨rfl, rfl⟩
        exact ⟨_, ι, rfl, rfl, Post.refl rep⟩
      · cases hu
    · exact hc f args h v h' hr
end Go.Proofs.YtmjogmpgamlhaaaGreat.Dm

namespace Go.Proofs.YtmjogmpgamlhaaaGreat
open Go Go.RowKit Go.Lib Go.Proofs.YtmjogmpgamlhaaaGreat.Dm Go.Fl

theorem touchEnters : Dm.Enters Tryz.prog 408 := ⟨Tryz.f408, by kernel_rfl, by kernel_rfl, by kernel_rfl⟩

theorem touchOk : TouchOk Tryz.prog 408 := by
  refine ⟨touchEnters, fun r k s w => ?_⟩
  have h := Touch_calls (a := ((min r 1048576 : Nat) : Int)) (b := ((min k 1048576 : Nat) : Int)) (by omega) (by omega) s w
  refine h.mono ?_
  rintro e w' ⟨rfl, rfl⟩
  refine ⟨?_, rfl⟩
  have key : ∀ (x : Int) (y : Nat), x = ((min y 1048576 : Nat) : Int) → fb x = hfb y := fun x y h => by subst h; rfl
  cases s
  · rw [key _ (r + 1) (by simp; omega), key _ k (by simp; omega)]; rfl
  · rw [key _ r (by simp; omega), key _ (k + 1) (by simp; omega)]; rfl

theorem rightEnters : Dm.Enters Tryz.prog 328 := ⟨Tryz.f328, by kernel_rfl, by kernel_rfl, by kernel_rfl⟩
theorem rightOk : RightOk Tryz.prog 328 := by
  refine ⟨rightEnters, fun r k w => ?_⟩
  exact Right_calls (a := ((min r 1048576 : Nat) : Int)) (b := ((min k 1048576 : Nat) : Int)) (by omega) (by omega) w
end Go.Proofs.YtmjogmpgamlhaaaGreat
