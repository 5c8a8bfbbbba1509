/- gauss: within, plain; digest.Word. -/
import Derived.Test.YtdlnipimljpmgaaIF1
import Derived.Test.YtdlnipimljpmgaaIW1
import Derived.Laws.ComplexArith
set_option linter.unusedVariables false
set_option linter.unusedSimpArgs false
set_option linter.unusedSectionVars false
set_option linter.unnecessarySimpa false
namespace Go.Proofs.Ytdlnipimljpmgaa
open Go Go.RowKit Go.Im Go.Lib Go.Fl

theorem order_eq {x y : Nat} {a b : Int} (hx : Wh x a) (hy : Wh y b) (ha : a.natAbs < 9007199254740992) (hb : b.natAbs < 9007199254740992) : (FloatKind.f64.format.order x y == some Ordering.eq) = decide (a = b) := by
  rw [order_wh hx hy ha hb]
  by_cases h : a = b
  · subst h
    simp
  · rcases (by omega : a < b ∨ b < a) with h1 | h1
    · rw [Int.compare_eq_lt.2 h1]; simp [h]
    · rw [Int.compare_eq_gt.2 h1]; simp [h]

set_option maxRecDepth 100000 in
theorem plain_calls {x y : Nat} {a b : Int} (hx : Wh x a) (hy : Wh y b) (ha : a.natAbs < 9007199254740992) (hb : b.natAbs < 9007199254740992) (w : World) :
    Calls Try.prog 41 #[.complex .f64 x y] w fun e w' => e = .returned (.complex .f64 (fb a) (fb b)) ∧ w' = w := by
  have e1 : ∀ (w : World), Sem.run Try.prog (Builtin.real_ #[38] 77 #[.complex .f64 x y]) w = .ok (.float .f64 x) w := fun w => rfl
  have e2 : ∀ (w : World), Sem.run Try.prog (Builtin.imag_ #[38] 77 #[.complex .f64 x y]) w = .ok (.float .f64 y) w := fun w => rfl
  have e3 : ∀ (p q : Nat) (w : World), Sem.run Try.prog (Builtin.complex_ #[77, 77] 38 #[.float .f64 p, .float .f64 q]) w = .ok (.complex .f64 p q) w := fun p q w => rfl
  have o1 := order_eq hx (Wh.of 0) ha (by decide)
  have o2 := order_eq hy (Wh.of 0) hb (by decide)
  rw [fb_zero] at o1 o2
  have HX : Aside (a ≠ 0 → x = fb a) := fun h => hx.elim id (fun h' => absurd h'.1 h)
  have HY : Aside (b ≠ 0 → y = fb b) := fun h => hy.elim id (fun h' => absurd h'.1 h)
  clear hx hy ha hb
  by_cases h1 : a = 0
  all_goals by_cases h2 : b = 0
  all_goals simp only [h1, h2, decide_true, decide_false] at o1 o2
  all_goals (first | subst h1 | skip)
  all_goals (first | subst h2 | skip)
  all_goals go_enter Try.func41, Try.ntmps41
  all_goals go_wp2
  all_goals go_ret
  · exact ⟨rfl, rfl⟩
  · rw [← HY.out h2]; exact ⟨rfl, rfl⟩
  · rw [← HX.out h1]; exact ⟨rfl, rfl⟩
  · rw [← HX.out h1, ← HY.out h2]; exact ⟨rfl, rfl⟩

def far : Int := 4503599627370496

theorem geq_far {x : Nat} {a : Int} (hx : Wh x a) (ha : a.natAbs ≤ 4503599627370496) :
    (FloatKind.f64.format.order x 14064741636278059008 == some Ordering.gt || FloatKind.f64.format.order x 14064741636278059008 == some Ordering.eq) = true ∧
    (FloatKind.f64.format.order x 4841369599423283200 == some Ordering.lt || FloatKind.f64.format.order x 4841369599423283200 == some Ordering.eq) = true := by
  have f1 : fb (-4503599627370496) = 14064741636278059008 := by decide
  have f2 : fb 4503599627370496 = 4841369599423283200 := by decide
  rw [← f1, ← f2, order_wh hx (Wh.of _) (by omega) (by decide), order_wh hx (Wh.of _) (by omega) (by decide)]
  refine ⟨?_, ?_⟩
  · rcases (by omega : a = -4503599627370496 ∨ -4503599627370496 < a) with h | h
    · subst h; rfl
    · rw [Int.compare_eq_gt.2 h]; rfl
  · rcases (by omega : a = 4503599627370496 ∨ a < 4503599627370496) with h | h
    · subst h; rfl
    · rw [Int.compare_eq_lt.2 h]; rfl

theorem conv_int {x : Nat} {a : Int} (hx : Wh x a) (ha : a.natAbs ≤ 4503599627370496) (w : World) : Sem.run Try.prog (convert 77 3 (.float .f64 x)) w = .ok (.int .i64 a) w := by
  refine run_convert_float_int w 77 3 .f64 .i64 x a (by rw [Try.underlying77]; rfl) Try.underlying3 ?_
  unfold floatToIntVal
  rw [toInt_wh hx (by omega)]
  simp only
  rw [if_pos]
  show -9223372036854775808 ≤ a ∧ a ≤ 9223372036854775807
  omega

set_option maxRecDepth 100000 in
theorem within_calls {x y : Nat} {a b : Int} (hx : Wh x a) (hy : Wh y b) (ha : a.natAbs ≤ 4503599627370496) (hb : b.natAbs ≤ 4503599627370496) (w : World) :
    Calls Try.prog 40 #[.complex .f64 x y, .float .f64 4841369599423283200] w fun e w' => e = .returned (.bool true) ∧ w' = w := by
  have e1 : ∀ (w : World), Sem.run Try.prog (Builtin.real_ #[38] 77 #[.complex .f64 x y]) w = .ok (.float .f64 x) w := fun w => rfl
  have e2 : ∀ (w : World), Sem.run Try.prog (Builtin.imag_ #[38] 77 #[.complex .f64 x y]) w = .ok (.float .f64 y) w := fun w => rfl
  have i0 : ∀ (w : World), Sem.run Try.prog (Instr.index 112 (.agg #[.float .f64 x, .float .f64 y]) (.int .i64 0)) w = .ok (.float .f64 x) w := fun w => by kernel_rfl
  have i1 : ∀ (w : World), Sem.run Try.prog (Instr.index 112 (.agg #[.float .f64 x, .float .f64 y]) (.int .i64 1)) w = .ok (.float .f64 y) w := fun w => by kernel_rfl
  have hng : ∀ (w : World), Sem.run Try.prog (Op.unary UnOp.neg (.float .f64 4841369599423283200)) w = .ok (.float .f64 14064741636278059008) w := fun w => by kernel_rfl
  have c1 := conv_int hx ha
  have c2 := conv_int hy hb
  obtain ⟨g1, g2⟩ := geq_far hx ha
  obtain ⟨g3, g4⟩ := geq_far hy hb
  have o1 := order_eq (Wh.of a) hx (by omega) (by omega)
  have o2 := order_eq (Wh.of b) hy (by omega) (by omega)
  rw [decide_eq_true rfl] at o1 o2
  have o1 : (FloatKind.f64.format.order (floatOfInt .f64 a) x != some Ordering.eq) = false := by
    show (!(FloatKind.f64.format.order (fb a) x == some Ordering.eq)) = false
    rw [o1]; rfl
  have o2 : (FloatKind.f64.format.order (floatOfInt .f64 b) y != some Ordering.eq) = false := by
    show (!(FloatKind.f64.format.order (fb b) y == some Ordering.eq)) = false
    rw [o2]; rfl
  clear hx hy ha hb
  go_enter Try.func40, Try.ntmps40
  go_wp2
  go_loopw [12] (fun i wr => ∃ k : Nat, k ≤ 2 ∧ i = .int .i64 k ∧ wr = w) (fun i _ => 2 - (RowKit.intOf i).toNat)
  case atStart => exact ⟨0, by omega, rfl, rfl⟩
  case round =>
    obtain ⟨k, hk, rfl, rfl⟩ := hrel
    rcases (by omega : k = 0 ∨ k = 1 ∨ k = 2) with rfl | rfl | rfl
    · go_wp2
      go_roundw
      case rel => exact ⟨1, by omega, by go_num, by first | trivial | rfl⟩
      case measure => simp [RowKit.intOf]
    · go_wp2
      go_roundw
      case rel => exact ⟨2, by omega, by go_num, by first | trivial | rfl⟩
      case measure => simp [RowKit.intOf]
    · go_wp2
      go_ret
      exact ⟨rfl, rfl⟩

set_option maxRecDepth 100000 in
theorem Word_calls (v : Int) (h : 0 ≤ v ∧ v < 18446744073709551616) (w : World) :
    Calls Try.prog 42 #[.int .u64 v] w fun e w' => e = .returned (.complex .f64 (fb (v % 4294967296)) (fb (v / 4294967296))) ∧ w' = w := by
  have e3 : ∀ (p q : Nat) (w : World), Sem.run Try.prog (Builtin.complex_ #[77, 77] 38 #[.float .f64 p, .float .f64 q]) w = .ok (.complex .f64 p q) w := fun p q w => rfl
  go_enter Try.func42, Try.ntmps42
  go_wp2
  go_ret
  exact ⟨rfl, rfl⟩
end Go.Proofs.Ytdlnipimljpmgaa
