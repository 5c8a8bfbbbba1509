/- The document's numbers: Turn, Clean; its words and sums of pages. -/
import Derived.Test.YtdlnipimljpmgaaIK1
import Derived.Test.YtdlnipimljpmgaaIF5
import Derived.Test.YtdlnipimljpmgaaIR3
set_option linter.unusedVariables false
set_option linter.unusedSimpArgs false
set_option linter.unusedSectionVars false
set_option linter.unnecessarySimpa false
namespace Go.Proofs.Ytdlnipimljpmgaa
open Go Go.RowKit Go.Im Go.Lib Go.Fl

theorem rem4 (r : Nat) (hr : r < 4) : (wrap64 ((r : Int).tmod 4 + 4)).tmod 4 = (r : Int) := by
  have h1 : (r : Int).tmod 4 = (r : Int) % 4 := Int.tmod_eq_emod_of_nonneg (by omega)
  have h2 : wrap64 ((r : Int) % 4 + 4) = (r : Int) % 4 + 4 := by unfold wrap64; omega
  rw [h1, h2, Int.tmod_eq_emod_of_nonneg (by omega)]
  omega

theorem rot_step (j : Nat) (hj : j < 3) (a b : Int) : rotRe (j + 1) a b = -(rotIm j a b) ∧ rotIm (j + 1) a b = rotRe j a b := by
  rcases (by omega : j = 0 ∨ j = 1 ∨ j = 2) with rfl | rfl | rfl <;> simp [rotRe, rotIm]

set_option maxRecDepth 100000 in
theorem rTurn_calls {x y : Nat} {a b : Int} (hx : Wh x a) (hy : Wh y b) (ha : a.natAbs ≤ 4503599627370496) (hb : b.natAbs ≤ 4503599627370496) (r : Nat) (hr : r < 4) (w : World) :
    Calls Try.prog 33 #[.complex .f64 x y, .int .i64 (r : Int)] w fun e w' => e = .returned (.complex .f64 (fb (rotRe r a b)) (fb (rotIm r a b))) ∧ w' = w := by
  have W1 := fun w => Whole_calls hx hy ha hb w
  have hrem := rem4 r hr
  have HAB : Aside (a.natAbs ≤ 4503599627370496 ∧ b.natAbs ≤ 4503599627370496) := ⟨ha, hb⟩
  clear hx hy ha hb
  go_enter Try.func33, Try.ntmps33
  go_wp2_with fail
  refine (W1 _).mono ?_
  rintro e w1 ⟨rfl, rfl⟩
  go_wp2_with fail
  go_loopw [5, 6, 8] (fun u v i wr => ∃ j : Nat, j ≤ r ∧ i = .int .i64 j ∧ u = .int .i64 (rotRe j a b) ∧ v = .int .i64 (rotIm j a b) ∧ wr = w1)
    (fun _ _ i _ => r - (RowKit.intOf i).toNat)
  case atStart => exact ⟨0, Nat.zero_le _, rfl, rfl, rfl, rfl⟩
  case round =>
    obtain ⟨j, hj, rfl, rfl, rfl, rfl⟩ := hrel
    by_cases hlt : j < r
    · have hi : (j : Int) < (r : Int) := by omega
      have hl := rot_le (r := j) (a := a) (b := b) HAB.out.1 HAB.out.2
      have hs := rot_step j (by omega) a b
      have hwn : IntKind.i64.wrap (-(rotIm j a b)) = -(rotIm j a b) := IntWalk.i64_in _ (by omega)
      have HS : Aside (rotRe (j + 1) a b = -(rotIm j a b) ∧ rotIm (j + 1) a b = rotRe j a b) := hs
      clear hs hl
      go_wp2_with fail
      go_roundw
      case rel => exact ⟨j + 1, by omega, by go_num, by rw [HS.out.1], by rw [HS.out.2], (by first | trivial | rfl)⟩
      case measure => simp [RowKit.intOf]; omega
    · have hjr : j = r := by omega
      subst hjr
      go_wp2_with fail
      refine (Make_calls _ _ _).mono ?_
      rintro e w1 ⟨rfl, rfl⟩
      go_wp2_with fail
      go_ret
      exact ⟨rfl, rfl⟩

theorem inf_pos : floatBits .quo .f64 4607182418800017408 0 = some 9218868437227405312 ∧ (FloatKind.f64.format.order 9218868437227405312 0 == some Ordering.gt) = true := by decide

set_option maxRecDepth 100000 in
theorem Clean_calls {a b : Int} (ha : a.natAbs < 9007199254740992) (hb : b.natAbs < 9007199254740992) (w : World) :
    Calls Try.prog 12 #[.complex .f64 (fb a) (fb b)] w fun e w' => e = .returned (.bool true) ∧ w' = w := by
  have e1 : ∀ (x y : Nat) (w : World), Sem.run Try.prog (Builtin.real_ #[38] 77 #[.complex .f64 x y]) w = .ok (.float .f64 x) w := fun x y w => rfl
  have e2 : ∀ (x y : Nat) (w : World), Sem.run Try.prog (Builtin.imag_ #[38] 77 #[.complex .f64 x y]) w = .ok (.float .f64 y) w := fun x y w => rfl
  have hq : ∀ (w : World), Sem.run Try.prog (binOp .quo 77 (.float .f64 4607182418800017408) (.float .f64 0)) w = .ok (.float .f64 9218868437227405312) w := fun w => by kernel_rfl
  have o1 : (FloatKind.f64.format.order (fb a) 0 != some Ordering.eq) = !decide (a = 0) := by
    have h := order_eq (Wh.of a) (Wh.of 0) ha (by decide)
    rw [fb_zero] at h
    show (!(FloatKind.f64.format.order (fb a) 0 == some Ordering.eq)) = _
    rw [h]
  have o2 : (FloatKind.f64.format.order (fb b) 0 != some Ordering.eq) = !decide (b = 0) := by
    have h := order_eq (Wh.of b) (Wh.of 0) hb (by decide)
    rw [fb_zero] at h
    show (!(FloatKind.f64.format.order (fb b) 0 == some Ordering.eq)) = _
    rw [h]
  obtain ⟨-, q2⟩ := inf_pos
  clear ha hb
  by_cases h1 : a = 0
  all_goals by_cases h2 : b = 0
  all_goals simp only [h1, h2, decide_true, decide_false, Bool.not_true, Bool.not_false] at o1 o2
  all_goals (first | subst h1 | skip)
  all_goals (first | subst h2 | skip)
  all_goals (try rw [fb_zero] at *)
  all_goals go_enter Try.func12, Try.ntmps12
  all_goals go_wp2_with fail
  all_goals go_ret
  all_goals exact ⟨rfl, rfl⟩
end Go.Proofs.Ytdlnipimljpmgaa
