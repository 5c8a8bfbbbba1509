/- gauss: Turn, Add. -/
import Derived.Test.YtdlnipimljpmgaaIF2
set_option linter.unusedVariables false
set_option linter.unusedSimpArgs false
set_option linter.unusedSectionVars false
set_option linter.unnecessarySimpa false
namespace Go.Proofs.Ytdlnipimljpmgaa
open Go Go.RowKit Go.Im Go.Lib Go.Fl

/-- A number times i, r times. -/
def rotRe (r : Nat) (a b : Int) : Int := match r with | 0 => a | 1 => -b | 2 => -a | _ => b
def rotIm (r : Nat) (a b : Int) : Int := match r with | 0 => b | 1 => a | 2 => -b | _ => -a

theorem cmul_wh {x y c d : Nat} {a b C D : Int} (hx : Wh x a) (hy : Wh y b) (hc : Wh c C) (hd : Wh d D) (ha : a.natAbs < 9007199254740992) (hb : b.natAbs < 9007199254740992) (hC : C.natAbs < 9007199254740992) (hD : D.natAbs < 9007199254740992)
    (h1 : (a * C).natAbs < 9007199254740992) (h2 : (b * D).natAbs < 9007199254740992) (h3 : (a * D).natAbs < 9007199254740992) (h4 : (b * C).natAbs < 9007199254740992) (h5 : (a * C - b * D).natAbs < 9007199254740992) (h6 : (a * D + b * C).natAbs < 9007199254740992) :
    ∃ re im, cMulBits x y c d = some (re, im) ∧ Wh re (a * C - b * D) ∧ Wh im (a * D + b * C) := by
  obtain ⟨p1, e1, w1⟩ := mul_wh hx hc ha hC h1
  obtain ⟨p2, e2, w2⟩ := mul_wh hy hd hb hD h2
  obtain ⟨p3, e3, w3⟩ := sub_wh w1 w2 h1 h2 h5
  obtain ⟨p4, e4, w4⟩ := mul_wh hx hd ha hD h3
  obtain ⟨p5, e5, w5⟩ := mul_wh hy hc hb hC h4
  obtain ⟨p6, e6, w6⟩ := add_wh w4 w5 h3 h4 h6
  refine ⟨p3, p6, ?_, w3, w6⟩
  unfold cMulBits
  rw [e1]
  simp only [Option.bind_some, e2, e3, e4, e5, e6]

theorem turn_mul {x y : Nat} {a b : Int} (hx : Wh x a) (hy : Wh y b) (ha : a.natAbs ≤ 4503599627370496) (hb : b.natAbs ≤ 4503599627370496) (r : Nat) (hr : r < 4) :
    ∃ re im, (∀ w, Sem.run Try.prog (binOp .mul 38 (.complex .f64 x y) (.complex .f64 (#[4607182418800017408, 0, 13830554455654793216, 0][r]!) (#[0, 4607182418800017408, 0, 13830554455654793216][r]!))) w = .ok (.complex .f64 re im) w) ∧ Wh re (rotRe r a b) ∧ Wh im (rotIm r a b) := by
  have f1 : fb 1 = 4607182418800017408 := by decide
  have f2 : fb (-1) = 13830554455654793216 := by decide
  have key : ∀ (c d : Nat) (C D : Int), Wh c C → Wh d D → (C = 0 ∧ (D = 1 ∨ D = -1) ∨ D = 0 ∧ (C = 1 ∨ C = -1)) → ∃ re im, (∀ w, Sem.run Try.prog (binOp .mul 38 (.complex .f64 x y) (.complex .f64 c d)) w = .ok (.complex .f64 re im) w) ∧ Wh re (a * C - b * D) ∧ Wh im (a * D + b * C) := by
    intro c d C D hc hd hcd
    have hz : ∃ re im, cMulBits x y c d = some (re, im) ∧ Wh re (a * C - b * D) ∧ Wh im (a * D + b * C) := by
      rcases hcd with ⟨rfl, rfl | rfl⟩ | ⟨rfl, rfl | rfl⟩ <;> exact cmul_wh hx hy hc hd (by omega) (by omega) (by decide) (by decide) (by omega) (by omega) (by omega) (by omega) (by omega) (by omega)
    obtain ⟨re, im, h1, h2, h3⟩ := hz
    exact ⟨re, im, fun w => run_complex_mul w 38 x y c d re im h1, h2, h3⟩
  match r, hr with
  | 0, _ =>
    obtain ⟨re, im, h1, h2, h3⟩ := key 4607182418800017408 0 1 0 (f1 ▸ Wh.of 1) (Wh.of 0) (by omega)
    exact ⟨re, im, h1, by simpa [rotRe] using h2, by simpa [rotIm] using h3⟩
  | 1, _ =>
    obtain ⟨re, im, h1, h2, h3⟩ := key 0 4607182418800017408 0 1 (Wh.of 0) (f1 ▸ Wh.of 1) (by omega)
    exact ⟨re, im, h1, by simpa [rotRe] using h2, by simpa [rotIm] using h3⟩
  | 2, _ =>
    obtain ⟨re, im, h1, h2, h3⟩ := key 13830554455654793216 0 (-1) 0 (f2 ▸ Wh.of (-1)) (Wh.of 0) (by omega)
    exact ⟨re, im, h1, by simpa [rotRe] using h2, by simpa [rotIm] using h3⟩
  | 3, _ =>
    obtain ⟨re, im, h1, h2, h3⟩ := key 0 13830554455654793216 0 (-1) (Wh.of 0) (f2 ▸ Wh.of (-1)) (by omega)
    exact ⟨re, im, h1, by simpa [rotRe] using h2, by simpa [rotIm] using h3⟩

theorem rot_le {r : Nat} {a b : Int} {M : Nat} (ha : a.natAbs ≤ M) (hb : b.natAbs ≤ M) : (rotRe r a b).natAbs ≤ M ∧ (rotIm r a b).natAbs ≤ M := by
  unfold rotRe rotIm
  match r with
  | 0 => exact ⟨ha, hb⟩
  | 1 => exact ⟨by simpa using hb, ha⟩
  | 2 => exact ⟨by simpa using ha, by simpa using hb⟩
  | _ + 3 => exact ⟨hb, by simpa using ha⟩

theorem turn_index (r : Nat) (hr : r < 4) (w : World) : Sem.run Try.prog (Instr.index 88 (.agg #[.complex .f64 4607182418800017408 0, .complex .f64 0 4607182418800017408, .complex .f64 13830554455654793216 0, .complex .f64 0 13830554455654793216]) (.int .i64 r)) w =
    .ok (.complex .f64 (#[4607182418800017408, 0, 13830554455654793216, 0][r]!) (#[0, 4607182418800017408, 0, 13830554455654793216][r]!)) w := by
  rcases (by omega : r = 0 ∨ r = 1 ∨ r = 2 ∨ r = 3) with rfl | rfl | rfl | rfl
  all_goals kernel_rfl

set_option maxRecDepth 100000 in
theorem Turn_calls {x y : Nat} {a b : Int} (hx : Wh x a) (hy : Wh y b) (ha : a.natAbs ≤ 4503599627370496) (hb : b.natAbs ≤ 4503599627370496) (k : Int) (r : Nat) (hr : r < 4) (hk : bits .and .i64 k 3 = (r : Int)) (w : World) :
    Calls Try.prog 21 #[.complex .f64 x y, .int .i64 k] w fun e w' => e = .returned (.complex .f64 (fb (rotRe r a b)) (fb (rotIm r a b))) ∧ w' = w := by
  obtain ⟨re, im, hm, hre, him⟩ := turn_mul hx hy ha hb r hr
  have hi := turn_index r hr
  have hl := rot_le (r := r) ha hb
  have HW : Aside (∀ w, Calls Try.prog 40 #[.complex .f64 x y, .float .f64 4841369599423283200] w fun e w' => e = .returned (.bool true) ∧ w' = w) := within_calls hx hy ha hb
  have HP : Aside (∀ w, Calls Try.prog 41 #[.complex .f64 re im] w fun e w' => e = .returned (.complex .f64 (fb (rotRe r a b)) (fb (rotIm r a b))) ∧ w' = w) := plain_calls hre him (by omega) (by omega)
  clear hx hy ha hb hre him hl
  generalize #[4607182418800017408, 0, 13830554455654793216, 0][r]! = cc at *
  generalize #[0, 4607182418800017408, 0, 13830554455654793216][r]! = dd at *
  go_enter Try.func21, Try.ntmps21
  go_wp2_with (go_at_call 40; refine (HW.out _).mono ?_; rintro e w' ⟨rfl, rfl⟩)
  refine (HP.out _).mono ?_
  rintro e w' ⟨rfl, rfl⟩
  go_wp2
  go_ret
  exact ⟨rfl, rfl⟩

set_option maxRecDepth 100000 in
theorem Add_calls {x y u v : Nat} {a b c d : Int} (hx : Wh x a) (hy : Wh y b) (hu : Wh u c) (hv : Wh v d) (ha : a.natAbs ≤ 4503599627370496) (hb : b.natAbs ≤ 4503599627370496) (hc : c.natAbs ≤ 4503599627370496) (hd : d.natAbs ≤ 4503599627370496)
    (h1 : (a + c).natAbs ≤ 4503599627370496) (h2 : (b + d).natAbs ≤ 4503599627370496) (w : World) :
    Calls Try.prog 22 #[.complex .f64 x y, .complex .f64 u v] w fun e w' => e = .returned (.tuple #[.complex .f64 (fb (a + c)) (fb (b + d)), .int .i64 0]) ∧ w' = w := by
  obtain ⟨re, e1, w1⟩ := add_wh hx hu (by omega) (by omega) (by omega)
  obtain ⟨im, e2, w2⟩ := add_wh hy hv (by omega) (by omega) (by omega)
  have hs : ∀ w, Sem.run Try.prog (binOp .add 38 (.complex .f64 x y) (.complex .f64 u v)) w = .ok (.complex .f64 re im) w := fun w => run_complex_sum w .add (.inl rfl) 38 .f64 x y u v re im (by unfold cSumBits; rw [e1, e2]; rfl)
  have HW1 : Aside (∀ w, Calls Try.prog 40 #[.complex .f64 x y, .float .f64 4841369599423283200] w fun e w' => e = .returned (.bool true) ∧ w' = w) := within_calls hx hy ha hb
  have HW2 : Aside (∀ w, Calls Try.prog 40 #[.complex .f64 u v, .float .f64 4841369599423283200] w fun e w' => e = .returned (.bool true) ∧ w' = w) := within_calls hu hv hc hd
  have HW3 : Aside (∀ w, Calls Try.prog 40 #[.complex .f64 re im, .float .f64 4841369599423283200] w fun e w' => e = .returned (.bool true) ∧ w' = w) := within_calls w1 w2 h1 h2
  have HP : Aside (∀ w, Calls Try.prog 41 #[.complex .f64 re im] w fun e w' => e = .returned (.complex .f64 (fb (a + c)) (fb (b + d))) ∧ w' = w) := plain_calls w1 w2 (by omega) (by omega)
  clear hx hy hu hv ha hb hc hd h1 h2 e1 e2 w1 w2
  go_enter Try.func22, Try.ntmps22
  go_wp2_with fail
  refine (HW1.out _).mono ?_
  rintro e w' ⟨rfl, rfl⟩
  go_wp2_with fail
  refine (HW2.out _).mono ?_
  rintro e w' ⟨rfl, rfl⟩
  go_wp2_with fail
  refine (HW3.out _).mono ?_
  rintro e w' ⟨rfl, rfl⟩
  go_wp2_with fail
  refine (HP.out _).mono ?_
  rintro e w' ⟨rfl, rfl⟩
  go_wp2_with fail
  refine bodyPost_ret (v := .tuple #[.complex .f64 (fb (a + c)) (fb (b + d)), .int .i64 0]) (by simp [results, Try.results22, go_sem]) rfl ⟨rfl, rfl⟩
end Go.Proofs.Ytdlnipimljpmgaa
