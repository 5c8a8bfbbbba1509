/- The document's numbers: part, Whole, near, Of, forms, Add, Turn. -/
import Derived.Test.YtdlnipimljpmgaaIF3
import Derived.Test.YtdlnipimljpmgaaIA2
import Derived.BigQuiet
set_option linter.unusedVariables false
set_option linter.unusedSimpArgs false
set_option linter.unusedSectionVars false
set_option linter.unnecessarySimpa false
namespace Go.Proofs.Ytdlnipimljpmgaa
open Go Go.RowKit Go.Im Go.Lib Go.Fl

set_option maxRecDepth 100000 in
theorem part_calls {x : Nat} {a : Int} (hx : Wh x a) (ha : a.natAbs ≤ 4503599627370496) (w : World) :
    Calls Try.prog 55 #[.float .f64 x] w fun e w' => e = .returned (.tuple #[.int .i64 a, .bool true]) ∧ w' = w := by
  have c1 := conv_int hx ha
  obtain ⟨g1, g2⟩ := geq_far hx ha
  have o1 := order_eq (Wh.of a) hx (by omega) (by omega)
  rw [decide_eq_true rfl] at o1
  have o1 : (FloatKind.f64.format.order (floatOfInt .f64 a) x == some Ordering.eq) = true := o1
  clear hx ha
  go_enter Try.func55, Try.ntmps55
  go_wp2_with fail
  refine bodyPost_ret (v := .tuple #[.int .i64 a, .bool true]) (by simp [results, Try.results55, go_sem]) rfl ⟨rfl, rfl⟩

set_option maxRecDepth 100000 in
theorem Whole_calls {x y : Nat} {a b : Int} (hx : Wh x a) (hy : Wh y b) (ha : a.natAbs ≤ 4503599627370496) (hb : b.natAbs ≤ 4503599627370496) (w : World) :
    Calls Try.prog 46 #[.complex .f64 x y] w fun e w' => e = .returned (.tuple #[.int .i64 a, .int .i64 b, .bool true]) ∧ w' = w := by
  have e1 : ∀ (w : World), Sem.run Try.prog (Builtin.real_ #[38] 77 #[.complex .f64 x y]) w = .ok (.float .f64 x) w := fun w => rfl
  have e2 : ∀ (w : World), Sem.run Try.prog (Builtin.imag_ #[38] 77 #[.complex .f64 x y]) w = .ok (.float .f64 y) w := fun w => rfl
  have P1 := fun w => part_calls hx ha w
  have P2 := fun w => part_calls hy hb w
  clear hx hy ha hb
  go_enter Try.func46, Try.ntmps46
  go_wp2_with fail
  refine (P1 _).mono ?_
  rintro e w1 ⟨rfl, rfl⟩
  go_wp2_with fail
  refine (P2 _).mono ?_
  rintro e w1 ⟨rfl, rfl⟩
  go_wp2_with fail
  refine bodyPost_ret (v := .tuple #[.int .i64 a, .int .i64 b, .bool true]) (by simp [results, Try.results46, go_sem]) rfl ⟨rfl, rfl⟩

set_option maxRecDepth 100000 in
theorem near_calls (a : Int) (ha : a.natAbs ≤ 4503599627370496) (w : World) :
    Calls Try.prog 56 #[.int .i64 a, .int .i64 4503599627370496] w fun e w' => e = .returned (.bool true) ∧ w' = w := by
  have h1 : -4503599627370496 ≤ a := by omega
  have h2 : a ≤ 4503599627370496 := by omega
  go_enter Try.func56, Try.ntmps56
  go_wp2_with fail
  go_ret
  exact ⟨rfl, rfl⟩

set_option maxRecDepth 100000 in
theorem rOf_calls (a b : Int) (ha : a.natAbs ≤ 4503599627370496) (hb : b.natAbs ≤ 4503599627370496) (w : World) :
    Calls Try.prog 47 #[.int .i64 a, .int .i64 b] w fun e w' => e = .returned (.tuple #[.complex .f64 (fb a) (fb b), .int .i64 0]) ∧ w' = w := by
  have N1 := fun w => near_calls a ha w
  have N2 := fun w => near_calls b hb w
  go_enter Try.func47, Try.ntmps47
  go_wp2_with fail
  refine (N1 _).mono ?_
  rintro e w1 ⟨rfl, rfl⟩
  go_wp2_with fail
  refine (N2 _).mono ?_
  rintro e w1 ⟨rfl, rfl⟩
  go_wp2_with fail
  refine (Make_calls _ _ _).mono ?_
  rintro e w1 ⟨rfl, rfl⟩
  go_wp2_with fail
  refine bodyPost_ret (v := .tuple #[.complex .f64 (fb a) (fb b), .int .i64 0]) (by simp [results, Try.results47, go_sem]) rfl ⟨rfl, rfl⟩

set_option maxRecDepth 100000 in
theorem forms_calls {x y u v : Nat} {a b c d : Int} (hx : Wh x a) (hy : Wh y b) (hu : Wh u c) (hv : Wh v d) (ha : a.natAbs ≤ 4503599627370496) (hb : b.natAbs ≤ 4503599627370496) (hc : c.natAbs ≤ 4503599627370496) (hd : d.natAbs ≤ 4503599627370496) (w : World) :
    Calls Try.prog 45 #[.complex .f64 x y, .complex .f64 u v, .bool false] w fun e w' => e = .returned (.int .i64 0) ∧ w' = w := by
  have W1 := fun w => Whole_calls hx hy ha hb w
  have W2 := fun w => Whole_calls hu hv hc hd w
  clear hx hy hu hv ha hb hc hd
  go_enter Try.func45, Try.ntmps45
  go_wp2_with fail
  refine (W1 _).mono ?_
  rintro e w1 ⟨rfl, rfl⟩
  go_wp2_with fail
  refine (W2 _).mono ?_
  rintro e w1 ⟨rfl, rfl⟩
  go_wp2_with fail
  go_ret
  exact ⟨rfl, rfl⟩

set_option maxRecDepth 100000 in
theorem rAdd_calls {x y u v : Nat} {a b c d : Int} (hx : Wh x a) (hy : Wh y b) (hu : Wh u c) (hv : Wh v d) (ha : a.natAbs ≤ 4503599627370496) (hb : b.natAbs ≤ 4503599627370496) (hc : c.natAbs ≤ 4503599627370496) (hd : d.natAbs ≤ 4503599627370496)
    (hac : (a + c).natAbs ≤ 4503599627370496) (hbd : (b + d).natAbs ≤ 4503599627370496) (w : World) :
    Calls Try.prog 32 #[.complex .f64 x y, .complex .f64 u v] w fun e w' => e = .returned (.tuple #[.complex .f64 (fb (a + c)) (fb (b + d)), .int .i64 0]) ∧ w' = w := by
  have FO := fun w => forms_calls hx hy hu hv ha hb hc hd w
  have W1 := fun w => Whole_calls hx hy ha hb w
  have W2 := fun w => Whole_calls hu hv hc hd w
  have hw1 : IntKind.i64.wrap (a + c) = a + c := IntWalk.i64_in _ (by omega)
  have hw2 : IntKind.i64.wrap (b + d) = b + d := IntWalk.i64_in _ (by omega)
  have OF := fun w => rOf_calls (a + c) (b + d) hac hbd w
  clear hx hy hu hv
  go_enter Try.func32, Try.ntmps32
  go_wp2_with fail
  refine (FO _).mono ?_
  rintro e w1 ⟨rfl, rfl⟩
  go_wp2_with fail
  refine (W1 _).mono ?_
  rintro e w1 ⟨rfl, rfl⟩
  go_wp2_with fail
  refine (W2 _).mono ?_
  rintro e w1 ⟨rfl, rfl⟩
  go_wp2_with fail
  refine (OF _).mono ?_
  rintro e w1 ⟨rfl, rfl⟩
  go_wp2_with fail
  refine bodyPost_ret (v := .tuple #[.complex .f64 (fb (a + c)) (fb (b + d)), .int .i64 0]) (by simp [results, Try.results32, go_sem]) rfl ⟨rfl, rfl⟩
end Go.Proofs.Ytdlnipimljpmgaa
