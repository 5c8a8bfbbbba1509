/- image.Encode of an image that may not be; both in one. -/
import Derived.Test.YtdlnipimljpmgaaIW7
set_option linter.unusedVariables false
set_option linter.unusedSimpArgs false
set_option linter.unusedSectionVars false
set_option linter.unnecessarySimpa false
namespace Go.Proofs.Ytdlnipimljpmgaa
open Go Go.RowKit Go.Im Go.Lib

set_option maxRecDepth 100000 in
set_option maxHeartbeats 4000000 in
theorem Encode_bad (on : Bool) (root asid : Int) (x : Option Addr) (n c B : Nat) (l : List Lf) (fs : List Value) (w : World) (hn : l.length = n) (hbig : n ≤ 1000000) (hBw : B ≤ w.heap.size) (hr0 : 0 ≤ root) (hr1 : root < 18446744073709551616)
    (hx : LeavesF B w (.slice x n c) l fs) (hlen : ∀ f ∈ l, f.bytes.length ≤ 1000000000) (hck : chk ⟨on, root, asid, l⟩ ≠ 0) :
    Calls Try.prog 8 #[.agg #[.bool on, .int .u64 root, .int .i64 asid, .slice x n c]] w fun e w' => e = .returned (.tuple #[.slice none 0 0, .int .i64 (chk ⟨on, root, asid, l⟩)]) ∧ Below w.heap.size w w' := by
  have HC : Aside (∀ w1, Below w.heap.size w w1 → Calls Try.prog 13 #[.agg #[.bool on, .int .u64 root, .int .i64 asid, .slice x n c]] w1 fun e w' => e = .returned (.int .i64 (chk ⟨on, root, asid, l⟩)) ∧ Below w1.heap.size w1 w') := fun w1 h1 =>
    Check_any on root asid x n c B l fs w1 hn (by omega) (Nat.le_trans hBw h1.size) hr0 (hx.below (h1.mono hBw)) hlen
  clear hx hlen hn
  generalize chk ⟨on, root, asid, l⟩ = ck at *
  go_enter Try.func8, Try.ntmps8
  go_wp2_with fail
  refine (HC.out _ ((Below.refl _ _).alloc (Nat.le_refl _) _)).mono ?_
  rintro e w1 ⟨rfl, hw1⟩
  have HB1 : Aside (Below w.heap.size w w1) := ((Below.refl _ _).alloc (Nat.le_refl _) _).trans (hw1.mono (by simp))
  clear hw1
  go_wp2_with fail
  refine bodyPost_ret (v := .tuple #[.slice none 0 0, .int .i64 ck]) (by simp [results, Try.results8, go_sem]) rfl ⟨rfl, HB1.out⟩
end Go.Proofs.Ytdlnipimljpmgaa
