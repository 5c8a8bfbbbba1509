/- The document's Decode: what is too short. -/
import Derived.Test.YtdlnipimljpmgaaIR6
set_option linter.unusedVariables false
set_option linter.unusedSimpArgs false
set_option linter.unusedSectionVars false
set_option linter.unnecessarySimpa false
namespace Go.Proofs.Ytdlnipimljpmgaa
open Go Go.RowKit Go.Im Go.Lib

theorem refDec_short {L : List Int} (h : L.length < 18) : refDec L = none := by
  unfold refDec refParse
  rw [if_pos h]
  rfl

set_option maxRecDepth 100000 in
set_option maxHeartbeats 4000000 in
theorem refDecode_short (a : Option Addr) (n c : Nat) (w : World) (hn : n < 18) :
    Calls Try.prog 19 #[.slice a n c] w fun e w' => e = .returned (.tuple #[.agg #[.bool false, .int .u64 0, .int .i64 0, .slice none 0 0], .int .i64 4]) ∧ Below w.heap.size w w' := by
  have hz29 := zero29'
  have hi : (n : Int) < 18 := by omega
  go_enter Try.func19, Try.ntmps19
  go_wp2_with fail
  refine bodyPost_ret (v := .tuple #[.agg #[.bool false, .int .u64 0, .int .i64 0, .slice none 0 0], .int .i64 4]) (by simp [results, Try.results19, go_sem]) rfl ⟨rfl, ?_⟩
  have key : ∀ (u : World) (g : Nat) (v : Value) (j : Nat), w.heap.size ≤ g → Below w.heap.size w u → Below w.heap.size w (u.setCell ⟨g, j, none⟩ v) := fun u g v j h1 h2 => h2.setCell (by exact h1) v
  repeat (first | exact below_alloc w _ | (refine key _ _ _ _ (Nat.le_refl _) ?_))
end Go.Proofs.Ytdlnipimljpmgaa
