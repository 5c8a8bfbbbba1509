/- The evaluator for the long runs: desc.Decode of an empty word is known. -/
import Derived.Test.YtafkkicnfngpoaaGreatAL1
import Derived.Test.YtafkkicnfngpoaaGreatDmEnds
set_option linter.unusedVariables false
set_option linter.unusedSimpArgs false
set_option linter.unusedSectionVars false
set_option maxRecDepth 100000
namespace Go.Proofs.YtafkkicnfngpoaaGreat
open Go Go.Proofs.YtafkkicnfngpoaaGreat.Dm Go.RowKit
noncomputable def lF {α : Type} (x : α) : Tr α := .n (some x) .e .e
noncomputable def nN {α : Type} (l r : Tr α) : Tr α := .n none l r
noncomputable def iN (n : Nat) : SV := .i .i64 (.ofNat n)
noncomputable def uN (n : Nat) : SV := .i .u64 (.ofNat n)
noncomputable def bN (n : Nat) : SV := .i .u8 (.ofNat n)
noncomputable def i64 (n : Nat) : AV := .cv (.sc (.i .i64 (.ofNat n)))
noncomputable def w64 (n : Nat) : AV := .cv (.sc (.i .u64 (.ofNat n)))
noncomputable def noDesc : AV := .tu [.ag [.i .i64 0, .i .u64 0, .b false, .b false, .b false, .i .i64 0], .sc (.i .i64 0)]
theorem dec0 : Known Tryz.prog 223 [i64 2, i64 0, w64 0] noDesc := known_of (evP_ok 100) (by kernel_rfl)
theorem dec1 : Known Tryz.prog 223 [i64 2, i64 1, w64 0] noDesc := known_of (evP_ok 100) (by kernel_rfl)
theorem dec2 : Known Tryz.prog 223 [i64 2, i64 2, w64 0] noDesc := known_of (evP_ok 100) (by kernel_rfl)
theorem dec3 : Known Tryz.prog 223 [i64 2, i64 3, w64 0] noDesc := known_of (evP_ok 100) (by kernel_rfl)
noncomputable def decMemo : Memo := [(223, [i64 2, i64 3, w64 0], noDesc), (223, [i64 2, i64 2, w64 0], noDesc), (223, [i64 2, i64 1, w64 0], noDesc), (223, [i64 2, i64 0, w64 0], noDesc)]
theorem decMemo_ok : MemoOk Tryz.prog decMemo := by
  intro x hx
  simp only [decMemo, List.mem_cons, List.not_mem_nil, or_false] at hx
  rcases hx with rfl | rfl | rfl | rfl
  · exact ⟨rfl, rfl, dec3⟩
  · exact ⟨rfl, rfl, dec2⟩
  · exact ⟨rfl, rfl, dec1⟩
  · exact ⟨rfl, rfl, dec0⟩
noncomputable def ovB : CallK → CallK := fun call => ovMemo (fun f => Nat.beq f 223) decMemo (ovA call)
theorem ovB_ok : OvOk Tryz.prog ovB := fun c hc => ovMemo_ok decMemo_ok _ (ovA_ok c hc)
end Go.Proofs.YtafkkicnfngpoaaGreat
