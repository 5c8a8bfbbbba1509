/- The descriptors of this machine, decoded once. -/
import Derived.Test.YtafkkicnfngpoaaGreatIF1
set_option linter.unusedVariables false
set_option linter.unusedSimpArgs false
set_option linter.unusedSectionVars false
namespace Go.Proofs.YtafkkicnfngpoaaGreat
open Go Go.RowKit Go.Lib Go.Proofs.YtafkkicnfngpoaaGreat.Dm

noncomputable def da0 : List AV := [(.cv (.sc (.i .i64 (.ofNat 2)))), (.cv (.sc (.i .i64 (.ofNat 0)))), (.cv (.sc (.i .u64 (.ofNat 3))))]
noncomputable def dv0 : AV := (.tu [(.ag [.i .i64 (.ofNat 1), .i .u64 (.ofNat 0), .b false, .b false, .b false, .i .i64 (.ofNat 0)]), (.sc (.i .i64 (.ofNat 0)))])
theorem dk0 : Known Tryz.prog 223 da0 dv0 := known_of (evP_ok 100) (by kernel_rfl)
noncomputable def da1 : List AV := [(.cv (.sc (.i .i64 (.ofNat 2)))), (.cv (.sc (.i .i64 (.ofNat 1)))), (.cv (.sc (.i .u64 (.ofNat 4099))))]
noncomputable def dv1 : AV := (.tu [(.ag [.i .i64 (.ofNat 1), .i .u64 (.ofNat 4096), .b false, .b false, .b false, .i .i64 (.ofNat 0)]), (.sc (.i .i64 (.ofNat 0)))])
theorem dk1 : Known Tryz.prog 223 da1 dv1 := known_of (evP_ok 100) (by kernel_rfl)
noncomputable def da2 : List AV := [(.cv (.sc (.i .i64 (.ofNat 2)))), (.cv (.sc (.i .i64 (.ofNat 2)))), (.cv (.sc (.i .u64 (.ofNat 8195))))]
noncomputable def dv2 : AV := (.tu [(.ag [.i .i64 (.ofNat 1), .i .u64 (.ofNat 8192), .b false, .b false, .b false, .i .i64 (.ofNat 0)]), (.sc (.i .i64 (.ofNat 0)))])
theorem dk2 : Known Tryz.prog 223 da2 dv2 := known_of (evP_ok 100) (by kernel_rfl)
noncomputable def da3 : List AV := [(.cv (.sc (.i .i64 (.ofNat 2)))), (.cv (.sc (.i .i64 (.ofNat 3)))), (.cv (.sc (.i .u64 (.ofNat 41411))))]
noncomputable def dv3 : AV := (.tu [(.ag [.i .i64 (.ofNat 3), .i .u64 (.ofNat 40960), .b true, .b true, .b true, .i .i64 (.ofNat 0)]), (.sc (.i .i64 (.ofNat 0)))])
theorem dk3 : Known Tryz.prog 223 da3 dv3 := known_of (evP_ok 100) (by kernel_rfl)
noncomputable def da4 : List AV := [(.cv (.sc (.i .i64 (.ofNat 2)))), (.cv (.sc (.i .i64 (.ofNat 3)))), (.cv (.sc (.i .u64 (.ofNat 45507))))]
noncomputable def dv4 : AV := (.tu [(.ag [.i .i64 (.ofNat 3), .i .u64 (.ofNat 45056), .b true, .b true, .b true, .i .i64 (.ofNat 0)]), (.sc (.i .i64 (.ofNat 0)))])
theorem dk4 : Known Tryz.prog 223 da4 dv4 := known_of (evP_ok 100) (by kernel_rfl)
noncomputable def da5 : List AV := [(.cv (.sc (.i .i64 (.ofNat 2)))), (.cv (.sc (.i .i64 (.ofNat 3)))), (.cv (.sc (.i .u64 (.ofNat 115139))))]
noncomputable def dv5 : AV := (.tu [(.ag [.i .i64 (.ofNat 3), .i .u64 (.ofNat 114688), .b true, .b true, .b true, .i .i64 (.ofNat 0)]), (.sc (.i .i64 (.ofNat 0)))])
theorem dk5 : Known Tryz.prog 223 da5 dv5 := known_of (evP_ok 100) (by kernel_rfl)
noncomputable def da6 : List AV := [(.cv (.sc (.i .i64 (.ofNat 2)))), (.cv (.sc (.i .i64 (.ofNat 3)))), (.cv (.sc (.i .u64 (.ofNat 0))))]
noncomputable def dv6 : AV := (.tu [(.ag [.i .i64 (.ofNat 0), .i .u64 (.ofNat 0), .b false, .b false, .b false, .i .i64 (.ofNat 0)]), (.sc (.i .i64 (.ofNat 0)))])
theorem dk6 : Known Tryz.prog 223 da6 dv6 := known_of (evP_ok 100) (by kernel_rfl)
noncomputable def decM : Memo := [(223, da0, dv0), (223, da1, dv1), (223, da2, dv2), (223, da3, dv3), (223, da4, dv4), (223, da5, dv5), (223, da6, dv6)]
theorem decM_ok : MemoOk Tryz.prog decM := by
  intro x hx
  simp only [decM, List.mem_cons, List.not_mem_nil, or_false] at hx
  rcases hx with rfl | rfl | rfl | rfl | rfl | rfl | rfl
  · exact ⟨by kernel_rfl, by kernel_rfl, dk0⟩
  · exact ⟨by kernel_rfl, by kernel_rfl, dk1⟩
  · exact ⟨by kernel_rfl, by kernel_rfl, dk2⟩
  · exact ⟨by kernel_rfl, by kernel_rfl, dk3⟩
  · exact ⟨by kernel_rfl, by kernel_rfl, dk4⟩
  · exact ⟨by kernel_rfl, by kernel_rfl, dk5⟩
  · exact ⟨by kernel_rfl, by kernel_rfl, dk6⟩
noncomputable def ovH2 : CallK → CallK := fun call => ovMemo (fun f => Nat.beq f 223) decM (ovH call)
theorem ovH2_ok : OvOk Tryz.prog ovH2 := fun c hc => ovMemo_ok decM_ok _ (ovH_ok c hc)
noncomputable def evG (n : Nat) : Ks := runsK Tryz.prog ovH2 n
theorem evG_ok (n : Nat) : KOk Tryz.prog (evG n).k ∧ CallOk Tryz.prog (evG n).c := runsK_ok mixedP noGor ovH2_ok n
end Go.Proofs.YtafkkicnfngpoaaGreat
