/- demesnelaw35.ImageCodes: for every head and every leaves the law says true, and its arguments read as they did. No condition. -/
import Derived.Test.YtdlnipimljpmgaaRows
import Derived.Test.YtdlnipimljpmgaaIW21
import Derived.Test.YtdlnipimljpmgaaIK7
import Derived.Test.YtdlnipimljpmgaaIK8F
import Derived.ProofKit
import Derived.Below
import Derived.ChangeSame
import Derived.WideKeyArgs
set_option linter.unusedVariables false
set_option linter.unusedSimpArgs false
set_option linter.unusedSectionVars false
set_option linter.unnecessarySimpa false
namespace Go.Proofs.Ytdlnipimljpmgaa
open Go Go.Im Go.ChangeShapes Go.WideShapes Go.ChangeAt Go.RowKit Go.Proofs.Ytdlnipimljpmgaa

theorem Try.result3 : Try.f3.resultTypes = #[4] := by kernel_rfl
set_option maxRecDepth 100000 in
theorem codes_lifted (os : Os) (started : os.Started) (H : Type) (enc : TypeId × Value → H) :
    ReturnsInHanded {} Try.checked os 3 .any (Rows.imageCodesSpec.pre6 enc Try.prog Try.f3 Rows.imageCodesRow.domain false) (Rows.imageCodesSpec.post enc Try.prog Try.f3 false true false false) := by
  refine returnsInHanded_of_change (C := Try.checked) Try.own started (by kernel_rfl) Try.func3
    (ChangeSpec.witness6 (enc := enc) (C := Try.checked) false ⟨#[], #[.bool false, .int .u64 0, .int .i64 0, .slice none 0 0], []⟩ 8 (by kernel_rfl) (by kernel_rfl) (by kernel_rfl) (by kernel_rfl)) ?_
  intro W base args ds gs before hval0 hW hcnd _
  have hval : ∀ (j : Nat) t v, Try.f3.params[j]? = some t → args[j]? = some v → Value.okWide Try.prog W .any base t v := hval0
  have hW' := hW
  obtain ⟨p, q, hA0, hV, rfl, hfz, hnd⟩ := hW
  have hA : DataW.TrodAll enc Try.prog W 0 (fun _ => true) true Try.f3.params.toList args.toList ds p := hA0
  rw [Try.params3] at hA hval
  obtain ⟨v0, vs0, d0, ds0, p0, q0, hargs, rfl, rfl, h0, hr0⟩ := trodAll_cons hA
  obtain ⟨v1, vs1, d1, ds1, p1, q1, rfl, rfl, rfl, h1, hr1⟩ := trodAll_cons hr0
  obtain ⟨v2, vs2, d2, ds2, p2, q2, rfl, rfl, rfl, h2, hr2⟩ := trodAll_cons hr1
  obtain ⟨v3, vs3, d3, ds3, p3, q3, rfl, rfl, rfl, h3, hr3⟩ := trodAll_cons hr2
  obtain ⟨rfl, rfl, rfl⟩ := trodAll_nil hr3
  obtain rfl : args = #[v0, v1, v2, v3] := by cases args; simp_all
  obtain ⟨rfl, rfl⟩ := trodVars_none hV
  obtain ⟨on, rfl, rfl, rfl⟩ := open_bool Try.underlying4 (hval 0 4 v0 rfl rfl) h0
  obtain ⟨root, rfl, rfl, rfl, wroot⟩ := open_int Try.underlying22 (hval 1 22 v1 rfl rfl) h1
  obtain ⟨asid, rfl, rfl, rfl, wasid⟩ := open_int Try.underlying3 (hval 2 3 v2 rfl rfl) h2
  have h3k := h3
  obtain ⟨a, cap, l, rfl, hln⟩ := open_leaves (hval 3 23 v3 rfl rfl) h3
  have hroot : 0 ≤ root ∧ root < 18446744073709551616 := by
    simp [Lit.wf, IntKind.min, IntKind.max, IntKind.bits, IntKind.signed] at wroot
    omega
  clear hA0 hval0
  simp only [List.append_nil, List.nil_append] at hW'
  have hlt : ∀ y ∈ p3, y.block < W.heap.size := fun y hy => hW'.lt y (by simpa using hy)
  refine (Codes_any on root asid a l.length cap W.heap.size l W (Nat.le_refl _) hroot hln).mono fun e W' ⟨he, hw⟩ => ?_
  subst he
  exact ⟨_, rfl, post_of_below (pa := p3) (pv := []) hW' (fun _ _ _ => trodAll_mk1 (shut_bool Try.underlying4 true))
    (fun sp hsp => ⟨[], p3, shut_bool Try.underlying4 on, ⟨[], p3, shut_int Try.underlying22 wroot, ⟨[], p3, shut_int Try.underlying3 wasid, ⟨p3, [], WideElems.Trod_stays laid read23 row23 h3k (fun y hy => hw.same (hlt y (by simp [hy]))) (fun y hy => hsp y (by simp [hy])),
      rfl, by simp⟩, by simp⟩, by simp⟩, by simp⟩) (fun _ _ => rfl) (by simp)
    hw (ok_one (by kernel_rfl) rfl (okWide_bool_mk Try.underlying4 true))⟩

theorem imageCodes_holds : Rows.ImageCodesSaid :=
  OpenClaim.holds_of_wide 3 Try.f3 rfl rfl rfl rfl rfl rfl rfl ⟨rfl, rfl, rfl, rfl, rfl⟩ rfl rfl rfl rfl rfl (by as_aux_lemma => kernel_rfl) Try.func3 closedFacts3
    (of_decide_eq_true (by as_aux_lemma => kernel_rfl)) (by unfold Func.isWrapper; first | (rw [if_pos (by decide +kernel)]; kernel_rfl) | (rw [if_neg (by decide +kernel)]; exact ⟨rfl, rfl⟩))
    (fun os started H enc _ => codes_lifted os started H enc)

end Go.Proofs.Ytdlnipimljpmgaa
