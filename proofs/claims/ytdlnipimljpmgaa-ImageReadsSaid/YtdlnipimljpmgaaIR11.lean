/- demesnelaw35.ImageReads: for every bytes, every head, every leaves, every place, byte and way the law says true, and its arguments read as they did. No condition. -/
import Derived.Test.YtdlnipimljpmgaaRows
import Derived.Test.YtdlnipimljpmgaaIW21
import Derived.Test.YtdlnipimljpmgaaIR10
import Derived.Test.YtdlnipimljpmgaaIR11F
import Derived.ProofKit
import Derived.Below
import Derived.ChangeSame
import Derived.WideKeyArgs
set_option linter.unusedVariables false
set_option linter.unusedSimpArgs false
set_option linter.unusedSectionVars false
set_option linter.unnecessarySimpa false
namespace Go.Proofs.Ytdlnipimljpmgaa
open Go Go.Im Go.ChangeShapes Go.WideShapes Go.ChangeAt Go.RowKit Go.Proofs.Ytdlnipimljpmgaa

section
variable {H : Type} {enc : TypeId × Value → H} {w : World} {base : Nat}
theorem open_bytes2 {n : Nat} {c : Value} {y : DataW H × List MemPlace} (h : DataW.trod enc Try.prog w base (fun _ => true) true n 32 [c] = some y) :
    ∃ (l : List Int) (a : Option Addr) (cap : Nat), c = .slice a l.length cap ∧ l.length ≤ cap ∧ Bs w.heap.size w c l ∧ Byte l := by
  obtain ⟨l, a, cap, rfl, h1, h2, h3, h4⟩ := open_nums Try.underlying32 Try.underlying5 k5 h
  refine ⟨l, a, cap, rfl, h1, ⟨a, cap, rfl, h3⟩, fun x hx => ?_⟩
  have := h4 x hx
  simp [Lit.wf, IntKind.min, IntKind.max, IntKind.bits, IntKind.signed] at this
  omega
end

theorem Try.result4 : Try.f4.resultTypes = #[4] := by kernel_rfl
set_option maxRecDepth 100000 in
theorem reads_lifted (os : Os) (started : os.Started) (H : Type) (enc : TypeId × Value → H) :
    ReturnsInHanded {} Try.checked os 4 .any (Rows.imageReadsSpec.pre6 enc Try.prog Try.f4 Rows.imageReadsRow.domain false) (Rows.imageReadsSpec.post enc Try.prog Try.f4 false true false false) := by
  refine returnsInHanded_of_change (C := Try.checked) Try.own started (by kernel_rfl) Try.func4
    (ChangeSpec.witness6 (enc := enc) (C := Try.checked) false ⟨#[], #[.slice none 0 0, .bool false, .int .u64 0, .int .i64 0, .slice none 0 0, .int .i64 0, .int .u8 0, .int .i64 0], []⟩ 8 (by kernel_rfl) (by kernel_rfl) (by kernel_rfl) (by kernel_rfl)) ?_
  intro W base args ds gs before hval0 hW hcnd _
  have hval : ∀ (j : Nat) t v, Try.f4.params[j]? = some t → args[j]? = some v → Value.okWide Try.prog W .any base t v := hval0
  have hW' := hW
  obtain ⟨p, q, hA0, hV, rfl, hfz, hnd⟩ := hW
  have hA : DataW.TrodAll enc Try.prog W 0 (fun _ => true) true Try.f4.params.toList args.toList ds p := hA0
  rw [Try.params4] at hA hval
  obtain ⟨v0, vs0, d0, ds0, p0, q0, hargs, rfl, rfl, h0, hr0⟩ := trodAll_cons hA
  obtain ⟨v1, vs1, d1, ds1, p1, q1, rfl, rfl, rfl, h1, hr1⟩ := trodAll_cons hr0
  obtain ⟨v2, vs2, d2, ds2, p2, q2, rfl, rfl, rfl, h2, hr2⟩ := trodAll_cons hr1
  obtain ⟨v3, vs3, d3, ds3, p3, q3, rfl, rfl, rfl, h3, hr3⟩ := trodAll_cons hr2
  obtain ⟨v4, vs4, d4, ds4, p4, q4, rfl, rfl, rfl, h4, hr4⟩ := trodAll_cons hr3
  obtain ⟨v5, vs5, d5, ds5, p5, q5, rfl, rfl, rfl, h5, hr5⟩ := trodAll_cons hr4
  obtain ⟨v6, vs6, d6, ds6, p6, q6, rfl, rfl, rfl, h6, hr6⟩ := trodAll_cons hr5
  obtain ⟨v7, vs7, d7, ds7, p7, q7, rfl, rfl, rfl, h7, hr7⟩ := trodAll_cons hr6
  obtain ⟨rfl, rfl, rfl⟩ := trodAll_nil hr7
  obtain rfl : args = #[v0, v1, v2, v3, v4, v5, v6, v7] := by cases args; simp_all
  obtain ⟨rfl, rfl⟩ := trodVars_none hV
  obtain ⟨on, rfl, rfl, rfl⟩ := open_bool Try.underlying4 (hval 1 4 v1 rfl rfl) h1
  obtain ⟨root, rfl, rfl, rfl, wroot⟩ := open_int Try.underlying22 (hval 2 22 v2 rfl rfl) h2
  obtain ⟨asid, rfl, rfl, rfl, wasid⟩ := open_int Try.underlying3 (hval 3 3 v3 rfl rfl) h3
  obtain ⟨at_, rfl, rfl, rfl, wat⟩ := open_int Try.underlying3 (hval 5 3 v5 rfl rfl) h5
  obtain ⟨by_, rfl, rfl, rfl, wby⟩ := open_int Try.underlying5 (hval 6 5 v6 rfl rfl) h6
  obtain ⟨how, rfl, rfl, rfl, whow⟩ := open_int Try.underlying3 (hval 7 3 v7 rfl rfl) h7
  have h0k := h0
  have h4k := h4
  obtain ⟨a, cap, l, rfl, hln⟩ := open_leaves (hval 4 23 v4 rfl rfl) h4
  obtain ⟨ra, rn, rc, rfl⟩ := okWide_slice Try.underlying32 (hval 0 32 v0 rfl rfl)
  obtain ⟨fuel, hf⟩ := h0
  obtain ⟨L, ra', rc', he, hm, hbs, hby⟩ := open_bytes2 (c := .slice ra rn rc) (by simpa [Value.cells] using hf)
  cases he
  have hroot : 0 ≤ root ∧ root < 18446744073709551616 := by
    simp [Lit.wf, IntKind.min, IntKind.max, IntKind.bits, IntKind.signed] at wroot
    omega
  have hby_ : 0 ≤ by_ ∧ by_ < 256 := by
    simp [Lit.wf, IntKind.min, IntKind.max, IntKind.bits, IntKind.signed] at wby
    omega
  clear hA0 hval0
  simp only [List.append_nil, List.nil_append] at hW'
  have hlt : ∀ y ∈ p0 ++ p4, y.block < W.heap.size := fun y hy => hW'.lt y (by simpa using hy)
  refine (Reads_any ra L.length rc L on root asid a l.length cap W.heap.size l at_ by_ how W (Nat.le_refl _) hroot rfl hby hm hby_ hbs hln).mono fun e W' ⟨he, hw⟩ => ?_
  subst he
  exact ⟨_, rfl, post_of_below (pa := p0 ++ p4) (pv := []) hW' (fun _ _ _ => trodAll_mk1 (shut_bool Try.underlying4 true))
    (fun sp hsp => ⟨p0, p4, WideElems.Trod_stays laid read32 row32 h0k (fun y hy => hw.same (hlt y (by simp [hy]))) (fun y hy => hsp y (by simp [hy])),
      ⟨[], p4, shut_bool Try.underlying4 on, ⟨[], p4, shut_int Try.underlying22 wroot, ⟨[], p4, shut_int Try.underlying3 wasid, ⟨p4, [], WideElems.Trod_stays laid read23 row23 h4k (fun y hy => hw.same (hlt y (by simp [hy]))) (fun y hy => hsp y (by simp [hy])),
        ⟨[], [], shut_int Try.underlying3 wat, ⟨[], [], shut_int Try.underlying5 wby, ⟨[], [], shut_int Try.underlying3 whow, rfl, by simp⟩, by simp⟩, by simp⟩, by simp⟩, by simp⟩, by simp⟩, by simp⟩, rfl⟩) (fun _ _ => rfl) (by simp)
    hw (ok_one (by kernel_rfl) rfl (okWide_bool_mk Try.underlying4 true))⟩

theorem imageReads_holds : Rows.ImageReadsSaid :=
  OpenClaim.holds_of_wide 4 Try.f4 rfl rfl rfl rfl rfl rfl rfl ⟨rfl, rfl, rfl, rfl, rfl⟩ rfl rfl rfl rfl rfl (by as_aux_lemma => kernel_rfl) Try.func4 closedFacts4
    (of_decide_eq_true (by as_aux_lemma => kernel_rfl)) (by unfold Func.isWrapper; first | (rw [if_pos (by decide +kernel)]; kernel_rfl) | (rw [if_neg (by decide +kernel)]; exact ⟨rfl, rfl⟩))
    (fun os started H enc _ => reads_lifted os started H enc)

end Go.Proofs.Ytdlnipimljpmgaa
