/- demesnelaw26.HypKinds: for every kind the law says true, and its argument reads as it did. No condition. -/
import Derived.Test.YtmgffmdinoeaiaaGreatRows
import Derived.Test.YtmgffmdinoeaiaaGreatH3
import Derived.ProofKit
import Derived.Below
import Derived.ChangeSame
set_option linter.unusedVariables false
set_option linter.unusedSimpArgs false
set_option linter.unusedSectionVars false
namespace Go.Proofs.YtmgffmdinoeaiaaGreat
open Go Go.Proofs.YtmgffmdinoeaiaaGreat.Dm Go.ChangeShapes Go.WideShapes Go.ChangeAt Go.RowKit

theorem Tryz.own : ownKnob Tryz.prog.godebug = none := by kernel_rfl

section
variable {H : Type} {enc : TypeId × Value → H} {P : Program}
theorem post_of_below {f : Func} {s : ChangeSpec} {apart fresh handsOn again : Bool} {W W' : World} {args : Array Value} {v : Value} {ds gs : List (DataW H)} {before pa pv : List MemPlace}
    (hW : DataW.Whole enc P f.params.toList s.vars apart W args.toList ds gs before)
    (hres : ∀ (b : Nat) (sp : Nat → Bool) (hd : Bool), DataW.TrodAll enc P W' b sp hd f.resultTypes.toList (v.resultList f.resultTypes.size) (s.fn H (ds ++ gs)).results [])
    (hargs : ∀ sp : Nat → Bool, (∀ p ∈ before, sp p.block = true) → DataW.TrodAll enc P W' 0 sp true f.params.toList args.toList (s.fn H (ds ++ gs)).args pa)
    (hvars : ∀ sp : Nat → Bool, (∀ p ∈ before, sp p.block = true) → DataW.TrodVars enc P W' sp s.vars (s.fn H (ds ++ gs)).vars pv)
    (hps : before = pa ++ pv) (hb : Below W.heap.size W W')
    (hok : ∀ (j : Nat) (t : TypeId) (r : Value), f.resultTypes[j]? = some t → (v.resultList f.resultTypes.size)[j]? = some r → Value.okWide P W' .any 0 t r) :
    s.post enc P f apart fresh handsOn again W args v W' := by
  have hlt : ∀ p ∈ before, p.block < W.heap.size := fun p hp => hW.lt p hp
  have hold : ∀ p ∈ before, (fun b => decide (b < W.heap.size)) p.block = true := fun p hp => by simpa using hlt p hp
  refine ⟨ds, gs, before, [], pa, pv, hW, hres _ _ _, hargs _ hold, hvars _ hold, World.keptBut_mono (fun p hp => ⟨hp, ?_⟩) (hb.frame (· ∈ before)), fun _ => ?_⟩
  · rw [hps, List.mem_append] at hp
    exact Or.inr hp
  · obtain ⟨_, _, _, _, _, hz, hn⟩ := hW
    refine ⟨hok, _, _, ([] ++ pa) ++ pv, ⟨[] ++ pa, pv, trodAll_append (hargs _ (fun _ _ => rfl)) (hres _ _ _), hvars _ (fun _ _ => rfl), rfl, ?_, ?_⟩, ?_⟩
    · intro b off hp
      have hin : MemPlace.cell b off ∈ before := by rw [hps]; simpa using hp
      rw [hb.frozen (hlt _ hin)]
      exact hz b off hin
    · intro ha
      have := hn ha
      rw [hps] at this
      simpa using this
    · intro p hp _
      rw [hps]
      simpa using hp
end

set_option maxRecDepth 100000 in
theorem hyp_lifted (os : Os) (started : os.Started) (H : Type) (enc : TypeId × Value → H) :
    ReturnsInHanded {} Tryz.checked os 3 .any (Rows.hypKindsSpec.pre6 enc Tryz.prog Tryz.f3 Rows.hypKindsRow.domain false) (Rows.hypKindsSpec.post enc Tryz.prog Tryz.f3 false true false false) := by
  refine returnsInHanded_of_change (C := Tryz.checked) Tryz.own started (by kernel_rfl) Tryz.func3
    (ChangeSpec.witness6 (enc := enc) (C := Tryz.checked) false ⟨#[], #[.int .i64 0], []⟩ 8 (by kernel_rfl) (by kernel_rfl) (by kernel_rfl) (by kernel_rfl)) ?_
  intro W base args ds gs before hval0 hW hcnd _
  have hval : ∀ (j : Nat) t v, Tryz.f3.params[j]? = some t → args[j]? = some v → Value.okWide Tryz.prog W .any base t v := hval0
  have hW' := hW
  obtain ⟨p, q, hA0, hV, rfl, hfz, hnd⟩ := hW
  have hA : DataW.TrodAll enc Tryz.prog W 0 (fun _ => true) true Tryz.f3.params.toList args.toList ds p := hA0
  rw [Tryz.params3] at hA hval
  obtain ⟨v0, d0, rfl, rfl, h0⟩ := trodAll_one hA
  obtain ⟨rfl, rfl⟩ := trodVars_none hV
  obtain ⟨a, rfl, rfl, rfl, wa⟩ := open_int Tryz.underlying3 (hval 0 3 v0 rfl rfl) h0
  clear hA0 hval0
  simp only [List.append_nil] at hW'
  refine (hyp_any a W).mono fun e W' ⟨he, hw⟩ => ?_
  subst he
  exact ⟨_, rfl, post_of_below (pa := []) (pv := []) hW' (fun _ _ _ => trodAll_mk1 (shut_bool Tryz.underlying4 true)) (fun sp _ => trodAll_mk1 (shut_int Tryz.underlying3 wa)) (fun _ _ => rfl) rfl
    hw (ok_one (by kernel_rfl) rfl (okWide_bool_mk Tryz.underlying4 true))⟩

theorem fc1 : Rows.hypKindsRow.wf (OpenSpec.ofChange Rows.hypKindsSpec) = true := by kernel_rfl
theorem fc2 : laidOutB Tryz.prog = true := by kernel_rfl
theorem fc3 : mapsRowed Tryz.prog = true := by kernel_rfl
theorem fc4 : (Rows.hypKindsRow.stops == []) = true := by kernel_rfl
theorem fc5 : (Tryz.prog.stops == []) = true := by kernel_rfl
theorem fc6 : (Rows.hypKindsRow.knobs == []) = true := by kernel_rfl
theorem fc7 : (Tryz.prog.stopKnobs == []) = true := by kernel_rfl
theorem fc8 : (Rows.hypKindsRow.inPlace == Tryz.prog.inPlace 3) = true := by kernel_rfl
theorem fc9a : (true == Tryz.prog.unfollowed 3) = true := by kernel_rfl
theorem fc9b : Tryz.prog.unfollowed 3 = true := by
  have := fc9a
  cases h : Tryz.prog.unfollowed 3 with
  | true => rfl
  | false => rw [h] at this; cases this
theorem fc9 : (Rows.hypKindsRow.unfollowed == Tryz.prog.unfollowed 3) = true := fc9a
theorem fc10 : (Rows.hypKindsRow.recurses == Tryz.prog.recurses 3) = true := by
  unfold Program.recurses
  rw [fc9b]; rfl
theorem fc11 : (Rows.hypKindsRow.named == Tryz.prog.varsNamed 3) = true := by kernel_rfl
theorem fc12 : Tryz.prog.stopsHeard = true := by kernel_rfl
theorem fc13 : Tryz.prog.mayEnter = true := by kernel_rfl
theorem fc14 : (Rows.hypKindsRow.plainKeys == Tryz.prog.plainKeys) = true := by kernel_rfl
theorem fc15 : (Tryz.prog.make == some Rows.hypKindsRow.make) = true := by kernel_rfl
theorem fc16 : (Rows.hypKindsRow.lifted == Tryz.prog.liftsFinal) = true := by kernel_rfl

theorem closedFacts : joinedFacts Tryz.prog 3 Tryz.f3 Rows.hypKindsSpec Rows.hypKindsRow = true := by
  unfold joinedFacts
  rw [fc1, fc2, fc3, fc4, fc5, fc6, fc7, fc8, fc9, fc10, fc11, fc12, fc13, fc14, fc15, fc16]
  kernel_rfl
theorem hypKinds_holds : Rows.HypKindsSaid :=
  OpenClaim.holds_of_wide 3 Tryz.f3 rfl rfl rfl rfl rfl rfl rfl ⟨rfl, rfl, rfl, rfl, rfl⟩ rfl rfl rfl rfl rfl (by as_aux_lemma => kernel_rfl) Tryz.func3 closedFacts
    (of_decide_eq_true (by as_aux_lemma => kernel_rfl)) (by unfold Func.isWrapper; first | (rw [if_pos (by decide +kernel)]; kernel_rfl) | (rw [if_neg (by decide +kernel)]; exact ⟨rfl, rfl⟩))
    (fun os started H enc _ => hyp_lifted os started H enc)

end Go.Proofs.YtmgffmdinoeaiaaGreat
