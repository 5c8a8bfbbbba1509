/- demesnelaw31.TwinTells: for every two scripts (any []Step), guest, salt, raw and place the law says true, and its arguments read as they did. No condition. -/
import Derived.Test.YtndbccpaccflcaaGreatRows
import Derived.ProofKit
import Derived.Test.YtndbccpaccflcaaGreatTX3
import Derived.Test.YtndbccpaccflcaaGreatTW17
import Derived.Below
import Derived.ChangeSame
import Derived.WideKeyArgs
set_option linter.unusedVariables false
set_option linter.unusedSimpArgs false
set_option linter.unusedSectionVars false
namespace Go.Proofs.YtndbccpaccflcaaGreat
open Go Go.Proofs.YtndbccpaccflcaaGreat

theorem fc1 : Rows.twinTellsRow.wf (OpenSpec.ofChange Rows.twinTellsSpec) = true := by kernel_rfl
theorem fc2 : laidOutB Tryz.prog = true := by kernel_rfl
theorem fc3 : mapsRowed Tryz.prog = true := by kernel_rfl
theorem fc4 : (Rows.twinTellsRow.stops == []) = true := by kernel_rfl
theorem fc5 : (Tryz.prog.stops == []) = true := by kernel_rfl
theorem fc6 : (Rows.twinTellsRow.knobs == []) = true := by kernel_rfl
theorem fc7 : (Tryz.prog.stopKnobs == []) = true := by kernel_rfl
theorem fc8 : (Rows.twinTellsRow.inPlace == Tryz.prog.inPlace 3) = true := by kernel_rfl
theorem fc9a : (true == Tryz.prog.unfollowed 3) = true := by kernel_rfl
theorem fc9b : Tryz.prog.unfollowed 3 = true := by
  have := fc9a
  cases h : Tryz.prog.unfollowed 3 with
  | true => rfl
  | false => rw [h] at this; cases this
theorem fc9 : (Rows.twinTellsRow.unfollowed == Tryz.prog.unfollowed 3) = true := fc9a
theorem fc10 : (Rows.twinTellsRow.recurses == Tryz.prog.recurses 3) = true := by
  unfold Program.recurses
  rw [fc9b]; rfl
theorem fc11 : (Rows.twinTellsRow.named == Tryz.prog.varsNamed 3) = true := by kernel_rfl
theorem fc12 : Tryz.prog.stopsHeard = true := by kernel_rfl
theorem fc13 : Tryz.prog.mayEnter = true := by kernel_rfl
theorem fc14 : (Rows.twinTellsRow.plainKeys == Tryz.prog.plainKeys) = true := by kernel_rfl
theorem fc15 : (Tryz.prog.make == some Rows.twinTellsRow.make) = true := by kernel_rfl
theorem fc16 : (Rows.twinTellsRow.lifted == Tryz.prog.liftsFinal) = true := by kernel_rfl

theorem closedFacts : joinedFacts Tryz.prog 3 Tryz.f3 Rows.twinTellsSpec Rows.twinTellsRow = true := by
  unfold joinedFacts
  rw [fc1, fc2, fc3, fc4, fc5, fc6, fc7, fc8, fc9, fc10, fc11, fc12, fc13, fc14, fc15, fc16]
  kernel_rfl

end Go.Proofs.YtndbccpaccflcaaGreat

namespace Go.Proofs.YtndbccpaccflcaaGreat
open Go Go.Tw Go.ChangeShapes Go.WideShapes Go.ChangeAt Go.RowKit Go.Proofs.YtndbccpaccflcaaGreat

theorem Tryz.own : ownKnob Tryz.prog.godebug = none := by kernel_rfl
theorem laid : laidOutB Tryz.prog = true := by kernel_rfl
theorem read22 : Tryz.prog.readableRec 22 = true := by kernel_rfl
theorem row22 : 22 < Tryz.prog.types.size := by decide +kernel

section
variable {H : Type} {enc : TypeId × Value → H} {P : Program}
theorem post_of_below {f : Func} {s : ChangeSpec} {apart fresh handsOn again : Bool} {W W' : World} {args : Array Value} {v : Value} {ds gs : List (DataW H)} {before pa pv : List MemPlace}
    (hW : DataW.Whole enc P f.params.toList s.vars apart W args.toList ds gs before)
    (hres : ∀ (b : Nat) (sp : Nat → Bool) (hd : Bool), DataW.TrodAll enc P W' b sp hd f.resultTypes.toList (v.resultList f.resultTypes.size) (s.fn H (ds ++ gs)).results [])
    (hargs : ∀ sp : Nat → Bool, (∀ p ∈ before, sp p.block = true) → DataW.TrodAll enc P W' 0 sp true f.params.toList args.toList (s.fn H (ds ++ gs)).args pa)
    (hvars : ∀ sp : Nat → Bool, (∀ p ∈ before, sp p.block = true) → DataW.TrodVars enc P W' sp s.vars (s.fn H (ds ++ gs)).vars pv)
    (hps : before = pa ++ pv) (hb : Below W.heap.size W W')
    (hok : ∀ (j : Nat) (t : TypeId) (r : Value), f.resultTypes[j]? = some t → (v.resultList f.resultTypes.size)[j]? = some r → Value.okWide P W' .any 0 t r) :
    s.post enc P f apart fresh handsOn again W args v W' := by
  have hlt : ∀ p ∈ before, p.block < W.heap.size := fun p hp => hW.lt p hp
  have hold : ∀ p ∈ before, (fun b => decide (b < W.heap.size)) p.block = true := fun p hp => by simpa using hlt p hp
  refine ⟨ds, gs, before, [], pa, pv, hW, hres _ _ _, hargs _ hold, hvars _ hold, World.keptBut_mono (fun p hp => ⟨hp, ?_⟩) (hb.frame (· ∈ before)), fun _ => ?_⟩
  · rw [hps, List.mem_append] at hp
    exact Or.inr hp
  · obtain ⟨_, _, _, _, _, hz, hn⟩ := hW
    refine ⟨hok, _, _, ([] ++ pa) ++ pv, ⟨[] ++ pa, pv, trodAll_append (hargs _ (fun _ _ => rfl)) (hres _ _ _), hvars _ (fun _ _ => rfl), rfl, ?_, ?_⟩, ?_⟩
    · intro b off hp
      have hin : MemPlace.cell b off ∈ before := by rw [hps]; simpa using hp
      rw [hb.frozen (hlt _ hin)]
      exact hz b off hin
    · intro ha
      have := hn ha
      rw [hps] at this
      simpa using this
    · intro p hp _
      rw [hps]
      simpa using hp
end

theorem num_of (a : Nat) (h : a ≤ maxLen) : a ≤ 9223372036854775807 := by unfold maxLen at h; omega

section
variable {H : Type} {enc : TypeId × Value → H} {P : Program} {w : World} {base : Nat} {spare : Nat → Bool} {held : Bool}
theorem trodAll_six {t0 t1 t2 t3 t4 t5 : TypeId} {args : Array Value} {ds : List (DataW H)} {ps : List MemPlace} (h : DataW.TrodAll enc P w base spare held [t0, t1, t2, t3, t4, t5] args.toList ds ps) :
    ∃ v0 v1 v2 v3 v4 v5 d0 d1 d2 d3 d4 d5 p0 p1 p2 p3 p4 p5, args = #[v0, v1, v2, v3, v4, v5] ∧ ds = [d0, d1, d2, d3, d4, d5] ∧ ps = p0 ++ (p1 ++ (p2 ++ (p3 ++ (p4 ++ p5)))) ∧ DataW.Trod enc P w base spare held t0 v0 d0 p0 ∧ DataW.Trod enc P w base spare held t1 v1 d1 p1 ∧
      DataW.Trod enc P w base spare held t2 v2 d2 p2 ∧ DataW.Trod enc P w base spare held t3 v3 d3 p3 ∧ DataW.Trod enc P w base spare held t4 v4 d4 p4 ∧ DataW.Trod enc P w base spare held t5 v5 d5 p5 := by
  obtain ⟨v0, vs, d0, es, p0, q, hargs, rfl, rfl, h0, hr⟩ := trodAll_cons h
  obtain ⟨v1, vs, d1, es, p1, q, rfl, rfl, rfl, h1, hr⟩ := trodAll_cons hr
  obtain ⟨v2, vs, d2, es, p2, q, rfl, rfl, rfl, h2, hr⟩ := trodAll_cons hr
  obtain ⟨v3, vs, d3, es, p3, q, rfl, rfl, rfl, h3, hr⟩ := trodAll_cons hr
  obtain ⟨v4, vs, d4, es, p4, q, rfl, rfl, rfl, h4, hr⟩ := trodAll_cons hr
  obtain ⟨v5, vs, d5, es, p5, q, rfl, rfl, rfl, h5, hr⟩ := trodAll_cons hr
  obtain ⟨rfl, rfl, rfl⟩ := trodAll_nil hr
  exact ⟨v0, v1, v2, v3, v4, v5, d0, d1, d2, d3, d4, d5, p0, p1, p2, p3, p4, p5, by cases args; simp_all, rfl, by simp, h0, h1, h2, h3, h4, h5⟩
end

set_option maxRecDepth 100000 in
theorem tells_lifted (os : Os) (started : os.Started) (H : Type) (enc : TypeId × Value → H) :
    ReturnsInHanded {} Tryz.checked os 3 .any (Rows.twinTellsSpec.pre6 enc Tryz.prog Tryz.f3 Rows.twinTellsRow.domain false) (Rows.twinTellsSpec.post enc Tryz.prog Tryz.f3 false true false false) := by
  refine returnsInHanded_of_change (C := Tryz.checked) Tryz.own started (by kernel_rfl) Tryz.func3
    (ChangeSpec.witness6 (enc := enc) (C := Tryz.checked) false ⟨#[], #[.slice none 0 0, .slice none 0 0, .int .i64 0, .int .u64 0, .bool false, .int .i64 0], []⟩ 8 (by kernel_rfl) (by kernel_rfl) (by kernel_rfl) (by kernel_rfl)) ?_
  intro W base args ds gs before hval0 hW hcnd _
  have hval : ∀ (j : Nat) t v, Tryz.f3.params[j]? = some t → args[j]? = some v → Value.okWide Tryz.prog W .any base t v := hval0
  have hW' := hW
  obtain ⟨p, q, hA0, hV, rfl, hfz, hnd⟩ := hW
  have hA : DataW.TrodAll enc Tryz.prog W 0 (fun _ => true) true Tryz.f3.params.toList args.toList ds p := hA0
  rw [Tryz.params3] at hA hval
  obtain ⟨v0, v1, v2, v3, v4, v5, d0, d1, d2, d3, d4, d5, p0, p1, p2, p3, p4, p5, rfl, rfl, rfl, h0, h1, h2, h3, h4, h5⟩ := trodAll_six hA
  obtain ⟨rfl, rfl⟩ := trodVars_none hV
  obtain ⟨g, rfl, rfl, rfl, wg⟩ := open_int Tryz.underlying3 (hval 2 3 v2 rfl rfl) h2
  obtain ⟨salt, rfl, rfl, rfl, wsalt⟩ := open_int Tryz.underlying23 (hval 3 23 v3 rfl rfl) h3
  obtain ⟨raw, rfl, rfl, rfl⟩ := open_bool Tryz.underlying4 (hval 4 4 v4 rfl rfl) h4
  obtain ⟨pl, rfl, rfl, rfl, wpl⟩ := open_int Tryz.underlying3 (hval 5 3 v5 rfl rfl) h5
  have h0k := h0
  have h1k := h1
  obtain ⟨a, cap, l, fs, rfl, hl, hsteps, hok, hcap, hlen⟩ := open_steps (hval 0 22 v0 rfl rfl) h0
  obtain ⟨a2, cap2, l2, fs2, rfl, hl2, hsteps2, hok2, hcap2, hlen2⟩ := open_steps (hval 1 22 v1 rfl rfl) h1
  clear hA0 hval0
  simp only [List.append_nil] at hW'
  have hlt : ∀ y ∈ p0 ++ p1, y.block < W.heap.size := fun y hy => hW'.lt y hy
  refine (Tells_any a a2 l.length cap l2.length cap2 W.heap.size l l2 fs fs2 g salt pl raw W rfl rfl (num_of _ hl) (num_of _ hl2) (Nat.le_refl _) hsteps hok hcap (fun s h => num_of _ (hlen s h)) hsteps2 hok2 hcap2 (fun s h => num_of _ (hlen2 s h))).mono fun e W' ⟨he, hw⟩ => ?_
  subst he
  exact ⟨_, rfl, post_of_below (pa := p0 ++ p1) (pv := []) hW' (fun _ _ _ => trodAll_mk1 (shut_bool Tryz.underlying4 true))
    (fun sp hsp => by
      have k0 := WideElems.Trod_stays laid read22 row22 h0k (fun y hy => hw.same (hlt y (List.mem_append_left _ hy))) (fun y hy => hsp y (List.mem_append_left _ hy))
      have k1 := WideElems.Trod_stays laid read22 row22 h1k (fun y hy => hw.same (hlt y (List.mem_append_right _ hy))) (fun y hy => hsp y (List.mem_append_right _ hy))
      have k2 := trodAll_mk4 (shut_int (enc := enc) (w := W') (base := 0) (spare := sp) (held := true) Tryz.underlying3 wg) (shut_int Tryz.underlying23 wsalt) (shut_bool Tryz.underlying4 raw) (shut_int Tryz.underlying3 wpl)
      simp only [List.append_nil] at k2
      exact ⟨p0, p1, k0, ⟨p1, [], k1, k2, by simp⟩, rfl⟩) (fun _ _ => rfl) (by simp)
    hw (ok_one (by kernel_rfl) rfl (okWide_bool_mk Tryz.underlying4 true))⟩

theorem twinTells_holds : Rows.TwinTellsSaid :=
  OpenClaim.holds_of_wide 3 Tryz.f3 rfl rfl rfl rfl rfl rfl rfl ⟨rfl, rfl, rfl, rfl, rfl⟩ rfl rfl rfl rfl rfl (by as_aux_lemma => kernel_rfl) Tryz.func3 closedFacts
    (of_decide_eq_true (by as_aux_lemma => kernel_rfl)) (by unfold Func.isWrapper; first | (rw [if_pos (by decide +kernel)]; kernel_rfl) | (rw [if_neg (by decide +kernel)]; exact ⟨rfl, rfl⟩))
    (fun os started H enc _ => tells_lifted os started H enc)

end Go.Proofs.YtndbccpaccflcaaGreat
