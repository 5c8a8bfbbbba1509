import Derived.Test.YtndbccpaccflcaaGreatProg
import Derived.Test.YtndbccpaccflcaaGreatTS1
import Derived.Test.YtndbccpaccflcaaGreatTW1
import Derived.OwnWalk
import Derived.Deep.LoopGhost
import Derived.Lib.Walk
import Derived.Lib.SliceRun
set_option linter.unusedVariables false
set_option linter.unusedSimpArgs false
set_option linter.unusedSectionVars false
namespace Go.Proofs.YtndbccpaccflcaaGreat
open Go Go.RowKit Go.Tw Go.Lib

theorem info4 : (Tryz.prog.info? 4).map (fun i => (i.zero, i.size, i.bytes)) = some (some (.bool false), 1, 1) := by kernel_rfl
theorem info31 : (Tryz.prog.info? 31).map (fun i => (i.zero, i.size, i.bytes)) = some (some (.agg #[.int .i64 0, .int .i64 0, .int .u64 0, .int .i64 0, .int .u64 0, .int .i64 0, .bool false, .int .i64 0, .int .i64 0, .int .i64 0, .int .i64 0, .slice none 0 0]), 12, 112) := by kernel_rfl

theorem Equal_calls {B : Nat} {w : World} {x y : Value} {X Y : List Bool} (hx : Bools B w x X) (hy : Bools B w y Y) (hb : X.length ≤ 9223372036854775807) :
    Calls Tryz.prog 28 #[x, y] w fun e w' => e = .returned (.bool (X == Y)) ∧ ∃ q, w' = w.drewN q := by
  obtain ⟨a, c, rfl, h1⟩ := hx
  obtain ⟨a', c', rfl, h2⟩ := hy
  by_cases hl : X.length = Y.length
  · rcases h1 with rfl | ⟨b, o, rfl, hB, hc⟩
    · have : Y = [] := List.eq_nil_of_length_eq_zero (by simpa using hl.symm)
      subst this
      exact (eq_nil _ _ _ _ w).mono fun e w' ⟨h1, h2⟩ => ⟨h1, 0, h2⟩
    · rcases h2 with rfl | ⟨b', o', rfl, hB', hc'⟩
      · have : X = [] := List.eq_nil_of_length_eq_zero (by simpa using hl)
        subst this
        exact (eq_nil _ _ _ _ w).mono fun e w' ⟨h1, h2⟩ => ⟨h1, 0, h2⟩
      · rw [← hl]
        refine (eq_same b b' o o' X.length c c' (fun j => X.getD j false) (fun j => Y.getD j false) w hb (fun j hj => hc j _ ?_) (fun j hj => hc' j _ ?_)).mono ?_
        · simp [hj]
        · simp [← hl, hj]
        · rintro e w' ⟨⟨r, rfl, hr⟩, h⟩
          refine ⟨?_, h⟩
          have : r = (X == Y) := by
            rw [Bool.eq_iff_iff, hr, beq_iff_eq]
            constructor
            · intro h
              apply List.ext_getElem hl
              intro j h1 h2
              have := h j h1
              simpa [List.getD, h1, h2] using this
            · rintro rfl j _
              rfl
          rw [this]
  · refine (eq_len a a' X.length Y.length c c' w hl).mono ?_
    rintro e w' ⟨rfl, rfl⟩
    refine ⟨?_, 0, rfl⟩
    have : (X == Y) = false := by
      rw [beq_eq_false_iff_ne]
      rintro rfl
      exact hl rfl
    rw [this]

set_option maxHeartbeats 1000000 in
set_option maxRecDepth 100000 in
theorem CloneB_some (ad : Addr) (n c : Nat) (news : List Value) (w : World) (hl : news.length = n) (hn : n ≤ 1000000000)
    (hc : ∀ j u, news[j]? = some u → w.cell? (ad.add j) = some u) (h1 : ∀ u ∈ news, u.oneCell' = true) :
    Calls Tryz.prog 19 #[.slice (some ad) n c] w fun e w' => ∃ v', e = .returned v' ∧ w'.ownsRow w.heap.size 4 1 v' n news ∧ Below w.heap.size w w' := by
  have h4 := info4
  obtain ⟨i0, hi, hz⟩ := Option.map_eq_some_iff.1 h4
  simp only [Prod.mk.injEq] at hz
  obtain ⟨hz0, hz1, hz2⟩ := hz
  clear h4
  have A : Aside (∀ j u, news[j]? = some u → w.cell? (ad.add j) = some u) := hc
  clear hc
  have q : ∀ (w : World) (a : Option Addr) (n c n' c' : Nat), (binOp .eql 29 (.slice a n c) (.slice none n' c')).run Tryz.prog w = .ok (.bool a.isNone) w := fun w a n c n' c' => Lib.run_eql_slice_nil w _ _ a n c n' c' Tryz.underlying29
  go_enter Tryz.func19, Tryz.ntmps19
  go_wp2_with (at_builtin; refine wpList_append_own _ rfl _ _ 29 rfl w.heap.size 4 i0 (.bool false) 1 1 Tryz.underlying29 hi hz0 hz1 hz2 rfl (by decide) _ _ _ rfl (World.ownsRow_made w #[] 0 (Nat.le_refl _) (Nat.zero_le _) (by simp)) ad n c news rfl ?qc1 ?qc2 ?qc3 ?qc4 ?qc5 ?qc6 ?_)
  case qc1 => omega
  case qc2 =>
    intro j u hj
    exact Lib.cell?_alloc_some _ (A.out j u hj)
  case qc3 => exact h1
  case qc4 => unfold maxLen; omega
  case qc5 => omega
  case qc6 => simp
  intro v' w1 hown hgrow hnil
  go_wp2
  go_ret
  refine ⟨v', rfl, by simpa using hown, ?_⟩
  exact ((Below.refl _ w).alloc (Nat.le_refl _) _).grown hgrow (by simp) (by intro k hk; simp [Value.ownBlock] at hk; omega)

set_option maxRecDepth 100000 in
theorem CloneB_nil (n c : Nat) (w : World) : Calls Tryz.prog 19 #[.slice none n c] w fun e w' => e = .returned (.slice none 0 0) ∧ w' = w := by
  have q : ∀ (w : World) (a : Option Addr) (n c n' c' : Nat), (binOp .eql 29 (.slice a n c) (.slice none n' c')).run Tryz.prog w = .ok (.bool a.isNone) w := fun w a n c n' c' => Lib.run_eql_slice_nil w _ _ a n c n' c' Tryz.underlying29
  go_enter Tryz.func19, Tryz.ntmps19
  go_wp2
  go_ret
  exact ⟨rfl, rfl⟩

theorem CloneB_calls {B : Nat} {w : World} {x : Value} {X : List Bool} (hx : Bools B w x X) (hb : X.length ≤ 1000000000) :
    Calls Tryz.prog 19 #[x] w fun e w' => ∃ r, e = .returned r ∧ Below w.heap.size w w' ∧ Bools w'.heap.size w' r X := by
  obtain ⟨a, c, rfl, h1⟩ := hx
  cases a with
  | none =>
    have hX : X = [] := by
      rcases h1 with h1 | ⟨b, o, h, _⟩
      · exact h1
      · cases h
    subst hX
    refine (CloneB_nil _ _ w).mono ?_
    rintro e w' ⟨rfl, rfl⟩
    exact ⟨_, rfl, Below.refl _ _, none, 0, rfl, .inl rfl⟩
  | some ad =>
    refine (CloneB_some ad X.length c (X.map Value.bool) w (by simp) hb ?_ (by intro u hu; simp at hu; rcases hu with ⟨_, rfl⟩ | ⟨_, rfl⟩ <;> rfl)).mono ?_
    · intro j u hj
      rcases h1 with rfl | ⟨b, o, h, hB, hc⟩
      · simp at hj
      · cases h
        rw [Addr.add_lit]
        exact hc j u hj
    · rintro e w' ⟨v', rfl, h1, h2⟩
      exact ⟨v', rfl, h2, Bools.owned h1⟩

set_option maxHeartbeats 1000000 in
set_option maxRecDepth 100000 in
theorem CloneS_some (b off n c : Nat) (news : List Value) (w : World) (hl : news.length = n * 12) (hn : n ≤ 1000000000)
    (hc : ∀ j u, news[j]? = some u → w.cell? ⟨b, off + j, none⟩ = some u) (h1 : ∀ u ∈ news, u.oneCell' = true) :
    Calls Tryz.prog 18 #[.slice (some ⟨b, off, none⟩) n c] w fun e w' => ∃ v', e = .returned v' ∧ w'.ownsRow w.heap.size 31 12 v' n news ∧ v' ≠ .slice none 0 0 ∧ Below w.heap.size w w' := by
  have h4 := info31
  obtain ⟨i0, hi, hz⟩ := Option.map_eq_some_iff.1 h4
  simp only [Prod.mk.injEq] at hz
  obtain ⟨hz0, hz1, hz2⟩ := hz
  clear h4
  have A : Aside (∀ j u, news[j]? = some u → w.cell? ⟨b, off + j, none⟩ = some u) := hc
  clear hc
  have q : ∀ (w : World) (a : Option Addr) (n c n' c' : Nat), (binOp .eql 22 (.slice a n c) (.slice none n' c')).run Tryz.prog w = .ok (.bool a.isNone) w := fun w a n c n' c' => Lib.run_eql_slice_nil w _ _ a n c n' c' Tryz.underlying22
  go_enter Tryz.func18, Tryz.ntmps18
  go_wp2_with (at_builtin; refine wpList_append_own _ rfl _ _ 22 rfl w.heap.size 31 i0 _ 12 112 Tryz.underlying22 hi hz0 hz1 hz2 rfl (by decide) _ _ _ rfl (World.ownsRow_made w #[] 0 (Nat.le_refl _) (Nat.zero_le _) (by simp)) ⟨b, off, none⟩ n c news rfl ?qc1 ?qc2 ?qc3 ?qc4 ?qc5 ?qc6 ?_)
  case qc1 => exact hl
  case qc2 =>
    intro j u hj
    rw [Addr.add_lit]
    exact Lib.cell?_alloc_some _ (A.out j u hj)
  case qc3 => exact h1
  case qc4 => unfold maxLen; omega
  case qc5 => omega
  case qc6 => simp
  intro v' w1 hown hgrow hnil
  go_wp2
  go_ret
  refine ⟨v', rfl, by simpa using hown, ?_, ?_⟩
  · exact hnil
  exact ((Below.refl _ w).alloc (Nat.le_refl _) _).grown hgrow (by simp) (by intro k hk; simp [Value.ownBlock] at hk; omega)

set_option maxRecDepth 100000 in
theorem CloneS_nil (n c : Nat) (w : World) : Calls Tryz.prog 18 #[.slice none n c] w fun e w' => e = .returned (.slice none 0 0) ∧ w' = w := by
  have q : ∀ (w : World) (a : Option Addr) (n c n' c' : Nat), (binOp .eql 22 (.slice a n c) (.slice none n' c')).run Tryz.prog w = .ok (.bool a.isNone) w := fun w a n c n' c' => Lib.run_eql_slice_nil w _ _ a n c n' c' Tryz.underlying22
  go_enter Tryz.func18, Tryz.ntmps18
  go_wp2
  go_ret
  exact ⟨rfl, rfl⟩

/-- The clone of a script: a row of the call's own, whose steps have the same slices of fails. -/
theorem CloneS_calls {B : Nat} {w : World} {x : Value} {l : List St} {fs : List Value} (hx : StepsF B w x l fs) (hb : l.length ≤ 1000000000) :
    Calls Tryz.prog 18 #[x] w fun e w' => ∃ r, e = .returned r ∧ Below w.heap.size w w' ∧ w'.ownsRow w.heap.size 31 12 r l.length (flat l fs) := by
  obtain ⟨h1, h2, a, c, rfl, h3⟩ := hx
  rcases h3 with ⟨rfl, rfl⟩ | ⟨b, o, rfl, hB, hc⟩
  · refine (CloneS_nil _ _ w).mono ?_
    rintro e w' ⟨rfl, rfl⟩
    exact ⟨_, rfl, Below.refl _ _, by simp [flat], .inl ⟨rfl, rfl⟩⟩
  · have hone : ∀ f ∈ fs, f.oneCell' = true := by
      intro f hf
      obtain ⟨i, hi, rfl⟩ := List.getElem_of_mem hf
      exact (h2 i l[i] fs[i] (List.getElem?_eq_getElem (by omega)) (List.getElem?_eq_getElem hi)).one
    refine (CloneS_some b o l.length c (flat l fs) w (flat_length l fs h1) hb hc (flat_one l fs hone)).mono ?_
    rintro e w' ⟨v', rfl, h1, _, h2⟩
    exact ⟨v', rfl, h2, h1⟩

end Go.Proofs.YtndbccpaccflcaaGreat
