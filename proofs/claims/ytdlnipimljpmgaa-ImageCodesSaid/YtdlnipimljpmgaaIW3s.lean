/- A scope in which the run jumps to whatever label; bits.sized of 8. -/
import Derived.Test.YtdlnipimljpmgaaIW1
import Derived.ScopeJumps
import Derived.WalkMore
set_option linter.unusedVariables false
set_option linter.unusedSimpArgs false
set_option linter.unusedSectionVars false
set_option linter.unnecessarySimpa false
namespace Go.Proofs.Ytdlnipimljpmgaa
open Go Go.RowKit Go.Im Go.Lib

/-- As Q; by a goto to label l: J l. -/
def jumps (J : Nat → Act → World → Prop) (Q : Exit → Act → World → Prop) : Exit → Act → World → Prop
  | .goto l, a, w => J l a w
  | e, a, w => Q e a w

theorem wp_scope_any {P : Program} {a : Act} {w : World} {Q : Exit → Act → World → Prop} {c : Code} (J : Nat → Act → World → Prop) (μ : Nat → Act → World → Nat)
    (pass : ∀ l a w, J l a w → ∃ rest, findLabel c l = some rest ∧ rest.wp P (jumps (fun l' a' w' => J l' a' w' ∧ μ l' a' w' < μ l a w) Q) a w)
    (first : c.wp P (jumps J Q) a w) : (Code.scope c).wp P Q a w := by
  intro b k cs
  have key : ∀ n l a w, μ l a w = n → J l a w → ∃ rest, gotoIn l (.inScope c :: k) = some (.code rest :: .inScope c :: k) ∧ ∃ e a' w', Q e a' w' ∧ Arrives P (lone (b.at a (.code rest :: .inScope c :: k)) cs w) b k cs e a' w' := by
    intro n
    induction n using Nat.strongRecOn with
    | _ n ih =>
      intro l a w hn hJ
      obtain ⟨rest, hf, hp⟩ := pass l a w hJ
      have hg : gotoIn l (.inScope c :: k) = some (.code rest :: .inScope c :: k) := by simp [gotoIn, hf]
      refine ⟨rest, hg, ?_⟩
      obtain ⟨e, a₁, w₁, hq, harr⟩ := hp b (.inScope c :: k) cs
      cases e with
      | normal => exact ⟨.normal, a₁, w₁, hq, Steps.trans harr (.one step_inScope)⟩
      | exit id => exact ⟨.exit id, a₁, w₁, hq, fun k' hk => harr k' (by simp [exitTo, hk])⟩
      | goto l' =>
        obtain ⟨hJ', hlt⟩ := hq
        obtain ⟨rest', hg', e₂, a₂, w₂, hq₂, harr₂⟩ := ih _ (by omega) l' a₁ w₁ rfl hJ'
        exact ⟨e₂, a₂, w₂, hq₂, .of_steps (harr _ hg') harr₂⟩
      | ret => exact ⟨_, a₁, w₁, hq, harr⟩
      | panic ch => exact ⟨_, a₁, w₁, hq, harr⟩
      | outgrown => exact ⟨_, a₁, w₁, hq, harr⟩
  obtain ⟨e, a₁, w₁, hq, harr⟩ := first b (.inScope c :: k) cs
  cases e with
  | normal => exact ⟨.normal, a₁, w₁, hq, .head step_scope (Steps.trans harr (.one step_inScope))⟩
  | exit id => exact ⟨.exit id, a₁, w₁, hq, fun k' hk => .head step_scope (harr k' (by simp [exitTo, hk]))⟩
  | goto l' =>
    obtain ⟨rest', hg', e₂, a₂, w₂, hq₂, harr₂⟩ := key _ l' a₁ w₁ rfl hq
    exact ⟨e₂, a₂, w₂, hq₂, .of_steps (.head step_scope (harr _ hg')) harr₂⟩
  | ret => exact ⟨_, a₁, w₁, hq, .of_steps (.one step_scope) harr⟩
  | panic ch => exact ⟨_, a₁, w₁, hq, .of_steps (.one step_scope) harr⟩
  | outgrown => exact ⟨_, a₁, w₁, hq, .of_steps (.one step_scope) harr⟩

set_option maxRecDepth 100000 in
theorem sized_calls (w : World) : Calls Try.prog 74 #[.int .i64 8] w fun e w' => e = .returned (.bool true) ∧ Below w.heap.size w w' := by
  go_enter Try.func74, Try.ntmps74
  go_wp2
  refine wp_scope_any (fun l a' w' => w' = w ∧ ((l = 1 ∧ ∃ (k : Nat) (u2 u4 u5 u6 u7 u8 u9 u10 u11 u12 u13 : Value), (k = 1 ∨ k = 2 ∨ k = 3) ∧ a' = { tmps := #[.int .i64 8, undef, u2, .int .i64 k, u4, u5, u6, u7, u8, u9, u10, u11, u12, u13], defers := [] }) ∨
      (l = 0 ∧ ∃ (u2 u3 u4 u5 u6 u7 u8 u9 u10 u11 u12 u13 : Value), a' = { tmps := #[.int .i64 8, undef, u2, u3, u4, u5, u6, u7, u8, u9, u10, u11, u12, u13], defers := [] }))) (fun l a' _ => if l = 0 then 0 else 5 - (RowKit.intOf (a'.tmps.getD 3 undef)).toNat) ?_ ?_
  · rintro l a' w' ⟨rfl, ⟨rfl, k, u2, u4, u5, u6, u7, u8, u9, u10, u11, u12, u13, hk, rfl⟩ | ⟨rfl, u2, u3, u4, u5, u6, u7, u8, u9, u10, u11, u12, u13, rfl⟩⟩
    · refine ⟨_, rfl, ?_⟩
      rcases hk with rfl | rfl | rfl
      all_goals go_wp2
      all_goals go_step3
      · exact ⟨⟨rfl, .inl ⟨rfl, 2, _, _, _, _, _, _, _, _, _, _, _, .inr (.inl rfl), rfl⟩⟩, by simp [RowKit.intOf]⟩
      · exact ⟨⟨rfl, .inl ⟨rfl, 3, _, _, _, _, _, _, _, _, _, _, _, .inr (.inr rfl), rfl⟩⟩, by simp [RowKit.intOf]⟩
      · exact ⟨⟨rfl, .inr ⟨rfl, _, _, _, _, _, _, _, _, _, _, _, _, rfl⟩⟩, by simp [RowKit.intOf]⟩
    · refine ⟨_, rfl, ?_⟩
      go_wp2
      simp only [jumps]
      go_ret
      exact ⟨rfl, Below.refl _ _⟩
  · go_wp2
    go_step3
    go_wp2
    go_step3
    exact ⟨rfl, .inl ⟨rfl, 1, _, _, _, _, _, _, _, _, _, _, _, .inl rfl, rfl⟩⟩
end Go.Proofs.Ytdlnipimljpmgaa
