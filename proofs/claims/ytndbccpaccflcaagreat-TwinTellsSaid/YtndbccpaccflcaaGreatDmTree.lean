/- Tries keyed by numbers: what a key holds, and what is held behind a store. -/
import GoSem.Core.Code
set_option linter.unusedVariables false
set_option linter.unusedSimpArgs false
set_option linter.unusedSectionVars false
namespace Go.Proofs.YtndbccpaccflcaaGreat.Dm

/-- A choice, in few steps. -/
noncomputable def cnd {α : Type} (b : Bool) (x y : α) : α := Bool.rec (motive := fun _ => α) y x b
@[simp] theorem cnd_true {α : Type} (x y : α) : cnd true x y = x := rfl
@[simp] theorem cnd_false {α : Type} (x y : α) : cnd false x y = y := rfl
theorem cnd_eq_ite {α : Type} (b : Bool) (x y : α) : cnd b x y = if b = true then x else y := by cases b <;> rfl

inductive Tr (α : Type) where
  | e : Tr α
  | n (v : Option α) (l r : Tr α) : Tr α

namespace Tr
variable {α : Type}

noncomputable def get (t : Tr α) : Nat → Option α :=
  Tr.rec (motive := fun _ => Nat → Option α) (fun _ => none)
    (fun v _ _ gl gr k => Bool.rec (motive := fun _ => Option α) (Bool.rec (motive := fun _ => Option α) (gr (Nat.pred (Nat.div k 2))) (gl (Nat.div k 2)) (Nat.beq (Nat.land k 1) 1)) v (Nat.beq k 0)) t

noncomputable def sing (v : Option α) (f : Nat) : Nat → Tr α :=
  Nat.rec (motive := fun _ => Nat → Tr α) (fun _ => .n v .e .e)
    (fun _ ih k => Bool.rec (motive := fun _ => Tr α) (Bool.rec (motive := fun _ => Tr α) (.n none .e (ih (Nat.pred (Nat.div k 2)))) (.n none (ih (Nat.div k 2)) .e) (Nat.beq (Nat.land k 1) 1)) (.n v .e .e) (Nat.beq k 0)) f

noncomputable def put (v : Option α) (t : Tr α) : Nat → Tr α :=
  Tr.rec (motive := fun _ => Nat → Tr α) (fun k => sing v k k)
    (fun w l r pl pr k => Bool.rec (motive := fun _ => Tr α) (Bool.rec (motive := fun _ => Tr α) (.n w l (pr (Nat.pred (Nat.div k 2)))) (.n w (pl (Nat.div k 2)) r) (Nat.beq (Nat.land k 1) 1)) (.n v l r) (Nat.beq k 0)) t

theorem get_e (k : Nat) : (Tr.e : Tr α).get k = none := rfl
theorem get_n (v : Option α) (l r : Tr α) (k : Nat) : (Tr.n v l r).get k = cnd (Nat.beq k 0) v (cnd (Nat.beq (Nat.land k 1) 1) (l.get (Nat.div k 2)) (r.get (Nat.pred (Nat.div k 2)))) := rfl
theorem sing_z (v : Option α) (k : Nat) : sing v 0 k = .n v .e .e := rfl
theorem sing_s (v : Option α) (f k : Nat) : sing v (f + 1) k = cnd (Nat.beq k 0) (.n v .e .e) (cnd (Nat.beq (Nat.land k 1) 1) (.n none (sing v f (Nat.div k 2)) .e) (.n none .e (sing v f (Nat.pred (Nat.div k 2))))) := rfl
theorem put_e (v : Option α) (k : Nat) : (Tr.e : Tr α).put v k = sing v k k := rfl
theorem put_n (v w : Option α) (l r : Tr α) (k : Nat) : (Tr.n w l r).put v k = cnd (Nat.beq k 0) (.n v l r) (cnd (Nat.beq (Nat.land k 1) 1) (.n w (l.put v (Nat.div k 2)) r) (.n w l (r.put v (Nat.pred (Nat.div k 2))))) := rfl

theorem key_cases (k : Nat) : (Nat.beq k 0 = true ∧ k = 0) ∨
    (Nat.beq k 0 = false ∧ Nat.beq (Nat.land k 1) 1 = true ∧ k = 2 * (Nat.div k 2) + 1) ∨
    (Nat.beq k 0 = false ∧ Nat.beq (Nat.land k 1) 1 = false ∧ k = 2 * (Nat.pred (Nat.div k 2)) + 2) := by
  have h1 : Nat.land k 1 = k % 2 := Nat.and_one_is_mod k
  have h2 : Nat.div k 2 = k / 2 := rfl
  rcases Nat.eq_zero_or_pos k with h | h
  · left; subst h; exact ⟨rfl, rfl⟩
  · have hz : Nat.beq k 0 = false := by
      cases hb : Nat.beq k 0 with
      | false => rfl
      | true => exact absurd (Nat.eq_of_beq_eq_true hb) (by omega)
    rcases Nat.mod_two_eq_zero_or_one k with h' | h'
    · right; right
      refine ⟨hz, by rw [h1, h']; rfl, ?_⟩
      rw [h2, Nat.pred_eq_sub_one]; omega
    · right; left
      refine ⟨hz, by rw [h1, h']; rfl, ?_⟩
      rw [h2]; omega

theorem get_sing (v : Option α) : ∀ (f k j : Nat), k ≤ f → (sing v f k).get j = if j = k then v else none := by
  intro f
  induction f with
  | zero =>
    intro k j h
    obtain rfl : k = 0 := by omega
    rcases key_cases j with ⟨a, b⟩ | ⟨a, b, c⟩ | ⟨a, b, c⟩ <;> simp only [sing_z, sing_s, get_e, get_n, a, cnd_true, cnd_false, b]
    · simp
    · rw [if_neg (by omega)]; try rfl
    · rw [if_neg (by omega)]; try rfl
  | succ f ih =>
    intro k j h
    rcases key_cases k with ⟨a, b⟩ | ⟨a, b, c⟩ | ⟨a, b, c⟩
    · subst b
      rcases key_cases j with ⟨a', b'⟩ | ⟨a', b', c'⟩ | ⟨a', b', c'⟩ <;> simp only [sing_z, sing_s, get_e, get_n, a, a', cnd_true, cnd_false, b']
      · simp
      · rw [if_neg (by omega)]; try rfl
      · rw [if_neg (by omega)]; try rfl
    · rcases key_cases j with ⟨a', b'⟩ | ⟨a', b', c'⟩ | ⟨a', b', c'⟩ <;> simp only [sing_z, sing_s, get_e, get_n, a, a', b, cnd_true, cnd_false, b']
      · rw [if_neg (by omega)]; try rfl
      · rw [ih _ _ (by omega)]
        by_cases hj : Nat.div j 2 = Nat.div k 2
        · rw [if_pos hj, if_pos (by omega)]
        · rw [if_neg hj, if_neg (by omega)]
      · rw [if_neg (by omega)]; try rfl
    · rcases key_cases j with ⟨a', b'⟩ | ⟨a', b', c'⟩ | ⟨a', b', c'⟩ <;> simp only [sing_z, sing_s, get_e, get_n, a, a', b, cnd_true, cnd_false, b']
      · rw [if_neg (by omega)]; try rfl
      · rw [if_neg (by omega)]; try rfl
      · rw [ih _ _ (by omega)]
        by_cases hj : Nat.pred (Nat.div j 2) = Nat.pred (Nat.div k 2)
        · rw [if_pos hj, if_pos (by omega)]
        · rw [if_neg hj, if_neg (by omega)]

theorem get_put (v : Option α) (t : Tr α) : ∀ (k j : Nat), (t.put v k).get j = if j = k then v else t.get j := by
  induction t with
  | e => intro k j; simp only [put_e, get_e]; exact get_sing v k k j (Nat.le_refl _)
  | n w l r il ir =>
    intro k j
    rcases key_cases k with ⟨a, b⟩ | ⟨a, b, c⟩ | ⟨a, b, c⟩
    · subst b
      rcases key_cases j with ⟨a', b'⟩ | ⟨a', b', c'⟩ | ⟨a', b', c'⟩ <;> simp only [put_e, put_n, get_e, get_n, a, a', cnd_true, cnd_false, b']
      · simp
      · rw [if_neg (by omega)]; try rfl
      · rw [if_neg (by omega)]; try rfl
    · rcases key_cases j with ⟨a', b'⟩ | ⟨a', b', c'⟩ | ⟨a', b', c'⟩ <;> simp only [put_e, put_n, get_e, get_n, a, a', b, cnd_true, cnd_false, b']
      · rw [if_neg (by omega)]; try rfl
      · rw [il]
        by_cases hj : Nat.div j 2 = Nat.div k 2
        · rw [if_pos hj, if_pos (by omega)]
        · rw [if_neg hj, if_neg (by omega)]
      · rw [if_neg (by omega)]; try rfl
    · rcases key_cases j with ⟨a', b'⟩ | ⟨a', b', c'⟩ | ⟨a', b', c'⟩ <;> simp only [put_e, put_n, get_e, get_n, a, a', b, cnd_true, cnd_false, b']
      · rw [if_neg (by omega)]; try rfl
      · rw [if_neg (by omega)]; try rfl
      · rw [ir]
        by_cases hj : Nat.pred (Nat.div j 2) = Nat.pred (Nat.div k 2)
        · rw [if_pos hj, if_pos (by omega)]
        · rw [if_neg hj, if_neg (by omega)]

end Tr
end Go.Proofs.YtndbccpaccflcaaGreat.Dm
