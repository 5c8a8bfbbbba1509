/- Plain laws: a script that is varied twice is what it was; alike one way is alike the other. -/
import Derived.Test.YtndbccpaccflcaaGreatTW10
import Derived.Test.YtndbccpaccflcaaGreatTW11
set_option linter.unusedVariables false
set_option linter.unusedSimpArgs false
set_option linter.unusedSectionVars false
namespace Go.Proofs.YtndbccpaccflcaaGreat
open Go Go.RowKit Go.Tw Go.Lib

theorem bits_lt (z : Nat) (h : z < 2 ^ 64) : IntKind.wrap .u64 (z : Int) = z := by
  have e : IntKind.wrap .u64 (z : Int) = (z : Int) % 18446744073709551616 := rfl
  rw [e]
  omega

theorem xor64_eq (a b : Int) : xor64 a b = ((BitVec.ofInt 64 a ^^^ BitVec.ofInt 64 b).toNat : Int) := by
  have : xor64 a b = IntKind.wrap .u64 ((BitVec.ofInt 64 a ^^^ BitVec.ofInt 64 b).toNat : Int) := rfl
  rw [this, bits_lt _ (BitVec.isLt _)]

theorem xor_twice (x s : Int) (h0 : 0 ≤ x) (h1 : x < 2 ^ 64) : xor64 (xor64 x s) s = x := by
  rw [xor64_eq (xor64 x s) s, xor64_eq x s]
  have : BitVec.ofInt 64 ((BitVec.ofInt 64 x ^^^ BitVec.ofInt 64 s).toNat : Int) = BitVec.ofInt 64 x ^^^ BitVec.ofInt 64 s := by
    apply BitVec.eq_of_toNat_eq
    have h := (BitVec.ofInt 64 x ^^^ BitVec.ofInt 64 s).isLt
    generalize BitVec.ofInt 64 x ^^^ BitVec.ofInt 64 s = b at h ⊢
    rw [BitVec.toNat_ofInt]
    generalize b.toNat = n at h ⊢
    have e : ((2 ^ 64 : Nat) : Int) = 18446744073709551616 := rfl
    rw [e]
    omega
  rw [this, BitVec.xor_assoc, BitVec.xor_self, BitVec.xor_zero]
  simp [BitVec.toNat_ofInt]
  omega

theorem vary1_kind (l : List St) (g salt : Int) (s : St) : (vary1 l g salt s).kind = s.kind ∧ (vary1 l g salt s).guest = s.guest ∧ (vary1 l g salt s).page = s.page ∧ (vary1 l g salt s).on = s.on ∧ (vary1 l g salt s).fails = s.fails := by
  unfold vary1
  split <;> exact ⟨rfl, rfl, rfl, rfl, rfl⟩

theorem own_map (l : List St) (g salt g' p : Int) (f : St → St) (hf : ∀ s, (f s).kind = s.kind ∧ (f s).guest = s.guest ∧ (f s).page = s.page) : own (l.map f) g' p = own l g' p := by
  unfold own
  rw [List.any_map]
  congr 1
  funext s
  simp [(hf s).1, (hf s).2.1, (hf s).2.2]
theorem others_map (l : List St) (g salt g' p : Int) (f : St → St) (hf : ∀ s, (f s).kind = s.kind ∧ (f s).guest = s.guest ∧ (f s).page = s.page) : others (l.map f) g' p = others l g' p := by
  unfold others
  rw [List.any_map]
  congr 1
  funext s
  simp [(hf s).1, (hf s).2.1, (hf s).2.2]

theorem varies_map (l : List St) (g salt : Int) (s : St) : varies (l.map (vary1 l g salt)) g (vary1 l g salt s) = varies l g s := by
  obtain ⟨h1, h2, h3, _⟩ := vary1_kind l g salt s
  unfold varies
  rw [h1, h2, h3, own_map l g salt g s.page _ (fun s => ⟨(vary1_kind l g salt s).1, (vary1_kind l g salt s).2.1, (vary1_kind l g salt s).2.2.1⟩)]

theorem varies_map2 (l : List St) (g salt : Int) (s : St) : varies (l.map (vary1 l g salt)) g s = varies l g s := by
  unfold varies
  rw [own_map l g salt g s.page _ (fun s => ⟨(vary1_kind l g salt s).1, (vary1_kind l g salt s).2.1, (vary1_kind l g salt s).2.2.1⟩)]

theorem vary_twice (l : List St) (g salt : Int) (hv : ∀ s ∈ l, 0 ≤ s.value ∧ s.value < 2 ^ 64) : (l.map (vary1 l g salt)).map (vary1 (l.map (vary1 l g salt)) g salt) = l := by
  rw [List.map_map]
  have : ∀ s ∈ l, (vary1 (l.map (vary1 l g salt)) g salt ∘ vary1 l g salt) s = s := by
    intro s hs
    show vary1 (l.map (vary1 l g salt)) g salt (vary1 l g salt s) = s
    have e := varies_map l g salt s
    cases hvv : varies l g s with
    | false =>
      rw [hvv] at e
      have h1 : vary1 l g salt s = s := by unfold vary1; rw [hvv]; rfl
      rw [h1] at e ⊢
      generalize hL : l.map (vary1 l g salt) = L at e ⊢
      unfold vary1
      rw [e]
      rfl
    | true =>
      have h1 : vary1 l g salt s = { s with value := xor64 s.value salt } := by unfold vary1; rw [hvv]; rfl
      rw [h1] at e ⊢
      rw [hvv] at e
      generalize hL : l.map (vary1 l g salt) = L at e ⊢
      unfold vary1
      rw [e]
      simp only [if_true]
      rw [xor_twice _ _ (hv s hs).1 (hv s hs).2]
  conv => rhs; rw [← List.map_id l]
  exact List.map_congr_left this

theorem alike_vary (l : List St) (g salt : Int) : AlikeP l (l.map (vary1 l g salt)) g := by
  refine ⟨by simp, fun i s t h1 h2 => ?_⟩
  rw [List.getElem?_map, h1] at h2
  simp only [Option.map_some, Option.some.injEq] at h2
  subst h2
  unfold lift1
  cases hvv : varies l g s with
  | false => simp only [Bool.false_eq_true, if_false]; unfold vary1; rw [hvv]; rfl
  | true => simp only [if_true]; unfold vary1; rw [hvv]; rfl

theorem alike_back (l : List St) (g salt : Int) : AlikeP (l.map (vary1 l g salt)) l g := by
  refine ⟨by simp, fun i s t h1 h2 => ?_⟩
  rw [List.getElem?_map, h2] at h1
  simp only [Option.map_some, Option.some.injEq] at h1
  subst h1
  unfold lift1
  rw [varies_map]
  cases hvv : varies l g t with
  | false => simp only [Bool.false_eq_true, if_false]; unfold vary1; rw [hvv]; rfl
  | true => simp only [if_true]; unfold vary1; rw [hvv]; rfl

theorem alike_self (l : List St) (g : Int) : AlikeP l l g := by
  refine ⟨rfl, fun i s t h1 h2 => ?_⟩
  rw [h1] at h2
  simp only [Option.some.injEq] at h2
  subst h2
  unfold lift1
  split <;> rfl

theorem bad_vary (l : List St) (g salt : Int) (s : St) : bad g (vary1 l g salt s) = bad g s := by
  obtain ⟨h1, h2, h3, h4, _⟩ := vary1_kind l g salt s
  unfold bad
  rw [h1, h2, h4]

theorem apart_vary (l : List St) (g salt : Int) : ApartP (l.map (vary1 l g salt)) g ↔ ApartP l g := by
  have hk := fun s => (⟨(vary1_kind l g salt s).1, (vary1_kind l g salt s).2.1, (vary1_kind l g salt s).2.2.1⟩ : (vary1 l g salt s).kind = s.kind ∧ (vary1 l g salt s).guest = s.guest ∧ (vary1 l g salt s).page = s.page)
  unfold ApartP
  constructor
  · rintro ⟨h1, h2⟩
    refine ⟨fun i s hs => ?_, fun x hx => ?_⟩
    · have := h1 i (vary1 l g salt s) (by rw [List.getElem?_map, hs]; rfl)
      rwa [bad_vary] at this
    · have := h2 x (by rw [own_map l g salt g x _ hk]; exact hx)
      rwa [others_map l g salt g x _ hk] at this
  · rintro ⟨h1, h2⟩
    refine ⟨fun i s hs => ?_, fun x hx => ?_⟩
    · rw [List.getElem?_map] at hs
      cases hl : l[i]? with
      | none => rw [hl] at hs; cases hs
      | some t =>
        rw [hl] at hs
        simp only [Option.map_some, Option.some.injEq] at hs
        subst hs
        rw [bad_vary]
        exact h1 i t hl
    · rw [own_map l g salt g x _ hk] at hx
      rw [others_map l g salt g x _ hk]
      exact h2 x hx

/-- A guest's own steps are what they were. -/
theorem own_steps (l : List St) (g salt : Int) (s : St) (h1 : s.guest = g) (h2 : s.kind ≠ 18) : vary1 l g salt s = s := by
  unfold vary1 varies
  have h3 : (s.guest == g) = true := by simp [h1]
  have h4 : (s.kind == 18) = false := by simp [h2]
  rw [h3, h4]
  simp

theorem same_value (l : List St) (g salt : Int) (s : St) : { vary1 l g salt s with value := s.value } = s := by
  unfold vary1
  split <;> rfl
end Go.Proofs.YtndbccpaccflcaaGreat
