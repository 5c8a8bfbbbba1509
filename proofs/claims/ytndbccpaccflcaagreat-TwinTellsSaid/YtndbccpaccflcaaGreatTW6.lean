import Derived.Test.YtndbccpaccflcaaGreatProg
import Derived.Test.YtndbccpaccflcaaGreatTS1
import Derived.Test.YtndbccpaccflcaaGreatTW3
import Derived.BigGuardPart
set_option linter.unusedVariables false
set_option linter.unusedSimpArgs false
set_option linter.unusedSectionVars false
namespace Go.Proofs.YtndbccpaccflcaaGreat
open Go Go.RowKit Go.Tw

theorem st_ne {α : Type} (φ : St → α) {s t : St} (h : ¬ φ s = φ t) : decide (s = t) = false := decide_eq_false (fun e => h (by rw [e]))
theorem st_eq {s t : St} (h0 : s.kind = t.kind) (h1 : s.guest = t.guest) (h2 : s.addr = t.addr) (h3 : s.size = t.size) (h4 : s.value = t.value) (h5 : s.page = t.page) (h6 : s.on = t.on) (h7 : s.asid = t.asid) (h8 : s.what = t.what) (h9 : s.set = t.set) (h10 : s.way = t.way) : decide (s = t) = (s.fails == t.fails) := by
  rw [Bool.eq_iff_iff, decide_eq_true_iff, beq_iff_eq]
  constructor
  · rintro rfl
    rfl
  · intro h
    cases s; cases t
    simp only at h0 h1 h2 h3 h4 h5 h6 h7 h8 h9 h10 h
    subst h0 h1 h2 h3 h4 h5 h6 h7 h8 h9 h10 h
    rfl

set_option maxRecDepth 100000 in
set_option maxHeartbeats 8000000 in
theorem same_any (s t : St) (xa ya : Option Addr) (xn yn xc yc : Nat) (B : Nat) (w : World) (hB : B ≤ w.heap.size) (hf : Bools B w (.slice xa xn xc) s.fails) (hg : Bools B w (.slice ya yn yc) t.fails) (hb : s.fails.length ≤ 9223372036854775807) :
    Calls Tryz.prog 23 #[s.val (.slice xa xn xc), t.val (.slice ya yn yc)] w fun e w' => e = .returned (.bool (decide (s = t))) ∧ Below w.heap.size w w' := by
  have hE : ∀ w1, Below w.heap.size w w1 → Calls Tryz.prog 28 #[.slice xa xn xc, .slice ya yn yc] w1 fun e w' => e = .returned (.bool (s.fails == t.fails)) ∧ ∃ q, w' = w1.drewN q :=
    fun w1 h1 => Equal_calls (hf.below (h1.mono hB)) (hg.below (h1.mono hB)) hb
  have HE : Hid (∀ w1, Below w.heap.size w w1 → Calls Tryz.prog 28 #[.slice xa xn xc, .slice ya yn yc] w1 fun e w' => e = .returned (.bool (s.fails == t.fails)) ∧ ∃ q, w' = w1.drewN q) := hE
  clear hE hf hg hb
  unfold St.val
  go_enter Tryz.func23, Tryz.ntmps23
  go_wp2_with (go_at_call 28; refine (HE.out _ (((Below.refl _ _).alloc (Nat.le_refl _) _).alloc (by simp) _)).mono ?_; rintro e w1 ⟨rfl, q, rfl⟩)
  all_goals go_ret
  all_goals (refine ⟨?_, by repeat (first | exact Below.refl _ _ | refine below_drewN ?_ _ | refine Below.alloc ?_ (by simp) _)⟩)
  all_goals clear HE
  · rw [st_eq (by assumption) (by assumption) (by assumption) (by assumption) (by assumption) (by assumption) (by assumption) (by assumption) (by assumption) (by assumption) (by assumption)]
    rfl
  all_goals first
    | (rw [st_ne St.kind (by assumption)]; rfl)
    | (rw [st_ne St.guest (by assumption)]; rfl)
    | (rw [st_ne St.addr (by assumption)]; rfl)
    | (rw [st_ne St.size (by assumption)]; rfl)
    | (rw [st_ne St.value (by assumption)]; rfl)
    | (rw [st_ne St.page (by assumption)]; rfl)
    | (rw [st_ne St.on (by assumption)]; rfl)
    | (rw [st_ne St.asid (by assumption)]; rfl)
    | (rw [st_ne St.what (by assumption)]; rfl)
    | (rw [st_ne St.set (by assumption)]; rfl)
    | (rw [st_ne St.way (by assumption)]; rfl)
end Go.Proofs.YtndbccpaccflcaaGreat
