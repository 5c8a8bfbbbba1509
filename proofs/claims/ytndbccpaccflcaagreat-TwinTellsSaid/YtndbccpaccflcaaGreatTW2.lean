import Derived.Test.YtndbccpaccflcaaGreatProg
import Derived.Test.YtndbccpaccflcaaGreatTS1
import Derived.Deep.QuietTactic
import Derived.BigQuiet
import Derived.BigGuardPart
set_option linter.unusedVariables false
set_option linter.unusedSimpArgs false
set_option linter.unusedSectionVars false
namespace Go.Proofs.YtndbccpaccflcaaGreat
open Go Go.RowKit Go.Tw

theorem Same_len (s t : St) (x y : Option Addr) (n m c d : Nat) (w : World) (h : n ≠ m) :
    Calls Tryz.prog 14 #[s.val (.slice x n c), t.val (.slice y m d)] w fun e w' => e = .returned (.bool false) ∧ Below w.heap.size w w' := by
  have h1 : ((n : Int) != (m : Int)) = true := by rw [bne_iff_ne]; omega
  unfold St.val
  go_enter Tryz.func14, Tryz.ntmps14
  go_wp2
  go_ret
  exact ⟨rfl, ((Below.refl _ _).alloc (Nat.le_refl _) _).alloc (by simp) _⟩

set_option maxRecDepth 100000 in
set_option maxHeartbeats 4000000 in
theorem Same_any (s t : St) (x y : Option Addr) (n c d : Nat) (xs ys : Nat → Bool) (w : World) (hbig : n ≤ 9223372036854775807)
    (hx : ∀ j, j < n → ∃ b o, x = some ⟨b, o, none⟩ ∧ b < w.heap.size ∧ w.cell? ⟨b, o + j, none⟩ = some (.bool (xs j)))
    (hy : ∀ j, j < n → ∃ b o, y = some ⟨b, o, none⟩ ∧ b < w.heap.size ∧ w.cell? ⟨b, o + j, none⟩ = some (.bool (ys j))) :
    Calls Tryz.prog 14 #[s.val (.slice x n c), t.val (.slice y n d)] w fun e w' => (∃ r : Bool, e = .returned (.bool r) ∧ (r = true ↔
      (∀ j, j < n → xs j = ys j) ∧ s.kind = t.kind ∧ s.guest = t.guest ∧ s.addr = t.addr ∧ s.size = t.size ∧ s.value = t.value ∧ s.page = t.page ∧ s.on = t.on ∧ s.asid = t.asid ∧ s.what = t.what ∧ s.set = t.set ∧ s.way = t.way)) ∧ Below w.heap.size w w' := by
  unfold St.val
  go_enter Tryz.func14, Tryz.ntmps14
  go_wp2
  go_loopw [5] (fun i wr => ∃ k : Nat, k ≤ n ∧ i = .int .i64 k ∧ (∀ j, j < k → xs j = ys j) ∧ ∃ q, wr = ((w.alloc (.cells #[.int .i64 s.kind, .int .i64 s.guest, .int .u64 s.addr, .int .i64 s.size, .int .u64 s.value, .int .i64 s.page, .bool s.on, .int .i64 s.asid, .int .i64 s.what, .int .i64 s.set, .int .i64 s.way, .slice x n c] 31)).alloc (.cells #[.int .i64 t.kind, .int .i64 t.guest, .int .u64 t.addr, .int .i64 t.size, .int .u64 t.value, .int .i64 t.page, .bool t.on, .int .i64 t.asid, .int .i64 t.what, .int .i64 t.set, .int .i64 t.way, .slice y n d] 31)).drewN q)
    (fun i _ => n - (intOf i).toNat)
  case atStart => exact ⟨0, Nat.zero_le _, rfl, fun j hj => absurd hj (Nat.not_lt_zero _), 0, rfl⟩
  case round =>
    obtain ⟨k, hk, rfl, hs, q, rfl⟩ := hrel
    by_cases hlt : k < n
    · obtain ⟨b, o, rfl, hb, cx⟩ := hx k hlt
      obtain ⟨b', o', rfl, hb', cy⟩ := hy k hlt
      have hi : (k : Int) < (n : Int) := by omega
      have HX : Hid (∀ j, j < k → xs j = ys j) := hs
      clear hx hy hs
      go_wp2
      go_quiet (fail)
      go_wp2
      · have ht : (!xs k == ys k) = true := by assumption
        go_ret
        exact ⟨⟨false, rfl, by simp at ht ⊢; intro h; exact absurd (h k hlt) ht⟩, by repeat (first | exact Below.refl _ _ | refine below_drewN ?_ _ | refine Below.alloc ?_ (by simp) _)⟩
      · have ht : (!xs k == ys k) = false := by assumption
        go_roundw
        case rel =>
          refine ⟨k + 1, by omega, by go_num, fun j hj => ?_, _, rfl⟩
          by_cases hjk : j < k
          · exact HX.out j hjk
          · have : j = k := by omega
            subst this
            simpa using ht
        case measure => simp [intOf]; omega
    · have : k = n := by omega
      subst this
      clear hx hy
      have HX : Hid (∀ j, j < k → xs j = ys j) := hs
      clear hs
      generalize hW : World.drewN _ q = W1
      have cs0 : W1.cell? ⟨w.heap.size, 0, none⟩ = some (.int .i64 s.kind) := by rw [← hW]; exact cell_box1
      have cs1 : W1.cell? ⟨w.heap.size, 1, none⟩ = some (.int .i64 s.guest) := by rw [← hW]; exact cell_box1
      have cs2 : W1.cell? ⟨w.heap.size, 2, none⟩ = some (.int .u64 s.addr) := by rw [← hW]; exact cell_box1
      have cs3 : W1.cell? ⟨w.heap.size, 3, none⟩ = some (.int .i64 s.size) := by rw [← hW]; exact cell_box1
      have cs4 : W1.cell? ⟨w.heap.size, 4, none⟩ = some (.int .u64 s.value) := by rw [← hW]; exact cell_box1
      have cs5 : W1.cell? ⟨w.heap.size, 5, none⟩ = some (.int .i64 s.page) := by rw [← hW]; exact cell_box1
      have cs6 : W1.cell? ⟨w.heap.size, 6, none⟩ = some (.bool s.on) := by rw [← hW]; exact cell_box1
      have cs7 : W1.cell? ⟨w.heap.size, 7, none⟩ = some (.int .i64 s.asid) := by rw [← hW]; exact cell_box1
      have cs8 : W1.cell? ⟨w.heap.size, 8, none⟩ = some (.int .i64 s.what) := by rw [← hW]; exact cell_box1
      have cs9 : W1.cell? ⟨w.heap.size, 9, none⟩ = some (.int .i64 s.set) := by rw [← hW]; exact cell_box1
      have cs10 : W1.cell? ⟨w.heap.size, 10, none⟩ = some (.int .i64 s.way) := by rw [← hW]; exact cell_box1
      have cs11 : W1.cell? ⟨w.heap.size, 11, none⟩ = some (.slice x k c) := by rw [← hW]; exact cell_box1
      have ct0 : W1.cell? ⟨w.heap.size + 1, 0, none⟩ = some (.int .i64 t.kind) := by rw [← hW]; exact cell_box2
      have ct1 : W1.cell? ⟨w.heap.size + 1, 1, none⟩ = some (.int .i64 t.guest) := by rw [← hW]; exact cell_box2
      have ct2 : W1.cell? ⟨w.heap.size + 1, 2, none⟩ = some (.int .u64 t.addr) := by rw [← hW]; exact cell_box2
      have ct3 : W1.cell? ⟨w.heap.size + 1, 3, none⟩ = some (.int .i64 t.size) := by rw [← hW]; exact cell_box2
      have ct4 : W1.cell? ⟨w.heap.size + 1, 4, none⟩ = some (.int .u64 t.value) := by rw [← hW]; exact cell_box2
      have ct5 : W1.cell? ⟨w.heap.size + 1, 5, none⟩ = some (.int .i64 t.page) := by rw [← hW]; exact cell_box2
      have ct6 : W1.cell? ⟨w.heap.size + 1, 6, none⟩ = some (.bool t.on) := by rw [← hW]; exact cell_box2
      have ct7 : W1.cell? ⟨w.heap.size + 1, 7, none⟩ = some (.int .i64 t.asid) := by rw [← hW]; exact cell_box2
      have ct8 : W1.cell? ⟨w.heap.size + 1, 8, none⟩ = some (.int .i64 t.what) := by rw [← hW]; exact cell_box2
      have ct9 : W1.cell? ⟨w.heap.size + 1, 9, none⟩ = some (.int .i64 t.set) := by rw [← hW]; exact cell_box2
      have ct10 : W1.cell? ⟨w.heap.size + 1, 10, none⟩ = some (.int .i64 t.way) := by rw [← hW]; exact cell_box2
      have ct11 : W1.cell? ⟨w.heap.size + 1, 11, none⟩ = some (.slice y k d) := by rw [← hW]; exact cell_box2
      have HB : Hid (Below w.heap.size w W1) := by
        rw [← hW]
        show Below _ _ _
        repeat (first | exact Below.refl _ _ | refine below_drewN ?_ _ | refine Below.alloc ?_ (by simp) _)
      clear hW
      go_wp2
      all_goals go_ret
      all_goals (refine ⟨⟨_, rfl, ?_⟩, HB.out⟩)
      all_goals have HX' := HX.out
      all_goals clear HX HB
      · rw [beq_iff_eq]
        exact ⟨fun h => ⟨HX', by assumption, by assumption, by assumption, by assumption, by assumption, by assumption, by assumption, by assumption, by assumption, by assumption, h⟩, fun h => h.2.2.2.2.2.2.2.2.2.2.2⟩
      all_goals (refine ⟨fun h => (by cases h), fun h => ?_⟩; obtain ⟨_, h0, h1, h2, h3, h4, h5, h6, h7, h8, h9, h10⟩ := h; contradiction)

theorem Same_calls {B : Nat} {w : World} {f g : Value} {s t : St} (hf : Bools B w f s.fails) (hg : Bools B w g t.fails) (hB : B ≤ w.heap.size) (hb : s.fails.length ≤ 9223372036854775807) :
    Calls Tryz.prog 14 #[s.val f, t.val g] w fun e w' => e = .returned (.bool (decide (s = t))) ∧ Below w.heap.size w w' := by
  obtain ⟨a, c, rfl, h1⟩ := hf
  obtain ⟨a', c', rfl, h2⟩ := hg
  by_cases hl : s.fails.length = t.fails.length
  · rw [← hl]
    refine (Same_any s t a a' s.fails.length c c' (fun j => s.fails.getD j false) (fun j => t.fails.getD j false) w hb ?_ ?_).mono ?_
    · intro j hj
      rcases h1 with h1 | ⟨b, o, rfl, h1, h3⟩
      · rw [h1] at hj; simp at hj
      · exact ⟨b, o, rfl, by omega, h3 j _ (by simp [hj])⟩
    · intro j hj
      rcases h2 with h1 | ⟨b, o, rfl, h1, h3⟩
      · rw [hl, h1] at hj; simp at hj
      · exact ⟨b, o, rfl, by omega, h3 j _ (by simp [← hl, hj])⟩
    · rintro e w' ⟨⟨r, rfl, hr⟩, h⟩
      refine ⟨?_, h⟩
      have : r = decide (s = t) := by
        rw [Bool.eq_iff_iff, hr, decide_eq_true_iff]
        constructor
        · rintro ⟨h, e0, e1, e2, e3, e4, e5, e6, e7, e8, e9, e10⟩
          have e11 : s.fails = t.fails := by
            apply List.ext_getElem hl
            intro j h1 h2
            have := h j h1
            simpa [List.getD, h1, h2] using this
          cases s; cases t
          simp_all
        · rintro rfl
          exact ⟨fun _ _ => rfl, rfl, rfl, rfl, rfl, rfl, rfl, rfl, rfl, rfl, rfl, rfl⟩
      rw [this]
  · refine (Same_len s t a a' s.fails.length t.fails.length c c' w hl).mono ?_
    rintro e w' ⟨rfl, h⟩
    refine ⟨?_, h⟩
    have : decide (s = t) = false := by
      rw [decide_eq_false_iff_not]
      rintro rfl
      exact hl rfl
    rw [this]
end Go.Proofs.YtndbccpaccflcaaGreat
