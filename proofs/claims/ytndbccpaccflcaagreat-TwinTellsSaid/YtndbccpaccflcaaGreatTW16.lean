import Derived.Test.YtndbccpaccflcaaGreatTEV
import Derived.WalkKit
import Derived.BigGuardPart
set_option linter.unusedVariables false
set_option linter.unusedSimpArgs false
set_option linter.unusedSectionVars false
namespace Go.Proofs.YtndbccpaccflcaaGreat
open Go Go.RowKit

theorem enc_n (n : Nat) (hn : n < 3) (a : Nat) (ha : a < 8) (W : World) : ∃ (u z : Int), (Lit.int .u64 u).wf = true ∧ Calls Tryz.prog 29 #[.int .i64 1, .int .i64 n, .agg #[.int .i64 1, .int .u64 ((a * 4096 : Nat) : Int), .bool false, .bool false, .bool false, .int .i64 0]] W fun e w' => e = .returned (.tuple #[.int .u64 u, .int .i64 z]) ∧ Below W.heap.size W w' := by
  have : n = 0 ∨ n = 1 ∨ n = 2 := by omega
  rcases this with rfl | rfl | rfl
  · exact enc_calls (encAll_at enc0 ha) W
  · exact enc_calls (encAll_at enc1 ha) W
  · exact enc_calls (encAll_at enc2 ha) W

theorem enc_3 (r w0 x : Bool) (a : Nat) (ha : a < 8) (W : World) : ∃ (u z : Int), (Lit.int .u64 u).wf = true ∧ Calls Tryz.prog 29 #[.int .i64 1, .int .i64 3, .agg #[.int .i64 3, .int .u64 ((a * 4096 : Nat) : Int), .bool r, .bool (w0 && r), .bool x, .int .i64 0]] W fun e w' => e = .returned (.tuple #[.int .u64 u, .int .i64 z]) ∧ Below W.heap.size W w' := by
  cases r with
  | false =>
    rw [Bool.and_false]
    exact enc_calls (encAll_at (enc3a x) ha) W
  | true =>
    cases w0 with
    | false => exact enc_calls (encAll_at (enc3b x) ha) W
    | true => exact enc_calls (encAll_at (enc3c x) ha) W

/-- The address that Word takes out of a number: one of eight pages. -/
theorem page_of (z : Int) : ∃ a : Nat, a < 8 ∧ IntKind.wrap .u64 (bits .and .u64 z 7 * 4096) = ((a * 4096 : Nat) : Int) := by
  have h : (BitVec.ofInt 64 z &&& BitVec.ofInt 64 7).toNat ≤ 7 := by
    rw [BitVec.toNat_and]
    exact Nat.and_le_right
  have e : bits .and .u64 z 7 = IntKind.wrap .u64 ((BitVec.ofInt 64 z &&& BitVec.ofInt 64 7).toNat : Int) := rfl
  rw [e]
  generalize (BitVec.ofInt 64 z &&& BitVec.ofInt 64 7).toNat = n at h
  refine ⟨n, by omega, ?_⟩
  have : n = 0 ∨ n = 1 ∨ n = 2 ∨ n = 3 ∨ n = 4 ∨ n = 5 ∨ n = 6 ∨ n = 7 := by omega
  rcases this with rfl | rfl | rfl | rfl | rfl | rfl | rfl | rfl <;> decide

set_option maxRecDepth 100000 in
set_option maxHeartbeats 2000000 in
theorem Word_n (n : Nat) (hn : n < 3) (v : Int) (w : World) : ∃ u : Int, (Lit.int .u64 u).wf = true ∧ Calls Tryz.prog 24 #[.int .i64 n, .int .u64 v] w fun e w' => e = .returned (.int .u64 u) ∧ Below w.heap.size w w' := by
  have hne : ((n : Int) == 3) = false := by simp; omega
  obtain ⟨a, ha, hp⟩ := page_of (v / 4096)
  obtain ⟨u, z, hu, hc⟩ := enc_n n hn a ha (w.alloc (.cells #[.int .i64 1, .int .u64 ((a * 4096 : Nat) : Int), .bool false, .bool false, .bool false, .int .i64 0] 69))
  refine ⟨u, hu, ?_⟩
  have HC := (show Hid (Calls Tryz.prog 29 #[.int .i64 1, .int .i64 n, .agg #[.int .i64 1, .int .u64 ((a * 4096 : Nat) : Int), .bool false, .bool false, .bool false, .int .i64 0]] (w.alloc (.cells #[.int .i64 1, .int .u64 ((a * 4096 : Nat) : Int), .bool false, .bool false, .bool false, .int .i64 0] 69)) fun e w' => e = .returned (.tuple #[.int .u64 u, .int .i64 z]) ∧ Below (w.alloc (.cells #[.int .i64 1, .int .u64 ((a * 4096 : Nat) : Int), .bool false, .bool false, .bool false, .int .i64 0] 69)).heap.size (w.alloc (.cells #[.int .i64 1, .int .u64 ((a * 4096 : Nat) : Int), .bool false, .bool false, .bool false, .int .i64 0] 69)) w') from hc)
  have HP := (show Hid (IntKind.wrap .u64 (bits .and .u64 (v / 4096) 7 * 4096) = ((a * 4096 : Nat) : Int)) from hp)
  clear hc hp
  go_enter Tryz.func24, Tryz.ntmps24
  go_wp2_with fail
  rw [HP.out]
  refine HC.out.mono ?_
  rintro e w5 ⟨rfl, hw5⟩
  have HB : Hid (Below w.heap.size w w5) := ((Below.refl _ _).alloc (Nat.le_refl _) _).trans (hw5.mono (by simp))
  clear hw5
  go_wp2
  go_ret
  exact ⟨rfl, HB.out⟩

set_option maxRecDepth 100000 in
set_option maxHeartbeats 2000000 in
theorem Word_3 (v : Int) (w : World) : ∃ u : Int, (Lit.int .u64 u).wf = true ∧ Calls Tryz.prog 24 #[.int .i64 3, .int .u64 v] w fun e w' => e = .returned (.int .u64 u) ∧ Below w.heap.size w w' := by
  obtain ⟨a, ha, hp⟩ := page_of (v / 4096)
  have HP := (show Hid (IntKind.wrap .u64 (bits .and .u64 (v / 4096) 7 * 4096) = ((a * 4096 : Nat) : Int)) from hp)
  by_cases h128 : bits .and .u64 v 128 = 0
  · have hq : (bits .and .u64 v 128 == 0) = true := by simp [h128]
    obtain ⟨u, z, hu, hc⟩ : ∃ (u z : Int), (Lit.int .u64 u).wf = true ∧ Calls Tryz.prog 29 #[.int .i64 1, .int .i64 3, .agg #[.int .i64 3, .int .u64 ((a * 4096 : Nat) : Int), .bool (bits .and .u64 v 64 == 0), .bool (bits .and .u64 v 64 == 0), .bool (bits .and .u64 v 256 == 0), .int .i64 0]] (w.alloc (.cells #[.int .i64 3, .int .u64 ((a * 4096 : Nat) : Int), .bool (bits .and .u64 v 64 == 0), .bool (bits .and .u64 v 64 == 0), .bool (bits .and .u64 v 256 == 0), .int .i64 0] 69)) fun e w' => e = .returned (.tuple #[.int .u64 u, .int .i64 z]) ∧ Below (w.alloc (.cells #[.int .i64 3, .int .u64 ((a * 4096 : Nat) : Int), .bool (bits .and .u64 v 64 == 0), .bool (bits .and .u64 v 64 == 0), .bool (bits .and .u64 v 256 == 0), .int .i64 0] 69)).heap.size (w.alloc (.cells #[.int .i64 3, .int .u64 ((a * 4096 : Nat) : Int), .bool (bits .and .u64 v 64 == 0), .bool (bits .and .u64 v 64 == 0), .bool (bits .and .u64 v 256 == 0), .int .i64 0] 69)) w' := enc_3 (bits .and .u64 v 64 == 0) true (bits .and .u64 v 256 == 0) a ha _
    refine ⟨u, hu, ?_⟩
    have HC := (show Hid (Calls Tryz.prog 29 #[.int .i64 1, .int .i64 3, .agg #[.int .i64 3, .int .u64 ((a * 4096 : Nat) : Int), .bool (bits .and .u64 v 64 == 0), .bool (bits .and .u64 v 64 == 0), .bool (bits .and .u64 v 256 == 0), .int .i64 0]] (w.alloc (.cells #[.int .i64 3, .int .u64 ((a * 4096 : Nat) : Int), .bool (bits .and .u64 v 64 == 0), .bool (bits .and .u64 v 64 == 0), .bool (bits .and .u64 v 256 == 0), .int .i64 0] 69)) fun e w' => e = .returned (.tuple #[.int .u64 u, .int .i64 z]) ∧ Below (w.alloc (.cells #[.int .i64 3, .int .u64 ((a * 4096 : Nat) : Int), .bool (bits .and .u64 v 64 == 0), .bool (bits .and .u64 v 64 == 0), .bool (bits .and .u64 v 256 == 0), .int .i64 0] 69)).heap.size (w.alloc (.cells #[.int .i64 3, .int .u64 ((a * 4096 : Nat) : Int), .bool (bits .and .u64 v 64 == 0), .bool (bits .and .u64 v 64 == 0), .bool (bits .and .u64 v 256 == 0), .int .i64 0] 69)) w') from hc)
    clear hc hp
    go_enter Tryz.func24, Tryz.ntmps24
    go_wp2_with fail
    rw [HP.out]
    refine HC.out.mono ?_
    rintro e w5 ⟨rfl, hw5⟩
    have HB : Hid (Below w.heap.size w w5) := ((Below.refl _ _).alloc (Nat.le_refl _) _).trans (hw5.mono (by simp))
    clear hw5
    go_wp2
    go_ret
    exact ⟨rfl, HB.out⟩
  · have hq : (bits .and .u64 v 128 == 0) = false := by simp [h128]
    obtain ⟨u, z, hu, hc⟩ : ∃ (u z : Int), (Lit.int .u64 u).wf = true ∧ Calls Tryz.prog 29 #[.int .i64 1, .int .i64 3, .agg #[.int .i64 3, .int .u64 ((a * 4096 : Nat) : Int), .bool (bits .and .u64 v 64 == 0), .bool false, .bool (bits .and .u64 v 256 == 0), .int .i64 0]] (w.alloc (.cells #[.int .i64 3, .int .u64 ((a * 4096 : Nat) : Int), .bool (bits .and .u64 v 64 == 0), .bool false, .bool (bits .and .u64 v 256 == 0), .int .i64 0] 69)) fun e w' => e = .returned (.tuple #[.int .u64 u, .int .i64 z]) ∧ Below (w.alloc (.cells #[.int .i64 3, .int .u64 ((a * 4096 : Nat) : Int), .bool (bits .and .u64 v 64 == 0), .bool false, .bool (bits .and .u64 v 256 == 0), .int .i64 0] 69)).heap.size (w.alloc (.cells #[.int .i64 3, .int .u64 ((a * 4096 : Nat) : Int), .bool (bits .and .u64 v 64 == 0), .bool false, .bool (bits .and .u64 v 256 == 0), .int .i64 0] 69)) w' := enc_3 (bits .and .u64 v 64 == 0) false (bits .and .u64 v 256 == 0) a ha _
    refine ⟨u, hu, ?_⟩
    have HC := (show Hid (Calls Tryz.prog 29 #[.int .i64 1, .int .i64 3, .agg #[.int .i64 3, .int .u64 ((a * 4096 : Nat) : Int), .bool (bits .and .u64 v 64 == 0), .bool false, .bool (bits .and .u64 v 256 == 0), .int .i64 0]] (w.alloc (.cells #[.int .i64 3, .int .u64 ((a * 4096 : Nat) : Int), .bool (bits .and .u64 v 64 == 0), .bool false, .bool (bits .and .u64 v 256 == 0), .int .i64 0] 69)) fun e w' => e = .returned (.tuple #[.int .u64 u, .int .i64 z]) ∧ Below (w.alloc (.cells #[.int .i64 3, .int .u64 ((a * 4096 : Nat) : Int), .bool (bits .and .u64 v 64 == 0), .bool false, .bool (bits .and .u64 v 256 == 0), .int .i64 0] 69)).heap.size (w.alloc (.cells #[.int .i64 3, .int .u64 ((a * 4096 : Nat) : Int), .bool (bits .and .u64 v 64 == 0), .bool false, .bool (bits .and .u64 v 256 == 0), .int .i64 0] 69)) w') from hc)
    clear hc hp
    go_enter Tryz.func24, Tryz.ntmps24
    go_wp2_with fail
    rw [HP.out]
    refine HC.out.mono ?_
    rintro e w5 ⟨rfl, hw5⟩
    have HB : Hid (Below w.heap.size w w5) := ((Below.refl _ _).alloc (Nat.le_refl _) _).trans (hw5.mono (by simp))
    clear hw5
    go_wp2
    go_ret
    exact ⟨rfl, HB.out⟩

/-- A word out of any level and any number. -/
theorem Word_calls (n v : Int) (w : World) (h0 : 0 ≤ n) (h4 : n < 4) : ∃ u : Int, (Lit.int .u64 u).wf = true ∧ Calls Tryz.prog 24 #[.int .i64 n, .int .u64 v] w fun e w' => e = .returned (.int .u64 u) ∧ Below w.heap.size w w' := by
  by_cases h3 : n = 3
  · subst h3
    exact Word_3 v w
  · obtain ⟨m, rfl⟩ := Int.eq_ofNat_of_zero_le h0
    exact Word_n m (by omega) v w
end Go.Proofs.YtndbccpaccflcaaGreat
