import Derived.Test.YtmgffmdinoeaiaaGreatH2
set_option linter.unusedVariables false
set_option linter.unusedSimpArgs false
set_option linter.unusedSectionVars false
set_option maxRecDepth 100000
set_option maxHeartbeats 0
namespace Go.Proofs.YtmgffmdinoeaiaaGreat
open Go Go.Proofs.YtmgffmdinoeaiaaGreat.Dm
theorem c0 (m : Nat) : good (kk.k rest (fr2 (.negSucc m) 0) Heap.nil) = true := by kernel_rfl
theorem c1 (m : Nat) : good (kk.k rest (fr2 (.negSucc m) 1) Heap.nil) = true := by kernel_rfl
theorem c2 (m : Nat) : good (kk.k rest (fr2 (.negSucc m) 2) Heap.nil) = true := by kernel_rfl
theorem c3 (m : Nat) : good (kk.k rest (fr2 (.negSucc m) 3) Heap.nil) = true := by kernel_rfl
theorem c4 (m : Nat) : good (kk.k rest (fr2 (.negSucc m) 4) Heap.nil) = true := by kernel_rfl
theorem c5 (m : Nat) : good (kk.k rest (fr2 (.negSucc m) 5) Heap.nil) = true := by kernel_rfl
theorem c6 (m : Nat) : good (kk.k rest (fr2 (.negSucc m) 6) Heap.nil) = true := by kernel_rfl
theorem c7 (m : Nat) : good (kk.k rest (fr2 (.negSucc m) 7) Heap.nil) = true := by kernel_rfl
theorem c8 (m : Nat) : good (kk.k rest (fr2 (.negSucc m) 8) Heap.nil) = true := by kernel_rfl
theorem c9 (m : Nat) : good (kk.k rest (fr2 (.negSucc m) 9) Heap.nil) = true := by kernel_rfl
theorem c10 (m : Nat) : good (kk.k rest (fr2 (.negSucc m) 10) Heap.nil) = true := by kernel_rfl
theorem c11 (m : Nat) : good (kk.k rest (fr2 (.negSucc m) 11) Heap.nil) = true := by kernel_rfl
theorem c12 (m : Nat) : good (kk.k rest (fr2 (.negSucc m) 12) Heap.nil) = true := by kernel_rfl
theorem c13 (m : Nat) : good (kk.k rest (fr2 (.negSucc m) 13) Heap.nil) = true := by kernel_rfl
theorem c14 (m : Nat) : good (kk.k rest (fr2 (.negSucc m) 14) Heap.nil) = true := by kernel_rfl
theorem c15 (m : Nat) : good (kk.k rest (fr2 (.negSucc m) 15) Heap.nil) = true := by kernel_rfl
theorem c16 (m : Nat) : good (kk.k rest (fr2 (.negSucc m) 16) Heap.nil) = true := by kernel_rfl
theorem c17 (m : Nat) : good (kk.k rest (fr2 (.negSucc m) 17) Heap.nil) = true := by kernel_rfl
theorem c18 (m : Nat) : good (kk.k rest (fr2 (.negSucc m) 18) Heap.nil) = true := by kernel_rfl
theorem c19 (m : Nat) : good (kk.k rest (fr2 (.negSucc m) 19) Heap.nil) = true := by kernel_rfl
theorem c20 (m : Nat) : good (kk.k rest (fr2 (.negSucc m) 20) Heap.nil) = true := by kernel_rfl
theorem c21 (m : Nat) : good (kk.k rest (fr2 (.negSucc m) 21) Heap.nil) = true := by kernel_rfl
theorem c22 (m : Nat) : good (kk.k rest (fr2 (.negSucc m) 22) Heap.nil) = true := by kernel_rfl
theorem c23 (m : Nat) : good (kk.k rest (fr2 (.negSucc m) 23) Heap.nil) = true := by kernel_rfl
theorem c24 (m : Nat) : good (kk.k rest (fr2 (.negSucc m) 24) Heap.nil) = true := by kernel_rfl
theorem c25 (m : Nat) : good (kk.k rest (fr2 (.negSucc m) 25) Heap.nil) = true := by kernel_rfl
theorem c26 (m : Nat) : good (kk.k rest (fr2 (.negSucc m) 26) Heap.nil) = true := by kernel_rfl
theorem c27 (m : Nat) : good (kk.k rest (fr2 (.negSucc m) 27) Heap.nil) = true := by kernel_rfl
theorem c28 (m : Nat) : good (kk.k rest (fr2 (.negSucc m) 28) Heap.nil) = true := by kernel_rfl
theorem c29 (m : Nat) : good (kk.k rest (fr2 (.negSucc m) 29) Heap.nil) = true := by kernel_rfl
theorem c30 (m : Nat) : good (kk.k rest (fr2 (.negSucc m) 30) Heap.nil) = true := by kernel_rfl
theorem c31 (m : Nat) : good (kk.k rest (fr2 (.negSucc m) 31) Heap.nil) = true := by kernel_rfl
theorem c32 (m : Nat) : good (kk.k rest (fr2 (.negSucc m) 32) Heap.nil) = true := by kernel_rfl
theorem c33 (m : Nat) : good (kk.k rest (fr2 (.negSucc m) 33) Heap.nil) = true := by kernel_rfl
theorem c34 (m : Nat) : good (kk.k rest (fr2 (.negSucc m) 34) Heap.nil) = true := by kernel_rfl
theorem c35 (m : Nat) : good (kk.k rest (fr2 (.negSucc m) 35) Heap.nil) = true := by kernel_rfl
theorem c36 (m : Nat) : good (kk.k rest (fr2 (.negSucc m) 36) Heap.nil) = true := by kernel_rfl
theorem c37 (m : Nat) : good (kk.k rest (fr2 (.negSucc m) 37) Heap.nil) = true := by kernel_rfl
theorem c38 (m : Nat) : good (kk.k rest (fr2 (.negSucc m) 38) Heap.nil) = true := by kernel_rfl
theorem c39 (m : Nat) : good (kk.k rest (fr2 (.negSucc m) 39) Heap.nil) = true := by kernel_rfl
theorem c_all (m : Nat) : ∀ k, k < 40 → good (kk.k rest (fr2 (.negSucc m) k) Heap.nil) = true
  | 0, _ => c0 m
  | 1, _ => c1 m
  | 2, _ => c2 m
  | 3, _ => c3 m
  | 4, _ => c4 m
  | 5, _ => c5 m
  | 6, _ => c6 m
  | 7, _ => c7 m
  | 8, _ => c8 m
  | 9, _ => c9 m
  | 10, _ => c10 m
  | 11, _ => c11 m
  | 12, _ => c12 m
  | 13, _ => c13 m
  | 14, _ => c14 m
  | 15, _ => c15 m
  | 16, _ => c16 m
  | 17, _ => c17 m
  | 18, _ => c18 m
  | 19, _ => c19 m
  | 20, _ => c20 m
  | 21, _ => c21 m
  | 22, _ => c22 m
  | 23, _ => c23 m
  | 24, _ => c24 m
  | 25, _ => c25 m
  | 26, _ => c26 m
  | 27, _ => c27 m
  | 28, _ => c28 m
  | 29, _ => c29 m
  | 30, _ => c30 m
  | 31, _ => c31 m
  | 32, _ => c32 m
  | 33, _ => c33 m
  | 34, _ => c34 m
  | 35, _ => c35 m
  | 36, _ => c36 m
  | 37, _ => c37 m
  | 38, _ => c38 m
  | 39, _ => c39 m
  | k + 40, h => absurd h (by omega)
end Go.Proofs.YtmgffmdinoeaiaaGreat
