import Derived.Test.YtmgffmdinoeaiaaGreatH2
set_option linter.unusedVariables false
set_option linter.unusedSimpArgs false
set_option linter.unusedSectionVars false
set_option maxRecDepth 100000
set_option maxHeartbeats 0
namespace Go.Proofs.YtmgffmdinoeaiaaGreat
open Go Go.Proofs.YtmgffmdinoeaiaaGreat.Dm
theorem b0 (m : Nat) : good (kk.k rest (fr2 (.ofNat (Nat.add m 40)) 0) Heap.nil) = true := by kernel_rfl
theorem b1 (m : Nat) : good (kk.k rest (fr2 (.ofNat (Nat.add m 40)) 1) Heap.nil) = true := by kernel_rfl
theorem b2 (m : Nat) : good (kk.k rest (fr2 (.ofNat (Nat.add m 40)) 2) Heap.nil) = true := by kernel_rfl
theorem b3 (m : Nat) : good (kk.k rest (fr2 (.ofNat (Nat.add m 40)) 3) Heap.nil) = true := by kernel_rfl
theorem b4 (m : Nat) : good (kk.k rest (fr2 (.ofNat (Nat.add m 40)) 4) Heap.nil) = true := by kernel_rfl
theorem b5 (m : Nat) : good (kk.k rest (fr2 (.ofNat (Nat.add m 40)) 5) Heap.nil) = true := by kernel_rfl
theorem b6 (m : Nat) : good (kk.k rest (fr2 (.ofNat (Nat.add m 40)) 6) Heap.nil) = true := by kernel_rfl
theorem b7 (m : Nat) : good (kk.k rest (fr2 (.ofNat (Nat.add m 40)) 7) Heap.nil) = true := by kernel_rfl
theorem b8 (m : Nat) : good (kk.k rest (fr2 (.ofNat (Nat.add m 40)) 8) Heap.nil) = true := by kernel_rfl
theorem b9 (m : Nat) : good (kk.k rest (fr2 (.ofNat (Nat.add m 40)) 9) Heap.nil) = true := by kernel_rfl
theorem b10 (m : Nat) : good (kk.k rest (fr2 (.ofNat (Nat.add m 40)) 10) Heap.nil) = true := by kernel_rfl
theorem b11 (m : Nat) : good (kk.k rest (fr2 (.ofNat (Nat.add m 40)) 11) Heap.nil) = true := by kernel_rfl
theorem b12 (m : Nat) : good (kk.k rest (fr2 (.ofNat (Nat.add m 40)) 12) Heap.nil) = true := by kernel_rfl
theorem b13 (m : Nat) : good (kk.k rest (fr2 (.ofNat (Nat.add m 40)) 13) Heap.nil) = true := by kernel_rfl
theorem b14 (m : Nat) : good (kk.k rest (fr2 (.ofNat (Nat.add m 40)) 14) Heap.nil) = true := by kernel_rfl
theorem b15 (m : Nat) : good (kk.k rest (fr2 (.ofNat (Nat.add m 40)) 15) Heap.nil) = true := by kernel_rfl
theorem b16 (m : Nat) : good (kk.k rest (fr2 (.ofNat (Nat.add m 40)) 16) Heap.nil) = true := by kernel_rfl
theorem b17 (m : Nat) : good (kk.k rest (fr2 (.ofNat (Nat.add m 40)) 17) Heap.nil) = true := by kernel_rfl
theorem b18 (m : Nat) : good (kk.k rest (fr2 (.ofNat (Nat.add m 40)) 18) Heap.nil) = true := by kernel_rfl
theorem b19 (m : Nat) : good (kk.k rest (fr2 (.ofNat (Nat.add m 40)) 19) Heap.nil) = true := by kernel_rfl
theorem b20 (m : Nat) : good (kk.k rest (fr2 (.ofNat (Nat.add m 40)) 20) Heap.nil) = true := by kernel_rfl
theorem b21 (m : Nat) : good (kk.k rest (fr2 (.ofNat (Nat.add m 40)) 21) Heap.nil) = true := by kernel_rfl
theorem b22 (m : Nat) : good (kk.k rest (fr2 (.ofNat (Nat.add m 40)) 22) Heap.nil) = true := by kernel_rfl
theorem b23 (m : Nat) : good (kk.k rest (fr2 (.ofNat (Nat.add m 40)) 23) Heap.nil) = true := by kernel_rfl
theorem b24 (m : Nat) : good (kk.k rest (fr2 (.ofNat (Nat.add m 40)) 24) Heap.nil) = true := by kernel_rfl
theorem b25 (m : Nat) : good (kk.k rest (fr2 (.ofNat (Nat.add m 40)) 25) Heap.nil) = true := by kernel_rfl
theorem b26 (m : Nat) : good (kk.k rest (fr2 (.ofNat (Nat.add m 40)) 26) Heap.nil) = true := by kernel_rfl
theorem b27 (m : Nat) : good (kk.k rest (fr2 (.ofNat (Nat.add m 40)) 27) Heap.nil) = true := by kernel_rfl
theorem b28 (m : Nat) : good (kk.k rest (fr2 (.ofNat (Nat.add m 40)) 28) Heap.nil) = true := by kernel_rfl
theorem b29 (m : Nat) : good (kk.k rest (fr2 (.ofNat (Nat.add m 40)) 29) Heap.nil) = true := by kernel_rfl
theorem b30 (m : Nat) : good (kk.k rest (fr2 (.ofNat (Nat.add m 40)) 30) Heap.nil) = true := by kernel_rfl
theorem b31 (m : Nat) : good (kk.k rest (fr2 (.ofNat (Nat.add m 40)) 31) Heap.nil) = true := by kernel_rfl
theorem b32 (m : Nat) : good (kk.k rest (fr2 (.ofNat (Nat.add m 40)) 32) Heap.nil) = true := by kernel_rfl
theorem b33 (m : Nat) : good (kk.k rest (fr2 (.ofNat (Nat.add m 40)) 33) Heap.nil) = true := by kernel_rfl
theorem b34 (m : Nat) : good (kk.k rest (fr2 (.ofNat (Nat.add m 40)) 34) Heap.nil) = true := by kernel_rfl
theorem b35 (m : Nat) : good (kk.k rest (fr2 (.ofNat (Nat.add m 40)) 35) Heap.nil) = true := by kernel_rfl
theorem b36 (m : Nat) : good (kk.k rest (fr2 (.ofNat (Nat.add m 40)) 36) Heap.nil) = true := by kernel_rfl
theorem b37 (m : Nat) : good (kk.k rest (fr2 (.ofNat (Nat.add m 40)) 37) Heap.nil) = true := by kernel_rfl
theorem b38 (m : Nat) : good (kk.k rest (fr2 (.ofNat (Nat.add m 40)) 38) Heap.nil) = true := by kernel_rfl
theorem b39 (m : Nat) : good (kk.k rest (fr2 (.ofNat (Nat.add m 40)) 39) Heap.nil) = true := by kernel_rfl
theorem b_all (m : Nat) : ∀ k, k < 40 → good (kk.k rest (fr2 (.ofNat (Nat.add m 40)) k) Heap.nil) = true
  | 0, _ => b0 m
  | 1, _ => b1 m
  | 2, _ => b2 m
  | 3, _ => b3 m
  | 4, _ => b4 m
  | 5, _ => b5 m
  | 6, _ => b6 m
  | 7, _ => b7 m
  | 8, _ => b8 m
  | 9, _ => b9 m
  | 10, _ => b10 m
  | 11, _ => b11 m
  | 12, _ => b12 m
  | 13, _ => b13 m
  | 14, _ => b14 m
  | 15, _ => b15 m
  | 16, _ => b16 m
  | 17, _ => b17 m
  | 18, _ => b18 m
  | 19, _ => b19 m
  | 20, _ => b20 m
  | 21, _ => b21 m
  | 22, _ => b22 m
  | 23, _ => b23 m
  | 24, _ => b24 m
  | 25, _ => b25 m
  | 26, _ => b26 m
  | 27, _ => b27 m
  | 28, _ => b28 m
  | 29, _ => b29 m
  | 30, _ => b30 m
  | 31, _ => b31 m
  | 32, _ => b32 m
  | 33, _ => b33 m
  | 34, _ => b34 m
  | 35, _ => b35 m
  | 36, _ => b36 m
  | 37, _ => b37 m
  | 38, _ => b38 m
  | 39, _ => b39 m
  | k + 40, h => absurd h (by omega)
end Go.Proofs.YtmgffmdinoeaiaaGreat
