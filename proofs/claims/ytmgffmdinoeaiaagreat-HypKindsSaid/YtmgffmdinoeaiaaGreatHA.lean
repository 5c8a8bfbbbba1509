import Derived.Test.YtmgffmdinoeaiaaGreatH2
set_option linter.unusedVariables false
set_option linter.unusedSimpArgs false
set_option linter.unusedSectionVars false
set_option maxRecDepth 100000
set_option maxHeartbeats 0
namespace Go.Proofs.YtmgffmdinoeaiaaGreat
open Go Go.Proofs.YtmgffmdinoeaiaaGreat.Dm
theorem a0 : saysTrue (kk.c 3 [num (.ofNat 0)] Heap.nil) = true := by kernel_rfl
theorem a1 : saysTrue (kk.c 3 [num (.ofNat 1)] Heap.nil) = true := by kernel_rfl
theorem a2 : saysTrue (kk.c 3 [num (.ofNat 2)] Heap.nil) = true := by kernel_rfl
theorem a3 : saysTrue (kk.c 3 [num (.ofNat 3)] Heap.nil) = true := by kernel_rfl
theorem a4 : saysTrue (kk.c 3 [num (.ofNat 4)] Heap.nil) = true := by kernel_rfl
theorem a5 : saysTrue (kk.c 3 [num (.ofNat 5)] Heap.nil) = true := by kernel_rfl
theorem a6 : saysTrue (kk.c 3 [num (.ofNat 6)] Heap.nil) = true := by kernel_rfl
theorem a7 : saysTrue (kk.c 3 [num (.ofNat 7)] Heap.nil) = true := by kernel_rfl
theorem a8 : saysTrue (kk.c 3 [num (.ofNat 8)] Heap.nil) = true := by kernel_rfl
theorem a9 : saysTrue (kk.c 3 [num (.ofNat 9)] Heap.nil) = true := by kernel_rfl
theorem a10 : saysTrue (kk.c 3 [num (.ofNat 10)] Heap.nil) = true := by kernel_rfl
theorem a11 : saysTrue (kk.c 3 [num (.ofNat 11)] Heap.nil) = true := by kernel_rfl
theorem a12 : saysTrue (kk.c 3 [num (.ofNat 12)] Heap.nil) = true := by kernel_rfl
theorem a13 : saysTrue (kk.c 3 [num (.ofNat 13)] Heap.nil) = true := by kernel_rfl
theorem a14 : saysTrue (kk.c 3 [num (.ofNat 14)] Heap.nil) = true := by kernel_rfl
theorem a15 : saysTrue (kk.c 3 [num (.ofNat 15)] Heap.nil) = true := by kernel_rfl
theorem a16 : saysTrue (kk.c 3 [num (.ofNat 16)] Heap.nil) = true := by kernel_rfl
theorem a17 : saysTrue (kk.c 3 [num (.ofNat 17)] Heap.nil) = true := by kernel_rfl
theorem a18 : saysTrue (kk.c 3 [num (.ofNat 18)] Heap.nil) = true := by kernel_rfl
theorem a19 : saysTrue (kk.c 3 [num (.ofNat 19)] Heap.nil) = true := by kernel_rfl
theorem a20 : saysTrue (kk.c 3 [num (.ofNat 20)] Heap.nil) = true := by kernel_rfl
theorem a21 : saysTrue (kk.c 3 [num (.ofNat 21)] Heap.nil) = true := by kernel_rfl
theorem a22 : saysTrue (kk.c 3 [num (.ofNat 22)] Heap.nil) = true := by kernel_rfl
theorem a23 : saysTrue (kk.c 3 [num (.ofNat 23)] Heap.nil) = true := by kernel_rfl
theorem a24 : saysTrue (kk.c 3 [num (.ofNat 24)] Heap.nil) = true := by kernel_rfl
theorem a25 : saysTrue (kk.c 3 [num (.ofNat 25)] Heap.nil) = true := by kernel_rfl
theorem a26 : saysTrue (kk.c 3 [num (.ofNat 26)] Heap.nil) = true := by kernel_rfl
theorem a27 : saysTrue (kk.c 3 [num (.ofNat 27)] Heap.nil) = true := by kernel_rfl
theorem a28 : saysTrue (kk.c 3 [num (.ofNat 28)] Heap.nil) = true := by kernel_rfl
theorem a29 : saysTrue (kk.c 3 [num (.ofNat 29)] Heap.nil) = true := by kernel_rfl
theorem a30 : saysTrue (kk.c 3 [num (.ofNat 30)] Heap.nil) = true := by kernel_rfl
theorem a31 : saysTrue (kk.c 3 [num (.ofNat 31)] Heap.nil) = true := by kernel_rfl
theorem a32 : saysTrue (kk.c 3 [num (.ofNat 32)] Heap.nil) = true := by kernel_rfl
theorem a33 : saysTrue (kk.c 3 [num (.ofNat 33)] Heap.nil) = true := by kernel_rfl
theorem a34 : saysTrue (kk.c 3 [num (.ofNat 34)] Heap.nil) = true := by kernel_rfl
theorem a35 : saysTrue (kk.c 3 [num (.ofNat 35)] Heap.nil) = true := by kernel_rfl
theorem a36 : saysTrue (kk.c 3 [num (.ofNat 36)] Heap.nil) = true := by kernel_rfl
theorem a37 : saysTrue (kk.c 3 [num (.ofNat 37)] Heap.nil) = true := by kernel_rfl
theorem a38 : saysTrue (kk.c 3 [num (.ofNat 38)] Heap.nil) = true := by kernel_rfl
theorem a39 : saysTrue (kk.c 3 [num (.ofNat 39)] Heap.nil) = true := by kernel_rfl
theorem a_all : ∀ k, k < 40 → saysTrue (kk.c 3 [num (.ofNat k)] Heap.nil) = true
  | 0, _ => a0
  | 1, _ => a1
  | 2, _ => a2
  | 3, _ => a3
  | 4, _ => a4
  | 5, _ => a5
  | 6, _ => a6
  | 7, _ => a7
  | 8, _ => a8
  | 9, _ => a9
  | 10, _ => a10
  | 11, _ => a11
  | 12, _ => a12
  | 13, _ => a13
  | 14, _ => a14
  | 15, _ => a15
  | 16, _ => a16
  | 17, _ => a17
  | 18, _ => a18
  | 19, _ => a19
  | 20, _ => a20
  | 21, _ => a21
  | 22, _ => a22
  | 23, _ => a23
  | 24, _ => a24
  | 25, _ => a25
  | 26, _ => a26
  | 27, _ => a27
  | 28, _ => a28
  | 29, _ => a29
  | 30, _ => a30
  | 31, _ => a31
  | 32, _ => a32
  | 33, _ => a33
  | 34, _ => a34
  | 35, _ => a35
  | 36, _ => a36
  | 37, _ => a37
  | 38, _ => a38
  | 39, _ => a39
  | k + 40, h => absurd h (by omega)
end Go.Proofs.YtmgffmdinoeaiaaGreat
