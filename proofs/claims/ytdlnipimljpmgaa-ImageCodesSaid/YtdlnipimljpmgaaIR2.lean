/- The document's used, bit, le. -/
import Derived.Test.YtdlnipimljpmgaaIR1
import Derived.Test.YtdlnipimljpmgaaIW10
set_option linter.unusedVariables false
set_option linter.unusedSimpArgs false
set_option linter.unusedSectionVars false
set_option linter.unnecessarySimpa false
namespace Go.Proofs.Ytdlnipimljpmgaa
open Go Go.RowKit Go.Im Go.Lib

set_option maxRecDepth 100000 in
set_option maxHeartbeats 1000000 in
theorem refUsed_any (a : Option Addr) (n c B : Nat) (l : List Int) (w : World) (hn : l.length = n) (hb : n ≤ 1000000000) (hx : Bs B w (.slice a n c) l) :
    Calls Try.prog 29 #[.slice a n c] w fun e w' => e = .returned (.int .i64 (used l)) ∧ Below w.heap.size w w' := by
  have HX : Aside (Bs B w (.slice a n c) l) := hx
  clear hx
  go_enter Try.func29, Try.ntmps29
  go_wp2
  go_loopw [3] (fun i wr => ∃ k : Nat, k ≤ n ∧ i = .int .i64 k ∧ wr = w ∧ (∀ j u, k ≤ j → l[j]? = some u → u = 0))
    (fun i _ => (RowKit.intOf i).toNat)
  case atStart => exact ⟨n, Nat.le_refl _, rfl, rfl, fun j u hj h => by rw [List.getElem?_eq_none (by omega)] at h; cases h⟩
  case round =>
    obtain ⟨k, hk, rfl, rfl, hz⟩ := hrel
    have HZ : Aside (∀ j u, k ≤ j → l[j]? = some u → u = 0) := hz
    clear hz
    by_cases h0 : k = 0
    · subst h0
      have HU : Aside (used l = 0) := used_get l 0 HZ.out (.inl rfl)
      go_wp2
      go_ret
      rw [HU.out]
      exact ⟨by first | trivial | rfl | go_num, Below.refl _ _⟩
    · obtain ⟨k, rfl⟩ : ∃ m, k = m + 1 := ⟨k - 1, by omega⟩
      obtain ⟨b, off, u, rfl, hB, hu, hc⟩ := HX.out.at (j := k) (by omega)
      have HU : Aside (l[k]? = some u) := hu
      have hkn : (k : Int) < (n : Int) := by omega
      clear hu h0
      by_cases hu0 : u = 0
      · subst hu0
        go_wp2
        go_roundw
        case rel =>
          refine ⟨k, by omega, by go_num, (by first | trivial | rfl), fun j u hj h => ?_⟩
          by_cases hjk : j = k
          · subst hjk
            have := HU.out.symm.trans h
            simp only [Option.some.injEq] at this
            exact this.symm
          · exact HZ.out j u (by omega) h
        case measure => simp [RowKit.intOf]
      · have HUU : Aside (used l = k + 1) := used_get l (k + 1) HZ.out (.inr ⟨u, HU.out, hu0⟩)
        go_wp2
        go_ret
        rw [HUU.out]
        exact ⟨by first | trivial | rfl | go_num, Below.refl _ _⟩


theorem strOfNums_append (a b : List Int) : strOfNums (a ++ b) = strOfNums a ++ strOfNums b := by
  apply ByteArray.ext
  rw [ByteArray.data_append]
  simp [strOfNums]

theorem bit_calls (b : Bool) (w : World) : Calls Try.prog 27 #[.bool b] w fun e w' => e = .returned (.string (strOfNums [one b])) ∧ w' = w := by
  cases b
  · have h : strOfNums [one false] = ⟨#[0]⟩ := rfl
    rw [h]
    go_enter Try.func27, Try.ntmps27
    go_wp2
    go_ret
    exact ⟨rfl, rfl⟩
  · have h : strOfNums [one true] = ⟨#[1]⟩ := rfl
    rw [h]
    go_enter Try.func27, Try.ntmps27
    go_wp2
    go_ret
    exact ⟨rfl, rfl⟩

theorem conv_one (w : World) (u : Int) : Sem.run Try.prog (convert 32 9 (.slice (some ⟨w.heap.size, 0, none⟩) 1 1)) (w.alloc (.cells #[.int .u8 u] 5)) = .ok (.string (strOfNums [u])) (w.alloc (.cells #[.int .u8 u] 5)) := by
  have hb : Bs (w.heap.size + 1) (w.alloc (.cells #[.int .u8 u] 5)) (.slice (some ⟨w.heap.size, 0, none⟩) 1 1) [u] := by
    refine ⟨_, 1, rfl, .inr ⟨w.heap.size, 0, rfl, by omega, fun j x hj => ?_⟩⟩
    match j, hj with
    | 0, hj =>
      simp at hj
      subst hj
      exact cell_new0 () rfl
    | j + 1, hj => simp at hj
  exact conv_bytes hb rfl (by decide) _ (Below.refl _ _)

set_option maxRecDepth 100000 in
set_option maxHeartbeats 1000000 in
theorem le_calls (v : Int) (n : Nat) (hv : 0 ≤ v ∧ v < 18446744073709551616) (hn : n ≤ 8) (w : World) :
    Calls Try.prog 28 #[.int .u64 v, .int .i64 n] w fun e w' => e = .returned (.string (strOfNums (leB n v))) ∧ Below w.heap.size w w' := by
  have hcv := conv_one
  go_enter Try.func28, Try.ntmps28
  go_wp2_with fail
  go_loopw [5, 6] (fun s i wr => ∃ k : Nat, k ≤ n ∧ i = .int .i64 k ∧ s = .string (strOfNums (leB k v)) ∧ Below w.heap.size w wr)
    (fun _ i _ => n - (RowKit.intOf i).toNat)
  case atStart => exact ⟨0, Nat.zero_le _, rfl, rfl, Below.refl _ _⟩
  case round =>
    obtain ⟨k, hk, rfl, rfl, hbl⟩ := hrel
    have HB : Aside (Below w.heap.size w wr) := hbl
    clear hbl
    by_cases hlt : k < n
    · have hi : (k : Int) < (n : Int) := by omega
      have hw8 : IntKind.i64.wrap (8 * (k : Int)) = 8 * (k : Int) := IntWalk.i64_in _ (by omega)
      have hsz : ¬ (9223372036854775807 < (strOfNums (leB k v)).size + (strOfNums [v / 2 ^ (8 * k) % 256]).size) := by
        rw [strOfNums_size, strOfNums_size, leB_length]; simp; omega
      have HNX : Aside (strOfNums (leB k v) ++ strOfNums [v / 2 ^ (8 * k) % 256] = strOfNums (leB (k + 1) v)) := by
        show _ = _
        rw [← strOfNums_append, leB_snoc, show (256 : Int) ^ k = 2 ^ (8 * k) by rw [Int.pow_mul]; rfl]
      go_upto_region 4 with fail
      rw [HNX.out]
      go_wp2_with fail
      go_roundw
      case rel => exact ⟨k + 1, by omega, by go_num, rfl, HB.out.alloc HB.out.size _⟩
      case measure => simp [RowKit.intOf]; omega
    · have hkn : k = n := by omega
      subst hkn
      go_wp2_with fail
      go_ret
      exact ⟨rfl, HB.out⟩
end Go.Proofs.Ytdlnipimljpmgaa
