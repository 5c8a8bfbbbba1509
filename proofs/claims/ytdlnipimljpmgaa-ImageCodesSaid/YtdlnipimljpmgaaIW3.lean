/- bits.Get of eight bytes. -/
import Derived.Test.YtdlnipimljpmgaaIW1
import Derived.Test.YtdlnipimljpmgaaIW2
import Derived.Test.YtdlnipimljpmgaaIW3s
set_option linter.unusedVariables false
set_option linter.unusedSimpArgs false
set_option linter.unusedSectionVars false
set_option linter.unnecessarySimpa false
namespace Go.Proofs.Ytdlnipimljpmgaa
open Go Go.RowKit Go.Im Go.Lib

theorem bcheck_calls (a : Option Addr) (c : Nat) (w : World) : Calls Try.prog 65 #[.slice a 8 c, .int .i64 0, .int .i64 8] w fun e w' => e = .returned (.int .i64 0) ∧ Below w.heap.size w w' := by
  go_enter Try.func65, Try.ntmps65
  go_wp2_with (go_at_call 74; refine (sized_calls _).mono ?_; rintro e w' ⟨rfl, hw⟩; have HW : Aside (Below w.heap.size w w') := hw; clear hw)
  go_ret
  exact ⟨rfl, HW.out⟩

theorem fromLe_snoc : ∀ (l : List Int) (b : Int), fromLe (l ++ [b]) = fromLe l + b * 256 ^ l.length
  | [], b => by simp [fromLe]
  | a :: l, b => by
    have ih := fromLe_snoc l b
    simp only [List.cons_append, fromLe, ih, List.length_cons, Int.pow_succ]
    rw [Int.mul_add, Int.add_assoc]
    congr 2
    rw [Int.mul_comm 256, Int.mul_assoc]

def Byte (l : List Int) : Prop := ∀ x ∈ l, 0 ≤ x ∧ x < 256

theorem fromLe_lt : ∀ (l : List Int), Byte l → 0 ≤ fromLe l ∧ fromLe l < 256 ^ l.length
  | [], _ => by simp [fromLe]
  | a :: l, h => by
    have h1 := h a (by simp)
    have h2 := fromLe_lt l (fun x hx => h x (by simp [hx]))
    simp only [fromLe, List.length_cons, Int.pow_succ]
    omega

theorem or_add (v b : Int) (k : Nat) (hk : k < 8) (h0 : 0 ≤ v) (h1 : v < 256 ^ k) (hb0 : 0 ≤ b) (hb1 : b < 256) : bits .or .u64 v (b * 256 ^ k) = v + b * 256 ^ k := by
  obtain ⟨n, rfl⟩ : ∃ n : Nat, v = n := ⟨v.toNat, by omega⟩
  obtain ⟨m, rfl⟩ : ∃ m : Nat, b = m := ⟨b.toNat, by omega⟩
  have hn : n < 256 ^ k := by
    have : ((n : Int)) < ((256 ^ k : Nat) : Int) := by simpa using h1
    omega
  have hm : m < 256 := by omega
  have e256 : (256 : Nat) ^ k = 2 ^ (8 * k) := by rw [Nat.pow_mul]
  have hle : 256 ^ k * 256 ≤ 2 ^ 64 := by
    rw [e256, show (256 : Nat) = 2 ^ 8 from rfl, ← Nat.pow_add]
    exact Nat.pow_le_pow_right (by decide) (by omega)
  have hmk : m * 256 ^ k + n < 2 ^ 64 := by
    have : m * 256 ^ k + n < (m + 1) * 256 ^ k := by rw [Nat.add_mul]; omega
    have : (m + 1) * 256 ^ k ≤ 256 * 256 ^ k := Nat.mul_le_mul_right _ (by omega)
    omega
  have hor : n ||| (m * 256 ^ k) = n + m * 256 ^ k := by
    have := Nat.two_pow_add_eq_or_of_lt (i := 8 * k) (b := n) (by rw [← e256]; exact hn) m
    rw [← e256] at this
    rw [Nat.or_comm, Nat.mul_comm, ← this, Nat.add_comm]
  have e : bits .or .u64 (n : Int) ((m : Int) * 256 ^ k) = IntKind.wrap .u64 ((BitVec.ofInt 64 (n : Int) ||| BitVec.ofInt 64 ((m : Int) * 256 ^ k)).toNat : Int) := rfl
  have c : ((m : Int) * 256 ^ k) = ((m * 256 ^ k : Nat) : Int) := by simp
  rw [e, c]
  have t : (BitVec.ofInt 64 (n : Int) ||| BitVec.ofInt 64 ((m * 256 ^ k : Nat) : Int)).toNat = n + m * 256 ^ k := by
    rw [BitVec.toNat_or, BitVec.toNat_ofInt, BitVec.toNat_ofInt]
    have a1 : ((n : Int) % ((2 ^ 64 : Nat) : Int)).toNat = n := by omega
    have a2 : (((m * 256 ^ k : Nat) : Int) % ((2 ^ 64 : Nat) : Int)).toNat = m * 256 ^ k := by omega
    rw [a1, a2, hor]
  rw [t, IntKind.wrap_u64]
  omega

theorem wrap_shift (b : Int) (k : Nat) (hk : k < 8) (hb0 : 0 ≤ b) (hb1 : b < 256) : IntKind.u64.wrap (b * 2 ^ (8 * k)) = b * 256 ^ k := by
  rw [Int.pow_mul]
  show IntKind.u64.wrap (b * 256 ^ k) = _
  obtain ⟨m, rfl⟩ : ∃ m : Nat, b = m := ⟨b.toNat, by omega⟩
  have c : ((m : Int) * 256 ^ k) = ((m * 256 ^ k : Nat) : Int) := by simp
  have hle : 256 ^ k * 256 ≤ 2 ^ 64 := by
    rw [show (256 : Nat) ^ k = 2 ^ (8 * k) by rw [Nat.pow_mul], show (256 : Nat) = 2 ^ 8 from rfl, ← Nat.pow_add]
    exact Nat.pow_le_pow_right (by decide) (by omega)
  have : m * 256 ^ k ≤ 255 * 256 ^ k := Nat.mul_le_mul_right _ (by omega)
  rw [c, IntKind.wrap_u64]
  omega

set_option maxRecDepth 100000 in
set_option maxHeartbeats 1000000 in
theorem get_calls (a : Option Addr) (c B : Nat) (l : List Int) (w : World) (hn : l.length = 8) (hb : Byte l) (hx : Bs B w (.slice a 8 c) l) (hBw : B ≤ w.heap.size) :
    Calls Try.prog 53 #[.slice a 8 c, .int .i64 0, .int .i64 8] w fun e w' => e = .returned (.tuple #[.int .u64 (fromLe l), .int .i64 0]) ∧ Below w.heap.size w w' := by
  have HX : Aside (Bs B w (.slice a 8 c) l) := hx
  have HY : Aside (Byte l) := hb
  clear hx hb
  go_enter Try.func53, Try.ntmps53
  go_wp2_with (go_at_call 65; refine (bcheck_calls _ _ _).mono ?_; rintro e w1 ⟨rfl, hw⟩; have HW : Aside (Below w.heap.size w w1) := hw; clear hw)
  go_loopw [9, 19] (fun v i wr => ∃ k : Nat, k ≤ 8 ∧ i = .int .i64 k ∧ v = .int .u64 (fromLe (l.take k)) ∧ wr = w1)
    (fun _ i _ => 8 - (RowKit.intOf i).toNat)
  case atStart => exact ⟨0, by omega, rfl, by simp [fromLe], rfl⟩
  case round =>
    obtain ⟨k, hk, rfl, rfl, rfl⟩ := hrel
    by_cases hlt : k < 8
    · obtain ⟨b, off, u, rfl, hB, hu, hc⟩ := HX.out.at (j := k) (by omega)
      have c0 : wr.cell? ⟨b, off + k, none⟩ = some (.int .u8 u) := by rw [HW.out.cell (by show b < _; omega)]; exact hc
      have HU : Aside (l[k]? = some u) := hu
      have hub := HY.out u (List.mem_of_getElem? hu)
      have hi : (k : Int) < 8 := by omega
      have HLT : Aside (0 ≤ fromLe (l.take k) ∧ fromLe (l.take k) < 256 ^ k) := by
        have := fromLe_lt (l.take k) (fun x hx => HY.out x (List.mem_of_mem_take hx))
        rw [List.length_take, Nat.min_eq_left (by omega)] at this
        exact this
      have HOR : Aside (bits .or .u64 (fromLe (l.take k)) (u * 256 ^ k) = fromLe (l.take (k + 1))) := by
        show _ = _
        rw [or_add _ _ _ hlt HLT.out.1 HLT.out.2 hub.1 hub.2, List.take_add_one, HU.out]
        simp only [Option.toList_some]
        rw [fromLe_snoc, List.length_take, Nat.min_eq_left (by omega)]
      generalize hq : fromLe (l.take k) = q at *
      clear hu hc hq
      go_wp2_with fail
      go_roundw
      case rel =>
        refine ⟨k + 1, by omega, by go_num, ?_, trivial⟩
        rw [wrap_shift u k hlt hub.1 hub.2, HOR.out]
      case measure => simp [RowKit.intOf]; omega
    · have : k = 8 := by omega
      subst this
      have HE : Aside (fromLe (l.take 8) = fromLe l) := by
        show _ = _
        rw [← hn, List.take_length]
      clear hn
      go_wp2
      go_ret2
      rw [HE.out]
      exact ⟨rfl, HW.out⟩
end Go.Proofs.Ytdlnipimljpmgaa
