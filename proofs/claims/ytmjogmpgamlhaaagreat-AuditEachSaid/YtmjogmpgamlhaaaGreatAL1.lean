/- The evaluator for this program, with what is known. -/
import Derived.Test.YtmjogmpgamlhaaaGreatProg
import Derived.Test.YtmjogmpgamlhaaaGreatDmIns
import Derived.WalkKit
import Derived.Deep.LoopGhost
import Derived.Lib.Walk
import Derived.BigQuiet
import Derived.Test.YtmjogmpgamlhaaaGreatDmSeat
set_option linter.unusedVariables false
set_option linter.unusedSimpArgs false
set_option linter.unusedSectionVars false
namespace Go.Proofs.YtmjogmpgamlhaaaGreat
open Go Go.Shelf Go.Proofs.YtmjogmpgamlhaaaGreat.Dm Go.Proofs

def rz : Ren := ⟨fun n => match n with | 21 => 316 | 27 => 375 | 28 => 376 | 35 => 413 | 39 => 437 | n => n, fun n => match n with | 22 => 22 | n => n, fun n => n⟩

theorem laysIns : Lays2.n21 Tryz.prog rz where
  mixed := by kernel_rfl
  f21 := by kernel_rfl
  f27 := by kernel_rfl
  f28 := by kernel_rfl
  f35 := by kernel_rfl
  f39 := by kernel_rfl
  t0 := by kernel_rfl
  a0 := fun w => by kernel_rfl
  z0 := fun w => by kernel_rfl
  v0 := fun w => by kernel_rfl
  t3 := by kernel_rfl
  a3 := fun w => by kernel_rfl
  z3 := fun w => by kernel_rfl
  v3 := fun w => by kernel_rfl
  t4 := by kernel_rfl
  a4 := fun w => by kernel_rfl
  z4 := fun w => by kernel_rfl
  v4 := fun w => by kernel_rfl
  t22 := by kernel_rfl
  a22 := fun w => by kernel_rfl
  z22 := fun w => by kernel_rfl
  v22 := fun w => by kernel_rfl
  i3 := by kernel_rfl

end Go.Proofs.YtmjogmpgamlhaaaGreat

namespace Go.Proofs.YtmjogmpgamlhaaaGreat
open Go Go.RowKit Go.Lib Go.Proofs.YtmjogmpgamlhaaaGreat.Dm

theorem mixedP : Tryz.prog.follows .mixedOrders = true := by kernel_rfl
theorem noGor : Tryz.prog.funcs.toList.all (fun fn => !(fn.name == "runtime.NumGoroutine")) = true := by kernel_rfl

noncomputable def evP (n : Nat) : CallK := runs Tryz.prog n
theorem evP_ok (n : Nat) : CallOk Tryz.prog (evP n) := runs_ok mixedP noGor n

theorem sz1 : Known Tryz.prog 313 [.cv (.sc (.i .i64 1))] (.cv (.sc (.b true))) := known_of (evP_ok 100) (by kernel_rfl)
theorem sz2 : Known Tryz.prog 313 [.cv (.sc (.i .i64 2))] (.cv (.sc (.b true))) := known_of (evP_ok 100) (by kernel_rfl)
theorem sz4 : Known Tryz.prog 313 [.cv (.sc (.i .i64 4))] (.cv (.sc (.b true))) := known_of (evP_ok 100) (by kernel_rfl)
theorem sz8 : Known Tryz.prog 313 [.cv (.sc (.i .i64 8))] (.cv (.sc (.b true))) := known_of (evP_ok 100) (by kernel_rfl)

theorem sized_calls {s : Nat} (h : s = 1 ∨ s = 2 ∨ s = 4 ∨ s = 8) (w : World) : Calls Tryz.prog 313 #[.int .i64 (s : Int)] w fun e w' => e = .returned (.bool true) ∧ Below w.heap.size w w' := by
  have key : ∀ n : Nat, Known Tryz.prog 313 [.cv (.sc (.i .i64 n))] (.cv (.sc (.b true))) → Calls Tryz.prog 313 #[.int .i64 (n : Int)] w fun e w' => e = .returned (.bool true) ∧ Below w.heap.size w w' := fun n hk => by
    refine (hk.2 w #[.int .i64 (n : Int)] ⟨rfl, trivial⟩).mono ?_
    rintro e w' ⟨V, rfl, hv, hb⟩
    obtain rfl : V = .bool true := hv
    exact ⟨rfl, hb⟩
  rcases h with rfl | rfl | rfl | rfl
  · exact key 1 sz1
  · exact key 2 sz2
  · exact key 4 sz4
  · exact key 8 sz8

set_option maxRecDepth 100000 in
theorem bcheck_calls {a : Option Addr} {n c at_ s : Nat} (hs : s = 1 ∨ s = 2 ∨ s = 4 ∨ s = 8) (hm : at_ % s = 0) (hn : at_ + s ≤ n) (hb : n ≤ 1000000) (w : World) :
    Calls Tryz.prog 203 #[.slice a n c, .int .i64 (at_ : Int), .int .i64 (s : Int)] w fun e w' => e = .returned (.int .i64 0) ∧ Below w.heap.size w w' := by
  have hs0 : ¬ (s : Int) = 0 := by omega
  have hr : (at_ : Int).tmod (s : Int) = 0 := by
    rw [Int.tmod_eq_emod_of_nonneg (by omega)]
    omega
  have h1 : ¬ (n : Int) < (s : Int) := by omega
  have h2 : IntKind.i64.wrap ((n : Int) - (s : Int)) = (n : Int) - (s : Int) := IntWalk.i64_in _ (by omega)
  have h3 : ¬ (n : Int) - (s : Int) < (at_ : Int) := by omega
  have h4 : ¬ (at_ : Int) < 0 := by omega
  have HS : Aside (∀ w, Calls Tryz.prog 313 #[.int .i64 (s : Int)] w fun e w' => e = .returned (.bool true) ∧ Below w.heap.size w w') := sized_calls hs
  clear hs
  go_enter Tryz.func203, Tryz.ntmps203
  go_wp2_with fail
  refine (HS.out _).mono ?_
  rintro e w1 ⟨rfl, hb1⟩
  have HB1 : Aside (Below w.heap.size w w1) := hb1
  clear hb1
  go_wp2_with fail
  go_ret
  exact ⟨rfl, HB1.out⟩

def fromLe : List Int → Int
  | [] => 0
  | b :: l => b + 256 * fromLe l
def Byte (l : List Int) : Prop := ∀ x ∈ l, 0 ≤ x ∧ x < 256
theorem fromLe_snoc : ∀ (l : List Int) (b : Int), fromLe (l ++ [b]) = fromLe l + b * 256 ^ l.length
  | [], b => by simp [fromLe]
  | a :: l, b => by
    have ih := fromLe_snoc l b
    simp only [List.cons_append, fromLe, ih, List.length_cons, Int.pow_succ]
    rw [Int.mul_add, Int.add_assoc]
    congr 2
    rw [Int.mul_comm 256, Int.mul_assoc]
theorem fromLe_lt : ∀ (l : List Int), Byte l → 0 ≤ fromLe l ∧ fromLe l < 256 ^ l.length
  | [], _ => by simp [fromLe]
  | a :: l, h => by
    have h1 := h a (by simp)
    have h2 := fromLe_lt l (fun x hx => h x (by simp [hx]))
    simp only [fromLe, List.length_cons, Int.pow_succ]
    omega

theorem or_add (v b : Int) (k : Nat) (hk : k < 8) (h0 : 0 ≤ v) (h1 : v < 256 ^ k) (hb0 : 0 ≤ b) (hb1 : b < 256) : bits .or .u64 v (b * 256 ^ k) = v + b * 256 ^ k := by
  obtain ⟨n, rfl⟩ : ∃ n : Nat, v = n := ⟨v.toNat, by omega⟩
  obtain ⟨m, rfl⟩ : ∃ m : Nat, b = m := ⟨b.toNat, by omega⟩
  have hn : n < 256 ^ k := by
    have : ((n : Int)) < ((256 ^ k : Nat) : Int) := by simpa using h1
    omega
  have hm : m < 256 := by omega
  have e256 : (256 : Nat) ^ k = 2 ^ (8 * k) := by rw [Nat.pow_mul]
  have hle : 256 ^ k * 256 ≤ 2 ^ 64 := by
    rw [e256, show (256 : Nat) = 2 ^ 8 from rfl, ← Nat.pow_add]
    exact Nat.pow_le_pow_right (by decide) (by omega)
  have hmk : m * 256 ^ k + n < 2 ^ 64 := by
    have : m * 256 ^ k + n < (m + 1) * 256 ^ k := by rw [Nat.add_mul]; omega
    have : (m + 1) * 256 ^ k ≤ 256 * 256 ^ k := Nat.mul_le_mul_right _ (by omega)
    omega
  have hor : n ||| (m * 256 ^ k) = n + m * 256 ^ k := by
    have := Nat.two_pow_add_eq_or_of_lt (i := 8 * k) (b := n) (by rw [← e256]; exact hn) m
    rw [← e256] at this
    rw [Nat.or_comm, Nat.mul_comm, ← this, Nat.add_comm]
  have e : bits .or .u64 (n : Int) ((m : Int) * 256 ^ k) = IntKind.wrap .u64 ((BitVec.ofInt 64 (n : Int) ||| BitVec.ofInt 64 ((m : Int) * 256 ^ k)).toNat : Int) := rfl
  have c : ((m : Int) * 256 ^ k) = ((m * 256 ^ k : Nat) : Int) := by simp
  rw [e, c]
  have t : (BitVec.ofInt 64 (n : Int) ||| BitVec.ofInt 64 ((m * 256 ^ k : Nat) : Int)).toNat = n + m * 256 ^ k := by
    rw [BitVec.toNat_or, BitVec.toNat_ofInt, BitVec.toNat_ofInt]
    have a1 : ((n : Int) % ((2 ^ 64 : Nat) : Int)).toNat = n := by omega
    have a2 : (((m * 256 ^ k : Nat) : Int) % ((2 ^ 64 : Nat) : Int)).toNat = m * 256 ^ k := by omega
    rw [a1, a2, hor]
  rw [t, IntKind.wrap_u64]
  omega

theorem wrap_shift (b : Int) (k : Nat) (hk : k < 8) (hb0 : 0 ≤ b) (hb1 : b < 256) : IntKind.u64.wrap (b * 2 ^ (8 * k)) = b * 256 ^ k := by
  rw [Int.pow_mul]
  show IntKind.u64.wrap (b * 256 ^ k) = _
  obtain ⟨m, rfl⟩ : ∃ m : Nat, b = m := ⟨b.toNat, by omega⟩
  have c : ((m : Int) * 256 ^ k) = ((m * 256 ^ k : Nat) : Int) := by simp
  have hle : 256 ^ k * 256 ≤ 2 ^ 64 := by
    rw [show (256 : Nat) ^ k = 2 ^ (8 * k) by rw [Nat.pow_mul], show (256 : Nat) = 2 ^ 8 from rfl, ← Nat.pow_add]
    exact Nat.pow_le_pow_right (by decide) (by omega)
  have : m * 256 ^ k ≤ 255 * 256 ^ k := Nat.mul_le_mul_right _ (by omega)
  rw [c, IntKind.wrap_u64]
  omega

set_option maxRecDepth 100000 in
set_option maxHeartbeats 1000000 in
/-- The number whose bytes l lie at a place. -/
theorem get_calls {cb o n c at_ s : Nat} {l : List Int} (hs : s = 1 ∨ s = 2 ∨ s = 4 ∨ s = 8) (hm : at_ % s = 0) (hn : at_ + s ≤ n) (hb : n ≤ 1000000) (w : World) (hl : l.length = s) (hby : Byte l)
    (hx : ∀ j u, l[j]? = some u → w.cell? ⟨cb, o + (at_ + j), none⟩ = some (.int .u8 u)) :
    Calls Tryz.prog 202 #[.slice (some ⟨cb, o, none⟩) n c, .int .i64 (at_ : Int), .int .i64 (s : Int)] w fun e w' => e = .returned (.tuple #[.int .u64 (fromLe l), .int .i64 0]) ∧ Below w.heap.size w w' := by
  have HX : Aside (∀ j u, l[j]? = some u → w.cell? ⟨cb, o + (at_ + j), none⟩ = some (.int .u8 u)) := hx
  have HY : Aside (Byte l) := hby
  have HL : Aside (l.length = s) := hl
  have HS8 : Aside (s ≤ 8) := by show s ≤ 8; omega
  have HC : Aside (∀ w, Calls Tryz.prog 203 #[.slice (some ⟨cb, o, none⟩) n c, .int .i64 (at_ : Int), .int .i64 (s : Int)] w fun e w' => e = .returned (.int .i64 0) ∧ Below w.heap.size w w') := bcheck_calls hs hm hn hb
  clear hx hby hl hs hm
  go_enter Tryz.func202, Tryz.ntmps202
  go_wp2_with fail
  refine (HC.out _).mono ?_
  rintro e w1 ⟨rfl, hb1⟩
  have HW : Aside (Below w.heap.size w w1) := hb1
  clear hb1
  go_wp2_with fail
  go_loopw [9, 19] (fun v i wr => ∃ k : Nat, k ≤ s ∧ i = .int .i64 k ∧ v = .int .u64 (fromLe (l.take k)) ∧ wr = w1)
    (fun _ i _ => s - (RowKit.intOf i).toNat)
  case atStart => exact ⟨0, by omega, rfl, by simp [fromLe], rfl⟩
  case round =>
    obtain ⟨k, hk, rfl, rfl, rfl⟩ := hrel
    by_cases hlt : k < s
    · obtain ⟨u, hu⟩ : ∃ u, l[k]? = some u := ⟨_, List.getElem?_eq_getElem (by rw [HL.out]; exact hlt)⟩
      have hcw := HX.out k u hu
      have hcb : cb < w.heap.size := World.block_lt_of_cell? w _ hcw
      have c0 : wr.cell? ⟨cb, o + (at_ + k), none⟩ = some (.int .u8 u) := by rw [HW.out.cell (by show cb < _; exact hcb)]; exact hcw
      have HU : Aside (l[k]? = some u) := hu
      have hub := HY.out u (List.mem_of_getElem? hu)
      have h8 := HS8.out
      have hi : (k : Int) < (s : Int) := by omega
      have hwa : IntKind.i64.wrap ((at_ : Int) + (k : Int)) = (at_ : Int) + (k : Int) := IntWalk.i64_in _ (by omega)
      have hi2 : (at_ : Int) + (k : Int) < (n : Int) := by omega
      have hi3 : 0 ≤ (at_ : Int) + (k : Int) := by omega
      have htn : ((at_ : Int) + (k : Int)).toNat = at_ + k := by omega
      have hw8 : IntKind.i64.wrap (8 * (k : Int)) = 8 * (k : Int) := IntWalk.i64_in _ (by omega)
      have HLT : Aside (0 ≤ fromLe (l.take k) ∧ fromLe (l.take k) < 256 ^ k) := by
        have := fromLe_lt (l.take k) (fun x hx => HY.out x (List.mem_of_mem_take hx))
        rw [List.length_take, HL.out, Nat.min_eq_left (by omega)] at this
        exact this
      have HOR : Aside (bits .or .u64 (fromLe (l.take k)) (u * 256 ^ k) = fromLe (l.take (k + 1))) := by
        show _ = _
        rw [or_add _ _ _ (by omega) HLT.out.1 HLT.out.2 hub.1 hub.2, List.take_add_one, HU.out]
        simp only [Option.toList_some]
        rw [fromLe_snoc, List.length_take, HL.out, Nat.min_eq_left (by omega)]
      generalize hq : fromLe (l.take k) = q at *
      clear hu hcw hq hcb
      go_wp2_with fail
      go_roundw
      case rel =>
        refine ⟨k + 1, by omega, by go_num, ?_, trivial⟩
        rw [wrap_shift u k (by omega) hub.1 hub.2, HOR.out]
      case measure => simp [RowKit.intOf]; omega
    · have : k = s := by omega
      subst this
      have HE : Aside (fromLe (l.take k) = fromLe l) := by
        show _ = _
        rw [← HL.out, List.take_length]
      go_wp2_with fail
      go_ret2
      rw [HE.out]
      exact ⟨rfl, HW.out⟩
end Go.Proofs.YtmjogmpgamlhaaaGreat

namespace Go.Proofs.YtmjogmpgamlhaaaGreat
open Go Go.RowKit Go.Lib Go.Proofs.YtmjogmpgamlhaaaGreat.Dm Go.Shelf

theorem fromLe_nat : ∀ l : List Nat, fromLe (l.map fun (a : Nat) => (a : Int)) = ((leNat l : Nat) : Int)
  | [] => rfl
  | a :: l => by
    have := fromLe_nat l
    simp only [List.map_cons, fromLe, this, leNat]
    show (a : Int) + 256 * ((leNat l : Nat) : Int) = ((a + 256 * leNat l : Nat) : Int)
    simp

theorem sz_enters : Dm.Enters Tryz.prog 202 := ⟨Tryz.f202, by kernel_rfl, by kernel_rfl, by kernel_rfl⟩

theorem getOk : GetOk Tryz.prog 202 := by
  refine ⟨sz_enters, fun {cb o n c at_ s l} hs hm hn hb w hl hby hx => ?_⟩
  have h := get_calls (l := l.map fun (a : Nat) => (a : Int)) (cb := cb) (o := o) (c := c) hs hm hn hb w (by simpa using hl) (fun x hx => by
    rw [List.mem_map] at hx
    obtain ⟨a, ha, rfl⟩ := hx
    have := hby a ha
    omega) (fun j u hu => by
    rw [List.getElem?_map, Option.map_eq_some_iff] at hu
    obtain ⟨a, ha, rfl⟩ := hu
    exact hx j a ha)
  rw [fromLe_nat] at h
  exact h

theorem insEnters : Dm.Enters Tryz.prog (rz.f 21) := ⟨Tryz.f316, by kernel_rfl, by kernel_rfl, by kernel_rfl⟩
theorem insOk : OvOk Tryz.prog (ovIns 316) := ovIns_ok laysIns insEnters

/-- The evaluator, with bits.Get and slices.Insert by their contracts. -/
noncomputable def ovA : CallK → CallK := fun call => ovGet 202 (ovIns 316 call)
theorem ovA_ok : OvOk Tryz.prog ovA := fun c hc => ovGet_ok getOk _ (insOk c hc)
noncomputable def evA (n : Nat) : Ks := runsK Tryz.prog ovA n
theorem evA_ok (n : Nat) : KOk Tryz.prog (evA n).k ∧ CallOk Tryz.prog (evA n).c := runsK_ok mixedP noGor ovA_ok n
end Go.Proofs.YtmjogmpgamlhaaaGreat
