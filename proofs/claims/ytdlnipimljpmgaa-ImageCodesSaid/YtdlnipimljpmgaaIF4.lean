/- digest.Of: a page's sum. -/
import Derived.Test.YtdlnipimljpmgaaIF3
import Derived.Test.YtdlnipimljpmgaaIW3
import Derived.Test.YtdlnipimljpmgaaIW17
set_option linter.unusedVariables false
set_option linter.unusedSimpArgs false
set_option linter.unusedSectionVars false
set_option linter.unnecessarySimpa false
namespace Go.Proofs.Ytdlnipimljpmgaa
open Go Go.RowKit Go.Im Go.Lib Go.Fl

def wd (l : List Int) (k : Nat) : Int := fromLe ((l.drop (8 * k)).take 8)
def dg (l : List Int) : Nat → Int × Int
  | 0 => (0, 0)
  | k + 1 => ((dg l k).1 + rotRe (k % 4) (wd l k % 4294967296) (wd l k / 4294967296), (dg l k).2 + rotIm (k % 4) (wd l k % 4294967296) (wd l k / 4294967296))

theorem wd_lt {l : List Int} (h : Byte l) (k : Nat) : 0 ≤ wd l k ∧ wd l k < 18446744073709551616 := by
  have h1 := fromLe_lt ((l.drop (8 * k)).take 8) (fun x hx => h x (List.mem_of_mem_drop (List.mem_of_mem_take hx)))
  refine ⟨h1.1, Int.lt_of_lt_of_le h1.2 ?_⟩
  have h2 : ((l.drop (8 * k)).take 8).length ≤ 8 := by simp; omega
  have : (256 : Nat) ^ ((l.drop (8 * k)).take 8).length ≤ 256 ^ 8 := Nat.pow_le_pow_right (by decide) h2
  have e : ((256 : Int) ^ ((l.drop (8 * k)).take 8).length) = ((256 ^ ((l.drop (8 * k)).take 8).length : Nat) : Int) := by simp
  rw [e]
  omega

theorem dg_le {l : List Int} (h : Byte l) : ∀ k, (dg l k).1.natAbs ≤ k * 4294967296 ∧ (dg l k).2.natAbs ≤ k * 4294967296
  | 0 => by simp [dg]
  | k + 1 => by
    have ih := dg_le h k
    have hw := wd_lt h k
    have hr := rot_le (r := k % 4) (a := wd l k % 4294967296) (b := wd l k / 4294967296) (M := 4294967296) (by omega) (by omega)
    simp only [dg]
    omega

theorem and3_mod (k : Nat) (hk : k < 1000000000) : bits .and .i64 (k : Int) 3 = ((k % 4 : Nat) : Int) := by
  have e : bits .and .i64 (k : Int) 3 = IntKind.wrap .i64 ((BitVec.ofInt 64 (k : Int) &&& BitVec.ofInt 64 (3 : Int)).toNat : Int) := rfl
  have t : (BitVec.ofInt 64 (k : Int) &&& BitVec.ofInt 64 (3 : Int)).toNat = k % 4 := by
    rw [BitVec.toNat_and, BitVec.toNat_ofInt, BitVec.toNat_ofInt]
    have a1 : ((k : Int) % ((2 ^ 64 : Nat) : Int)).toNat = k := by omega
    have a2 : ((3 : Int) % ((2 ^ 64 : Nat) : Int)).toNat = 2 ^ 2 - 1 := by decide
    rw [a1, a2, Nat.and_two_pow_sub_one_eq_mod]
  rw [e, t, IntKind.wrap_i64]
  omega

set_option maxRecDepth 100000 in
set_option maxHeartbeats 2000000 in
theorem Dig_any (a : Option Addr) (c B : Nat) (l : List Int) (w : World) (hn : l.length = 4096) (hb : Byte l) (hx : Bs B w (.slice a 4096 c) l) (hBw : B ≤ w.heap.size) :
    Calls Try.prog 30 #[.slice a 4096 c] w fun e w' => e = .returned (.tuple #[.complex .f64 (fb (dg l 512).1) (fb (dg l 512).2), .int .i64 0]) ∧ w' = w := by
  have HX : Aside (Bs B w (.slice a 4096 c) l) := hx
  have HY : Aside (Byte l) := hb
  have HN : Aside (l.length = 4096) := hn
  clear hx hb hn
  go_enter Try.func30, Try.ntmps30
  go_wp2_with fail
  go_loopw [4, 11] (fun z i wr => ∃ k : Nat, k ≤ 512 ∧ i = .int .i64 k ∧ z = .complex .f64 (fb (dg l k).1) (fb (dg l k).2) ∧ wr = w)
    (fun _ i _ => 512 - (RowKit.intOf i).toNat)
  case atStart => exact ⟨0, by omega, rfl, rfl, rfl⟩
  case round =>
    obtain ⟨k, hk, rfl, rfl, rfl⟩ := hrel
    by_cases hlt : k < 512
    · have hi : (k : Int) < 512 := by omega
      go_wp2_with fail
      go_loopw [6, 14] (fun v i wr2 => ∃ j : Nat, j ≤ 8 ∧ i = .int .i64 j ∧ v = .int .u64 (fromLe ((l.drop (8 * k)).take j)) ∧ wr2 = wr)
        (fun _ i _ => 8 - (RowKit.intOf i).toNat)
      case atStart => exact ⟨0, by omega, rfl, by simp [fromLe], rfl⟩
      case round =>
        obtain ⟨j, hj, rfl, rfl, rfl⟩ := hrel
        by_cases hlt2 : j < 8
        · obtain ⟨b, off, u, rfl, hB, hu, hc⟩ := HX.out.at (j := 8 * k + j) (by rw [HN.out]; omega)
          have HU : Aside ((l.drop (8 * k))[j]? = some u) := by show _ = _; rw [List.getElem?_drop]; exact hu
          have hub := HY.out u (List.mem_of_getElem? hu)
          have hi2 : (j : Int) < 8 := by omega
          have hw1 : IntKind.i64.wrap (8 * (k : Int)) = 8 * (k : Int) := by rw [IntKind.wrap_i64]; omega
          have hw2 : IntKind.i64.wrap (8 * (k : Int) + (j : Int)) = ((8 * k + j : Nat) : Int) := by rw [IntKind.wrap_i64]; omega
          have hwi : ((8 * k + j : Nat) : Int) < 4096 := by omega
          have HLT : Aside (0 ≤ fromLe ((l.drop (8 * k)).take j) ∧ fromLe ((l.drop (8 * k)).take j) < 256 ^ j) := by
            have := fromLe_lt ((l.drop (8 * k)).take j) (fun x hx => HY.out x (List.mem_of_mem_drop (List.mem_of_mem_take hx)))
            rw [List.length_take, List.length_drop, HN.out, Nat.min_eq_left (by omega)] at this
            exact this
          have HOR : Aside (bits .or .u64 (fromLe ((l.drop (8 * k)).take j)) (u * 256 ^ j) = fromLe ((l.drop (8 * k)).take (j + 1))) := by
            show _ = _
            rw [or_add _ _ _ hlt2 HLT.out.1 HLT.out.2 hub.1 hub.2, List.take_add_one, HU.out]
            simp only [Option.toList_some]
            rw [fromLe_snoc, List.length_take, List.length_drop, HN.out, Nat.min_eq_left (by omega)]
          generalize hq : fromLe ((l.drop (8 * k)).take j) = q at *
          clear hu hq
          go_wp2_with fail
          go_roundw
          case rel =>
            refine ⟨j + 1, by omega, by go_num, ?_, trivial⟩
            rw [wrap_shift u j hlt2 hub.1 hub.2, HOR.out]
          case measure => simp [RowKit.intOf]; omega
        · have : j = 8 := by omega
          subst this
          have hwd : fromLe ((l.drop (8 * k)).take 8) = wd l k := rfl
          have hwb := wd_lt HY.out k
          have HWB : Aside (0 ≤ wd l k ∧ wd l k < 18446744073709551616) := hwb
          have hd := dg_le HY.out k
          have hr := rot_le (r := k % 4) (a := wd l k % 4294967296) (b := wd l k / 4294967296) (M := 4294967296) (by omega) (by omega)
          have hs1 := add_fb (a := (dg l k).1) (b := rotRe (k % 4) (wd l k % 4294967296) (wd l k / 4294967296)) (by omega) (by omega) (by omega)
          have hs2 := add_fb (a := (dg l k).2) (b := rotIm (k % 4) (wd l k % 4294967296) (wd l k / 4294967296)) (by omega) (by omega) (by omega)
          have hadd : ∀ w, Sem.run Try.prog (binOp .add 38 (.complex .f64 (fb (dg l k).1) (fb (dg l k).2)) (.complex .f64 (fb (rotRe (k % 4) (wd l k % 4294967296) (wd l k / 4294967296))) (fb (rotIm (k % 4) (wd l k % 4294967296) (wd l k / 4294967296))))) w = .ok (.complex .f64 (fb (dg l (k + 1)).1) (fb (dg l (k + 1)).2)) w :=
            fun w => run_complex_sum w .add (.inl rfl) 38 .f64 _ _ _ _ _ _ (by unfold cSumBits; rw [hs1, hs2]; rfl)
          have HT : Aside (∀ w, Calls Try.prog 21 #[.complex .f64 (fb (wd l k % 4294967296)) (fb (wd l k / 4294967296)), .int .i64 (k : Int)] w fun e w' => e = .returned (.complex .f64 (fb (rotRe (k % 4) (wd l k % 4294967296) (wd l k / 4294967296))) (fb (rotIm (k % 4) (wd l k % 4294967296) (wd l k / 4294967296)))) ∧ w' = w) :=
            Turn_calls (Wh.of _) (Wh.of _) (by omega) (by omega) (k : Int) (k % 4) (by omega) (and3_mod k (by omega))
          clear hwb hd hr hs1 hs2
          rw [hwd]
          generalize wd l k = wv at *
          go_wp2_with fail
          refine (Word_calls wv HWB.out _).mono ?_
          rintro e w' ⟨rfl, rfl⟩
          go_wp2_with fail
          refine (HT.out _).mono ?_
          rintro e w' ⟨rfl, rfl⟩
          go_wp2_with fail
          go_roundw
          case rel => exact ⟨k + 1, by omega, by go_num, rfl, trivial⟩
          case measure => simp [RowKit.intOf]; omega
    · have : k = 512 := by omega
      subst this
      go_wp2_with fail
      refine bodyPost_ret (v := .tuple #[.complex .f64 (fb (dg l 512).1) (fb (dg l 512).2), .int .i64 0]) (by simp [results, Try.results30, go_sem]) rfl ⟨rfl, rfl⟩
end Go.Proofs.Ytdlnipimljpmgaa
