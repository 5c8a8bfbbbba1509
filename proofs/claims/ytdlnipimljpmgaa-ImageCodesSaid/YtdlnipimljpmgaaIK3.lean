/- The document's words and sums of pages. -/
import Derived.Test.YtdlnipimljpmgaaIK2
set_option linter.unusedVariables false
set_option linter.unusedSimpArgs false
set_option linter.unusedSectionVars false
set_option linter.unnecessarySimpa false
namespace Go.Proofs.Ytdlnipimljpmgaa
open Go Go.RowKit Go.Im Go.Lib Go.Fl

set_option maxRecDepth 100000 in
set_option maxHeartbeats 1000000 in
theorem word_calls (a : Option Addr) (c B k : Nat) (l : List Int) (w : World) (hn : l.length = 4096) (hk : k < 512) (hB : Byte l) (hx : Bs B w (.slice a 4096 c) l) :
    Calls Try.prog 44 #[.slice a 4096 c, .int .i64 (k : Int)] w fun e w' => e = .returned (.int .u64 (wd l k)) ∧ w' = w := by
  have HX : Aside (Bs B w (.slice a 4096 c) l) := hx
  have HY : Aside (Byte l) := hB
  have HN : Aside (l.length = 4096) := hn
  clear hx hB hn
  go_enter Try.func44, Try.ntmps44
  go_wp2_with fail
  go_loopw [5, 6] (fun v i wr => ∃ j : Nat, j ≤ 8 ∧ i = .int .i64 ((j : Int) - 1) ∧ v = .int .u64 (fromLe ((l.drop (8 * k + j)).take (8 - j))) ∧ wr = w)
    (fun _ i _ => (RowKit.intOf i + 1).toNat)
  case atStart => exact ⟨8, by omega, rfl, by simp [fromLe], rfl⟩
  case round =>
    obtain ⟨j, hj, rfl, rfl, rfl⟩ := hrel
    by_cases h0 : j = 0
    · subst h0
      have hneg : ¬ (0 : Int) ≤ ((0 : Nat) : Int) - 1 := by omega
      go_wp2_with fail
      go_ret
      exact ⟨rfl, rfl⟩
    · obtain ⟨j, rfl⟩ : ∃ i, j = i + 1 := ⟨j - 1, by omega⟩
      obtain ⟨b, off, u, rfl, hB, hu, hc⟩ := HX.out.at (j := 8 * k + j) (by rw [HN.out]; omega)
      have hub := HY.out u (List.mem_of_getElem? hu)
      have hst := num_step (m := 8) (p := 8 * k) (by omega) hu
      have hlt := take_lt HY.out (8 * k + (j + 1)) (8 - (j + 1)) (by omega)
      obtain ⟨z, hz⟩ : ∃ z, fromLe ((l.drop (8 * k + (j + 1))).take (8 - (j + 1))) = z := ⟨_, rfl⟩
      rw [hz] at hst hlt ⊢
      have HST : Aside (fromLe ((l.drop (8 * k + j)).take (8 - j)) = u + 256 * z) := hst
      have e1 : (((j + 1 : Nat) : Int) - 1) = (j : Int) := by omega
      rw [e1]
      clear hst hz h0 hu
      have hw8 : IntKind.i64.wrap (8 * (k : Int)) = 8 * (k : Int) := IntWalk.i64_in _ (by omega)
      have hw9 : IntKind.i64.wrap (8 * (k : Int) + (j : Int)) = 8 * (k : Int) + (j : Int) := IntWalk.i64_in _ (by omega)
      have hpj0 : 0 ≤ 8 * (k : Int) + (j : Int) := by omega
      have hpj : 8 * (k : Int) + (j : Int) < 4096 := by omega
      have htn : (8 * (k : Int) + (j : Int)).toNat = 8 * k + j := by omega
      have hj0 : 0 ≤ (j : Int) := by omega
      go_upto_region 4 with fail
      have HZ : Aside (z * 256 + u = fromLe ((l.drop (8 * k + j)).take (8 - j))) := by
        show _ = _
        rw [HST.out]; omega
      have hwj : IntKind.i64.wrap ((j : Int) - 1) = (j : Int) - 1 := IntWalk.i64_in _ (by omega)
      rw [HZ.out]
      go_wp2_with fail
      go_roundw
      case rel => exact ⟨j, by omega, (by first | trivial | rfl), (by first | trivial | rfl), (by first | trivial | rfl)⟩
      case measure => simp [RowKit.intOf]

theorem tmod4 (k : Nat) : ((k : Int).tmod 4) = ((k % 4 : Nat) : Int) := by
  rw [Int.tmod_eq_emod_of_nonneg (by omega)]
  omega

set_option maxRecDepth 100000 in
theorem parts_calls (v : Int) (k : Nat) (hv : 0 ≤ v ∧ v < 18446744073709551616) (w : World) :
    Calls Try.prog 43 #[.int .u64 v, .int .i64 (k : Int)] w fun e w' => e = .returned (.tuple #[.int .i64 (rotRe (k % 4) (v % 4294967296) (v / 4294967296)), .int .i64 (rotIm (k % 4) (v % 4294967296) (v / 4294967296))]) ∧ w' = w := by
  have hq := tmod4 k
  have h1 : v.tmod 4294967296 = v % 4294967296 := Int.tmod_eq_emod_of_nonneg hv.1
  have h2 : v.tdiv 4294967296 = v / 4294967296 := Int.tdiv_eq_ediv_of_nonneg hv.1
  obtain ⟨p, hp⟩ : ∃ p, v % 4294967296 = p := ⟨_, rfl⟩
  obtain ⟨q, hq2⟩ : ∃ q, v / 4294967296 = q := ⟨_, rfl⟩
  have hp1 : IntKind.i64.wrap p = p := IntWalk.i64_in _ (by omega)
  have hp2 : IntKind.i64.wrap q = q := IntWalk.i64_in _ (by omega)
  have hp3 : IntKind.i64.wrap (-p) = -p := IntWalk.i64_in _ (by omega)
  have hp4 : IntKind.i64.wrap (-q) = -q := IntWalk.i64_in _ (by omega)
  have hp5 : IntKind.u64.wrap q = q := by rw [IntKind.wrap_u64]; omega
  have hp6 : wrap64 q = q := by unfold wrap64; omega
  have hp7 : wrap64 (-q) = -q := by unfold wrap64; omega
  have hp8 : wrap64 p = p := by unfold wrap64; omega
  have hp9 : wrap64 (-p) = -p := by unfold wrap64; omega
  rw [hp] at h1 ⊢
  rw [hq2] at h2 ⊢
  obtain ⟨r, hr⟩ : ∃ r, k % 4 = r := ⟨_, rfl⟩
  have hr4 : r < 4 := by omega
  rw [hr] at hq ⊢
  clear hr hp hq2 hv
  rcases (by omega : r = 0 ∨ r = 1 ∨ r = 2 ∨ r = 3) with rfl | rfl | rfl | rfl
  all_goals go_enter Try.func43, Try.ntmps43
  all_goals go_wp2_with fail
  all_goals refine bodyPost_ret (v := .tuple #[.int .i64 _, .int .i64 _]) (by simp [results, Try.results43, go_sem]; (try simp only [hp5, hp6, hp7, hp8, hp9]); exact ⟨rfl, rfl⟩) rfl ⟨rfl, rfl⟩
end Go.Proofs.Ytdlnipimljpmgaa
