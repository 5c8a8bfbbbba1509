/- The document's num. -/
import Derived.Test.YtdlnipimljpmgaaIR2
import Derived.Test.YtdlnipimljpmgaaIP2
set_option linter.unusedVariables false
set_option linter.unusedSimpArgs false
set_option linter.unusedSectionVars false
set_option linter.unnecessarySimpa false
namespace Go.Proofs.Ytdlnipimljpmgaa
open Go Go.RowKit Go.Im Go.Lib

theorem num_step {l : List Int} {p j m : Nat} {u : Int} (hj : j < m) (hu : l[p + j]? = some u) : fromLe ((l.drop (p + j)).take (m - j)) = u + 256 * fromLe ((l.drop (p + (j + 1))).take (m - (j + 1))) := by
  have hlt : p + j < l.length := (List.getElem?_eq_some_iff.1 hu).1
  have he : l[p + j] = u := by
    have := List.getElem?_eq_getElem hlt
    rw [this] at hu
    simpa using hu
  rw [List.drop_eq_getElem_cons hlt, show m - j = (m - (j + 1)) + 1 by omega, List.take_succ_cons, fromLe, he]
  rfl

theorem take_lt {l : List Int} (h : Byte l) (p m : Nat) (hm : m ≤ 7) : 0 ≤ fromLe ((l.drop p).take m) ∧ fromLe ((l.drop p).take m) < 72057594037927936 := by
  have h1 := fromLe_lt ((l.drop p).take m) (fun x hx => h x (List.mem_of_mem_drop (List.mem_of_mem_take hx)))
  refine ⟨h1.1, Int.lt_of_lt_of_le h1.2 ?_⟩
  have h2 : ((l.drop p).take m).length ≤ 7 := by simp; omega
  have : (256 : Nat) ^ ((l.drop p).take m).length ≤ 256 ^ 7 := Nat.pow_le_pow_right (by decide) h2
  have e : ((256 : Int) ^ ((l.drop p).take m).length) = ((256 ^ ((l.drop p).take m).length : Nat) : Int) := by simp
  rw [e]
  omega

set_option maxRecDepth 100000 in
set_option maxHeartbeats 1000000 in
theorem num_any (a : Option Addr) (n c B p m : Nat) (l : List Int) (w : World) (hn : l.length = n) (hb : n ≤ 1000000000) (hp : p + m ≤ n) (hm : m ≤ 8) (hB : Byte l) (hx : Bs B w (.slice a n c) l) :
    Calls Try.prog 39 #[.slice a n c, .int .i64 p, .int .i64 m] w fun e w' => e = .returned (.int .u64 (num l p m)) ∧ w' = w := by
  have HX : Aside (Bs B w (.slice a n c) l) := hx
  have HY : Aside (Byte l) := hB
  have HN : Aside (l.length = n) := hn
  clear hx hB hn
  have hw0 : IntKind.i64.wrap ((m : Int) - 1) = (m : Int) - 1 := IntWalk.i64_in _ (by omega)
  go_enter Try.func39, Try.ntmps39
  go_wp2_with fail
  go_loopw [7, 8] (fun v i wr => ∃ j : Nat, j ≤ m ∧ i = .int .i64 ((j : Int) - 1) ∧ v = .int .u64 (fromLe ((l.drop (p + j)).take (m - j))) ∧ wr = w)
    (fun _ i _ => (RowKit.intOf i + 1).toNat)
  case atStart => exact ⟨m, Nat.le_refl _, rfl, by simp [fromLe], rfl⟩
  case round =>
    obtain ⟨j, hj, rfl, rfl, rfl⟩ := hrel
    by_cases h0 : j = 0
    · subst h0
      have hneg : ¬ (0 : Int) ≤ ((0 : Nat) : Int) - 1 := by omega
      go_wp2_with fail
      go_ret
      exact ⟨rfl, rfl⟩
    · obtain ⟨j, rfl⟩ : ∃ i, j = i + 1 := ⟨j - 1, by omega⟩
      obtain ⟨b, off, u, rfl, hB, hu, hc⟩ := HX.out.at (j := p + j) (by rw [HN.out]; omega)
      have hub := HY.out u (List.mem_of_getElem? hu)
      have hst := num_step (m := m) (by omega) hu
      have hlt := take_lt HY.out (p + (j + 1)) (m - (j + 1)) (by omega)
      obtain ⟨z, hz⟩ : ∃ z, fromLe ((l.drop (p + (j + 1))).take (m - (j + 1))) = z := ⟨_, rfl⟩
      rw [hz] at hst hlt ⊢
      have HST : Aside (fromLe ((l.drop (p + j)).take (m - j)) = u + 256 * z) := hst
      have e1 : (((j + 1 : Nat) : Int) - 1) = (j : Int) := by omega
      rw [e1]
      clear hst hz h0 hu
      have hpj0 : 0 ≤ (p : Int) + (j : Int) := by omega
      have hpj : (p : Int) + (j : Int) < (n : Int) := by omega
      have htn : ((p : Int) + (j : Int)).toNat = p + j := by omega
      go_upto_region 4 with fail
      have HZ : Aside (z * 256 + u = fromLe ((l.drop (p + j)).take (m - j))) := by
        show _ = _
        rw [HST.out]; omega
      have hwj : IntKind.i64.wrap ((j : Int) - 1) = (j : Int) - 1 := IntWalk.i64_in _ (by omega)
      rw [HZ.out]
      go_wp2_with fail
      go_roundw
      case rel => exact ⟨j, by omega, (by first | trivial | rfl), (by first | trivial | rfl), (by first | trivial | rfl)⟩
      case measure => simp [RowKit.intOf]
end Go.Proofs.Ytdlnipimljpmgaa
