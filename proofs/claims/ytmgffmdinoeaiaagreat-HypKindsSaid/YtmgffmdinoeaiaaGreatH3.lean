import Derived.Test.YtmgffmdinoeaiaaGreatHA
import Derived.Test.YtmgffmdinoeaiaaGreatHB
import Derived.Test.YtmgffmdinoeaiaaGreatHC
set_option linter.unusedVariables false
set_option linter.unusedSimpArgs false
set_option linter.unusedSectionVars false
set_option maxRecDepth 100000
namespace Go.Proofs.YtmgffmdinoeaiaaGreat
open Go Go.Proofs.YtmgffmdinoeaiaaGreat.Dm Go.RowKit

theorem enters6 : Enters Tryz.prog 6 := by
  refine ⟨Tryz.f6, Tryz.func6, by kernel_rfl, by kernel_rfl⟩

theorem told_calls (w : World) : Calls Tryz.prog 6 #[] w fun e w' => e = .returned (.bool true) ∧ Below w.heap.size w w' :=
  calls_true (args := []) («as» := #[]) (runs_ok mixed names 100000) trivial told_run w

theorem kk_ok : KOk Tryz.prog kk.k ∧ CallOk Tryz.prog kk.c :=
  runsK_ok mixed names (ov := ov) (fun call hc => ovTrue_ok enters6 told_calls _ (ovKnown_ok (runs_ok mixed names 100000) new_run call hc)) 100000

/-- The slots behind the first two regions. -/
noncomputable def fA (n : Int) : Fr := ⟨93, (argsIn 0 [num n] .e).put (some (.cv (.sc (.b false)))) 2⟩
noncomputable def kOf (n : Int) : Int := Int.tmod (wr .i64 (Int.add (Int.tmod n 40) 40)) 40
noncomputable def fB (n : Int) : Fr := ⟨93, (((((fA n).t.put (some (num n)) 9).put (some (num (Int.tmod n 40))) 10).put (some (num (wr .i64 (Int.add (Int.tmod n 40) 40)))) 11).put (some (num (kOf n))) 12).put (some (num (kOf n))) 3⟩
theorem p0 (n : Int) : kk.k pre0 ⟨93, argsIn 0 [num n] .e⟩ Heap.nil = .nrm (fA n) Heap.nil := by kernel_rfl
theorem p1 (n : Int) : kk.k pre1 (fA n) Heap.nil = .nrm (fB n) Heap.nil := by kernel_rfl

theorem good_ret {r : Res} (h : good r = true) : ∃ fr h', r = .ret fr h' ∧ fr.t.get 2 = some (.cv (.sc (.b true))) := by
  unfold good at h
  split at h
  · rename_i fr h'
    split at h
    · rename_i x hx
      subst h
      exact ⟨fr, h', rfl, hx⟩
    · cases h
  · cases h

theorem by_kind {n : Int} {k : Nat} (hk : kOf n = .ofNat k) (hg : good (kk.k rest (fr2 n k) Heap.nil) = true) (w : World) :
    Calls Tryz.prog 3 #[.int .i64 n] w fun e w' => e = .returned (.bool true) ∧ Below w.heap.size w w' := by
  obtain ⟨fr, h', hr, h2⟩ := good_ret hg
  have r0 : Runs Tryz.prog pre0 ⟨93, argsIn 0 [num n] .e⟩ Heap.nil (.nrm (fA n) Heap.nil) := Runs.of kk_ok.1 (p0 n) rfl
  have r1 : Runs Tryz.prog pre1 (fA n) Heap.nil (.nrm (fB n) Heap.nil) := Runs.of kk_ok.1 (p1 n) rfl
  have r2 : Runs Tryz.prog rest (fr2 n k) Heap.nil (.ret fr h') := Runs.of kk_ok.1 hr rfl
  have r3 : Runs Tryz.prog rest (fB n) Heap.nil (.ret fr h') := by
    refine Runs.weak (fr := fB n) (fr' := fr2 n k) rfl (fun t v ht => ?_) r2
    have ht : (((Tr.e.put (some (num n)) 0).put (some (.cv (.sc (.b false)))) 2).put (some (num (.ofNat k))) 3).get t = some v := ht
    show ((((((((Tr.e : Tr AV).put (some (num n)) 0).put (some (.cv (.sc (.b false)))) 2).put (some (num n)) 9).put (some (num (Int.tmod n 40))) 10).put (some (num (wr .i64 (Int.add (Int.tmod n 40) 40)))) 11).put (some (num (kOf n))) 12).put (some (num (kOf n))) 3).get t = some v
    simp only [Tr.get_put, Tr.get_e] at ht ⊢
    by_cases e3 : t = 3
    · rw [if_pos e3] at ht ⊢; rw [hk]; exact ht
    · rw [if_neg e3] at ht ⊢
      by_cases e2 : t = 2
      · subst e2; exact ht
      · rw [if_neg e2] at ht
        by_cases e0 : t = 0
        · subst e0; exact ht
        · rw [if_neg e0] at ht; cases ht
  have hb : Runs Tryz.prog (pre0.seq (pre1.seq rest)) ⟨93, argsIn 0 [num n] .e⟩ Heap.nil (.ret fr h') := Runs.seq rfl r0 (Runs.seq rfl r1 r3)
  refine calls_of_runs (fn := Tryz.f3) (args := [num n]) («as» := #[.int .i64 n]) Tryz.func3 body_eq (by show 1 ≤ 93; decide) ⟨rfl, trivial⟩ (v := num n) hb ?_ w
  have hres : Tryz.f3.results.toList = [.tmp 2] := rfl
  unfold fnDone
  simp only [hres, resA, h2]

theorem hyp_any (n : Int) (w : World) : Calls Tryz.prog 3 #[.int .i64 n] w fun e w' => e = .returned (.bool true) ∧ Below w.heap.size w w' := by
  cases n with
  | ofNat a =>
    by_cases h : a < 40
    · exact calls_true (args := [num (.ofNat a)]) («as» := #[.int .i64 (.ofNat a)]) kk_ok.2 ⟨rfl, trivial⟩ (a_all a h) w
    · obtain ⟨m, rfl⟩ : ∃ m, a = Nat.add m 40 := ⟨a - 40, by show a = a - 40 + 40; omega⟩
      refine by_kind (k := m % 40) ?_ (b_all m _ (Nat.mod_lt _ (by decide))) w
      unfold kOf
      rw [wr_eq]
      have e1 : Int.tmod (Int.ofNat (Nat.add m 40)) 40 = Int.ofNat (m % 40) := by
        show Int.ofNat ((m + 40) % 40) = Int.ofNat (m % 40)
        rw [Nat.add_mod_right]
      rw [e1]
      have hlt : m % 40 < 40 := Nat.mod_lt _ (by decide)
      have e2 : IntKind.wrap .i64 (Int.add (Int.ofNat (m % 40)) 40) = Int.ofNat (m % 40 + 40) := by
        rw [← wr_eq]
        show wr .i64 (Int.ofNat (m % 40 + 40)) = _
        unfold wr
        have : Nat.blt (m % 40 + 40) 9223372036854775808 = true := Nat.ble_eq_true_of_le (by omega)
        simp only [this, cnd_true]
      rw [e2]
      show Int.ofNat ((m % 40 + 40) % 40) = Int.ofNat (m % 40)
      rw [Nat.add_mod_right, Nat.mod_mod]
  | negSucc m =>
    have hx : ∃ j : Nat, j ≤ 39 ∧ Int.tmod (Int.negSucc m) 40 = -(j : Int) := by
      refine ⟨(m + 1) % 40, by have := Nat.mod_lt (m + 1) (show 0 < 40 by decide); omega, ?_⟩
      rfl
    obtain ⟨j, hj, e1⟩ := hx
    refine by_kind (k := (40 - j) % 40) ?_ (c_all m _ (Nat.mod_lt _ (by decide))) w
    unfold kOf
    rw [e1]
    have e2 : Int.add (-(j : Int)) 40 = Int.ofNat (40 - j) := by
      show -(j : Int) + 40 = ((40 - j : Nat) : Int)
      omega
    rw [e2]
    have e3 : wr .i64 (Int.ofNat (40 - j)) = Int.ofNat (40 - j) := by
      unfold wr
      have : Nat.blt (40 - j) 9223372036854775808 = true := Nat.ble_eq_true_of_le (by omega)
      simp only [this, cnd_true]
    rw [e3]
    rfl
end Go.Proofs.YtmgffmdinoeaiaaGreat
