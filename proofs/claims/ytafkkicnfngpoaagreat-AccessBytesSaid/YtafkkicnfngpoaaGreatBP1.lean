/- bits.Put by its contract. -/
import Derived.Test.YtafkkicnfngpoaaGreatAL1
import Derived.OwnWalk
import Derived.Maps.AppendAt
set_option linter.unusedVariables false
set_option linter.unusedSimpArgs false
set_option linter.unusedSectionVars false
namespace Go.Proofs.YtafkkicnfngpoaaGreat
open Go Go.RowKit Go.Lib Go.Proofs.YtafkkicnfngpoaaGreat.Dm

/-- The bytes behind a store of k bytes of v. -/
def putL (l : List Int) (x v : Nat) : Nat → List Int
  | 0 => l
  | k + 1 => (putL l x v k).set (x + k) ((v / 256 ^ k % 256 : Nat) : Int)

theorem putL_length (l : List Int) (x v : Nat) : ∀ k, (putL l x v k).length = l.length
  | 0 => rfl
  | k + 1 => by simp [putL, putL_length l x v k]

theorem info5z : (Tryz.prog.info? 5).map (fun i => (i.zero, i.size, i.bytes)) = some (some (.int .u8 0), 1, 1) := by kernel_rfl

theorem shr_byte (v k : Nat) : (v : Int) / 2 ^ (8 * k) % 256 = ((v / 256 ^ k % 256 : Nat) : Int) := by
  have e : ((2 : Int) ^ (8 * k)) = ((256 ^ k : Nat) : Int) := by
    rw [Int.pow_mul]; simp
  rw [e, ← Int.natCast_ediv]
  omega

theorem own_form {w : World} {base n : Nat} {xs : List Value} {v : Value} (h : w.ownsRow base 5 1 v n xs) (hn : 0 < n) : ∃ g cap, v = .slice (some ⟨g, 0, none⟩) n cap ∧ base ≤ g := by
  rcases h.2 with ⟨_, h0⟩ | ⟨g, cap, cur, rfl, hb, _⟩
  · omega
  · exact ⟨g, cap, rfl, hb⟩

theorem own_cell {w : World} {base g cap n : Nat} {xs : List Value} (h : w.ownsRow base 5 1 (.slice (some ⟨g, 0, none⟩) n cap) n xs) {j : Nat} (hj : j < n) : (∃ u, w.cell? ⟨g, j, none⟩ = some u) ∧ w.frozen? ⟨g, j, none⟩ = false ∧ g < w.heap.size := by
  rcases h.2 with ⟨h', _⟩ | ⟨g', cap', cur, h', hb, hg, hnc, hcm, hcs, htake⟩
  · simp at h'
  · simp only [Value.slice.injEq, Option.some.injEq, Addr.mk.injEq, and_true, true_and] at h'
    obtain ⟨rfl, rfl⟩ := h'
    have hlt : j < cur.size := by omega
    refine ⟨⟨cur[j], ?_⟩, ?_, ?_⟩
    · simp only [World.cell?, hg]; simp [hlt]
    · simp only [World.frozen?, hg]; simp
    · by_cases hlt : g < w.heap.size
      · exact hlt
      · rw [Array.getElem?_eq_none (by omega)] at hg; cases hg

set_option maxRecDepth 100000 in
set_option maxHeartbeats 0 in
theorem put_calls {cb c at_ s v : Nat} {l : List Int} (hs : s = 1 ∨ s = 2 ∨ s = 4 ∨ s = 8) (hm : at_ % s = 0) (hn : at_ + s ≤ 4096) (w : World) (hl : l.length = 4096)
    (hx : ∀ j u, l[j]? = some u → w.cell? ⟨cb, j, none⟩ = some (.int .u8 u)) :
    Calls Tryz.prog 53 #[.slice (some ⟨cb, 0, none⟩) 4096 c, .int .i64 (at_ : Int), .int .i64 (s : Int), .int .u64 (v : Int)] w fun e w' => ∃ g cap, e = .returned (.tuple #[.slice (some ⟨g, 0, none⟩) 4096 cap, .int .i64 0]) ∧
      w'.ownsRow w.heap.size 5 1 (.slice (some ⟨g, 0, none⟩) 4096 cap) 4096 ((putL l at_ v s).map (Value.int .u8)) ∧ Below w.heap.size w w' := by
  obtain ⟨i0, hi0, hz⟩ := Option.map_eq_some_iff.1 info5z
  simp only [Prod.mk.injEq] at hz
  obtain ⟨hz0, hz1, hz2⟩ := hz
  have hcb : cb < w.heap.size := World.block_lt_of_cell? w _ (hx 0 l[0] (by simp [hl]))
  have HX : Aside (∀ j u, l[j]? = some u → w.cell? ⟨cb, j, none⟩ = some (.int .u8 u)) := hx
  have HL : Aside (l.length = 4096) := hl
  have HS8 : Aside (s ≤ 8) := by show s ≤ 8; omega
  have HC : Aside (∀ w, Calls Tryz.prog 135 #[.slice (some ⟨cb, 0, none⟩) 4096 c, .int .i64 (at_ : Int), .int .i64 (s : Int)] w fun e w' => e = .returned (.int .i64 0) ∧ Below w.heap.size w w') := bcheck_calls hs hm hn (by decide)
  clear hx hl hs hm
  go_enter Tryz.func53, Tryz.ntmps53
  go_wp2_with fail
  refine (HC.out _).mono ?_
  rintro e w1 ⟨rfl, hb1⟩
  have HW : Aside (Below w.heap.size w w1) := hb1
  have HNW : Aside (∀ j u, (l.map (Value.int .u8))[j]? = some u → w1.cell? ((⟨cb, 0, none⟩ : Addr).add j) = some u) := by
    intro j u hj
    rw [List.getElem?_map, Option.map_eq_some_iff] at hj
    obtain ⟨x, hx, rfl⟩ := hj
    rw [Addr.add_lit, Nat.zero_add, hb1.cell (by show cb < _; exact hcb)]
    exact HX.out j x hx
  clear hb1
  go_wp2_with (at_builtin; refine wpList_append_own _ rfl _ _ 58 rfl w.heap.size 5 i0 _ 1 1 Tryz.underlying58 hi0 hz0 hz1 hz2 rfl (by decide) _ 0 [] rfl (World.ownsRow_nil _ _ _ _) ⟨cb, 0, none⟩ 4096 c (l.map (Value.int .u8)) rfl (by rw [List.length_map, HL.out]) HNW.out (by intro u hu; rw [List.mem_map] at hu; obtain ⟨x, -, rfl⟩ := hu; rfl) (by unfold maxLen; omega) (by omega) (by have := HW.out.size; omega) ?_; intro v' w2 hown hgrow hnil; rw [Nat.zero_add, List.nil_append] at hown; obtain ⟨g, cap, rfl, hgw⟩ := own_form hown (by decide); have HO : Aside (w2.ownsRow w.heap.size 5 1 (.slice (some ⟨g, 0, none⟩) 4096 cap) 4096 ((putL l at_ v 0).map (Value.int .u8))) := hown; have HW2 : Aside (Below w.heap.size w w2) := HW.out.grown (row := none) hgrow HW.out.size (by intro k hk; cases hk); clear hown hgrow hnil)
  go_loopw [23] (fun i wr => ∃ k : Nat, k ≤ s ∧ i = .int .i64 k ∧ wr.ownsRow w.heap.size 5 1 (.slice (some ⟨g, 0, none⟩) 4096 cap) 4096 ((putL l at_ v k).map (Value.int .u8)) ∧ Below w.heap.size w wr)
    (fun i _ => s - (RowKit.intOf i).toNat)
  case atStart => exact ⟨0, by omega, rfl, HO.out, HW2.out⟩
  case round =>
    obtain ⟨k, hk, rfl, hown, hbl⟩ := hrel
    have HO3 : Aside (wr.ownsRow w.heap.size 5 1 (.slice (some ⟨g, 0, none⟩) 4096 cap) 4096 ((putL l at_ v k).map (Value.int .u8))) := hown
    have HB3 : Aside (Below w.heap.size w wr) := hbl
    clear hbl
    by_cases hlt : k < s
    · obtain ⟨⟨u, c0⟩, c1, c2⟩ := own_cell hown (j := at_ + k) (by omega)
      have h8 := HS8.out
      have hi : (k : Int) < (s : Int) := by omega
      have hwa : IntKind.i64.wrap ((at_ : Int) + (k : Int)) = (at_ : Int) + (k : Int) := IntWalk.i64_in _ (by omega)
      have hi2 : (at_ : Int) + (k : Int) < (4096 : Int) := by omega
      have hi3 : 0 ≤ (at_ : Int) + (k : Int) := by omega
      have htn : ((at_ : Int) + (k : Int)).toNat = at_ + k := by omega
      have hw8 : IntKind.i64.wrap (8 * (k : Int)) = 8 * (k : Int) := IntWalk.i64_in _ (by omega)
      clear hown
      go_wp2_with fail
      go_roundw
      case rel =>
        refine ⟨k + 1, by omega, by go_num, ?_, ?_⟩
        · have := (HO3.out.stored (at_ + k) (.int .u8 ((v / 256 ^ k % 256 : Nat) : Int))).1
          rw [← List.map_set] at this
          rw [shr_byte v k]
          exact this
        · exact HB3.out.grown (HO3.out.stored (at_ + k) _).2 HB3.out.size (by intro k' hk'; simp at hk'; omega)
      case measure => simp [RowKit.intOf]; omega
    · have : k = s := by omega
      subst this
      clear hown
      go_wp2_with fail
      refine bodyPost_ret (v := .tuple #[.slice (some ⟨g, 0, none⟩) 4096 cap, .int .i64 0]) (by simp [results, Tryz.results53, go_sem]) rfl ⟨g, cap, rfl, HO3.out, HB3.out⟩
end Go.Proofs.YtafkkicnfngpoaaGreat
