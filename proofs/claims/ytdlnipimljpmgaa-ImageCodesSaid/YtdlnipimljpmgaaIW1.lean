/- image: one, put, used, wrong. -/
import Derived.Test.YtdlnipimljpmgaaProg
import Derived.Test.YtdlnipimljpmgaaIS1
import Derived.Test.YtdlnipimljpmgaaIP1
import Derived.OwnWalk
import Derived.Deep.LoopGhost
import Derived.Lib.Walk
import Derived.Lib.SliceRun
import Derived.Maps.AppendAt
set_option linter.unusedVariables false
set_option linter.unusedSimpArgs false
set_option linter.unusedSectionVars false
set_option linter.unnecessarySimpa false
namespace Go.Proofs.Ytdlnipimljpmgaa
open Go Go.RowKit Go.Im Go.Lib

theorem info5 : (Try.prog.info? 5).map (fun i => (i.zero, i.size, i.bytes)) = some (some (.int .u8 0), 1, 1) := by kernel_rfl

theorem cell_new0 {w : World} {cs : Array Value} {t j : Nat} {u : Value} (ob : Unit) (h : cs[j]? = some u) : (w.alloc (.cells cs t)).cell? ⟨w.heap.size, j, none⟩ = some u := by
  have h1 : (w.alloc (.cells cs t)).heap[w.heap.size]? = some (.cells cs t) := by
    show (w.heap.push (.cells cs t))[w.heap.size]? = _
    rw [Array.getElem?_push, if_pos rfl]
  simp only [World.cell?, h1]
  simpa using h

theorem one_one {v : Int} : ∀ u ∈ [Value.int .u8 v], u.oneCell' = true := by
  intro u hu
  simp only [List.mem_singleton] at hu
  subst hu; rfl

theorem slice_form0 {w : World} {base e size k : Nat} {v : Value} {xs : List Value} (h : w.ownsRow base e size v k xs) : ∃ va vc, v = .slice va k vc := by
  rcases h.2 with ⟨rfl, h0⟩ | ⟨gb, gc, cur, rfl, _⟩
  · exact ⟨none, 0, by rw [h0]⟩
  · exact ⟨_, _, rfl⟩

theorem one_calls (b : Bool) (w : World) : Calls Try.prog 24 #[.bool b] w fun e w' => e = .returned (.int .u64 (one b)) ∧ w' = w := by
  cases b
  all_goals
    go_enter Try.func24, Try.ntmps24
    go_wp2
    go_ret
    exact ⟨rfl, rfl⟩

theorem leB_snoc : ∀ (k : Nat) (v : Int), leB (k + 1) v = leB k v ++ [v / 256 ^ k % 256]
  | 0, v => by simp [leB]
  | k + 1, v => by
    rw [leB, leB_snoc k (v / 256)]
    have e : v / 256 / 256 ^ k = v / 256 ^ (k + 1) := by
      rw [Int.ediv_ediv_of_nonneg (by omega), Int.pow_succ, Int.mul_comm]
    rw [e]
    rfl

set_option maxRecDepth 100000 in
set_option maxHeartbeats 1000000 in
theorem put_calls {w : World} {base n c : Nat} {va : Option Addr} {xs : List Value} (v : Int) (size : Nat) (hsz : size ≤ 8) (h0 : 0 ≤ v) (h1 : v < 18446744073709551616) (hn : n ≤ 100000000) (hbase : base ≤ w.heap.size) (hown : w.ownsRow base 5 1 (.slice va n c) n xs) :
    Calls Try.prog 25 #[.slice va n c, .int .i64 size, .int .u64 v] w fun e w' => ∃ v', e = .returned v' ∧ w'.ownsRow base 5 1 v' (n + size) (xs ++ (leB size v).map (Value.int .u8)) ∧ Below base w w' := by
  obtain ⟨i0, hi0, hz⟩ := Option.map_eq_some_iff.1 info5
  simp only [Prod.mk.injEq] at hz
  obtain ⟨hz0, hz1, hz2⟩ := hz
  have HO : Aside (w.ownsRow base 5 1 (.slice va n c) n xs) := hown
  clear hown
  go_enter Try.func25, Try.ntmps25
  go_wp2
  go_loopw [0, 9] (fun u i wr => ∃ k : Nat, k ≤ size ∧ i = .int .i64 k ∧ ∃ (ua : Option Addr) (uc : Nat), u = .slice ua (n + k) uc ∧ wr.ownsRow base 5 1 (.slice ua (n + k) uc) (n + k) (xs ++ (leB k v).map (Value.int .u8)) ∧ Below base w wr)
    (fun _ i _ => size - (RowKit.intOf i).toNat)
  case atStart => exact ⟨0, Nat.zero_le _, rfl, va, c, rfl, by simpa [leB] using HO.out, Below.refl _ _⟩
  case round =>
    obtain ⟨k, hk, rfl, ua, uc, rfl, hrow, hbl⟩ := hrel
    have HR : Aside (wr.ownsRow base 5 1 (.slice ua (n + k) uc) (n + k) (xs ++ (leB k v).map (Value.int .u8))) := hrow
    have HB : Aside (Below base w wr) := hbl
    clear hrow hbl
    by_cases hlt : k < size
    · have hi : (k : Int) < (size : Int) := by omega
      have hk8 : (k : Int) < 8 := by omega
      go_wp2_with (at_builtin; refine wpList_append_own_at _ rfl _ _ 32 rfl base 5 i0 _ 1 1 Try.underlying32 hi0 hz0 hz1 hz2 rfl (by decide) _ (n + k) _ rfl (HR.out.alloc _) ⟨wr.heap.size, 0, none⟩ 1 1 [_] rfl rfl (cell_one_new _ _ _) one_one (by unfold maxLen; omega) (by omega) (by have := HB.out.size; simp; omega) ?_; intro v' w5 hown' hgrow hnil hloc)
      go_roundw
      case rel =>
        obtain ⟨va', vc', rfl⟩ := slice_form0 hown'
        refine ⟨k + 1, by omega, by go_num, va', vc', rfl, ?_, (HB.out.alloc (by have := HB.out.size; omega) _).grown hgrow (by have := HB.out.size; simp; omega) (fun j hj => (HR.out.lt j hj).1)⟩
        rw [leB_snoc, List.map_append, ← List.append_assoc]
        have e : (v / 2 ^ (8 * k)) % 256 = v / 256 ^ k % 256 := by rw [Int.pow_mul]; rfl
        rw [e] at hown'
        exact hown'
      case measure => simp [RowKit.intOf]; omega
    · have : k = size := by omega
      subst this
      go_wp2
      go_ret
      exact ⟨_, rfl, HR.out, HB.out⟩

theorem used_get : ∀ (l : List Int) (k : Nat), (∀ j u, k ≤ j → l[j]? = some u → u = 0) → (k = 0 ∨ ∃ u, l[k - 1]? = some u ∧ u ≠ 0) → used l = k
  | [], k, h1, h2 => by
    rcases h2 with rfl | ⟨u, h, _⟩
    · rfl
    · simp at h
  | b :: l, k, h1, h2 => by
    have hz : ∀ m, (∀ j u, m ≤ j → l[j]? = some u → u = 0) → (m = 0 ∨ ∃ u, l[m - 1]? = some u ∧ u ≠ 0) → used l = m := used_get l
    unfold used
    match k, h1, h2 with
    | 0, h1, h2 =>
      have h0 : used l = 0 := hz 0 (fun j u _ h => h1 (j + 1) u (by omega) (by simpa using h)) (.inl rfl)
      have hb : b = 0 := h1 0 b (Nat.le_refl _) rfl
      rw [h0, if_pos rfl, if_pos hb]
    | 1, h1, h2 =>
      have h0 : used l = 0 := hz 0 (fun j u _ h => h1 (j + 1) u (by omega) (by simpa using h)) (.inl rfl)
      have hb : b ≠ 0 := by
        rcases h2 with h | ⟨u, h, hu⟩
        · omega
        · simp at h
          subst h
          exact hu
      rw [h0, if_pos rfl, if_neg hb]
    | k + 2, h1, h2 =>
      have h0 : used l = k + 1 := hz (k + 1) (fun j u hj h => h1 (j + 1) u (by omega) (by simpa using h)) (.inr (by
        rcases h2 with h | ⟨u, h, hu⟩
        · omega
        · exact ⟨u, by simpa using h, hu⟩))
      rw [h0, if_neg (by omega)]

set_option maxRecDepth 100000 in
set_option maxHeartbeats 1000000 in
theorem used_any (a : Option Addr) (n c B : Nat) (l : List Int) (w : World) (hn : l.length = n) (hb : n ≤ 1000000000) (hx : Bs B w (.slice a n c) l) :
    Calls Try.prog 26 #[.slice a n c] w fun e w' => e = .returned (.int .i64 (used l)) ∧ Below w.heap.size w w' := by
  have HX : Aside (Bs B w (.slice a n c) l) := hx
  clear hx
  go_enter Try.func26, Try.ntmps26
  go_wp2
  go_loopw [3] (fun i wr => ∃ k : Nat, k ≤ n ∧ i = .int .i64 k ∧ wr = w ∧ (∀ j u, k ≤ j → l[j]? = some u → u = 0))
    (fun i _ => (RowKit.intOf i).toNat)
  case atStart => exact ⟨n, Nat.le_refl _, rfl, rfl, fun j u hj h => by rw [List.getElem?_eq_none (by omega)] at h; cases h⟩
  case round =>
    obtain ⟨k, hk, rfl, rfl, hz⟩ := hrel
    have HZ : Aside (∀ j u, k ≤ j → l[j]? = some u → u = 0) := hz
    clear hz
    by_cases h0 : k = 0
    · subst h0
      have HU : Aside (used l = 0) := used_get l 0 HZ.out (.inl rfl)
      go_wp2
      go_ret
      rw [HU.out]
      exact ⟨by first | trivial | rfl | go_num, Below.refl _ _⟩
    · obtain ⟨k, rfl⟩ : ∃ m, k = m + 1 := ⟨k - 1, by omega⟩
      obtain ⟨b, off, u, rfl, hB, hu, hc⟩ := HX.out.at (j := k) (by omega)
      have HU : Aside (l[k]? = some u) := hu
      have hkn : (k : Int) < (n : Int) := by omega
      clear hu h0
      by_cases hu0 : u = 0
      · subst hu0
        go_wp2
        go_roundw
        case rel =>
          refine ⟨k, by omega, by go_num, (by first | trivial | rfl), fun j u hj h => ?_⟩
          by_cases hjk : j = k
          · subst hjk
            have := HU.out.symm.trans h
            simp only [Option.some.injEq] at this
            exact this.symm
          · exact HZ.out j u (by omega) h
        case measure => simp [RowKit.intOf]
      · have HUU : Aside (used l = k + 1) := used_get l (k + 1) HZ.out (.inr ⟨u, HU.out, hu0⟩)
        go_wp2
        go_ret
        rw [HUU.out]
        exact ⟨by first | trivial | rfl | go_num, Below.refl _ _⟩

theorem used_calls {B : Nat} {w : World} {v : Value} {l : List Int} (hb : l.length ≤ 1000000000) (hx : Bs B w v l) :
    Calls Try.prog 26 #[v] w fun e w' => e = .returned (.int .i64 (used l)) ∧ Below w.heap.size w w' := by
  obtain ⟨a, c, rfl⟩ := hx.shape
  exact used_any a l.length c B l w rfl hb hx

set_option maxRecDepth 100000 in
set_option maxHeartbeats 1000000 in
theorem wrong_calls (f : Lf) (a : Option Addr) (n c : Nat) (w : World) (hn : f.bytes.length = n) (hb : n ≤ 1000000000) :
    Calls Try.prog 34 #[.agg #[.int .u64 f.page, .int .i64 f.kind, .bool f.write, .slice a n c]] w fun e w' => e = .returned (.bool (wrong f)) ∧ Below w.heap.size w w' := by
  unfold wrong
  rw [hn]
  have hl : (n == 4096) = decide ((n : Int) = 4096) := by
    rw [Bool.eq_iff_iff, beq_iff_eq, decide_eq_true_iff]; omega
  rw [hl]
  clear hn hl
  generalize f.page = p
  generalize f.kind = k
  generalize f.write = wr
  go_enter Try.func34, Try.ntmps34
  by_cases h1 : k = 1
  all_goals by_cases h2 : k = 2
  all_goals by_cases h5 : k = 5
  all_goals cases wr
  all_goals by_cases hn : (n : Int) = 4096
  all_goals first | (exfalso; omega) | skip
  all_goals
    go_wp2
    all_goals go_ret
    all_goals refine ⟨?_, (Below.refl _ _).alloc (Nat.le_refl _) _⟩
    all_goals simp [*]
end Go.Proofs.Ytdlnipimljpmgaa
