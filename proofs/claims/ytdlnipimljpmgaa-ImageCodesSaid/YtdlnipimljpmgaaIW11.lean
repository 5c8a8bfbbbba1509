/- image.put once more: which blocks it may turn. -/
import Derived.Test.YtdlnipimljpmgaaIW1
import Derived.Lib.SmallJoins
set_option linter.unusedVariables false
set_option linter.unusedSimpArgs false
set_option linter.unusedSectionVars false
set_option linter.unnecessarySimpa false
namespace Go.Proofs.Ytdlnipimljpmgaa
open Go Go.RowKit Go.Im Go.Lib

/-- From w to w' just v's own row was turned, or laid anew. -/
def Grew (w : World) (v : Value) (w' : World) (v' : Value) : Prop :=
  w.grownBy w' v.ownBlock ∧ ∀ g, v'.ownBlock = some g → v.ownBlock = some g ∨ w.heap.size ≤ g

theorem Grew.refl (w : World) (v : Value) : Grew w v w v := ⟨World.grownBy.refl _ _, fun _ h => .inl h⟩

theorem Grew.trans {w w1 w2 : World} {v v1 v2 : Value} (h : Grew w v w1 v1) (k : Grew w1 v1 w2 v2) : Grew w v w2 v2 := by
  refine ⟨⟨k.1.os.trans h.1.os, k.1.tape.trans h.1.tape, k.1.output.trans h.1.output, Nat.le_trans h.1.size k.1.size, fun i hi hne => ?_⟩, fun g hg => ?_⟩
  · rw [k.1.block i (Nat.lt_of_lt_of_le hi h.1.size) (fun e => ?_), h.1.block i hi hne]
    rcases h.2 i e.symm with h2 | h2
    · exact hne h2.symm
    · omega
  · rcases k.2 g hg with h2 | h2
    · exact h.2 g h2
    · exact .inr (Nat.le_trans h.1.size h2)

theorem Grew.drew {w w1 : World} {v v1 : Value} (h : Grew w v w1 v1) : Grew w v w1.drew v1 := ⟨⟨h.1.os, h.1.tape, h.1.output, h.1.size, h.1.block⟩, h.2⟩

/-- One append behind one new row. -/
theorem Grew.app {w wr w5 : World} {v u v' : Value} {o : Obj} (h : Grew w v wr u) (hu : ∀ g, u.ownBlock = some g → g < wr.heap.size) (hg : (wr.alloc o).grownBy w5 u.ownBlock)
    (hl : v'.ownBlock = u.ownBlock ∨ v'.ownBlock = some (wr.alloc o).heap.size) : Grew w v w5 v' := by
  refine h.trans ⟨⟨hg.os, hg.tape, hg.output, ?_, fun i hi hne => ?_⟩, fun g hg' => ?_⟩
  · have := hg.size; simp at this; omega
  · rw [hg.block i (by simp; omega) hne]; exact Below.heap_alloc _ _ _ hi
  · rcases hl with hl | hl
    · exact .inl (by rw [← hl]; exact hg')
    · right
      rw [hl] at hg'
      simp at hg'
      omega

/-- One append. -/
theorem Grew.app0 {w wr w5 : World} {v u v' : Value} (h : Grew w v wr u) (hg : wr.grownBy w5 u.ownBlock)
    (hl : v'.ownBlock = u.ownBlock ∨ v'.ownBlock = some wr.heap.size) : Grew w v w5 v' := by
  refine h.trans ⟨hg, fun g hg' => ?_⟩
  rcases hl with hl | hl
  · exact .inl (by rw [← hl]; exact hg')
  · right
    rw [hl] at hg'
    simp at hg'
    omega

theorem Grew.below {w w' : World} {v v' : Value} {base : Nat} (h : Grew w v w' v') (hb : base ≤ w.heap.size) (hv : ∀ g, v.ownBlock = some g → base ≤ g) : Below base w w' :=
  ⟨h.1.os, h.1.tape, h.1.output, h.1.size, fun i hi => h.1.block i (by omega) (fun e => by have := hv i e.symm; omega)⟩

/-- A block that is not the row's stays. -/
theorem Grew.far {w w' : World} {v v' : Value} {g : Nat} (h : Grew w v w' v') (hg : g < w.heap.size) (hne : v.ownBlock ≠ some g) : w'.heap[g]? = w.heap[g]? ∧ v'.ownBlock ≠ some g ∧ g < w'.heap.size := by
  refine ⟨h.1.block g hg (fun e => hne e.symm), fun e => ?_, Nat.lt_of_lt_of_le hg h.1.size⟩
  rcases h.2 g e with h2 | h2
  · exact hne h2
  · omega

theorem ownsRow_below {w w' : World} {base e size n : Nat} {v : Value} {xs : List Value} (h : w.ownsRow base e size v n xs) (hb : Below w.heap.size w w') : w'.ownsRow base e size v n xs :=
  h.kept (row := none) ⟨hb.os, hb.tape, hb.output, hb.size, fun k hk _ => hb.block k hk⟩ (by cases h : v.ownBlock <;> simp)

set_option maxRecDepth 100000 in
set_option maxHeartbeats 1000000 in
theorem put_grew {w : World} {base n c : Nat} {va : Option Addr} {xs : List Value} (v : Int) (size : Nat) (hsz : size ≤ 8) (h0 : 0 ≤ v) (h1 : v < 18446744073709551616) (hn : n ≤ 100000000) (hbase : base ≤ w.heap.size) (hown : w.ownsRow base 5 1 (.slice va n c) n xs) :
    Calls Try.prog 25 #[.slice va n c, .int .i64 size, .int .u64 v] w fun e w' => ∃ va' vc', e = .returned (.slice va' (n + size) vc') ∧ w'.ownsRow base 5 1 (.slice va' (n + size) vc') (n + size) (xs ++ (leB size v).map (Value.int .u8)) ∧ Grew w (.slice va n c) w' (.slice va' (n + size) vc') := by
  obtain ⟨i0, hi0, hz⟩ := Option.map_eq_some_iff.1 info5
  simp only [Prod.mk.injEq] at hz
  obtain ⟨hz0, hz1, hz2⟩ := hz
  have HO : Aside (w.ownsRow base 5 1 (.slice va n c) n xs) := hown
  clear hown
  go_enter Try.func25, Try.ntmps25
  go_wp2
  go_loopw [0, 9] (fun u i wr => ∃ k : Nat, k ≤ size ∧ i = .int .i64 k ∧ ∃ (ua : Option Addr) (uc : Nat), u = .slice ua (n + k) uc ∧ wr.ownsRow base 5 1 (.slice ua (n + k) uc) (n + k) (xs ++ (leB k v).map (Value.int .u8)) ∧ Grew w (.slice va n c) wr (.slice ua (n + k) uc))
    (fun _ i _ => size - (RowKit.intOf i).toNat)
  case atStart => exact ⟨0, Nat.zero_le _, rfl, va, c, rfl, by simpa [leB] using HO.out, Grew.refl _ _⟩
  case round =>
    obtain ⟨k, hk, rfl, ua, uc, rfl, hrow, hbl⟩ := hrel
    have HR : Aside (wr.ownsRow base 5 1 (.slice ua (n + k) uc) (n + k) (xs ++ (leB k v).map (Value.int .u8))) := hrow
    have HB : Aside (Grew w (.slice va n c) wr (.slice ua (n + k) uc)) := hbl
    clear hrow hbl
    by_cases hlt : k < size
    · have hi : (k : Int) < (size : Int) := by omega
      have hk8 : (k : Int) < 8 := by omega
      go_wp2_with (at_builtin; refine wpList_append_own_at _ rfl _ _ 32 rfl base 5 i0 _ 1 1 Try.underlying32 hi0 hz0 hz1 hz2 rfl (by decide) _ (n + k) _ rfl (HR.out.alloc _) ⟨wr.heap.size, 0, none⟩ 1 1 [_] rfl rfl (cell_one_new _ _ _) one_one (by unfold maxLen; omega) (by omega) (by have := HB.out.1.size; simp; omega) ?_; intro v' w5 hown' hgrow hnil hloc)
      go_roundw
      case rel =>
        obtain ⟨va', vc', rfl⟩ := slice_form0 hown'
        refine ⟨k + 1, by omega, by go_num, va', vc', rfl, ?_, HB.out.app (fun g hg => (HR.out.lt g hg).2) hgrow hloc⟩
        rw [leB_snoc, List.map_append, ← List.append_assoc]
        have e : (v / 2 ^ (8 * k)) % 256 = v / 256 ^ k % 256 := by rw [Int.pow_mul]; rfl
        rw [e] at hown'
        exact hown'
      case measure => simp [RowKit.intOf]; omega
    · have : k = size := by omega
      subst this
      go_wp2
      go_ret
      exact ⟨_, _, rfl, HR.out, HB.out⟩

theorem put4g {w : World} {base n c : Nat} {va : Option Addr} {xs : List Value} (v : Int) (h0 : 0 ≤ v) (h1 : v < 18446744073709551616) (hn : n ≤ 100000000) (hbase : base ≤ w.heap.size) (hown : w.ownsRow base 5 1 (.slice va n c) n xs) :
    Calls Try.prog 25 #[.slice va n c, .int .i64 4, .int .u64 v] w fun e w' => ∃ va' vc', e = .returned (.slice va' (n + 4) vc') ∧ w'.ownsRow base 5 1 (.slice va' (n + 4) vc') (n + 4) (xs ++ (leB 4 v).map (Value.int .u8)) ∧ Grew w (.slice va n c) w' (.slice va' (n + 4) vc') :=
  put_grew v 4 (by omega) h0 h1 hn hbase hown
theorem put2g {w : World} {base n c : Nat} {va : Option Addr} {xs : List Value} (v : Int) (h0 : 0 ≤ v) (h1 : v < 18446744073709551616) (hn : n ≤ 100000000) (hbase : base ≤ w.heap.size) (hown : w.ownsRow base 5 1 (.slice va n c) n xs) :
    Calls Try.prog 25 #[.slice va n c, .int .i64 2, .int .u64 v] w fun e w' => ∃ va' vc', e = .returned (.slice va' (n + 2) vc') ∧ w'.ownsRow base 5 1 (.slice va' (n + 2) vc') (n + 2) (xs ++ (leB 2 v).map (Value.int .u8)) ∧ Grew w (.slice va n c) w' (.slice va' (n + 2) vc') :=
  put_grew v 2 (by omega) h0 h1 hn hbase hown
end Go.Proofs.Ytdlnipimljpmgaa
