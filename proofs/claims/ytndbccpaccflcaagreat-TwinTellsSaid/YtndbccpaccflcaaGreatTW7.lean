import Derived.Test.YtndbccpaccflcaaGreatProg
import Derived.Test.YtndbccpaccflcaaGreatTS1
import Derived.Test.YtndbccpaccflcaaGreatTW2
import Derived.Test.YtndbccpaccflcaaGreatTW3
import Derived.StillTailTactics
set_option linter.unusedVariables false
set_option linter.unusedSimpArgs false
set_option linter.unusedSectionVars false
namespace Go.Proofs.YtndbccpaccflcaaGreat
open Go Go.RowKit Go.Tw Go.Lib

theorem All_len (x y : Option Addr) (n m c d : Nat) (w : World) (h : n ≠ m) :
    Calls Tryz.prog 9 #[.slice x n c, .slice y m d] w fun e w' => e = .returned (.bool false) ∧ w' = w := by
  have h1 : ((n : Int) != (m : Int)) = true := by rw [bne_iff_ne]; omega
  go_enter Tryz.func9, Tryz.ntmps9
  go_wp2
  go_ret
  exact ⟨rfl, rfl⟩

set_option maxRecDepth 100000 in
set_option maxHeartbeats 2000000 in
theorem All_same (x y : Option Addr) (n c d B : Nat) (l m : List St) (fs gs : List Value) (w : World) (hn : l.length = n) (hm : m.length = n) (hbig : n ≤ 1000000) (hBw : B ≤ w.heap.size)
    (hx : StepsF B w (.slice x n c) l fs) (hy : StepsF B w (.slice y n d) m gs) (hfl : ∀ s ∈ l, s.fails.length ≤ 1000000) :
    Calls Tryz.prog 9 #[.slice x n c, .slice y n d] w fun e w' => e = .returned (.bool (decide (l = m))) ∧ Below w.heap.size w w' := by
  have HX : Aside (StepsF B w (.slice x n c) l fs) := hx
  have HY : Aside (StepsF B w (.slice y n d) m gs) := hy
  have HF : Aside (∀ s ∈ l, s.fails.length ≤ 1000000) := hfl
  clear hx hy hfl
  go_enter Tryz.func9, Tryz.ntmps9
  go_wp2
  go_loopw [5] (fun i wr => ∃ k : Nat, k ≤ n ∧ i = .int .i64 k ∧ Below w.heap.size w wr ∧ (∀ j, j < k → l[j]? = m[j]?))
    (fun i _ => n - (RowKit.intOf i).toNat)
  case atStart => exact ⟨0, Nat.zero_le _, rfl, Below.refl _ _, fun j hj => absurd hj (Nat.not_lt_zero _)⟩
  case round =>
    obtain ⟨k, hk, rfl, hnx, heq⟩ := hrel
    have HN : Aside (Below w.heap.size w wr) := hnx
    have HQ : Aside (∀ j, j < k → l[j]? = m[j]?) := heq
    clear hnx heq
    by_cases hlt : k < n
    · obtain ⟨s, hs⟩ : ∃ s, l[k]? = some s := ⟨_, List.getElem?_eq_getElem (by omega)⟩
      obtain ⟨t, ht⟩ : ∃ t, m[k]? = some t := ⟨_, List.getElem?_eq_getElem (by omega)⟩
      obtain ⟨b, o, rfl⟩ : ∃ b o, x = some ⟨b, o, none⟩ := by
        obtain ⟨a, cap, he, hne⟩ := HX.out.shape
        cases he
        exact hne (by intro h; rw [h] at hs; simp at hs)
      obtain ⟨b', o', rfl⟩ : ∃ b o, y = some ⟨b, o, none⟩ := by
        obtain ⟨a, cap, he, hne⟩ := HY.out.shape
        cases he
        exact hne (by intro h; rw [h] at ht; simp at ht)
      obtain ⟨f, hf⟩ : ∃ f, fs[k]? = some f := ⟨_, List.getElem?_eq_getElem (by have := HX.out.1; omega)⟩
      obtain ⟨g, hg⟩ : ∃ g, gs[k]? = some g := ⟨_, List.getElem?_eq_getElem (by have := HY.out.1; omega)⟩
      obtain ⟨hb, hat⟩ := HX.out.at hs hf
      obtain ⟨hb', hat'⟩ := HY.out.at ht hg
      obtain ⟨c0, c1, c2, c3, c4, c5, c6, c7, c8, c9, c10, c11⟩ := hat.below HN.out (by omega)
      obtain ⟨d0, d1, d2, d3, d4, d5, d6, d7, d8, d9, d10, d11⟩ := hat'.below HN.out (by omega)
      have hbf : Bools B wr f s.fails := (HX.out.2.1 k s f hs hf).below (HN.out.mono hBw)
      have hbg : Bools B wr g t.fails := (HY.out.2.1 k t g ht hg).below (HN.out.mono hBw)
      have hfl := HF.out s (List.mem_of_getElem? hs)
      have HC : Aside (∀ w1, Below wr.heap.size wr w1 → Calls Tryz.prog 14 #[s.val f, t.val g] w1 fun e w' => e = .returned (.bool (decide (s = t))) ∧ Below w1.heap.size w1 w') :=
        fun w1 h1 => Same_calls (hbf.below (h1.mono (Nat.le_trans hBw HN.out.size))) (hbg.below (h1.mono (Nat.le_trans hBw HN.out.size))) (Nat.le_trans hBw (Nat.le_trans HN.out.size h1.size)) (by omega)
      have HS : Aside (l[k]? = some s) := hs
      have HT : Aside (m[k]? = some t) := ht
      have hi : (k : Int) < (n : Int) := by omega
      clear hs ht hf hg hat hat' hbf hbg hfl
      go_wp2
      go_still_tail 8, (by kernel_rfl)
      change wpList _ _ _ _ _ wr.drew
      go_wp2_with (go_at_call 14; refine (HC.out _ (Below.refl _ _).drew).mono ?_; rintro e w1 ⟨rfl, hw1⟩)
      · have hst : (!decide (s = t)) = true := by assumption
        go_ret
        refine ⟨?_, HN.out.trans ((Below.refl _ _).drew.trans (hw1.mono (by simpa using HN.out.size)))⟩
        have : l ≠ m := by
          rintro rfl
          have : s = t := by simpa using HS.out.symm.trans HT.out
          simp [this] at hst
        rw [decide_eq_false this]
        rfl
      · have hst : (!decide (s = t)) = false := by assumption
        go_roundw
        case rel =>
          refine ⟨k + 1, by omega, by go_num, HN.out.trans ((Below.refl _ _).drew.trans (hw1.mono (by simpa using HN.out.size))), fun j hj => ?_⟩
          by_cases hjk : j < k
          · exact HQ.out j hjk
          · have : j = k := by omega
            subst this
            have : s = t := by simpa using hst
            rw [HS.out, HT.out, this]
        case measure => simp [RowKit.intOf]; omega
    · have hge : n ≤ k := by omega
      go_wp2
      go_ret
      refine ⟨?_, HN.out⟩
      have : l = m := by
        apply List.ext_getElem?
        intro i
        by_cases h : i < k
        · exact HQ.out i h
        · rw [List.getElem?_eq_none (by omega), List.getElem?_eq_none (by omega)]
      rw [decide_eq_true this]
      rfl

/-- Two scripts are told to be alike just where they are. -/
theorem All_calls {B : Nat} {w : World} {x y : Value} {l m : List St} {fs gs : List Value} (hBw : B ≤ w.heap.size) (hx : StepsF B w x l fs) (hy : StepsF B w y m gs) (hb : l.length ≤ 1000000) (hfl : ∀ s ∈ l, s.fails.length ≤ 1000000) :
    Calls Tryz.prog 9 #[x, y] w fun e w' => e = .returned (.bool (decide (l = m))) ∧ Below w.heap.size w w' := by
  obtain ⟨a, c, rfl, _⟩ := hx.shape
  obtain ⟨a', c', rfl, _⟩ := hy.shape
  by_cases hl : l.length = m.length
  · rw [← hl] at hy ⊢
    exact All_same a a' l.length c c' B l m fs gs w rfl hl.symm hb hBw hx hy hfl
  · refine (All_len a a' l.length m.length c c' w hl).mono ?_
    rintro e w' ⟨rfl, rfl⟩
    refine ⟨?_, Below.refl _ _⟩
    have : l ≠ m := by rintro rfl; exact hl rfl
    rw [decide_eq_false this]
end Go.Proofs.YtndbccpaccflcaaGreat
