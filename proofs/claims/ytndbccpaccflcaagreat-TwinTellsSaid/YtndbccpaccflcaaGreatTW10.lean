import Derived.Test.YtndbccpaccflcaaGreatTW6
import Derived.Test.YtndbccpaccflcaaGreatTW8
set_option linter.unusedVariables false
set_option linter.unusedSimpArgs false
set_option linter.unusedSectionVars false
namespace Go.Proofs.YtndbccpaccflcaaGreat
open Go Go.RowKit Go.Tw Go.Lib Go.Maps

/-- A step of another script, with the first one's Value where it may be another one. -/
def lift1 (l : List St) (g : Int) (s t : St) : St := if varies l g s then { t with value := s.value } else t
def AlikeP (l m : List St) (g : Int) : Prop := l.length = m.length ∧ ∀ (i : Nat) (s t : St), l[i]? = some s → m[i]? = some t → s = lift1 l g s t

theorem Alike_len (x y : Option Addr) (n m c d : Nat) (g : Int) (w : World) (h : n ≠ m) :
    Calls Tryz.prog 12 #[.slice x n c, .slice y m d, .int .i64 g] w fun e w' => e = .returned (.bool false) ∧ w' = w := by
  have h1 : ((n : Int) != (m : Int)) = true := by rw [bne_iff_ne]; omega
  go_enter Tryz.func12, Tryz.ntmps12
  go_wp2
  go_ret
  exact ⟨rfl, rfl⟩

/-- What stands behind a call that makes memory alone: two boxes, as they were. -/
theorem kept_boxes {w0 w5 : World} {c1 c2 : Array Value} {q : Nat} (h : Below (((w0.alloc (.cells c1 31)).alloc (.cells c2 31)).drewN q).heap.size (((w0.alloc (.cells c1 31)).alloc (.cells c2 31)).drewN q) w5) :
    (∀ j, w5.cell? ⟨w0.heap.size, j, none⟩ = c1[j]?) ∧ (∀ j, w5.cell? ⟨w0.heap.size + 1, j, none⟩ = c2[j]?) ∧ ∀ j, w5.frozen? ⟨w0.heap.size + 1, j, none⟩ = false := by
  refine ⟨fun j => ?_, fun j => ?_, fun j => ?_⟩
  · rw [h.cell (by simp; omega)]
    exact cell_box1
  · rw [h.cell (by simp)]
    exact cell_box2
  · rw [h.frozen (by simp)]
    have h : (((w0.alloc (.cells c1 31)).alloc (.cells c2 31)).drewN q).heap[w0.heap.size + 1]? = some (.cells c2 31) := by
      show ((w0.heap.push (.cells c1 31)).push (.cells c2 31))[w0.heap.size + 1]? = _
      rw [Array.getElem?_push, if_pos (by simp)]
    simp only [World.frozen?, h]
    simp

set_option maxRecDepth 100000 in
set_option maxHeartbeats 4000000 in
theorem Alike_same (x y : Option Addr) (n c d B : Nat) (l m : List St) (fs gs : List Value) (g : Int) (w : World) (hn : l.length = n) (hm : m.length = n) (hbig : n ≤ 1000000) (hBw : B ≤ w.heap.size)
    (hx : StepsF B w (.slice x n c) l fs) (hy : StepsF B w (.slice y n d) m gs) (hok : ∀ s ∈ l, (Lit.int .i64 s.page).wf = true) (hfl : ∀ s ∈ l, s.fails.length ≤ 1000000) :
    Calls Tryz.prog 12 #[.slice x n c, .slice y n d, .int .i64 g] w fun e w' => (∃ r : Bool, e = .returned (.bool r) ∧ (r = true ↔ AlikeP l m g)) ∧ Below w.heap.size w w' := by
  have HX : Aside (StepsF B w (.slice x n c) l fs) := hx
  have HY : Aside (StepsF B w (.slice y n d) m gs) := hy
  have HF : Aside (∀ s ∈ l, s.fails.length ≤ 1000000) := hfl
  have OK : Aside (∀ s ∈ l, (Lit.int .i64 s.page).wf = true) := hok
  have HL : Aside (Calls Tryz.prog 17 #[.slice x n c, .int .i64 g] w fun e w' => e = .returned (.tuple #[.map (some w.heap.size), .map (some (w.heap.size + 1))]) ∧ Below w.heap.size w w' ∧
      Marks Tryz.prog 3 4 w' w.heap.size n (own l g)) := by
    refine (lent_calls g hBw hx (by omega) hok).mono fun e w' h => ⟨h.1, h.2.1, ?_⟩
    rw [← hn]; exact h.2.2.1
  clear hx hy hfl hok
  go_enter Tryz.func12, Tryz.ntmps12
  go_wp2_with (go_at_call 17; refine HL.out.mono ?_; rintro e w1 ⟨rfl, hw1, hm1⟩)
  have HM : Aside (Marks Tryz.prog 3 4 w1 w.heap.size n (own l g)) := hm1
  have HW1 : Aside (Below w.heap.size w w1) := hw1
  have hms : w.heap.size < w1.heap.size := hm1.lt
  clear hm1 hw1
  go_loopw [25] (fun i wr => ∃ k : Nat, k ≤ n ∧ i = .int .i64 k ∧ Below w1.heap.size w1 wr ∧ (∀ (j : Nat) (s t : St), j < k → l[j]? = some s → m[j]? = some t → s = lift1 l g s t))
    (fun i _ => n - (RowKit.intOf i).toNat)
  case atStart => exact ⟨0, Nat.zero_le _, rfl, Below.refl _ _, fun j _ _ hj => absurd hj (Nat.not_lt_zero _)⟩
  case round =>
    obtain ⟨k, hk, rfl, hnx, heq⟩ := hrel
    have HN : Aside (Below w1.heap.size w1 wr) := hnx
    have HNW : Aside (Below w.heap.size w wr) := HW1.out.trans (hnx.mono HW1.out.size)
    have HQ : Aside (∀ (j : Nat) (s t : St), j < k → l[j]? = some s → m[j]? = some t → s = lift1 l g s t) := heq
    clear hnx heq
    by_cases hlt : k < n
    · obtain ⟨s, hs⟩ : ∃ s, l[k]? = some s := ⟨_, List.getElem?_eq_getElem (by omega)⟩
      obtain ⟨t, ht⟩ : ∃ t, m[k]? = some t := ⟨_, List.getElem?_eq_getElem (by omega)⟩
      obtain ⟨b, o, rfl⟩ : ∃ b o, x = some ⟨b, o, none⟩ := by
        obtain ⟨a, cap, he, hne⟩ := HX.out.shape
        cases he
        exact hne (by intro h; rw [h] at hs; simp at hs)
      obtain ⟨b', o', rfl⟩ : ∃ b o, y = some ⟨b, o, none⟩ := by
        obtain ⟨a, cap, he, hne⟩ := HY.out.shape
        cases he
        exact hne (by intro h; rw [h] at ht; simp at ht)
      obtain ⟨f, hf⟩ : ∃ f, fs[k]? = some f := ⟨_, List.getElem?_eq_getElem (by have := HX.out.1; omega)⟩
      obtain ⟨f', hg⟩ : ∃ g, gs[k]? = some g := ⟨_, List.getElem?_eq_getElem (by have := HY.out.1; omega)⟩
      obtain ⟨hb, hat⟩ := HX.out.at hs hf
      obtain ⟨hb', hat'⟩ := HY.out.at ht hg
      have hbf : Bools B wr f s.fails := (HX.out.2.1 k s f hs hf).below (HNW.out.mono hBw)
      have hbg : Bools B wr f' t.fails := (HY.out.2.1 k t f' ht hg).below (HNW.out.mono hBw)
      obtain ⟨c0, c1, c2, c3, c4, c5, c6, c7, c8, c9, c10, c11⟩ := hat.below HNW.out (by omega)
      obtain ⟨d0, d1, d2, d3, d4, d5, d6, d7, d8, d9, d10, d11⟩ := hat'.below HNW.out (by omega)
      obtain ⟨fa, fc, rfl⟩ := Bools.shape hbf
      obtain ⟨ga, gc, rfl⟩ := Bools.shape hbg
      have HBF : Aside (Bools B wr (.slice fa s.fails.length fc) s.fails) := hbf
      have HBG : Aside (Bools B wr (.slice ga t.fails.length gc) t.fails) := hbg
      have HS : Aside (l[k]? = some s) := hs
      have HT : Aside (m[k]? = some t) := ht
      have hi : (k : Int) < (n : Int) := by omega
      have HV : Aside (∀ w4, Below w1.heap.size w1 w4 → Calls Tryz.prog 20 #[s.val (.slice fa s.fails.length fc), .int .i64 g, .map (some w.heap.size)] w4 fun e w' => e = .returned (.bool (varies l g s)) ∧ Below w4.heap.size w4 w') :=
        fun w4 h4 => varies_any s fa s.fails.length fc g w.heap.size n (own l g) w4 (HM.out.same (h4.block _ hms)) (OK.out s (List.mem_of_getElem? hs))
      unfold St.val at HV
      generalize hvc : varies l g s = vc at HV
      clear hs ht hf hg hat hat' hbf hbg
      have g0 := fun ob => Lib.cell?_alloc_some ob d0
      have g1 := fun ob => Lib.cell?_alloc_some ob d1
      have g2 := fun ob => Lib.cell?_alloc_some ob d2
      have g3 := fun ob => Lib.cell?_alloc_some ob d3
      have g4 := fun ob => Lib.cell?_alloc_some ob d4
      have g5 := fun ob => Lib.cell?_alloc_some ob d5
      have g6 := fun ob => Lib.cell?_alloc_some ob d6
      have g7 := fun ob => Lib.cell?_alloc_some ob d7
      have g8 := fun ob => Lib.cell?_alloc_some ob d8
      have g9 := fun ob => Lib.cell?_alloc_some ob d9
      have g10 := fun ob => Lib.cell?_alloc_some ob d10
      have g11 := fun ob => Lib.cell?_alloc_some ob d11
      clear d0 d1 d2 d3 d4 d5 d6 d7 d8 d9 d10 d11
      go_wp2_with fail
      refine (HV.out _ (HN.out.trans (((Below.refl _ _).alloc HN.out.size _).alloc (by have := HN.out.size; simp; omega) _))).mono ?_
      rintro e w5 ⟨rfl, hw5⟩
      obtain ⟨hx1, hx2, hfz⟩ := kept_boxes (q := 0) hw5
      have x0 := hx1 0
      have x1 := hx1 1
      have x2 := hx1 2
      have x3 := hx1 3
      have x4 := hx1 4
      have x5 := hx1 5
      have x6 := hx1 6
      have x7 := hx1 7
      have x8 := hx1 8
      have x9 := hx1 9
      have x10 := hx1 10
      have x11 := hx1 11
      have y0 := hx2 0
      have y1 := hx2 1
      have y2 := hx2 2
      have y3 := hx2 3
      have y4 := hx2 4
      have y5 := hx2 5
      have y6 := hx2 6
      have y7 := hx2 7
      have y8 := hx2 8
      have y9 := hx2 9
      have y10 := hx2 10
      have y11 := hx2 11
      have z4 := hfz 4
      clear hx1 hx2 hfz c0 c1 c2 c3 c4 c5 c6 c7 c8 c9 c10 c11 g0 g1 g2 g3 g4 g5 g6 g7 g8 g9 g10 g11
      simp only [List.getElem?_toArray, List.getElem?_cons_zero, List.getElem?_cons_succ] at x0 x1 x2 x3 x4 x5 x6 x7 x8 x9 x10 x11 y0 y1 y2 y3 y4 y5 y6 y7 y8 y9 y10 y11
      have HB5 : Aside (Below wr.heap.size wr w5) := ((Below.refl _ _).alloc (Nat.le_refl _) _).alloc (by simp) _ |>.trans (hw5.mono (by show _ ≤ (World.alloc _ _).heap.size; simp; omega))
      have HG5 : Aside (wr.heap.size + 2 ≤ w5.heap.size) := by
        have := hw5.size
        simp at this
        exact this
      clear hw5
      have HY4 : Aside (w5.cell? ⟨wr.heap.size + 1, 4, none⟩ = some (.int .u64 t.value)) := y4
      have hfs : s.fails.length ≤ 1000000 := HF.out s (List.mem_of_getElem? HS.out)
      have HT1 : Aside (∀ w6 : World, Below wr.heap.size wr w6 → Bools wr.heap.size w6 (.slice fa s.fails.length fc) s.fails → Bools wr.heap.size w6 (.slice ga t.fails.length gc) t.fails → Calls Tryz.prog 23 #[s.val (.slice fa s.fails.length fc), ({ t with value := s.value } : St).val (.slice ga t.fails.length gc)] w6 fun e w' => e = .returned (.bool (decide (s = { t with value := s.value }))) ∧ Below w6.heap.size w6 w') :=
        fun w6 h1 h2 h3 => same_any s { t with value := s.value } fa ga s.fails.length t.fails.length fc gc wr.heap.size w6 h1.size h2 h3 (by omega)
      have HT0 : Aside (∀ w6 : World, Below wr.heap.size wr w6 → Bools wr.heap.size w6 (.slice fa s.fails.length fc) s.fails → Bools wr.heap.size w6 (.slice ga t.fails.length gc) t.fails → Calls Tryz.prog 23 #[s.val (.slice fa s.fails.length fc), t.val (.slice ga t.fails.length gc)] w6 fun e w' => e = .returned (.bool (decide (s = t))) ∧ Below w6.heap.size w6 w') :=
        fun w6 h1 h2 h3 => same_any s t fa ga s.fails.length t.fails.length fc gc wr.heap.size w6 h1.size h2 h3 (by omega)
      unfold St.val at HT1 HT0
      have b1 : Bools wr.heap.size w5 (.slice fa s.fails.length fc) s.fails := (HBF.out.up (Nat.le_trans hBw HNW.out.size)).below HB5.out
      have b2 : Bools wr.heap.size w5 (.slice ga t.fails.length gc) t.fails := (HBG.out.up (Nat.le_trans hBw HNW.out.size)).below HB5.out
      have HB1 : Aside (Bools wr.heap.size w5 (.slice fa s.fails.length fc) s.fails) := b1
      have HB2 : Aside (Bools wr.heap.size w5 (.slice ga t.fails.length gc) t.fails) := b2
      clear b1 b2
      go_wp2_with fail
      · have hv : vc = true := by assumption
        refine (HT1.out _ (HB5.out.setCell (by simp) _) (Bools_setCell HB1.out HY4.out (by intro c hc; cases hc) _) (Bools_setCell HB2.out HY4.out (by intro c hc; cases hc) _)).mono ?_
        rintro e w6 ⟨rfl, hw6⟩
        have HB6 : Aside (Below wr.heap.size wr w6) := (HB5.out.setCell (by simp) _).trans (hw6.mono (by have := HG5.out; simp [World.setCell]; omega))
        have hl1 : lift1 l g s t = { t with value := s.value } := by unfold lift1; rw [hvc, hv]; rfl
        have HL1 : Aside (lift1 l g s t = { t with value := s.value }) := hl1
        generalize hq : decide (s = { t with value := s.value }) = qq
        have HQQ : Aside (decide (s = { t with value := s.value }) = qq) := hq
        clear hq hl1 hw6 x0 x1 x2 x3 x4 x5 x6 x7 x8 x9 x10 x11 y0 y1 y2 y3 y4 y5 y6 y7 y8 y9 y10 y11 z4
        go_wp2_with fail
        · have hst : (!qq) = true := by assumption
          go_ret
          refine ⟨⟨false, rfl, ?_⟩, HNW.out.trans (HB6.out.mono HNW.out.size)⟩
          simp only [Bool.false_eq_true, false_iff]
          rintro ⟨_, h⟩
          have := h k s t HS.out HT.out
          rw [HL1.out] at this
          have h2 := HQQ.out
          rw [decide_eq_true this] at h2
          rw [← h2] at hst
          cases hst
        · have hst : (!qq) = false := by assumption
          go_roundw
          case rel =>
            refine ⟨k + 1, by omega, by go_num, HN.out.trans (HB6.out.mono HN.out.size), fun j s' t' hj h1 h2 => ?_⟩
            by_cases hjk : j < k
            · exact HQ.out j s' t' hjk h1 h2
            · have : j = k := by omega
              subst this
              have e1 := HS.out.symm.trans h1
              have e2 := HT.out.symm.trans h2
              simp only [Option.some.injEq] at e1 e2
              subst e1 e2
              rw [HL1.out]
              have h3 := HQQ.out
              have : qq = true := by simpa using hst
              rw [this] at h3
              exact of_decide_eq_true h3
          case measure => simp [RowKit.intOf]; omega
      · have hv : vc = false := by assumption
        refine (HT0.out _ HB5.out HB1.out HB2.out).mono ?_
        rintro e w6 ⟨rfl, hw6⟩
        have HB6 : Aside (Below wr.heap.size wr w6) := HB5.out.trans (hw6.mono (by have := HG5.out; omega))
        have hl1 : lift1 l g s t = t := by unfold lift1; rw [hvc, hv]; rfl
        have HL1 : Aside (lift1 l g s t = t) := hl1
        generalize hq : decide (s = t) = qq
        have HQQ : Aside (decide (s = t) = qq) := hq
        clear hq hl1 hw6 x0 x1 x2 x3 x4 x5 x6 x7 x8 x9 x10 x11 y0 y1 y2 y3 y4 y5 y6 y7 y8 y9 y10 y11 z4
        go_wp2_with fail
        · have hst : (!qq) = true := by assumption
          go_ret
          refine ⟨⟨false, rfl, ?_⟩, HNW.out.trans (HB6.out.mono HNW.out.size)⟩
          simp only [Bool.false_eq_true, false_iff]
          rintro ⟨_, h⟩
          have := h k s t HS.out HT.out
          rw [HL1.out] at this
          have h2 := HQQ.out
          rw [decide_eq_true this] at h2
          rw [← h2] at hst
          cases hst
        · have hst : (!qq) = false := by assumption
          go_roundw
          case rel =>
            refine ⟨k + 1, by omega, by go_num, HN.out.trans (HB6.out.mono HN.out.size), fun j s' t' hj h1 h2 => ?_⟩
            by_cases hjk : j < k
            · exact HQ.out j s' t' hjk h1 h2
            · have : j = k := by omega
              subst this
              have e1 := HS.out.symm.trans h1
              have e2 := HT.out.symm.trans h2
              simp only [Option.some.injEq] at e1 e2
              subst e1 e2
              rw [HL1.out]
              have h3 := HQQ.out
              have : qq = true := by simpa using hst
              rw [this] at h3
              exact of_decide_eq_true h3
          case measure => simp [RowKit.intOf]; omega
    · have hge : n ≤ k := by omega
      go_wp2
      go_ret
      refine ⟨⟨true, rfl, ?_⟩, HNW.out⟩
      simp only [true_iff]
      exact ⟨by omega, fun i s t h1 h2 => HQ.out i s t (by
        have : i < l.length := by
          rcases Nat.lt_or_ge i l.length with h | h
          · exact h
          · rw [List.getElem?_eq_none h] at h1; cases h1
        omega) h1 h2⟩

/-- What Alike tells. -/
theorem Alike_calls {B : Nat} {w : World} {x y : Value} {l m : List St} {fs gs : List Value} (g : Int) (hBw : B ≤ w.heap.size) (hx : StepsF B w x l fs) (hy : StepsF B w y m gs) (hb : l.length ≤ 1000000) (hok : ∀ s ∈ l, (Lit.int .i64 s.page).wf = true) (hfl : ∀ s ∈ l, s.fails.length ≤ 1000000) :
    Calls Tryz.prog 12 #[x, y, .int .i64 g] w fun e w' => (∃ r : Bool, e = .returned (.bool r) ∧ (r = true ↔ AlikeP l m g)) ∧ Below w.heap.size w w' := by
  obtain ⟨a, c, rfl, _⟩ := hx.shape
  obtain ⟨a', c', rfl, _⟩ := hy.shape
  by_cases hl : l.length = m.length
  · rw [← hl] at hy ⊢
    exact Alike_same a a' l.length c c' B l m fs gs g w rfl hl.symm hb hBw hx hy hok hfl
  · refine (Alike_len a a' l.length m.length c c' g w hl).mono ?_
    rintro e w' ⟨rfl, rfl⟩
    refine ⟨⟨false, rfl, ?_⟩, Below.refl _ _⟩
    simp only [Bool.false_eq_true, false_iff]
    exact fun h => hl h.1
end Go.Proofs.YtndbccpaccflcaaGreat
