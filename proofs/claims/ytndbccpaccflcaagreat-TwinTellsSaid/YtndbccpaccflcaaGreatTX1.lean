/- The document's Alike. -/
import Derived.Test.YtndbccpaccflcaaGreatTW8
import Derived.Test.YtndbccpaccflcaaGreatTW13
import Derived.OneCell
import Derived.Test.YtndbccpaccflcaaGreatTW10
import Derived.Test.YtndbccpaccflcaaGreatTW2
import Derived.StillTailTactics
import Derived.Deep.QuietTactic
import Derived.BigQuiet
set_option linter.unusedVariables false
set_option linter.unusedSimpArgs false
set_option linter.unusedSectionVars false
namespace Go.Proofs.YtndbccpaccflcaaGreat
open Go Go.RowKit Go.Tw Go.Lib Go.Maps

def lentIs (l : List St) (p g : Int) (o : Bool) : Bool := l.any fun s => s.kind == 15 && s.page == p && ((s.guest == g) != o)

theorem lentIs_own (l : List St) (p g : Int) : lentIs l p g false = own l g p := by
  unfold lentIs own
  congr 1
  funext s
  cases (s.kind == 15) <;> cases (s.page == p) <;> cases (s.guest == g) <;> rfl
theorem lentIs_others (l : List St) (p g : Int) : lentIs l p g true = others l g p := by
  unfold lentIs others
  congr 1
  funext s
  cases (s.kind == 15) <;> cases (s.page == p) <;> cases (s.guest == g) <;> rfl
theorem lentIs_step {l : List St} {k : Nat} {s : St} (h : l[k]? = some s) (p g : Int) (o : Bool) : lentIs (l.take (k + 1)) p g o = (lentIs (l.take k) p g o || (s.kind == 15 && s.page == p && ((s.guest == g) != o))) := by
  unfold lentIs
  rw [List.take_add_one, h]
  simp
theorem lentIs_hit {l : List St} {k : Nat} {s : St} (h : l[k]? = some s) (p g : Int) (o : Bool) (hs : (s.kind == 15 && s.page == p && ((s.guest == g) != o)) = true) : lentIs l p g o = true := by
  unfold lentIs
  rw [List.any_eq_true]
  exact ⟨s, List.mem_of_getElem? h, hs⟩

set_option maxRecDepth 100000 in
set_option maxHeartbeats 2000000 in
theorem rlent_any (x : Option Addr) (n c B : Nat) (l : List St) (fs : List Value) (p g : Int) (o : Bool) (w : World) (hn : l.length = n) (hbig : n ≤ 1000000) (hBw : B ≤ w.heap.size)
    (hx : StepsF B w (.slice x n c) l fs) :
    Calls Tryz.prog 22 #[.slice x n c, .int .i64 p, .int .i64 g, .bool o] w fun e w' => e = .returned (.bool (lentIs l p g o)) ∧ Below w.heap.size w w' := by
  have HX : Aside (StepsF B w (.slice x n c) l fs) := hx
  clear hx
  go_enter Tryz.func22, Tryz.ntmps22
  go_wp2
  go_loopw [9] (fun i wr => ∃ k : Nat, k ≤ n ∧ i = .int .i64 k ∧ Below w.heap.size w wr ∧ lentIs (l.take k) p g o = false)
    (fun i _ => n - (RowKit.intOf i).toNat)
  case atStart => exact ⟨0, Nat.zero_le _, rfl, Below.refl _ _, rfl⟩
  case round =>
    obtain ⟨k, hk, rfl, hnx, heq⟩ := hrel
    have HN : Aside (Below w.heap.size w wr) := hnx
    have HQ : Aside (lentIs (l.take k) p g o = false) := heq
    clear hnx heq
    by_cases hlt : k < n
    · obtain ⟨s, hs⟩ : ∃ s, l[k]? = some s := ⟨_, List.getElem?_eq_getElem (by omega)⟩
      obtain ⟨b, off, rfl⟩ : ∃ b o, x = some ⟨b, o, none⟩ := by
        obtain ⟨a, cap, he, hne⟩ := HX.out.shape
        cases he
        exact hne (by intro h; rw [h] at hs; simp at hs)
      obtain ⟨f, hf⟩ : ∃ f, fs[k]? = some f := ⟨_, List.getElem?_eq_getElem (by have := HX.out.1; omega)⟩
      obtain ⟨hb, hat⟩ := HX.out.at hs hf
      obtain ⟨c0, c1, c2, c3, c4, c5, c6, c7, c8, c9, c10, c11⟩ := hat.below HN.out (by omega)
      have HS : Aside (l[k]? = some s) := hs
      have hi : (k : Int) < (n : Int) := by omega
      clear hs hf hat
      by_cases hc : (s.kind == 15 && s.page == p && ((s.guest == g) != o)) = true
      · have HC : Aside (lentIs l p g o = true) := lentIs_hit HS.out p g o hc
        simp only [Bool.and_eq_true] at hc
        obtain ⟨⟨e1, e2⟩, e3⟩ := hc
        go_wp2
        all_goals first
          | (go_ret; rw [HC.out]; exact ⟨rfl, HN.out⟩)
          | (exfalso; simp_all; done)
      · have hc : (s.kind == 15 && s.page == p && ((s.guest == g) != o)) = false := by simpa using hc
        have HC : Aside (lentIs (l.take (k + 1)) p g o = false) := by
          show lentIs (l.take (k + 1)) p g o = false
          rw [lentIs_step HS.out, HQ.out, hc]
          rfl
        go_wp2
        all_goals first
          | (exfalso; simp_all; done)
          | skip
        all_goals
          go_roundw
          case rel => exact ⟨k + 1, by omega, by go_num, HN.out, HC.out⟩
          case measure => simp [RowKit.intOf]; omega
    · have : k = n := by omega
      subst this
      have HC : Aside (lentIs l p g o = false) := by
        have := HQ.out
        rw [← hn, List.take_length] at this
        exact this
      clear hn
      go_wp2
      go_ret
      rw [HC.out]
      exact ⟨rfl, HN.out⟩

theorem rlent_calls {B : Nat} {w : World} {x : Value} {l : List St} {fs : List Value} (p g : Int) (o : Bool) (hBw : B ≤ w.heap.size) (hx : StepsF B w x l fs) (hb : l.length ≤ 1000000) :
    Calls Tryz.prog 22 #[x, .int .i64 p, .int .i64 g, .bool o] w fun e w' => e = .returned (.bool (lentIs l p g o)) ∧ Below w.heap.size w w' := by
  obtain ⟨a, c, rfl, _⟩ := hx.shape
  exact rlent_any a l.length c B l fs p g o w rfl hb hBw hx

set_option maxRecDepth 100000 in
set_option maxHeartbeats 1000000 in
theorem may_calls {B : Nat} {w : World} {x : Value} {l : List St} {fs : List Value} (s : St) (fa : Option Addr) (fn fc : Nat) (g : Int) (hBw : B ≤ w.heap.size) (hx : StepsF B w x l fs) (hb : l.length ≤ 1000000) :
    Calls Tryz.prog 21 #[x, s.val (.slice fa fn fc), .int .i64 g] w fun e w' => e = .returned (.bool (varies l g s)) ∧ Below w.heap.size w w' := by
  have HL : Aside (∀ w1, Below w.heap.size w w1 → Calls Tryz.prog 22 #[x, .int .i64 s.page, .int .i64 g, .bool false] w1 fun e w' => e = .returned (.bool (own l g s.page)) ∧ Below w1.heap.size w1 w') := by
    intro w1 h1
    have := rlent_calls s.page g false (Nat.le_trans hBw h1.size) (hx.below (h1.mono hBw)) hb
    rw [lentIs_own] at this
    exact this
  clear hx
  unfold varies
  generalize own l g s.page = q at HL
  unfold St.val
  go_enter Tryz.func21, Tryz.ntmps21
  go_wp2_with (go_at_call 22; refine (HL.out _ ((Below.refl _ _).alloc (Nat.le_refl _) _)).mono ?_; rintro e w1 ⟨rfl, hw1⟩)
  all_goals go_ret
  all_goals first
    | (refine ⟨?_, (Below.refl _ _).alloc (Nat.le_refl _) _⟩; clear HL; first | (simp [*]; done) | (simp [*]; rfl))
    | (refine ⟨?_, ((Below.refl _ _).alloc (Nat.le_refl _) _).trans (hw1.mono (by simp))⟩; clear HL; first | (simp [*]; done) | (simp [*]; rfl))
end Go.Proofs.YtndbccpaccflcaaGreat

namespace Go.Proofs.YtndbccpaccflcaaGreat
open Go Go.RowKit Go.Tw Go.Lib

theorem box_after {w0 w3 : World} {c1 : Array Value} (h3 : Below (w0.alloc (.cells c1 31)).heap.size (w0.alloc (.cells c1 31)) w3) : (∀ j, w3.cell? ⟨w0.heap.size, j, none⟩ = c1[j]?) ∧ ∀ j, w3.frozen? ⟨w0.heap.size, j, none⟩ = false := by
  have h : (w0.alloc (.cells c1 31)).heap[w0.heap.size]? = some (.cells c1 31) := by
    show (w0.heap.push (.cells c1 31))[w0.heap.size]? = _
    rw [Array.getElem?_push, if_pos rfl]
  have h' : w3.heap[w0.heap.size]? = some (.cells c1 31) := by
    rw [h3.block w0.heap.size (by simp)]
    exact h
  refine ⟨fun j => ?_, fun j => ?_⟩
  · simp only [World.cell?, h']
    simp
  · simp only [World.frozen?, h']
    simp

theorem flat_snoc {l : List St} {fs : List Value} {k : Nat} {s : St} {f : Value} (F : St → St) (hs : l[k]? = some s) (hf : fs[k]? = some f) : flat ((l.take (k + 1)).map F) (fs.take (k + 1)) = flat ((l.take k).map F) (fs.take k) ++ (F s).cells f := by
  have h1 : k < l.length := by
    rcases Nat.lt_or_ge k l.length with h | h
    · exact h
    · rw [List.getElem?_eq_none h] at hs; cases hs
  have h2 : k < fs.length := by
    rcases Nat.lt_or_ge k fs.length with h | h
    · exact h
    · rw [List.getElem?_eq_none h] at hf; cases hf
  rw [List.take_add_one, List.take_add_one, hs, hf, List.map_append]
  rw [flat_append _ _ _ _ (by simp; omega)]
  simp [flat]

theorem vary1_fails (l : List St) (g salt : Int) (s : St) : (vary1 l g salt s).fails = s.fails := by
  unfold vary1
  split <;> rfl

theorem slice_form {w : World} {base e size k : Nat} {v : Value} {xs : List Value} (h : w.ownsRow base e size v (k + 1) xs) : ∃ va vc, v = .slice va (k + 1) vc := by
  rcases h.2 with ⟨_, h0⟩ | ⟨gb, gc, cur, rfl, _⟩
  · omega
  · exact ⟨_, _, rfl⟩

set_option maxRecDepth 100000 in
set_option maxHeartbeats 2000000 in
theorem rVary_any (x : Option Addr) (n c B : Nat) (l : List St) (fs : List Value) (g salt : Int) (w : World) (hn : l.length = n) (hbig : n ≤ 1000000) (hBw : B ≤ w.heap.size)
    (hx : StepsF B w (.slice x n c) l fs) :
    Calls Tryz.prog 8 #[.slice x n c, .int .i64 g, .int .u64 salt] w fun e w' => ∃ r, e = .returned r ∧ Below w.heap.size w w' ∧ w'.ownsRow w.heap.size 31 12 r n (flat (l.map (vary1 l g salt)) fs) := by
  have HX : Aside (StepsF B w (.slice x n c) l fs) := hx
  have HM : Aside (∀ (s : St) (fa : Option Addr) (fn fc : Nat) w1, Below w.heap.size w w1 → Calls Tryz.prog 21 #[.slice x n c, s.val (.slice fa fn fc), .int .i64 g] w1 fun e w' => e = .returned (.bool (varies l g s)) ∧ Below w1.heap.size w1 w') :=
    fun s fa fn fc w1 h1 => may_calls s fa fn fc g (Nat.le_trans hBw h1.size) (hx.below (h1.mono hBw)) (by omega)
  unfold St.val at HM
  obtain ⟨i0, hi0, hz⟩ := Option.map_eq_some_iff.1 info31
  simp only [Prod.mk.injEq] at hz
  obtain ⟨hz0, hz1, hz2⟩ := hz
  clear hx
  go_enter Tryz.func8, Tryz.ntmps8
  go_wp2
  go_loopw [7, 8] (fun v i wr => ∃ k : Nat, k ≤ n ∧ i = .int .i64 k ∧ Below w.heap.size w wr ∧ ∃ (va : Option Addr) (vc : Nat), v = .slice va k vc ∧ wr.ownsRow w.heap.size 31 12 (.slice va k vc) k (flat ((l.take k).map (vary1 l g salt)) (fs.take k)))
    (fun _ i _ => n - (RowKit.intOf i).toNat)
  case atStart => exact ⟨0, Nat.zero_le _, rfl, Below.refl _ _, none, 0, rfl, World.ownsRow_nil _ _ _ _⟩
  case round =>
    obtain ⟨k, hk, rfl, hbl, va, vc, rfl, hrow⟩ := hrel
    have HB : Aside (Below w.heap.size w wr) := hbl
    have HR : Aside (wr.ownsRow w.heap.size 31 12 (.slice va k vc) k (flat ((l.take k).map (vary1 l g salt)) (fs.take k))) := hrow
    clear hbl hrow
    by_cases hlt : k < n
    · obtain ⟨s, hs⟩ : ∃ s, l[k]? = some s := ⟨_, List.getElem?_eq_getElem (by omega)⟩
      obtain ⟨b, off, rfl⟩ : ∃ b o, x = some ⟨b, o, none⟩ := by
        obtain ⟨a, cap, he, hne⟩ := HX.out.shape
        cases he
        exact hne (by intro h; rw [h] at hs; simp at hs)
      obtain ⟨f, hf⟩ : ∃ f, fs[k]? = some f := ⟨_, List.getElem?_eq_getElem (by have := HX.out.1; omega)⟩
      obtain ⟨hb, hat⟩ := HX.out.at hs hf
      obtain ⟨fa, fc, rfl⟩ := Bools.shape (HX.out.2.1 k s f hs hf)
      obtain ⟨c0, c1, c2, c3, c4, c5, c6, c7, c8, c9, c10, c11⟩ := hat.below HB.out (by omega)
      have hi : (k : Int) < (n : Int) := by omega
      have HE : Aside (flat ((l.take (k + 1)).map (vary1 l g salt)) (fs.take (k + 1)) = flat ((l.take k).map (vary1 l g salt)) (fs.take k) ++ (vary1 l g salt s).cells (.slice fa s.fails.length fc)) := flat_snoc _ hs hf
      have HVE : Aside (vary1 l g salt s = if varies l g s then { s with value := xor64 s.value salt } else s) := by
        show _ = _
        unfold vary1
        rfl
      obtain ⟨vc0, hvc⟩ : ∃ v, varies l g s = v := ⟨_, rfl⟩
      rw [hvc] at HVE
      have HMS : Aside (∀ w1, Below w.heap.size w w1 → Calls Tryz.prog 21 #[.slice (some ⟨b, off, none⟩) n c, .agg #[.int .i64 s.kind, .int .i64 s.guest, .int .u64 s.addr, .int .i64 s.size, .int .u64 s.value, .int .i64 s.page, .bool s.on, .int .i64 s.asid, .int .i64 s.what, .int .i64 s.set, .int .i64 s.way, .slice fa s.fails.length fc], .int .i64 g] w1 fun e w' => e = .returned (.bool vc0) ∧ Below w1.heap.size w1 w') := by
        rw [← hvc]; exact HM.out s fa s.fails.length fc
      clear hvc
      clear hs hf hat
      go_wp2_with fail
      refine (HMS.out _ (HB.out.alloc HB.out.size _)).mono ?_
      rintro e w5 ⟨rfl, hw5⟩
      obtain ⟨hx1, hfz⟩ := box_after hw5
      have x0 := hx1 0
      have x1 := hx1 1
      have x2 := hx1 2
      have x3 := hx1 3
      have x4 := hx1 4
      have x5 := hx1 5
      have x6 := hx1 6
      have x7 := hx1 7
      have x8 := hx1 8
      have x9 := hx1 9
      have x10 := hx1 10
      have x11 := hx1 11
      have z4 := hfz 4
      clear hx1 hfz c0 c1 c2 c3 c4 c5 c6 c7 c8 c9 c10 c11
      simp only [List.getElem?_toArray, List.getElem?_cons_zero, List.getElem?_cons_succ] at x0 x1 x2 x3 x4 x5 x6 x7 x8 x9 x10 x11
      have HB5 : Aside (Below w.heap.size w w5) := (HB.out.alloc HB.out.size _).trans (hw5.mono (by have := HB.out.size; simp; omega))
      have HR5 : Aside (w5.ownsRow w.heap.size 31 12 (.slice va k vc) k (flat ((l.take k).map (vary1 l g salt)) (fs.take k))) := ownsRow_below (HR.out.alloc _) hw5
      have HS5 : Aside (wr.heap.size + 1 ≤ w5.heap.size) := by
        have := hw5.size
        simp at this
        exact this
      have HRO : Aside (∀ u, (w5.setCell ⟨wr.heap.size, 4, none⟩ u).ownsRow w.heap.size 31 12 (.slice va k vc) k (flat ((l.take k).map (vary1 l g salt)) (fs.take k))) := fun u =>
        ownsRow_setCell_other HR5.out (by intro h; have := (HR.out.lt _ h).2; simp at this) u
      have HSW : Aside (w.heap.size ≤ wr.heap.size) := HB.out.size
      clear hw5
      cases vc0 with
      | true =>
        have HV1 : Aside (vary1 l g salt s = { s with value := xor64 s.value salt }) := HVE.out
        have HX4 : Aside (w5.cell? ⟨wr.heap.size, 4, none⟩ = some (.int .u64 s.value)) := x4
        clear HVE HMS
        go_upto_region 8 with fail
        have hRW := HRO.out (.int .u64 (bits .xor .u64 s.value salt))
        have hBW : Below w.heap.size w (w5.setCell ⟨wr.heap.size, 4, none⟩ (.int .u64 (bits .xor .u64 s.value salt))) := HB5.out.setCell HSW.out _
        have hc : ∀ j u, j ≠ 4 → w5.cell? ⟨wr.heap.size, j, none⟩ = some u → (w5.setCell ⟨wr.heap.size, 4, none⟩ (.int .u64 (bits .xor .u64 s.value salt))).cell? ⟨wr.heap.size, j, none⟩ = some u := fun j u hj h => by
          rw [World.cell?_setCell_other _ _ _ _ (by intro h; simp only [Addr.mk.injEq] at h; omega)]
          exact h
        have y0 := hc 0 _ (by omega) x0
        have y1 := hc 1 _ (by omega) x1
        have y2 := hc 2 _ (by omega) x2
        have y3 := hc 3 _ (by omega) x3
        have y4 := World.cell?_setCell_same w5 ⟨wr.heap.size, 4, none⟩ (.int .u64 (bits .xor .u64 s.value salt)) HX4.out
        have y5 := hc 5 _ (by omega) x5
        have y6 := hc 6 _ (by omega) x6
        have y7 := hc 7 _ (by omega) x7
        have y8 := hc 8 _ (by omega) x8
        have y9 := hc 9 _ (by omega) x9
        have y10 := hc 10 _ (by omega) x10
        have y11 := hc 11 _ (by omega) x11
        clear hc x0 x1 x2 x3 x4 x5 x6 x7 x8 x9 x10 x11 z4
        generalize w5.setCell ⟨wr.heap.size, 4, none⟩ (.int .u64 (bits .xor .u64 s.value salt)) = W at *
        have HRW : Aside (W.ownsRow w.heap.size 31 12 (.slice va k vc) k (flat ((l.take k).map (vary1 l g salt)) (fs.take k))) := hRW
        have HBW : Aside (Below w.heap.size w W) := hBW
        clear hRW hBW
        go_wp2_with (at_builtin; refine wpList_append_own_at _ rfl _ _ 22 rfl w.heap.size 31 i0 _ 12 112 Tryz.underlying22 hi0 hz0 hz1 hz2 rfl (by decide) _ k _ rfl (HRW.out.alloc _) ⟨W.heap.size, 0, none⟩ 1 1 (({ s with value := xor64 s.value salt } : St).cells (.slice fa s.fails.length fc)) rfl rfl cells_new (cells_one _ rfl) (by unfold maxLen; omega) (by omega) (by have := HBW.out.size; simp; omega) ?_; intro v' w6 hown' hgrow hnil hloc)
        go_roundw
        case rel =>
          obtain ⟨va', vc', rfl⟩ := slice_form hown'
          refine ⟨k + 1, by omega, by go_num, (HBW.out.alloc HBW.out.size _).grown hgrow (by have := HBW.out.size; simp; omega) (fun j hj => (HRW.out.lt j hj).1), va', vc', rfl, ?_⟩
          rw [HE.out, HV1.out]
          exact hown'
        case measure => simp [RowKit.intOf]; omega
      | false =>
        have HV1 : Aside (vary1 l g salt s = s) := HVE.out
        clear HVE HMS
        go_wp2_with (at_builtin; refine wpList_append_own_at _ rfl _ _ 22 rfl w.heap.size 31 i0 _ 12 112 Tryz.underlying22 hi0 hz0 hz1 hz2 rfl (by decide) _ k _ rfl (HR5.out.alloc _) ⟨w5.heap.size, 0, none⟩ 1 1 (s.cells (.slice fa s.fails.length fc)) rfl rfl cells_new (cells_one _ rfl) (by unfold maxLen; omega) (by omega) (by have := HB5.out.size; simp; omega) ?_; intro v' w6 hown' hgrow hnil hloc)
        go_roundw
        case rel =>
          obtain ⟨va', vc', rfl⟩ := slice_form hown'
          refine ⟨k + 1, by omega, by go_num, (HB5.out.alloc HB5.out.size _).grown hgrow (by have := HB5.out.size; simp; omega) (fun j hj => (HR5.out.lt j hj).1), va', vc', rfl, ?_⟩
          rw [HE.out, HV1.out]
          exact hown'
        case measure => simp [RowKit.intOf]; omega
    · have hkn : k = n := by omega
      subst hkn
      have HRN : Aside (wr.ownsRow w.heap.size 31 12 (.slice va k vc) k (flat (l.map (vary1 l g salt)) fs)) := by
        have := HR.out
        rw [← hn, List.take_length, show l.length = fs.length from by rw [HX.out.1], List.take_length] at this
        rw [HX.out.1, hn] at this
        exact this
      clear hn
      go_wp2
      go_ret
      exact ⟨_, rfl, HB.out, HRN.out⟩

theorem rVary_calls {B : Nat} {w : World} {x : Value} {l : List St} {fs : List Value} (g salt : Int) (hBw : B ≤ w.heap.size) (hx : StepsF B w x l fs) (hb : l.length ≤ 1000000) :
    Calls Tryz.prog 8 #[x, .int .i64 g, .int .u64 salt] w fun e w' => ∃ r, e = .returned r ∧ Below w.heap.size w w' ∧ StepsF w'.heap.size w' r (l.map (vary1 l g salt)) fs := by
  obtain ⟨a, c, rfl, _⟩ := hx.shape
  refine (rVary_any a l.length c B l fs g salt w rfl hb hBw hx).mono ?_
  rintro e w' ⟨r, rfl, hb, hown⟩
  refine ⟨r, rfl, hb, StepsF.owned hown (by simp [hx.1]) fun i s f h1 h2 => ?_⟩
  rw [List.getElem?_map] at h1
  cases h : l[i]? with
  | none => rw [h] at h1; cases h1
  | some s0 =>
    rw [h] at h1
    simp only [Option.map_some, Option.some.injEq] at h1
    subst h1
    rw [(vary1_fails l g salt s0)]
    exact ((hx.2.1 i s0 f h h2).below (hb.mono hBw)).up (Nat.le_trans hBw hb.size)
end Go.Proofs.YtndbccpaccflcaaGreat

namespace Go.Proofs.YtndbccpaccflcaaGreat
open Go Go.RowKit Go.Tw Go.Lib

theorem rAlike_len (x y : Option Addr) (n m c d : Nat) (g : Int) (w : World) (h : n ≠ m) :
    Calls Tryz.prog 13 #[.slice x n c, .slice y m d, .int .i64 g] w fun e w' => e = .returned (.bool false) ∧ w' = w := by
  have h1 : ((n : Int) != (m : Int)) = true := by rw [bne_iff_ne]; omega
  go_enter Tryz.func13, Tryz.ntmps13
  go_wp2
  go_ret
  exact ⟨rfl, rfl⟩

set_option maxRecDepth 100000 in
set_option maxHeartbeats 4000000 in
theorem rAlike_same (x y : Option Addr) (n c d B : Nat) (l m : List St) (fs gs : List Value) (g : Int) (w : World) (hn : l.length = n) (hm : m.length = n) (hbig : n ≤ 1000000) (hBw : B ≤ w.heap.size)
    (hx : StepsF B w (.slice x n c) l fs) (hy : StepsF B w (.slice y n d) m gs) (hfl : ∀ s ∈ l, s.fails.length ≤ 1000000) :
    Calls Tryz.prog 13 #[.slice x n c, .slice y n d, .int .i64 g] w fun e w' => (∃ r : Bool, e = .returned (.bool r) ∧ (r = true ↔ AlikeP l m g)) ∧ Below w.heap.size w w' := by
  have HX : Aside (StepsF B w (.slice x n c) l fs) := hx
  have HY : Aside (StepsF B w (.slice y n d) m gs) := hy
  have HF : Aside (∀ s ∈ l, s.fails.length ≤ 1000000) := hfl
  have HM : Aside (∀ (s : St) (fa : Option Addr) (fn fc : Nat) w1, Below w.heap.size w w1 → Calls Tryz.prog 21 #[.slice x n c, s.val (.slice fa fn fc), .int .i64 g] w1 fun e w' => e = .returned (.bool (varies l g s)) ∧ Below w1.heap.size w1 w') :=
    fun s fa fn fc w1 h1 => may_calls s fa fn fc g (Nat.le_trans hBw h1.size) (hx.below (h1.mono hBw)) (by omega)
  unfold St.val at HM
  clear hx hy hfl
  go_enter Tryz.func13, Tryz.ntmps13
  go_wp2
  go_loopw [7] (fun i wr => ∃ k : Nat, k ≤ n ∧ i = .int .i64 k ∧ Below w.heap.size w wr ∧ (∀ (j : Nat) (s t : St), j < k → l[j]? = some s → m[j]? = some t → s = lift1 l g s t))
    (fun i _ => n - (RowKit.intOf i).toNat)
  case atStart => exact ⟨0, Nat.zero_le _, rfl, Below.refl _ _, fun j _ _ hj => absurd hj (Nat.not_lt_zero _)⟩
  case round =>
    obtain ⟨k, hk, rfl, hnx, heq⟩ := hrel
    have HN : Aside (Below w.heap.size w wr) := hnx
    have HQ : Aside (∀ (j : Nat) (s t : St), j < k → l[j]? = some s → m[j]? = some t → s = lift1 l g s t) := heq
    clear hnx heq
    by_cases hlt : k < n
    · obtain ⟨s, hs⟩ : ∃ s, l[k]? = some s := ⟨_, List.getElem?_eq_getElem (by omega)⟩
      obtain ⟨t, ht⟩ : ∃ t, m[k]? = some t := ⟨_, List.getElem?_eq_getElem (by omega)⟩
      obtain ⟨b, o, rfl⟩ : ∃ b o, x = some ⟨b, o, none⟩ := by
        obtain ⟨a, cap, he, hne⟩ := HX.out.shape
        cases he
        exact hne (by intro h; rw [h] at hs; simp at hs)
      obtain ⟨b', o', rfl⟩ : ∃ b o, y = some ⟨b, o, none⟩ := by
        obtain ⟨a, cap, he, hne⟩ := HY.out.shape
        cases he
        exact hne (by intro h; rw [h] at ht; simp at ht)
      obtain ⟨f, hf⟩ : ∃ f, fs[k]? = some f := ⟨_, List.getElem?_eq_getElem (by have := HX.out.1; omega)⟩
      obtain ⟨f', hg⟩ : ∃ g, gs[k]? = some g := ⟨_, List.getElem?_eq_getElem (by have := HY.out.1; omega)⟩
      obtain ⟨hb, hat⟩ := HX.out.at hs hf
      obtain ⟨hb', hat'⟩ := HY.out.at ht hg
      have hbf : Bools B wr f s.fails := (HX.out.2.1 k s f hs hf).below (HN.out.mono hBw)
      have hbg : Bools B wr f' t.fails := (HY.out.2.1 k t f' ht hg).below (HN.out.mono hBw)
      obtain ⟨d0, d1, d2, d3, d4, d5, d6, d7, d8, d9, d10, d11⟩ := hat'.below HN.out (by omega)
      have HAT : Aside (∀ w5, Below wr.heap.size wr w5 → At w5 b (o + k * 12) s f) := fun w5 h5 => (hat.below HN.out (by omega)).below h5 (by have := HN.out.size; omega)
      obtain ⟨c0, c1, c2, c3, c4, c5, c6, c7, c8, c9, c10, c11⟩ := HAT.out _ ((Below.refl _ _).alloc (Nat.le_refl _) (.cells #[.int .i64 t.kind, .int .i64 t.guest, .int .u64 t.addr, .int .i64 t.size, .int .u64 t.value, .int .i64 t.page, .bool t.on, .int .i64 t.asid, .int .i64 t.what, .int .i64 t.set, .int .i64 t.way, f'] 31))
      obtain ⟨fa, fc, rfl⟩ := Bools.shape hbf
      obtain ⟨ga, gc, rfl⟩ := Bools.shape hbg
      have HBF : Aside (Bools B wr (.slice fa s.fails.length fc) s.fails) := hbf
      have HBG : Aside (Bools B wr (.slice ga t.fails.length gc) t.fails) := hbg
      have HS : Aside (l[k]? = some s) := hs
      have HT : Aside (m[k]? = some t) := ht
      have hi : (k : Int) < (n : Int) := by omega
      have HLE : Aside (lift1 l g s t = if varies l g s then { t with value := s.value } else t) := by
        show _ = _
        unfold lift1
        rfl
      obtain ⟨vc, hvc⟩ : ∃ v, varies l g s = v := ⟨_, rfl⟩
      rw [hvc] at HLE
      have HMS : Aside (∀ w1, Below w.heap.size w w1 → Calls Tryz.prog 21 #[.slice (some ⟨b, o, none⟩) n c, .agg #[.int .i64 s.kind, .int .i64 s.guest, .int .u64 s.addr, .int .i64 s.size, .int .u64 s.value, .int .i64 s.page, .bool s.on, .int .i64 s.asid, .int .i64 s.what, .int .i64 s.set, .int .i64 s.way, .slice fa s.fails.length fc], .int .i64 g] w1 fun e w' => e = .returned (.bool vc) ∧ Below w1.heap.size w1 w') := by
        rw [← hvc]; exact HM.out s fa s.fails.length fc
      clear hvc
      clear hs ht hf hg hat hat' hbf hbg
      go_wp2_with fail
      refine (HMS.out _ (HN.out.alloc HN.out.size _)).mono ?_
      rintro e w5 ⟨rfl, hw5⟩
      obtain ⟨hx1, hfz⟩ := box_after hw5
      have HX1 : Aside (∀ j, w5.cell? ⟨wr.heap.size, j, none⟩ = #[Value.int .i64 t.kind, .int .i64 t.guest, .int .u64 t.addr, .int .i64 t.size, .int .u64 t.value, .int .i64 t.page, .bool t.on, .int .i64 t.asid, .int .i64 t.what, .int .i64 t.set, .int .i64 t.way, .slice ga t.fails.length gc][j]?) := hx1
      have x4 := hx1 4
      have z4 := hfz 4
      have HB5 : Aside (Below wr.heap.size wr w5) := ((Below.refl _ _).alloc (Nat.le_refl _) _).trans (hw5.mono (by simp))
      have HG5 : Aside (wr.heap.size + 1 ≤ w5.heap.size) := by
        have := hw5.size
        simp at this
        exact this
      clear hw5 hx1 hfz c0 c1 c2 c3 c4 c5 c6 c7 c8 c9 c10 c11 d0 d1 d2 d3 d4 d5 d6 d7 d8 d9 d10 d11
      simp only [List.getElem?_toArray, List.getElem?_cons_zero, List.getElem?_cons_succ] at x4
      have HX4 : Aside (w5.cell? ⟨wr.heap.size, 4, none⟩ = some (.int .u64 t.value)) := x4
      have hfs : s.fails.length ≤ 1000000 := HF.out s (List.mem_of_getElem? HS.out)
      obtain ⟨c0, c1, c2, c3, c4, c5, c6, c7, c8, c9, c10, c11⟩ := HAT.out _ HB5.out
      clear c0 c1 c2 c3 c5 c6 c7 c8 c9 c10 c11
      -- the world behind the test, and what lies in the box there
      have HEND : Aside (∀ (u : St) (w6 : World), Below wr.heap.size wr w6 → Bools wr.heap.size w6 (.slice ga u.fails.length gc) u.fails → Bools wr.heap.size w6 (.slice fa s.fails.length fc) s.fails → Calls Tryz.prog 14 #[s.val (.slice fa s.fails.length fc), u.val (.slice ga u.fails.length gc)] w6 fun e w' => e = .returned (.bool (decide (s = u))) ∧ Below w6.heap.size w6 w') :=
        fun u w6 h1 h2 h3 => Same_calls h3 h2 h1.size (by omega)
      have b1 : Bools wr.heap.size w5 (.slice fa s.fails.length fc) s.fails := (HBF.out.up (Nat.le_trans hBw HN.out.size)).below HB5.out
      have b2 : Bools wr.heap.size w5 (.slice ga t.fails.length gc) t.fails := (HBG.out.up (Nat.le_trans hBw HN.out.size)).below HB5.out
      have HB1 : Aside (Bools wr.heap.size w5 (.slice fa s.fails.length fc) s.fails) := b1
      have HB2 : Aside (Bools wr.heap.size w5 (.slice ga t.fails.length gc) t.fails) := b2
      clear b1 b2 HMS
      have HCLOSE : Aside (∀ u : St, lift1 l g s t = u → (decide (s = u) = true → ∀ (j : Nat) (s t : St), j < k + 1 → l[j]? = some s → m[j]? = some t → s = lift1 l g s t) ∧ (decide (s = u) = false → ¬ AlikeP l m g)) := fun u hu => by
        refine ⟨fun h j s' t' hj h1 h2 => ?_, fun h h2 => ?_⟩
        · by_cases hjk : j < k
          · exact HQ.out j s' t' hjk h1 h2
          · have : j = k := by omega
            subst this
            have e1 := HS.out.symm.trans h1
            have e2 := HT.out.symm.trans h2
            simp only [Option.some.injEq] at e1 e2
            subst e1 e2
            rw [hu]
            exact of_decide_eq_true h
        · have := h2.2 k s t HS.out HT.out
          rw [hu] at this
          rw [decide_eq_true this] at h
          cases h
      cases vc with
      | true =>
        have HU : Aside (lift1 l g s t = { t with value := s.value }) := HLE.out
        have HB6 : Aside (Below wr.heap.size wr (w5.setCell ⟨wr.heap.size, 4, none⟩ (.int .u64 s.value))) := HB5.out.setCell (by simp) _
        have HF6 : Aside (Bools wr.heap.size (w5.setCell ⟨wr.heap.size, 4, none⟩ (.int .u64 s.value)) (.slice fa s.fails.length fc) s.fails) := Bools_setCell HB1.out HX4.out (by intro c hc; cases hc) _
        have HG6 : Aside (Bools wr.heap.size (w5.setCell ⟨wr.heap.size, 4, none⟩ (.int .u64 s.value)) (.slice ga t.fails.length gc) t.fails) := Bools_setCell HB2.out HX4.out (by intro c hc; cases hc) _
        have HX6 : Aside (∀ j, (w5.setCell ⟨wr.heap.size, 4, none⟩ (.int .u64 s.value)).cell? ⟨wr.heap.size, j, none⟩ = #[Value.int .i64 t.kind, .int .i64 t.guest, .int .u64 t.addr, .int .i64 t.size, .int .u64 s.value, .int .i64 t.page, .bool t.on, .int .i64 t.asid, .int .i64 t.what, .int .i64 t.set, .int .i64 t.way, .slice ga t.fails.length gc][j]?) := fun j => by
          by_cases hj : j = 4
          · subst hj
            rw [World.cell?_setCell_same _ _ _ HX4.out]
            simp
          · rw [World.cell?_setCell_other _ _ _ _ (by intro h; simp only [Addr.mk.injEq] at h; omega), HX1.out j]
            match j, hj with
            | 0, _ | 1, _ | 2, _ | 3, _ | 5, _ | 6, _ | 7, _ | 8, _ | 9, _ | 10, _ | 11, _ => rfl
            | j + 12, _ => simp
        go_upto_region 9 with fail
        generalize w5.setCell ⟨wr.heap.size, 4, none⟩ (.int .u64 s.value) = W at *
        clear HLE HB5 HB1 HB2 HX1 HX4 x4 z4 c4
        have HAT6 : Aside (At W b (o + k * 12) s (.slice fa s.fails.length fc)) := HAT.out _ HB6.out
        have HCL := (show Aside ((decide (s = ({ t with value := s.value } : St)) = true → ∀ (j : Nat) (s t : St), j < k + 1 → l[j]? = some s → m[j]? = some t → s = lift1 l g s t) ∧ (decide (s = ({ t with value := s.value } : St)) = false → ¬ AlikeP l m g)) from HCLOSE.out _ HU.out)
        have HCA : Aside (Calls Tryz.prog 14 #[.agg #[.int .i64 s.kind, .int .i64 s.guest, .int .u64 s.addr, .int .i64 s.size, .int .u64 s.value, .int .i64 s.page, .bool s.on, .int .i64 s.asid, .int .i64 s.what, .int .i64 s.set, .int .i64 s.way, .slice fa s.fails.length fc], .agg #[.int .i64 t.kind, .int .i64 t.guest, .int .u64 t.addr, .int .i64 t.size, .int .u64 s.value, .int .i64 t.page, .bool t.on, .int .i64 t.asid, .int .i64 t.what, .int .i64 t.set, .int .i64 t.way, .slice ga t.fails.length gc]] W.drew fun e w' => e = .returned (.bool (decide (s = ({ t with value := s.value } : St)))) ∧ Below W.drew.heap.size W.drew w') :=
          HEND.out ({ t with value := s.value } : St) W.drew HB6.out.drew (HG6.out.below (Below.refl _ _).drew) (HF6.out.below (Below.refl _ _).drew)
        generalize decide (s = ({ t with value := s.value } : St)) = qq at HCL HCA
        obtain ⟨c0, c1, c2, c3, c4, c5, c6, c7, c8, c9, c10, c11⟩ := HAT6.out
        have x0 := HX6.out 0
        have x1 := HX6.out 1
        have x2 := HX6.out 2
        have x3 := HX6.out 3
        have x4 := HX6.out 4
        have x5 := HX6.out 5
        have x6 := HX6.out 6
        have x7 := HX6.out 7
        have x8 := HX6.out 8
        have x9 := HX6.out 9
        have x10 := HX6.out 10
        have x11 := HX6.out 11
        simp only [List.getElem?_toArray, List.getElem?_cons_zero, List.getElem?_cons_succ] at x0 x1 x2 x3 x4 x5 x6 x7 x8 x9 x10 x11
        go_still_tail 5, (by kernel_rfl)
        change wpList _ _ _ _ _ W.drew
        go_wp2_with fail
        refine HCA.out.mono ?_
        rintro e w7 ⟨rfl, hw7⟩
        have HB7 : Aside (Below w.heap.size w w7) := HN.out.trans ((HB6.out.drew.trans (hw7.mono HB6.out.drew.size)).mono HN.out.size)
        clear hw7 c0 c1 c2 c3 c4 c5 c6 c7 c8 c9 c10 c11 x0 x1 x2 x3 x4 x5 x6 x7 x8 x9 x10 x11
        go_wp2_with fail
        · have hq : (!qq) = true := by assumption
          go_ret
          exact ⟨⟨false, rfl, by simp only [Bool.false_eq_true, false_iff]; exact HCL.out.2 (by simpa using hq)⟩, HB7.out⟩
        · have hq : (!qq) = false := by assumption
          go_roundw
          case rel => exact ⟨k + 1, by omega, by go_num, HB7.out, HCL.out.1 (by simpa using hq)⟩
          case measure => simp [RowKit.intOf]; omega
      | false =>
        have HU : Aside (lift1 l g s t = t) := HLE.out
        have HB6 : Aside (Below wr.heap.size wr w5) := HB5.out
        have HF6 : Aside (Bools wr.heap.size w5 (.slice fa s.fails.length fc) s.fails) := HB1.out
        have HG6 : Aside (Bools wr.heap.size w5 (.slice ga t.fails.length gc) t.fails) := HB2.out
        have HX6 : Aside (∀ j, w5.cell? ⟨wr.heap.size, j, none⟩ = #[Value.int .i64 t.kind, .int .i64 t.guest, .int .u64 t.addr, .int .i64 t.size, .int .u64 t.value, .int .i64 t.page, .bool t.on, .int .i64 t.asid, .int .i64 t.what, .int .i64 t.set, .int .i64 t.way, .slice ga t.fails.length gc][j]?) := HX1.out
        go_upto_region 9 with fail
        clear HLE HB5 HB1 HB2 HX1 HX4 x4 z4 c4
        have HAT6 : Aside (At w5 b (o + k * 12) s (.slice fa s.fails.length fc)) := HAT.out _ HB6.out
        have HCL := (show Aside ((decide (s = t) = true → ∀ (j : Nat) (s t : St), j < k + 1 → l[j]? = some s → m[j]? = some t → s = lift1 l g s t) ∧ (decide (s = t) = false → ¬ AlikeP l m g)) from HCLOSE.out _ HU.out)
        have HCA : Aside (Calls Tryz.prog 14 #[.agg #[.int .i64 s.kind, .int .i64 s.guest, .int .u64 s.addr, .int .i64 s.size, .int .u64 s.value, .int .i64 s.page, .bool s.on, .int .i64 s.asid, .int .i64 s.what, .int .i64 s.set, .int .i64 s.way, .slice fa s.fails.length fc], .agg #[.int .i64 t.kind, .int .i64 t.guest, .int .u64 t.addr, .int .i64 t.size, .int .u64 t.value, .int .i64 t.page, .bool t.on, .int .i64 t.asid, .int .i64 t.what, .int .i64 t.set, .int .i64 t.way, .slice ga t.fails.length gc]] w5.drew fun e w' => e = .returned (.bool (decide (s = t))) ∧ Below w5.drew.heap.size w5.drew w') :=
          HEND.out t w5.drew HB6.out.drew (HG6.out.below (Below.refl _ _).drew) (HF6.out.below (Below.refl _ _).drew)
        generalize decide (s = t) = qq at HCL HCA
        obtain ⟨c0, c1, c2, c3, c4, c5, c6, c7, c8, c9, c10, c11⟩ := HAT6.out
        have x0 := HX6.out 0
        have x1 := HX6.out 1
        have x2 := HX6.out 2
        have x3 := HX6.out 3
        have x4 := HX6.out 4
        have x5 := HX6.out 5
        have x6 := HX6.out 6
        have x7 := HX6.out 7
        have x8 := HX6.out 8
        have x9 := HX6.out 9
        have x10 := HX6.out 10
        have x11 := HX6.out 11
        simp only [List.getElem?_toArray, List.getElem?_cons_zero, List.getElem?_cons_succ] at x0 x1 x2 x3 x4 x5 x6 x7 x8 x9 x10 x11
        go_still_tail 5, (by kernel_rfl)
        change wpList _ _ _ _ _ w5.drew
        go_wp2_with fail
        refine HCA.out.mono ?_
        rintro e w7 ⟨rfl, hw7⟩
        have HB7 : Aside (Below w.heap.size w w7) := HN.out.trans ((HB6.out.drew.trans (hw7.mono HB6.out.drew.size)).mono HN.out.size)
        clear hw7 c0 c1 c2 c3 c4 c5 c6 c7 c8 c9 c10 c11 x0 x1 x2 x3 x4 x5 x6 x7 x8 x9 x10 x11
        go_wp2_with fail
        · have hq : (!qq) = true := by assumption
          go_ret
          exact ⟨⟨false, rfl, by simp only [Bool.false_eq_true, false_iff]; exact HCL.out.2 (by simpa using hq)⟩, HB7.out⟩
        · have hq : (!qq) = false := by assumption
          go_roundw
          case rel => exact ⟨k + 1, by omega, by go_num, HB7.out, HCL.out.1 (by simpa using hq)⟩
          case measure => simp [RowKit.intOf]; omega
    · have hge : n ≤ k := by omega
      have HA : Aside (AlikeP l m g) := ⟨by omega, fun i s t h1 h2 => HQ.out i s t (by
        have : i < l.length := by
          rcases Nat.lt_or_ge i l.length with h | h
          · exact h
          · rw [List.getElem?_eq_none h] at h1; cases h1
        omega) h1 h2⟩
      go_wp2
      go_ret
      exact ⟨⟨true, rfl, by simp only [true_iff]; exact HA.out⟩, HN.out⟩

theorem rAlike_calls {B : Nat} {w : World} {x y : Value} {l m : List St} {fs gs : List Value} (g : Int) (hBw : B ≤ w.heap.size) (hx : StepsF B w x l fs) (hy : StepsF B w y m gs) (hb : l.length ≤ 1000000) (hfl : ∀ s ∈ l, s.fails.length ≤ 1000000) :
    Calls Tryz.prog 13 #[x, y, .int .i64 g] w fun e w' => (∃ r : Bool, e = .returned (.bool r) ∧ (r = true ↔ AlikeP l m g)) ∧ Below w.heap.size w w' := by
  obtain ⟨a, c, rfl, _⟩ := hx.shape
  obtain ⟨a', c', rfl, _⟩ := hy.shape
  by_cases hl : l.length = m.length
  · rw [← hl] at hy ⊢
    exact rAlike_same a a' l.length c c' B l m fs gs g w rfl hl.symm hb hBw hx hy hfl
  · refine (rAlike_len a a' l.length m.length c c' g w hl).mono ?_
    rintro e w' ⟨rfl, rfl⟩
    refine ⟨⟨false, rfl, ?_⟩, Below.refl _ _⟩
    simp only [Bool.false_eq_true, false_iff]
    exact fun h => hl h.1
end Go.Proofs.YtndbccpaccflcaaGreat
