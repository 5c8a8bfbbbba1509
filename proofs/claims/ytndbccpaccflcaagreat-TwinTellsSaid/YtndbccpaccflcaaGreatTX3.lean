/- TwinTells's walk. -/
import Derived.Test.YtndbccpaccflcaaGreatTX1
import Derived.Test.YtndbccpaccflcaaGreatTW11
import Derived.Test.YtndbccpaccflcaaGreatTW7
import Derived.Test.YtndbccpaccflcaaGreatTW14
import Derived.Test.YtndbccpaccflcaaGreatTW16
import Derived.Test.YtndbccpaccflcaaGreatTW13
import Derived.Deep.AppendSrc
set_option linter.unusedVariables false
set_option linter.unusedSimpArgs false
set_option linter.unusedSectionVars false
namespace Go.Proofs.YtndbccpaccflcaaGreat
open Go Go.RowKit Go.Tw Go.Lib

theorem own_hit {l : List St} {g x : Int} (h : own l g x = true) : ∃ (i : Nat) (s : St), l[i]? = some s ∧ s.kind = 15 ∧ s.guest = g ∧ s.page = x := by
  unfold own at h
  rw [List.any_eq_true] at h
  obtain ⟨s, hs, h⟩ := h
  obtain ⟨i, hi, rfl⟩ := List.getElem_of_mem hs
  simp only [Bool.and_eq_true, beq_iff_eq] at h
  exact ⟨i, _, List.getElem?_eq_getElem hi, h.1.1, h.1.2, h.2⟩
theorem own_of {l : List St} {g : Int} {i : Nat} {s : St} (hs : l[i]? = some s) (h1 : s.kind = 15) (h2 : s.guest = g) : own l g s.page = true := by
  unfold own
  rw [List.any_eq_true]
  exact ⟨s, List.mem_of_getElem? hs, by simp [h1, h2]⟩

set_option maxRecDepth 100000 in
set_option maxHeartbeats 2000000 in
theorem rApart_any (x : Option Addr) (n c B : Nat) (l : List St) (fs : List Value) (g : Int) (w : World) (hn : l.length = n) (hbig : n ≤ 1000000) (hBw : B ≤ w.heap.size)
    (hx : StepsF B w (.slice x n c) l fs) :
    Calls Tryz.prog 11 #[.slice x n c, .int .i64 g] w fun e w' => (∃ r : Bool, e = .returned (.bool r) ∧ (r = true ↔ ApartP l g)) ∧ Below w.heap.size w w' := by
  have HX : Aside (StepsF B w (.slice x n c) l fs) := hx
  have HL : Aside (∀ (p : Int) w1, Below w.heap.size w w1 → Calls Tryz.prog 22 #[.slice x n c, .int .i64 p, .int .i64 g, .bool true] w1 fun e w' => e = .returned (.bool (others l g p)) ∧ Below w1.heap.size w1 w') := by
    intro p w1 h1
    have := rlent_calls p g true (Nat.le_trans hBw h1.size) (hx.below (h1.mono hBw)) (by omega)
    rw [lentIs_others] at this
    exact this
  clear hx
  go_enter Tryz.func11, Tryz.ntmps11
  go_wp2
  go_loopw [5] (fun i wr => ∃ k : Nat, k ≤ n ∧ i = .int .i64 k ∧ Below w.heap.size w wr ∧ (∀ (j : Nat) (s : St), j < k → l[j]? = some s → bad g s = false ∧ (s.kind = 15 → s.guest = g → others l g s.page = false)))
    (fun i _ => n - (RowKit.intOf i).toNat)
  case atStart => exact ⟨0, Nat.zero_le _, rfl, Below.refl _ _, fun j _ hj => absurd hj (Nat.not_lt_zero _)⟩
  case round =>
    obtain ⟨k, hk, rfl, hnx, heq⟩ := hrel
    have HN : Aside (Below w.heap.size w wr) := hnx
    have HQ : Aside (∀ (j : Nat) (s : St), j < k → l[j]? = some s → bad g s = false ∧ (s.kind = 15 → s.guest = g → others l g s.page = false)) := heq
    clear hnx heq
    by_cases hlt : k < n
    · obtain ⟨s, hs⟩ : ∃ s, l[k]? = some s := ⟨_, List.getElem?_eq_getElem (by omega)⟩
      obtain ⟨b, o, rfl⟩ : ∃ b o, x = some ⟨b, o, none⟩ := by
        obtain ⟨a, cap, he, hne⟩ := HX.out.shape
        cases he
        exact hne (by intro h; rw [h] at hs; simp at hs)
      obtain ⟨f, hf⟩ : ∃ f, fs[k]? = some f := ⟨_, List.getElem?_eq_getElem (by have := HX.out.1; omega)⟩
      obtain ⟨hb, hat⟩ := HX.out.at hs hf
      obtain ⟨fa, fc, rfl⟩ := Bools.shape (HX.out.2.1 k s f hs hf)
      obtain ⟨c0, c1, c2, c3, c4, c5, c6, c7, c8, c9, c10, c11⟩ := hat.below HN.out (by omega)
      have hi : (k : Int) < (n : Int) := by omega
      have HB1 : Aside (∀ cs, Below w.heap.size w (wr.alloc (.cells cs 31))) := fun cs => HN.out.alloc HN.out.size _
      have HBT : Aside (bad g s = true → ¬ ApartP l g) := fun h1 h2 => by
        have := h2.1 k s hs
        rw [h1] at this
        cases this
      have HCT : Aside (s.kind = 15 → s.guest = g → others l g s.page = true → ¬ ApartP l g) := fun h0 h1 h2 h3 => by
        have := h3.2 s.page (own_of hs h0 h1)
        rw [h2] at this
        cases this
      have HBF : Aside (bad g s = false → (s.kind = 15 → s.guest = g → others l g s.page = false) → ∀ (j : Nat) (s : St), j < k + 1 → l[j]? = some s → bad g s = false ∧ (s.kind = 15 → s.guest = g → others l g s.page = false)) := fun h1 h2 j s' hj hs' => by
        by_cases hjk : j < k
        · exact HQ.out j s' hjk hs'
        · have : j = k := by omega
          subst this
          have e1 := hs.symm.trans hs'
          simp only [Option.some.injEq] at e1
          subst e1
          exact ⟨h1, h2⟩
      have HLS : Aside (∀ w1, Below w.heap.size w w1 → Calls Tryz.prog 22 #[.slice (some ⟨b, o, none⟩) n c, .int .i64 s.page, .int .i64 g, .bool true] w1 fun e w' => e = .returned (.bool (others l g s.page)) ∧ Below w1.heap.size w1 w') := HL.out s.page
      clear hs hf hat
      generalize others l g s.page = oc at HLS HBF HCT
      by_cases hbad : bad g s = true
      · have HNO : Aside (¬ ApartP l g) := HBT.out hbad
        have hor : s.kind = 21 ∨ s.kind = 4 ∧ s.on = true ∧ ¬ s.guest = g := by
          unfold bad at hbad
          simp at hbad
          rcases hbad with h | h
          · exact .inl h
          · exact .inr ⟨h.1.1, h.2, h.1.2⟩
        clear hbad HBT HBF HCT
        rcases hor with e1 | ⟨e1, e2, e3⟩
        · go_wp2_with fail
          go_ret
          exact ⟨⟨false, rfl, by simp only [Bool.false_eq_true, false_iff]; exact HNO.out⟩, HB1.out _⟩
        · go_wp2_with fail
          go_ret
          exact ⟨⟨false, rfl, by simp only [Bool.false_eq_true, false_iff]; exact HNO.out⟩, HB1.out _⟩
      · have hbad : bad g s = false := by simpa using hbad
        have HBF : Aside ((s.kind = 15 → s.guest = g → oc = false) → ∀ (j : Nat) (s : St), j < k + 1 → l[j]? = some s → bad g s = false ∧ (s.kind = 15 → s.guest = g → others l g s.page = false)) := HBF.out hbad
        have n1 : ¬ s.kind = 21 := by intro h; simp [bad, h] at hbad
        have n2 : s.kind = 4 → s.on = true → s.guest = g := by
          intro h1 h2
          simp [bad, h1, h2] at hbad
          exact hbad
        clear hbad HBT
        by_cases h15 : s.kind = 15 ∧ s.guest = g
        · obtain ⟨e1, e2⟩ := h15
          have n3 : ¬ s.kind = 4 := by omega
          have HBF2 : Aside (oc = false → ∀ (j : Nat) (s : St), j < k + 1 → l[j]? = some s → bad g s = false ∧ (s.kind = 15 → s.guest = g → others l g s.page = false)) := fun h => HBF.out fun _ _ => h
          have HCT2 : Aside (oc = true → ¬ ApartP l g) := HCT.out e1 e2
          clear n2 HBF HCT
          go_wp2_with (go_at_call 22; refine (HLS.out _ (HB1.out _)).mono ?_; rintro e w5 ⟨rfl, hw5⟩; have HW5 := (show Aside _ from hw5); clear hw5)
          · have ht : oc = true := by assumption
            go_ret
            exact ⟨⟨false, rfl, by simp only [Bool.false_eq_true, false_iff]; exact HCT2.out ht⟩, (HB1.out _).trans (HW5.out.mono (HB1.out _).size)⟩
          · have ht : oc = false := by assumption
            go_roundw
            case rel => exact ⟨k + 1, by omega, by go_num, (HB1.out _).trans (HW5.out.mono (HB1.out _).size), HBF2.out ht⟩
            case measure => simp [RowKit.intOf]; omega
        · have HBF2 : Aside (∀ (j : Nat) (s : St), j < k + 1 → l[j]? = some s → bad g s = false ∧ (s.kind = 15 → s.guest = g → others l g s.page = false)) := HBF.out fun h1 h2 => absurd ⟨h1, h2⟩ h15
          clear HBF HCT
          by_cases e15 : s.kind = 15
          · have e2 : ¬ s.guest = g := fun h => h15 ⟨e15, h⟩
            have n3 : ¬ s.kind = 4 := by omega
            clear h15 n2
            go_wp2_with fail
            go_roundw
            case rel => exact ⟨k + 1, by omega, by go_num, HB1.out _, HBF2.out⟩
            case measure => simp [RowKit.intOf]; omega
          · clear h15
            by_cases e4 : s.kind = 4
            · by_cases e5 : s.on = true
              · have e6 : s.guest = g := n2 e4 e5
                clear n2
                go_wp2_with fail
                go_roundw
                case rel => exact ⟨k + 1, by omega, by go_num, HB1.out _, HBF2.out⟩
                case measure => simp [RowKit.intOf]; omega
              · have e5 : s.on = false := by simpa using e5
                clear n2
                go_wp2_with fail
                go_roundw
                case rel => exact ⟨k + 1, by omega, by go_num, HB1.out _, HBF2.out⟩
                case measure => simp [RowKit.intOf]; omega
            · clear n2
              go_wp2_with fail
              go_roundw
              case rel => exact ⟨k + 1, by omega, by go_num, HB1.out _, HBF2.out⟩
              case measure => simp [RowKit.intOf]; omega
    · have hge : n ≤ k := by omega
      have HA : Aside (ApartP l g) := by
        have hin : ∀ (i : Nat) (s : St), l[i]? = some s → i < k := fun i s h => by
          have : i < l.length := by
            rcases Nat.lt_or_ge i l.length with h' | h'
            · exact h'
            · rw [List.getElem?_eq_none h'] at h; cases h
          omega
        refine ⟨fun i s h => (HQ.out i s (hin i s h) h).1, fun x hx => ?_⟩
        obtain ⟨i, s, hs, h1, h2, rfl⟩ := own_hit hx
        exact (HQ.out i s (hin i s hs) hs).2 h1 h2
      go_wp2
      go_ret
      exact ⟨⟨true, rfl, by simp only [true_iff]; exact HA.out⟩, HN.out⟩

theorem rApart_calls {B : Nat} {w : World} {x : Value} {l : List St} {fs : List Value} (g : Int) (hBw : B ≤ w.heap.size) (hx : StepsF B w x l fs) (hb : l.length ≤ 1000000) :
    Calls Tryz.prog 11 #[x, .int .i64 g] w fun e w' => (∃ r : Bool, e = .returned (.bool r) ∧ (r = true ↔ ApartP l g)) ∧ Below w.heap.size w w' := by
  obtain ⟨a, c, rfl, _⟩ := hx.shape
  exact rApart_any a l.length c B l fs g w rfl hb hBw hx
end Go.Proofs.YtndbccpaccflcaaGreat

namespace Go.Proofs.YtndbccpaccflcaaGreat
open Go Go.RowKit Go.Tw Go.Lib

set_option maxRecDepth 100000 in
/-- 'append([]Step{}, x...)': a row of its own, with x's steps. -/
theorem wpList_copy {ops : Array Oper} {rest : List Oper} {o : Oper} {a : Act} {Q : Exit → Act → World → Prop} (hgd : o.guard = none) (s x : Operand)
    (ho : o.op = .call { callee := .builtin .append, args := #[s, x], argTypes := #[22, 22] }) (w0 : World) {B : Nat} {l : List St} {fs : List Value} {v : Value} (hx : a.eval x = v) (hst : StepsF B w0 v l fs) (hb : l.length ≤ 1000000)
    (hs : a.eval s = .slice (some ⟨w0.heap.size, 0, none⟩) 0 0)
    (h : ∀ v' w', w'.ownsRow w0.heap.size 31 12 v' l.length (flat l fs) → Below w0.heap.size w0 w' → wpList Tryz.prog ops Q rest (a.put o.dst v') w') :
    wpList Tryz.prog ops Q (o :: rest) a (w0.alloc (.cells #[] 31)) := by
  obtain ⟨i0, hi0, hz⟩ := Option.map_eq_some_iff.1 info31
  simp only [Prod.mk.injEq] at hz
  obtain ⟨hz0, hz1, hz2⟩ := hz
  have hone : ∀ f ∈ fs, f.oneCell' = true := by
    intro f hf
    obtain ⟨i, hi, rfl⟩ := List.getElem_of_mem hf
    have hi' : i < l.length := by have := hst.1; omega
    exact (hst.2.1 i l[i] fs[i] (List.getElem?_eq_getElem hi') (List.getElem?_eq_getElem hi)).one
  have hmade := World.ownsRow_made (base := w0.heap.size) (e := 31) (size := 12) w0 #[] 0 (Nat.le_refl _) (Nat.zero_le _) (by simp)
  obtain ⟨h1, h2, ad, c, rfl, h3⟩ := hst
  rcases h3 with ⟨rfl, rfl⟩ | ⟨b, off, rfl, hB, hc⟩
  · refine wpList_plain hgd fun K hK => ?_
    have hr : (Builtin.append_ #[22, 22] o.type #[.slice (some ⟨w0.heap.size, 0, none⟩) 0 0, .slice none 0 c]).run Tryz.prog (w0.alloc (.cells #[] 31)) = .ok (.slice (some ⟨w0.heap.size, 0, none⟩) 0 0) (w0.alloc (.cells #[] 31)) := by
      have := run_append_room_src (P := Tryz.prog) (w0.alloc (.cells #[] 31)) 22 22 o.type 31 i0 Tryz.underlying22 hi0 w0.heap.size 0 0 0 (.slice none 0 c) 0 [] (Src.ofNil _ Tryz.underlying22 c) (Nat.le_refl _) (by intro j hj; simp at hj) (by intro j hj; simp at hj)
      simpa [World.setCells] using this
    unfold Oper.wp execOp
    simp only [ho, resolve, invoke, builtin, Sem.run_bind, Sem.run_pure, Result.andThen_ok, List.map_toArray, List.map_cons, List.map_nil, hs, hx, List.length_nil, hr]
    refine hK _ _ (h _ _ ?_ ((Below.refl _ _).alloc (Nat.le_refl _) _))
    simpa [flat] using hmade
  · refine wpList_append_own_at (w0.alloc (.cells #[] 31)) hgd s x 22 ho w0.heap.size 31 i0 _ 12 112 Tryz.underlying22 hi0 hz0 hz1 hz2 rfl (by decide) _ 0 [] hs (by simpa using hmade) ⟨b, off, none⟩ l.length c (flat l fs) hx (flat_length l fs h1) ?_ (flat_one l fs hone) (by unfold maxLen; omega) (by omega) (by simp) ?_
    · intro j u hj
      rw [Addr.add_lit]
      exact Lib.cell?_alloc_some _ (hc j u hj)
    · intro v' w' hown hgrow _ _
      refine h v' w' (by simpa using hown) (((Below.refl _ _).alloc (Nat.le_refl _) _).grown hgrow (by simp) (by intro k hk; simp [Value.ownBlock] at hk; omega))

theorem turn_at (pl : Int) {n : Nat} (h0 : 0 < n) (hn : (n : Int) ≤ 60) : ∃ k : Nat, k < n ∧ (wrap64 (pl.tmod (n : Int) + (n : Int))).tmod (n : Int) = (k : Int) := by
  have h1 := Int.tmod_lt_of_pos pl (b := (n : Int)) (by omega)
  have h2 : -(n : Int) < pl.tmod n := Int.lt_tmod_of_pos pl (by omega)
  have h3 : wrap64 (pl.tmod (n : Int) + (n : Int)) = pl.tmod (n : Int) + (n : Int) := by
    generalize pl.tmod (n : Int) = z at *
    unfold wrap64
    omega
  rw [h3]
  have h4 : 0 ≤ (pl.tmod (n : Int) + (n : Int)).tmod (n : Int) := Int.tmod_nonneg _ (by omega)
  have h5 := Int.tmod_lt_of_pos (pl.tmod (n : Int) + (n : Int)) (b := (n : Int)) (by omega)
  exact ⟨((pl.tmod (n : Int) + (n : Int)).tmod (n : Int)).toNat, by omega, by omega⟩

theorem slice_form0 {w : World} {base e size k : Nat} {v : Value} {xs : List Value} (h : w.ownsRow base e size v k xs) : ∃ va vc, v = .slice va k vc := by
  rcases h.2 with ⟨rfl, h0⟩ | ⟨gb, gc, cur, rfl, _⟩
  · exact ⟨none, 0, by rw [h0]⟩
  · exact ⟨_, _, rfl⟩
theorem slice_some {w : World} {base e size k c : Nat} {a : Option Addr} {xs : List Value} (h : w.ownsRow base e size (.slice a k c) k xs) (h0 : 0 < k) : ∃ g, a = some ⟨g, 0, none⟩ := by
  rcases h.2 with ⟨_, h⟩ | ⟨gb, gc, cur, h, _⟩
  · omega
  · cases h; exact ⟨_, rfl⟩

set_option maxRecDepth 100000 in
set_option maxHeartbeats 4000000 in
theorem Tells_any (x y : Option Addr) (n c n2 c2 B : Nat) (l l2 : List St) (fs fs2 : List Value) (g salt pl : Int) (raw : Bool) (w : World) (hn : l.length = n) (hn2 : l2.length = n2) (hbig : n ≤ 9223372036854775807) (hbig2 : n2 ≤ 9223372036854775807) (hBw : B ≤ w.heap.size)
    (hx : StepsF B w (.slice x n c) l fs) (hok : ∀ s ∈ l, (Lit.int .i64 s.page).wf = true ∧ (Lit.int .u64 s.value).wf = true) (hcap : ∀ f ∈ fs, ∀ a n c, f = .slice a n c → n ≤ c) (hlen : ∀ s ∈ l, s.fails.length ≤ 9223372036854775807)
    (hy : StepsF B w (.slice y n2 c2) l2 fs2) (hok2 : ∀ s ∈ l2, (Lit.int .i64 s.page).wf = true ∧ (Lit.int .u64 s.value).wf = true) (hcap2 : ∀ f ∈ fs2, ∀ a n c, f = .slice a n c → n ≤ c) (hlen2 : ∀ s ∈ l2, s.fails.length ≤ 9223372036854775807) :
    Calls Tryz.prog 3 #[.slice x n c, .slice y n2 c2, .int .i64 g, .int .u64 salt, .bool raw, .int .i64 pl] w fun e w' => e = .returned (.bool true) ∧ Below w.heap.size w w' := by
  have HFEW : Aside (Calls Tryz.prog 5 #[.slice x n c, .bool raw] w fun e w' => ∃ (r : Value) (ok : Bool), e = .returned (.tuple #[r, .bool ok]) ∧ Below w.heap.size w w' ∧
      (ok = true → ∃ o gs, StepsF w'.heap.size w' r o gs ∧ o.length ≤ 60 ∧ ∀ s ∈ o, Fine s)) := (few_any x n c B l fs raw w hn hbig hBw hx hok hcap hlen (fun n v w1 h0 h4 => Word_calls n v w1 h0 h4))
  have HFEW2 : Aside (∀ w1, Below w.heap.size w w1 → Calls Tryz.prog 5 #[.slice y n2 c2, .bool raw] w1 fun e w' => ∃ (r : Value) (ok : Bool), e = .returned (.tuple #[r, .bool ok]) ∧ Below w1.heap.size w1 w' ∧
      (ok = true → ∃ o gs, StepsF w'.heap.size w' r o gs ∧ o.length ≤ 60 ∧ ∀ s ∈ o, Fine s)) := fun w1 h1 => (few_any y n2 c2 B l2 fs2 raw w1 hn2 hbig2 (Nat.le_trans hBw h1.size) (hy.below (h1.mono hBw)) hok2 hcap2 hlen2 (fun n v w1 h0 h4 => Word_calls n v w1 h0 h4))
  have HT : Aside (∀ w1, Calls Tryz.prog 6 #[] w1 fun e w' => e = .returned (.bool true) ∧ Below w1.heap.size w1 w') := told_calls
  clear hx hok hcap hlen hy hok2 hcap2 hlen2
  go_enter Tryz.func3, Tryz.ntmps3
  go_wp2_with fail
  refine HFEW.out.mono ?_
  rintro e w1 ⟨r1, ok, rfl, hw1, hok1⟩
  have HW1 : Aside (Below w.heap.size w w1) := hw1
  have HOK1 : Aside (ok = true → ∃ o gs, StepsF w1.heap.size w1 r1 o gs ∧ o.length ≤ 60 ∧ ∀ s ∈ o, Fine s) := hok1
  clear hok1 hw1
  go_wp2_with fail
  refine (HFEW2.out _ HW1.out).mono ?_
  rintro e w2 ⟨r2, ok2, rfl, hw2, hok2⟩
  have HW2 : Aside (Below w.heap.size w w2) := HW1.out.trans (hw2.mono HW1.out.size)
  have HW12 : Aside (Below w1.heap.size w1 w2) := hw2
  have HOK2 : Aside (ok2 = true → ∃ o gs, StepsF w2.heap.size w2 r2 o gs ∧ o.length ≤ 60 ∧ ∀ s ∈ o, Fine s) := hok2
  clear hok2 hw2
  by_cases hb : ok = true ∧ ok2 = true
  · obtain ⟨rfl, rfl⟩ := hb
    obtain ⟨o, gs, hin, ho60, hfine⟩ := HOK1.out rfl
    obtain ⟨o2, gs2, hin2, ho260, hfine2⟩ := HOK2.out rfl
    obtain ⟨a1, c1, hr1, hsh1⟩ := hin.shape
    obtain ⟨a2, cc2, hr2, hsh2⟩ := hin2.shape
    have HPG : Aside (∀ s ∈ o, (Lit.int .i64 s.page).wf = true) := fun s h => (hfine s h).1
    have HFL : Aside (∀ s ∈ o, s.fails.length ≤ 1000000) := fun s h => by have := (hfine s h).2.1; omega
    have HIN : Aside (StepsF w1.heap.size w1 r1 o gs) := hin
    have HI2 : Aside (StepsF w2.heap.size w2 r2 o2 gs2) := hin2
    clear HOK1 HOK2 hfine hfine2 hin hin2 hsh1 hsh2 HFEW HFEW2
    subst hr1 hr2
    have HI1 : Aside (StepsF w2.heap.size w2 (.slice a1 o.length c1) o gs) := (HIN.out.below HW12.out).up HW12.out.size
    clear HIN HW12 HW1
    go_wp2_with (at_builtin; refine wpList_copy rfl _ _ rfl w2 rfl HI1.out (by omega) rfl ?_; intro v3 w3 hown3 hb3; have HO3 : Aside (w3.ownsRow w2.heap.size 31 12 v3 o.length (flat o gs)) := hown3; have HB3 : Aside (Below w2.heap.size w2 w3) := hb3; clear hown3 hb3)
    have KI : Aside (∀ W, Below w2.heap.size w2 W → StepsF w2.heap.size W (.slice a1 o.length c1) o gs) := fun W h => HI1.out.below h
    have KM : Aside (∀ W, Below w2.heap.size w2 W → StepsF w2.heap.size W (.slice a2 o2.length cc2) o2 gs2) := fun W h => HI2.out.below h
    have KS : Aside (StepsF w3.heap.size w3 v3 o gs) := StepsF.owned HO3.out (by rw [HI1.out.1]) (fun i s f h1 h2 => ((HI1.out.2.1 i s f h1 h2).below HB3.out).up HB3.out.size)
    have HPV : Aside (∀ V, o.map (vary1 o g salt) = V → V.length = o.length ∧ ∀ s ∈ V, s.fails.length ≤ 1000000) := fun V hV => by
      subst hV
      refine ⟨by simp, fun s h => ?_⟩
      obtain ⟨t, ht, rfl⟩ := List.mem_map.1 h
      rw [vary1_fails]; exact HFL.out t ht
    have B23 : Aside (Below w2.heap.size w2 w3) := HB3.out
    clear HO3 HB3 HI1 HI2
    go_wp2_with fail
    refine (Vary_calls g salt B23.out.size (KI.out _ B23.out) (by omega) HPG.out HFL.out).mono ?_
    rintro e w4 ⟨rV, gV, rfl, hw4, hv4⟩
    have B24 : Aside (Below w2.heap.size w2 w4) := B23.out.trans (hw4.mono B23.out.size)
    have B34 : Aside (Below w3.heap.size w3 w4) := hw4
    have HV4 : Aside (StepsF w4.heap.size w4 rV (o.map (vary1 o g salt)) gV) := hv4
    clear hw4 hv4
    go_wp2_with fail
    refine (rVary_calls g salt B24.out.size (KI.out _ B24.out) (by omega)).mono ?_
    rintro e w5 ⟨rW, rfl, hw5, hv5⟩
    have B25 : Aside (Below w2.heap.size w2 w5) := B24.out.trans (hw5.mono B24.out.size)
    have B35 : Aside (Below w3.heap.size w3 w5) := B34.out.trans (hw5.mono B34.out.size)
    have B45 : Aside (Below w4.heap.size w4 w5) := hw5
    have HW5 : Aside (StepsF w5.heap.size w5 rW (o.map (vary1 o g salt)) gs) := hv5
    clear hw5 hv5
    obtain ⟨V, hV⟩ : ∃ V, o.map (vary1 o g salt) = V := ⟨_, rfl⟩
    obtain ⟨hlV, hfV⟩ := HPV.out V hV
    rw [hV] at HV4 HW5
    have HVE : Aside (o.map (vary1 o g salt) = V) := hV
    have HFV : Aside (∀ s ∈ V, s.fails.length ≤ 1000000) := hfV
    have HLV : Aside (V.length = o.length) := hlV
    clear hV hfV hlV HPV
    go_wp2_with fail
    refine (All_calls (Nat.le_refl _) ((HV4.out.below B45.out).up B45.out.size) HW5.out (by have := HLV.out; omega) HFV.out).mono ?_
    rintro e w6 ⟨rfl, hw6⟩
    rw [decide_eq_true (rfl : V = V)]
    have B26 : Aside (Below w2.heap.size w2 w6) := B25.out.trans (hw6.mono B25.out.size)
    have B36 : Aside (Below w3.heap.size w3 w6) := B35.out.trans (hw6.mono B35.out.size)
    have B46 : Aside (Below w4.heap.size w4 w6) := B45.out.trans (hw6.mono B45.out.size)
    have B56 : Aside (Below w5.heap.size w5 w6) := hw6
    clear hw6
    go_wp2_with fail
    refine (All_calls B36.out.size ((KI.out _ B26.out).up B23.out.size) (KS.out.below B36.out) (by omega) HFL.out).mono ?_
    rintro e w7 ⟨rfl, hw7⟩
    rw [decide_eq_true (rfl : o = o)]
    have B27 : Aside (Below w2.heap.size w2 w7) := B26.out.trans (hw7.mono B26.out.size)
    have B47 : Aside (Below w4.heap.size w4 w7) := B46.out.trans (hw7.mono B46.out.size)
    have B57 : Aside (Below w5.heap.size w5 w7) := B56.out.trans (hw7.mono B56.out.size)
    have H24 : Aside (w2.heap.size ≤ w4.heap.size) := B24.out.size
    have hBeq : ∀ (a : Bool) (w : World), Sem.run Tryz.prog (binOp .eql 4 (.bool a) (.bool a)) w = .ok (.bool true) w := fun a w => by simp [binOp, run_equal_bool w 4 a a Tryz.underlying4]
    clear hw7 B23 B34 B35 B36 B24 B25 B26 B45 B46 B56 KS
    go_upto_region 10 with (at_builtin; refine wpList_copy rfl _ _ rfl w7 rfl (HW5.out.below B57.out) (by have := HLV.out; omega) rfl ?_; intro v8 w8 hown8 hb8; obtain ⟨ax, cx, rfl⟩ := slice_form0 hown8; have HO8 : Aside (w8.ownsRow w7.heap.size 31 12 (.slice ax V.length cx) V.length (flat V gs)) := hown8; have B78 : Aside (Below w7.heap.size w7 w8) := hb8; clear hown8 hb8)
    by_cases h0 : 0 < V.length
    · have hpos : (0 : Int) < (V.length : Int) := by omega
      have hlb : (V.length : Int) ≤ 60 := by have := HLV.out; omega
      obtain ⟨gx, rfl⟩ : ∃ gx, ax = some ⟨gx, 0, none⟩ := slice_some HO8.out h0
      obtain ⟨kk, hkk, hke⟩ := turn_at pl h0 hlb
      obtain ⟨s, hs⟩ : ∃ s, V[kk]? = some s := ⟨_, List.getElem?_eq_getElem hkk⟩
      have hgl : gs.length = V.length := HW5.out.1
      obtain ⟨f, hf⟩ : ∃ f, gs[kk]? = some f := ⟨_, List.getElem?_eq_getElem (by omega)⟩
      have c4 := (row_at hs hf rfl HO8.out hkk).2.2.2.2.1
      have f4 := HO8.out.frozenAt (kk * 12 + 4)
      have hki : (kk : Int) < (V.length : Int) := by omega
      have HS : Aside (V[kk]? = some s) := hs
      have HKK : Aside (kk < V.length) := hkk
      have HGL : Aside (gs.length = V.length) := hgl
      clear h0 hlb hs hf hkk hgl
      go_upto_region 12 with fail
      try rw [hke]
      clear hke
      go_upto_region 13 with fail
      have hX : (w8.setCell ⟨gx, kk * 12 + 4, none⟩ (.int .u64 (IntKind.u64.wrap (s.value + 1)))).ownsRow w7.heap.size 31 12 (.slice (some ⟨gx, 0, none⟩) V.length cx) V.length (flat (V.set kk { s with value := IntKind.u64.wrap (s.value + 1) }) gs) := by
        have := (World.ownsRow.stored HO8.out (kk * 12 + 4) (.int .u64 (IntKind.u64.wrap (s.value + 1)))).1
        rw [flat_set4 V gs kk s _ HGL.out HS.out] at this
        exact this
      have hB7 : Below w7.heap.size w7 (w8.setCell ⟨gx, kk * 12 + 4, none⟩ (.int .u64 (IntKind.u64.wrap (s.value + 1)))) := B78.out.setCell (HO8.out.lt gx rfl).1 _
      generalize hXE : V.set kk { s with value := IntKind.u64.wrap (s.value + 1) } = X at *
      have hXF : ∀ (i : Nat) (s1 : St), X[i]? = some s1 → ∃ s0, V[i]? = some s0 ∧ s1.fails = s0.fails := by
        intro i s1 h1
        rw [← hXE, List.getElem?_set] at h1
        by_cases hi : kk = i
        · subst hi
          rw [if_pos rfl, if_pos HKK.out] at h1
          simp only [Option.some.injEq] at h1
          subst h1
          exact ⟨s, HS.out, rfl⟩
        · rw [if_neg hi] at h1
          exact ⟨s1, h1, rfl⟩
      have hXL : gs.length = X.length := by rw [← hXE, List.length_set]; exact HGL.out
      clear hXE c4 f4 hki B78 HO8
      generalize w8.setCell ⟨gx, kk * 12 + 4, none⟩ (.int .u64 (IntKind.u64.wrap (s.value + 1))) = W8 at *
      have B28 : Aside (Below w2.heap.size w2 W8) := B27.out.trans (hB7.mono B27.out.size)
      have B48 : Aside (Below w4.heap.size w4 W8) := B47.out.trans (hB7.mono B47.out.size)
      have b58 : Below w5.heap.size w5 W8 := B57.out.trans (hB7.mono B57.out.size)
      have KX : Aside (StepsF W8.heap.size W8 (.slice (some ⟨gx, 0, none⟩) V.length cx) X gs) := StepsF.owned hX hXL fun i s1 f h1 h2 => by
        obtain ⟨s0, h0, he⟩ := hXF i s1 h1
        rw [he]
        exact ((HW5.out.2.1 i s0 f h0 h2).below b58).up b58.size
      clear hX hXF hXL hB7 b58 HKK HS HGL B27 B47 B57 HW5
      go_wp2_with fail
      refine (HT.out _).mono ?_
      rintro e w9 ⟨rfl, hw9⟩
      have B29 : Aside (Below w2.heap.size w2 w9) := B28.out.trans (hw9.mono B28.out.size)
      have B49 : Aside (Below w4.heap.size w4 w9) := B48.out.trans (hw9.mono B48.out.size)
      have B89 : Aside (Below W8.heap.size W8 w9) := hw9
      clear hw9
      go_wp2_with fail
      refine (Apart_calls g B29.out.size (KI.out _ B29.out) (by omega) HPG.out).mono ?_
      rintro e w10 ⟨⟨p1, rfl, hp1⟩, hw10⟩
      have HP1 : Aside (p1 = true ↔ ApartP o g) := hp1
      have B210 : Aside (Below w2.heap.size w2 w10) := B29.out.trans (hw10.mono B29.out.size)
      have B410 : Aside (Below w4.heap.size w4 w10) := B49.out.trans (hw10.mono B49.out.size)
      have B810 : Aside (Below W8.heap.size W8 w10) := B89.out.trans (hw10.mono B89.out.size)
      clear hw10 hp1
      go_wp2_with fail
      refine (rApart_calls g B210.out.size (KI.out _ B210.out) (by omega)).mono ?_
      rintro e w11 ⟨⟨p2, rfl, hp2⟩, hw11⟩
      have hpp : p2 = p1 := by rw [Bool.eq_iff_iff, hp2, HP1.out]
      subst hpp
      have B211 : Aside (Below w2.heap.size w2 w11) := B210.out.trans (hw11.mono B210.out.size)
      have B411 : Aside (Below w4.heap.size w4 w11) := B410.out.trans (hw11.mono B410.out.size)
      have B811 : Aside (Below W8.heap.size W8 w11) := B810.out.trans (hw11.mono B810.out.size)
      clear hw11 hp2 HP1
      go_wp2_with fail
      refine (Alike_calls g B411.out.size ((KI.out _ B211.out).up H24.out) (HV4.out.below B411.out) (by omega) HPG.out HFL.out).mono ?_
      rintro e w12 ⟨⟨t1, rfl, ht1⟩, hw12⟩
      have ht1 : t1 = true := ht1.2 (by rw [← HVE.out]; exact alike_vary o g salt)
      subst ht1
      have B212 : Aside (Below w2.heap.size w2 w12) := B211.out.trans (hw12.mono B211.out.size)
      have B812 : Aside (Below W8.heap.size W8 w12) := B811.out.trans (hw12.mono B811.out.size)
      clear hw12
      go_wp2_with fail
      refine (Alike_calls g B812.out.size ((KI.out _ B212.out).up B28.out.size) (KX.out.below B812.out) (by omega) HPG.out HFL.out).mono ?_
      rintro e w13 ⟨⟨t2, rfl, ht2⟩, hw13⟩
      have HT2 : Aside (t2 = true ↔ AlikeP o X g) := ht2
      have B213 : Aside (Below w2.heap.size w2 w13) := B212.out.trans (hw13.mono B212.out.size)
      have B813 : Aside (Below W8.heap.size W8 w13) := B812.out.trans (hw13.mono B812.out.size)
      clear hw13 ht2
      go_wp2_with fail
      refine (rAlike_calls g B813.out.size ((KI.out _ B213.out).up B28.out.size) (KX.out.below B813.out) (by omega) HFL.out).mono ?_
      rintro e w14 ⟨⟨t3, rfl, ht3⟩, hw14⟩
      have htt : t3 = t2 := by rw [Bool.eq_iff_iff, ht3, HT2.out]
      subst htt
      have B214 : Aside (Below w2.heap.size w2 w14) := B213.out.trans (hw14.mono B213.out.size)
      clear hw14 ht3 HT2
      go_wp2_with fail
      refine (Alike_calls g B214.out.size (KI.out _ B214.out) (KM.out _ B214.out) (by omega) HPG.out HFL.out).mono ?_
      rintro e w15 ⟨⟨t4, rfl, ht4⟩, hw15⟩
      have HT4 : Aside (t4 = true ↔ AlikeP o o2 g) := ht4
      have B215 : Aside (Below w2.heap.size w2 w15) := B214.out.trans (hw15.mono B214.out.size)
      clear hw15 ht4
      go_wp2_with fail
      refine (rAlike_calls g B215.out.size (KI.out _ B215.out) (KM.out _ B215.out) (by omega) HFL.out).mono ?_
      rintro e w16 ⟨⟨t5, rfl, ht5⟩, hw16⟩
      have htt : t5 = t4 := by rw [Bool.eq_iff_iff, ht5, HT4.out]
      subst htt
      have BE : Aside (Below w.heap.size w w16) := HW2.out.trans ((B215.out.trans (hw16.mono B215.out.size)).mono HW2.out.size)
      clear hw16 ht5 HT4
      go_wp2_with fail
      go_ret
      exact ⟨rfl, BE.out⟩
    · have hz : ¬ (0 : Int) < (V.length : Int) := by omega
      obtain ⟨X, hXE⟩ : ∃ X, V = X := ⟨_, rfl⟩
      have KX : Aside (StepsF w8.heap.size w8 (.slice ax V.length cx) X gs) := by
        rw [← hXE]
        have b58 : Below w5.heap.size w5 w8 := B57.out.trans (B78.out.mono B57.out.size)
        exact StepsF.owned HO8.out HW5.out.1 fun i s1 f h1 h2 => ((HW5.out.2.1 i s1 f h1 h2).below b58).up b58.size
      have B28 : Aside (Below w2.heap.size w2 w8) := B27.out.trans (B78.out.mono B27.out.size)
      have B48 : Aside (Below w4.heap.size w4 w8) := B47.out.trans (B78.out.mono B47.out.size)
      clear h0 hXE B27 B47 B57 B78 HO8 HW5
      go_wp2_with fail
      refine (HT.out _).mono ?_
      rintro e w9 ⟨rfl, hw9⟩
      have B29 : Aside (Below w2.heap.size w2 w9) := B28.out.trans (hw9.mono B28.out.size)
      have B49 : Aside (Below w4.heap.size w4 w9) := B48.out.trans (hw9.mono B48.out.size)
      have B89 : Aside (Below w8.heap.size w8 w9) := hw9
      clear hw9
      go_wp2_with fail
      refine (Apart_calls g B29.out.size (KI.out _ B29.out) (by omega) HPG.out).mono ?_
      rintro e w10 ⟨⟨p1, rfl, hp1⟩, hw10⟩
      have HP1 : Aside (p1 = true ↔ ApartP o g) := hp1
      have B210 : Aside (Below w2.heap.size w2 w10) := B29.out.trans (hw10.mono B29.out.size)
      have B410 : Aside (Below w4.heap.size w4 w10) := B49.out.trans (hw10.mono B49.out.size)
      have B810 : Aside (Below w8.heap.size w8 w10) := B89.out.trans (hw10.mono B89.out.size)
      clear hw10 hp1
      go_wp2_with fail
      refine (rApart_calls g B210.out.size (KI.out _ B210.out) (by omega)).mono ?_
      rintro e w11 ⟨⟨p2, rfl, hp2⟩, hw11⟩
      have hpp : p2 = p1 := by rw [Bool.eq_iff_iff, hp2, HP1.out]
      subst hpp
      have B211 : Aside (Below w2.heap.size w2 w11) := B210.out.trans (hw11.mono B210.out.size)
      have B411 : Aside (Below w4.heap.size w4 w11) := B410.out.trans (hw11.mono B410.out.size)
      have B811 : Aside (Below w8.heap.size w8 w11) := B810.out.trans (hw11.mono B810.out.size)
      clear hw11 hp2 HP1
      go_wp2_with fail
      refine (Alike_calls g B411.out.size ((KI.out _ B211.out).up H24.out) (HV4.out.below B411.out) (by omega) HPG.out HFL.out).mono ?_
      rintro e w12 ⟨⟨t1, rfl, ht1⟩, hw12⟩
      have ht1 : t1 = true := ht1.2 (by rw [← HVE.out]; exact alike_vary o g salt)
      subst ht1
      have B212 : Aside (Below w2.heap.size w2 w12) := B211.out.trans (hw12.mono B211.out.size)
      have B812 : Aside (Below w8.heap.size w8 w12) := B811.out.trans (hw12.mono B811.out.size)
      clear hw12
      go_wp2_with fail
      refine (Alike_calls g B812.out.size ((KI.out _ B212.out).up B28.out.size) (KX.out.below B812.out) (by omega) HPG.out HFL.out).mono ?_
      rintro e w13 ⟨⟨t2, rfl, ht2⟩, hw13⟩
      have HT2 : Aside (t2 = true ↔ AlikeP o X g) := ht2
      have B213 : Aside (Below w2.heap.size w2 w13) := B212.out.trans (hw13.mono B212.out.size)
      have B813 : Aside (Below w8.heap.size w8 w13) := B812.out.trans (hw13.mono B812.out.size)
      clear hw13 ht2
      go_wp2_with fail
      refine (rAlike_calls g B813.out.size ((KI.out _ B213.out).up B28.out.size) (KX.out.below B813.out) (by omega) HFL.out).mono ?_
      rintro e w14 ⟨⟨t3, rfl, ht3⟩, hw14⟩
      have htt : t3 = t2 := by rw [Bool.eq_iff_iff, ht3, HT2.out]
      subst htt
      have B214 : Aside (Below w2.heap.size w2 w14) := B213.out.trans (hw14.mono B213.out.size)
      clear hw14 ht3 HT2
      go_wp2_with fail
      refine (Alike_calls g B214.out.size (KI.out _ B214.out) (KM.out _ B214.out) (by omega) HPG.out HFL.out).mono ?_
      rintro e w15 ⟨⟨t4, rfl, ht4⟩, hw15⟩
      have HT4 : Aside (t4 = true ↔ AlikeP o o2 g) := ht4
      have B215 : Aside (Below w2.heap.size w2 w15) := B214.out.trans (hw15.mono B214.out.size)
      clear hw15 ht4
      go_wp2_with fail
      refine (rAlike_calls g B215.out.size (KI.out _ B215.out) (KM.out _ B215.out) (by omega) HFL.out).mono ?_
      rintro e w16 ⟨⟨t5, rfl, ht5⟩, hw16⟩
      have htt : t5 = t4 := by rw [Bool.eq_iff_iff, ht5, HT4.out]
      subst htt
      have BE : Aside (Below w.heap.size w w16) := HW2.out.trans ((B215.out.trans (hw16.mono B215.out.size)).mono HW2.out.size)
      clear hw16 ht5 HT4
      go_wp2_with fail
      go_ret
      exact ⟨rfl, BE.out⟩
  · have hor : ok = false ∨ ok = true ∧ ok2 = false := by
      cases ok <;> cases ok2 <;> simp_all
    clear HOK1 HOK2 HFEW HFEW2 hb
    rcases hor with rfl | ⟨rfl, rfl⟩
    · go_wp2_with fail
      refine (HT.out _).mono ?_
      rintro e w3 ⟨rfl, hw3⟩
      have HB : Aside (Below w.heap.size w w3) := HW2.out.trans (hw3.mono HW2.out.size)
      clear hw3
      go_wp2
      go_ret
      exact ⟨rfl, HB.out⟩
    · go_wp2_with fail
      refine (HT.out _).mono ?_
      rintro e w3 ⟨rfl, hw3⟩
      have HB : Aside (Below w.heap.size w w3) := HW2.out.trans (hw3.mono HW2.out.size)
      clear hw3
      go_wp2
      go_ret
      exact ⟨rfl, HB.out⟩
end Go.Proofs.YtndbccpaccflcaaGreat
