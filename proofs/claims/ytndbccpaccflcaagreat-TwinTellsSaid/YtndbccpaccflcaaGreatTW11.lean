import Derived.Test.YtndbccpaccflcaaGreatTW8
import Derived.Maps.RangeWalk
set_option linter.unusedVariables false
set_option linter.unusedSimpArgs false
set_option linter.unusedSectionVars false
namespace Go.Proofs.YtndbccpaccflcaaGreat
open Go Go.RowKit Go.Tw Go.Lib Go.Maps

/-- The step, over a map of marks. -/
theorem wpList_next_marks {P : Program} (w : World) {ops : Array Oper} {rest : List Oper} {o : Oper} {a : Act} {Q : Exit → Act → World → Prop}
    (hg : o.guard = none) (it : Operand) (hop : o.op = Op.next it false) (k e : TypeId) (hk : P.underlying k = some (.int .i64)) (he : P.underlying e = some .bool)
    (b r n : Nat) (D : DataW Unit) (M : Int → Bool) (hD : ∀ (x : Int) (z : DataW Unit), D.atKey (.int .i64 x) z = if M x then .lit (.bool true) else z) (left : Lit → Bool) (cnt : Nat)
    (hit : a.eval it = .pointer (some ⟨r, 0, none⟩)) (h : w.ranges P k (plainElem P e) b r n D left cnt)
    (hDone : cnt = 0 → (∀ kl, left kl = false) → wpList P ops Q rest (a.put o.dst (.tuple #[.bool false])) w)
    (hMore : ∀ (x : Int) (w' : World) (cnt' : Nat), (Lit.int .i64 x).wf = true → M x = true → w'.ranges P k (plainElem P e) b r n D (fun z => left z && !z.sameKey (.int .i64 x)) cnt' → cnt' < cnt →
      w.grownBy w' (some r) → w'.heap.size = w.heap.size → (Instr.entry (.pointer (some ⟨r, 0, none⟩))).run P w' = .ok (.tuple #[.int .i64 x, .bool true]) w' → wpList P ops Q rest (a.put o.dst (.tuple #[.bool true, .int .i64 x, .bool true])) w') :
    wpList P ops Q (o :: rest) a w :=
  wpList_next_ranges w hg it hop k (int_keyed hk) (plainElem P e) (Value.int .i64) Value.bool (fun key kl hkey => by obtain ⟨x, rfl, _⟩ := Maps.keyOf_int_inv hk hkey; exact ⟨x, rfl⟩) (fun v y hv => by obtain ⟨c, rfl, _⟩ := plainElem_bool_inv he hv; exact ⟨c, rfl⟩)
    b r n D left cnt hit h hDone (fun x c kl y w' cnt' hkey hlk hv hat hrg hlt hgr hsz hen => by
      obtain ⟨x', ex, rfl, hwx⟩ := Maps.keyOf_int_inv hk hkey
      cases ex
      obtain ⟨c', ec, rfl⟩ := plainElem_bool_inv he hv
      cases ec
      have hM : M x = true := by
        cases ho : M x with
        | true => rfl
        | false =>
          have h1 := hD x .nil
          rw [hat, ho] at h1
          cases h1
      have hc : c = true := by
        have h1 := hD x .nil
        rw [hat, hM] at h1
        simpa using h1
      subst hc
      exact hMore x w' cnt' hwx hM hrg hlt hgr hsz hen)

def bad (g : Int) (s : St) : Bool := s.kind == 21 || (s.kind == 4 && !(s.guest == g) && s.on)
def ApartP (l : List St) (g : Int) : Prop := (∀ (i : Nat) (s : St), l[i]? = some s → bad g s = false) ∧ ∀ x, own l g x = true → others l g x = false

set_option maxRecDepth 100000 in
set_option maxHeartbeats 4000000 in
theorem Apart_any (x : Option Addr) (n c B : Nat) (l : List St) (fs : List Value) (g : Int) (w : World) (hn : l.length = n) (hbig : n ≤ 1000000) (hBw : B ≤ w.heap.size)
    (hx : StepsF B w (.slice x n c) l fs) (hok : ∀ s ∈ l, (Lit.int .i64 s.page).wf = true) :
    Calls Tryz.prog 10 #[.slice x n c, .int .i64 g] w fun e w' => (∃ r : Bool, e = .returned (.bool r) ∧ (r = true ↔ ApartP l g)) ∧ Below w.heap.size w w' := by
  have HX : Aside (StepsF B w (.slice x n c) l fs) := hx
  have HL : Aside (∀ w1, Below w.heap.size w w1 → Calls Tryz.prog 17 #[.slice x n c, .int .i64 g] w1 fun e w' => e = .returned (.tuple #[.map (some w1.heap.size), .map (some (w1.heap.size + 1))]) ∧ Below w1.heap.size w1 w' ∧
      Marks Tryz.prog 3 4 w' w1.heap.size n (own l g) ∧ Marks Tryz.prog 3 4 w' (w1.heap.size + 1) n (others l g)) := by
    intro w1 h1
    rw [← hn]
    exact lent_calls g (Nat.le_trans hBw h1.size) (by have := hx.below (h1.mono hBw); rw [hn]; exact this) (by omega) hok
  clear hx hok
  go_enter Tryz.func10, Tryz.ntmps10
  go_wp2
  go_loopw [12] (fun i wr => ∃ k : Nat, k ≤ n ∧ i = .int .i64 k ∧ Below w.heap.size w wr ∧ (∀ (j : Nat) (s : St), j < k → l[j]? = some s → bad g s = false))
    (fun i _ => n - (RowKit.intOf i).toNat)
  case atStart => exact ⟨0, Nat.zero_le _, rfl, Below.refl _ _, fun j _ hj => absurd hj (Nat.not_lt_zero _)⟩
  case round =>
    obtain ⟨k, hk, rfl, hnx, heq⟩ := hrel
    have HN : Aside (Below w.heap.size w wr) := hnx
    have HQ : Aside (∀ (j : Nat) (s : St), j < k → l[j]? = some s → bad g s = false) := heq
    clear hnx heq
    by_cases hlt : k < n
    · obtain ⟨s, hs⟩ : ∃ s, l[k]? = some s := ⟨_, List.getElem?_eq_getElem (by omega)⟩
      obtain ⟨b, o, rfl⟩ : ∃ b o, x = some ⟨b, o, none⟩ := by
        obtain ⟨a, cap, he, hne⟩ := HX.out.shape
        cases he
        exact hne (by intro h; rw [h] at hs; simp at hs)
      obtain ⟨f, hf⟩ : ∃ f, fs[k]? = some f := ⟨_, List.getElem?_eq_getElem (by have := HX.out.1; omega)⟩
      obtain ⟨hb, hat⟩ := HX.out.at hs hf
      have hbf := HX.out.2.1 k s f hs hf
      obtain ⟨c0, c1, c2, c3, c4, c5, c6, c7, c8, c9, c10, c11⟩ := hat.below HN.out (by omega)
      obtain ⟨fa, fc, rfl⟩ := Bools.shape hbf
      have HS : Aside (l[k]? = some s) := hs
      have hi : (k : Int) < (n : Int) := by omega
      have HB1 : Aside (∀ cs, Below w.heap.size w (wr.alloc (.cells cs 31))) := fun cs => HN.out.alloc HN.out.size _
      have HBT : Aside (bad g s = true → ¬ ApartP l g) := fun h1 h2 => by
        have := h2.1 k s HS.out
        rw [h1] at this
        cases this
      have HBF : Aside (bad g s = false → ∀ (j : Nat) (s : St), j < k + 1 → l[j]? = some s → bad g s = false) := fun h1 j s' hj hs' => by
        by_cases hjk : j < k
        · exact HQ.out j s' hjk hs'
        · have : j = k := by omega
          subst this
          have e1 := HS.out.symm.trans hs'
          simp only [Option.some.injEq] at e1
          subst e1
          exact h1
      clear hs hf hat hbf
      go_wp2_with fail
      · have e1 : s.kind = 21 := by assumption
        go_ret
        refine ⟨⟨false, rfl, ?_⟩, HB1.out _⟩
        simp only [Bool.false_eq_true, false_iff]
        exact HBT.out (by simp [bad, e1])
      · have e1 : ¬ s.kind = 21 := by assumption
        have e2 : s.guest = g := by assumption
        go_roundw
        case rel => exact ⟨k + 1, by omega, by go_num, HB1.out _, HBF.out (by simp [bad, e1, e2])⟩
        case measure => simp [RowKit.intOf]; omega
      · have e2 : s.kind = 4 := by assumption
        have e3 : (s.guest != g) = true ∧ s.on = true := by assumption
        go_ret
        refine ⟨⟨false, rfl, ?_⟩, HB1.out _⟩
        simp only [Bool.false_eq_true, false_iff]
        refine HBT.out ?_
        have := e3.1
        simp at this
        simp [bad, e2, this, e3.2]
      · have e1 : ¬ s.kind = 21 := by assumption
        have e3 : (s.guest != g) = false ∨ s.on = false := by assumption
        go_roundw
        case rel =>
          refine ⟨k + 1, by omega, by go_num, HB1.out _, HBF.out ?_⟩
          rcases e3 with e3 | e3
          · simp at e3
            simp [bad, e1, e3]
          · simp [bad, e1, e3]
        case measure => simp [RowKit.intOf]; omega
      · have e1 : ¬ s.kind = 21 := by assumption
        have e2 : ¬ s.kind = 4 := by assumption
        go_roundw
        case rel => exact ⟨k + 1, by omega, by go_num, HB1.out _, HBF.out (by simp [bad, e1, e2])⟩
        case measure => simp [RowKit.intOf]; omega
    · obtain ⟨w0, hw0⟩ : ∃ w0, w0 = wr := ⟨_, rfl⟩
      subst hw0
      have hge : n ≤ k := by omega
      have HA : Aside (∀ (i : Nat) (s : St), l[i]? = some s → bad g s = false) := fun i s h => HQ.out i s (by
        have : i < l.length := by
          rcases Nat.lt_or_ge i l.length with h' | h'
          · exact h'
          · rw [List.getElem?_eq_none h'] at h; cases h
        omega) h
      go_wp2_with fail
      refine (HL.out _ HN.out).mono ?_
      rintro e w1 ⟨rfl, hw1, ⟨D, hown, hDm, hD⟩, hoth⟩
      have HW1 : Aside (Below w.heap.size w w1) := HN.out.trans (hw1.mono HN.out.size)
      have hsz : w.heap.size ≤ w0.heap.size := HN.out.size
      have HOT : Aside (Marks Tryz.prog 3 4 w1 (w0.heap.size + 1) n (others l g)) := hoth
      have HD : Aside (∀ (x : Int) (z : DataW Unit), D.atKey (.int .i64 x) z = if own l g x then .lit (.bool true) else z) := hD
      have HOW : Aside (w1.ownsMap Tryz.prog 3 (plainElem Tryz.prog 4) w0.heap.size n D) := hown
      have HLT : Aside (w0.heap.size + 1 < w1.heap.size) := hoth.lt
      clear hw1 hown hDm hD hoth
      go_wp2_with (at_range; refine wpList_range_own _ rfl _ 49 rfl 3 4 (int_keyed Tryz.underlying3) Tryz.underlying49 _ w0.heap.size n _ rfl HOW.out ?_; intro w2 hrg0 hg0 hs0)
      go_frame
      have HS0 : Aside (w2.heap.size = w1.heap.size + 1) := hs0
      have HG0 : Aside (w1.grownBy w2 none) := hg0
      have hrlt : w0.heap.size + 1 < w1.heap.size := HLT.out
      go_loopw [9] (fun _ wq => ∃ (left : Lit → Bool) (cnt : Nat), wq.ranges Tryz.prog 3 (plainElem Tryz.prog 4) w0.heap.size w1.heap.size n D left cnt ∧ Marks Tryz.prog 3 4 wq (w0.heap.size + 1) n (others l g) ∧
          (∀ y : Int, own l g y = true → left (.int .i64 y) = true ∨ others l g y = false) ∧ Below w.heap.size w wq ∧ w1.heap.size < wq.heap.size)
        (fun _ wq => wq.rangeLeft w0.heap.size w1.heap.size)
      case atStart =>
        refine ⟨_, _, hrg0, HOT.out.kept HG0.out (by simp), fun y hy => .inl ?_, HW1.out.grown HG0.out HW1.out.size (by intro j hj; cases hj), by rw [HS0.out]; omega⟩
        rw [Marks.has (k := 3) (e := 4) HD.out, hy]
      case round =>
        obtain ⟨left, cnt, hrg, hot, hinv, hbl, hszq⟩ := hrel
        have HI : Aside (∀ y : Int, own l g y = true → left (.int .i64 y) = true ∨ others l g y = false) := hinv
        have HBL : Aside (Below w.heap.size w wr) := hbl
        have HOQ : Aside (Marks Tryz.prog 3 4 wr (w0.heap.size + 1) n (others l g)) := hot
        clear hinv hbl hot
        go_wp2_with (first
          | (at_next; refine wpList_next_marks _ rfl _ rfl 3 4 Tryz.underlying3 Tryz.underlying4 w0.heap.size w1.heap.size n _ (own l g) HD.out _ _ rfl hrg ?_ ?_)
          | go_in)
        · intro _ hl0
          go_wp2
          go_ret
          refine ⟨⟨true, rfl, ?_⟩, HBL.out⟩
          simp only [true_iff]
          refine ⟨HA.out, fun y hy => ?_⟩
          rcases HI.out y hy with h | h
          · rw [hl0] at h; cases h
          · exact h
        · intro x w3 cnt1 hwx hxo hrg1 hlt hg1 hs1 hen
          have HXO : Aside (own l g x = true) := hxo
          have HO3 : Aside (Marks Tryz.prog 3 4 w3 (w0.heap.size + 1) n (others l g)) := HOQ.out.kept hg1 (by simp; omega)
          have HBL3 : Aside (Below w.heap.size w w3) := HBL.out.grown hg1 HBL.out.size (by intro j hj; cases hj; have := HW1.out.size; omega)
          have HRG : Aside (w3.ranges Tryz.prog 3 (plainElem Tryz.prog 4) w0.heap.size w1.heap.size n D (fun z => left z && !z.sameKey (.int .i64 x)) cnt1) := hrg1
          have HRGQ : Aside (wr.ranges Tryz.prog 3 (plainElem Tryz.prog 4) w0.heap.size w1.heap.size n D left cnt) := hrg
          have HWX : Aside ((Lit.int .i64 x).wf = true) := hwx
          have HS1 : Aside (w3.heap.size = wr.heap.size) := hs1
          clear hxo hrg1 hrg hwx hg1 hs1
          generalize hoc : others l g x = oc
          have HOC : Aside (others l g x = oc) := hoc
          clear hoc
          go_wp2_with (first
            | (at_lookup; refine wpList_marks_lookup _ rfl _ _ 49 rfl 3 4 Tryz.underlying3 Tryz.underlying49 Tryz.underlying4 (zero4 _) (w0.heap.size + 1) n _ rfl HO3.out _ rfl HWX.out ?_; rw [HOC.out])
            | (at_delete; refine wpList_marks_delete _ rfl _ _ 49 3 rfl 4 Tryz.underlying3 Tryz.underlying49 (w0.heap.size + 1) n _ rfl HO3.out _ rfl HWX.out ?_; intro w4 hm4 hg4 hs4; go_frame))
          · have ht : oc = true := by assumption
            go_ret
            refine ⟨⟨false, rfl, ?_⟩, HBL3.out⟩
            simp only [Bool.false_eq_true, false_iff]
            rintro ⟨_, h⟩
            have h1 := h x HXO.out
            rw [HOC.out, ht] at h1
            cases h1
          · have ht : oc = false := by assumption
            have hot : others l g x = false := by rw [HOC.out, ht]
            have hrg4 := HRG.out.kept hg4 (by simp) (by simp; omega)
            go_roundw
            case rel =>
              refine ⟨_, cnt1, hrg4, hm4.iff fun p => ?_, fun y hy => ?_, HBL3.out.grown hg4 HBL3.out.size (by intro j hj; cases hj; omega), by have := HS1.out; omega⟩
              · by_cases hp : p = x
                · subst hp; simp [hot]
                · simp [hp]
              · by_cases hyx : y = x
                · subst hyx; exact .inr hot
                · rcases HI.out y hy with h | h
                  · refine .inl ?_
                    have : (Lit.int IntKind.i64 y).sameKey (Lit.int IntKind.i64 x) = false := sameKey_ne (by simpa using hyx)
                    simp [h, this]
                  · exact .inr h
            case measure => rw [hrg4.left_eq, HRGQ.out.left_eq]; exact hlt

theorem Apart_calls {B : Nat} {w : World} {x : Value} {l : List St} {fs : List Value} (g : Int) (hBw : B ≤ w.heap.size) (hx : StepsF B w x l fs) (hb : l.length ≤ 1000000) (hok : ∀ s ∈ l, (Lit.int .i64 s.page).wf = true) :
    Calls Tryz.prog 10 #[x, .int .i64 g] w fun e w' => (∃ r : Bool, e = .returned (.bool r) ∧ (r = true ↔ ApartP l g)) ∧ Below w.heap.size w w' := by
  obtain ⟨a, c, rfl, _⟩ := hx.shape
  exact Apart_any a l.length c B l fs g w rfl hb hBw hx hok
end Go.Proofs.YtndbccpaccflcaaGreat
