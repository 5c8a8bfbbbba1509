/- image.Check. -/
import Derived.Test.YtdlnipimljpmgaaIW1
import Derived.Deep.QuietTactic
import Derived.BigQuiet
import Derived.Deep.Cut
set_option linter.unusedVariables false
set_option linter.unusedSimpArgs false
set_option linter.unusedSectionVars false
set_option linter.unnecessarySimpa false
namespace Go.Proofs.Ytdlnipimljpmgaa
open Go Go.RowKit Go.Im Go.Lib

theorem rises_snoc : ∀ (l : List Lf) (f : Lf), rises (l ++ [f]) = (rises l && decide (f.page < 268435456) && (match l.getLast? with | none => true | some g => decide (g.page < f.page)))
  | [], f => by simp [rises]
  | [g], f => by
    simp only [List.cons_append, List.nil_append, rises, List.getLast?_singleton]
    rw [Bool.eq_iff_iff]
    simp only [Bool.and_eq_true, decide_eq_true_eq]
    constructor
    · rintro ⟨⟨h1, h2⟩, h3⟩; exact ⟨⟨h1, h3⟩, h2⟩
    · rintro ⟨⟨h1, h2⟩, h3⟩; exact ⟨⟨h1, h3⟩, h2⟩
  | g :: g' :: l, f => by
    have ih := rises_snoc (g' :: l) f
    simp only [List.cons_append] at ih
    simp only [List.cons_append, rises, ih, List.getLast?_cons_cons, Bool.and_assoc]

theorem rises_take {l : List Lf} {k : Nat} {f : Lf} (h : l[k]? = some f) : rises (l.take (k + 1)) = (rises (l.take k) && (decide (f.page < 268435456) && (decide (k = 0) || decide ((((l[k - 1]?).map Lf.page).getD 0) < f.page)))) := by
  rw [List.take_add_one, h]
  simp only [Option.toList_some]
  rw [rises_snoc, Bool.and_assoc]
  congr 2
  have hk : k < l.length := by
    rcases Nat.lt_or_ge k l.length with h' | h'
    · exact h'
    · rw [List.getElem?_eq_none h'] at h; cases h
  cases k with
  | zero => simp
  | succ k =>
    have : (l.take (k + 1)).getLast? = l[k]? := by
      rw [List.getLast?_take]
      simp
      cases h : l[k]? with
      | none => rw [List.getElem?_eq_none_iff] at h; omega
      | some x => rfl
    rw [this]
    have h1 : l[k]? = some l[k] := List.getElem?_eq_getElem (by omega)
    rw [h1]
    simp [h1]

theorem LeavesF.at2 {B : Nat} {w w' : World} {x : Option Addr} {n c : Nat} {l : List Lf} {fs : List Value} (h : LeavesF B w (.slice x n c) l fs) (hn : l.length = n) (hb : Below B w w') {k : Nat} (hk : k < n) :
    ∃ (b o : Nat) (f : Lf) (fa : Option Addr) (fc : Nat), x = some ⟨b, o, none⟩ ∧ b < B ∧ l[k]? = some f ∧ At w' b (o + k * 4) f (.slice fa f.bytes.length fc) ∧ Bs B w' (.slice fa f.bytes.length fc) f.bytes ∧ fs[k]? = some (.slice fa f.bytes.length fc) := by
  have hl := h.1
  obtain ⟨s, hs⟩ : ∃ s, l[k]? = some s := ⟨_, List.getElem?_eq_getElem (by omega)⟩
  obtain ⟨f, hf⟩ : ∃ f, fs[k]? = some f := ⟨_, List.getElem?_eq_getElem (by omega)⟩
  obtain ⟨b, o, rfl⟩ : ∃ b o, x = some ⟨b, o, none⟩ := by
    obtain ⟨a, cap, he, hne⟩ := h.shape
    cases he
    exact hne (by intro h0; rw [h0] at hs; simp at hs)
  obtain ⟨hB, hat⟩ := h.at hs hf
  have hbs := h.2.1 k _ _ hs hf
  obtain ⟨fa, fc, rfl⟩ := hbs.shape
  exact ⟨b, o, s, fa, fc, rfl, hB, hs, hat.below hb hB, hbs.below hb, hf⟩

set_option maxRecDepth 100000 in
set_option maxHeartbeats 4000000 in
theorem Check_any (on : Bool) (root asid : Int) (x : Option Addr) (n c B : Nat) (l : List Lf) (fs : List Value) (w : World) (hn : l.length = n) (hbig : n ≤ 100000000) (hBw : B ≤ w.heap.size) (hr0 : 0 ≤ root)
    (hx : LeavesF B w (.slice x n c) l fs) (hlen : ∀ f ∈ l, f.bytes.length ≤ 1000000000) :
    Calls Try.prog 13 #[.agg #[.bool on, .int .u64 root, .int .i64 asid, .slice x n c]] w fun e w' => e = .returned (.int .i64 (chk ⟨on, root, asid, l⟩)) ∧ Below w.heap.size w w' := by
  have HX : Aside (LeavesF B w (.slice x n c) l fs) := hx
  have HLN : Aside (∀ f ∈ l, f.bytes.length ≤ 1000000000) := hlen
  clear hx hlen
  by_cases ha : asid < 0 ∨ 255 < asid
  · have hc : chk ⟨on, root, asid, l⟩ = 1 := by unfold chk; rw [if_pos ha]
    rw [hc]
    clear hc
    rcases ha with ha | ha
    · go_enter Try.func13, Try.ntmps13
      go_wp2
      go_ret
      exact ⟨rfl, (Below.refl _ _).alloc (Nat.le_refl _) _⟩
    · have ha2 : ¬ asid < 0 := by omega
      go_enter Try.func13, Try.ntmps13
      go_wp2
      go_ret
      exact ⟨rfl, (Below.refl _ _).alloc (Nat.le_refl _) _⟩
  · have h1 : ¬ asid < 0 := by omega
    have h2 : ¬ 255 < asid := by omega
    have HCK : Aside (chk ⟨on, root, asid, l⟩ = if l.any wrong then 1 else if root % 4096 ≠ 0 then 3 else if 1099511627776 ≤ root ∨ ¬ (l.length ≤ 1024 ∧ rises l = true) then 2 else 0) := by
      show _ = _
      unfold chk; rw [if_neg ha]
    clear ha
    go_enter Try.func13, Try.ntmps13
    go_wp2
    go_loopw [3, 21] (fun v i wr => ∃ k : Nat, k ≤ n ∧ i = .int .i64 k ∧ v = .bool (decide ((n : Int) ≤ 1024) && rises (l.take k)) ∧ Below (w.heap.size + 1) (w.alloc (.cells #[.bool on, .int .u64 root, .int .i64 asid, .slice x n c] 26)) wr ∧ (l.take k).any wrong = false)
      (fun _ i _ => n - (RowKit.intOf i).toNat)
    case atStart => exact ⟨0, Nat.zero_le _, rfl, by simp [rises], Below.refl _ _, rfl⟩
    case round =>
      obtain ⟨k, hk, rfl, rfl, hbl, hwr⟩ := hrel
      have HB : Aside (Below (w.heap.size + 1) (w.alloc (.cells #[.bool on, .int .u64 root, .int .i64 asid, .slice x n c] 26)) wr) := hbl
      have HW : Aside ((l.take k).any wrong = false) := hwr
      have HBW : Aside (Below w.heap.size w wr) := ((Below.refl _ _).alloc (Nat.le_refl _) _).trans (hbl.mono (by omega))
      have p1 : wr.cell? ⟨w.heap.size, 1, none⟩ = some (.int .u64 root) := by rw [hbl.cell (by simp)]; exact cell_new0 () rfl
      have p3 : wr.cell? ⟨w.heap.size, 3, none⟩ = some (.slice x n c) := by rw [hbl.cell (by simp)]; exact cell_new0 () rfl
      clear hbl hwr
      by_cases hlt : k < n
      · obtain ⟨b, o, f, fa, fc, rfl, hB, hs, hat, hbs, hf⟩ := LeavesF.at2 HX.out hn (HBW.out.mono hBw) hlt
        obtain ⟨c0, c1, c2, c3⟩ := hat
        have HS : Aside (l[k]? = some f) := hs
        have hi : (k : Int) < (n : Int) := by omega
        have HWC : Aside (∀ w1, Calls Try.prog 34 #[.agg #[.int .u64 f.page, .int .i64 f.kind, .bool f.write, .slice fa f.bytes.length fc]] w1 fun e w' => e = .returned (.bool (wrong f)) ∧ Below w1.heap.size w1 w') := fun w1 => wrong_calls f fa f.bytes.length fc w1 rfl (HLN.out f (List.mem_of_getElem? hs))
        have HWT : Aside (wrong f = true → l.any wrong = true) := fun h => List.any_eq_true.2 ⟨f, List.mem_of_getElem? hs, h⟩
        have HWF : Aside (wrong f = false → (l.take (k + 1)).any wrong = false) := fun h => by
          rw [List.take_add_one, HS.out, List.any_append, HW.out]
          simp [h]
        have HRS := rises_take HS.out
        generalize hrk : rises (l.take k) = rk at HRS
        have HRK : Aside (rises (l.take k) = rk) := hrk
        generalize wrong f = wf at HWC HWT HWF
        clear hs hbs hf hrk
        have HPV : Aside (∀ j, k = j + 1 → ∃ g : Lf, l[j]? = some g ∧ ∀ w6, Below wr.heap.size wr w6 → w6.cell? ⟨b, o + j * 4, none⟩ = some (.int .u64 g.page)) := fun j hj => by
          obtain ⟨b', o', g, ga, gc, he, hB', hg, hatg, _, _⟩ := LeavesF.at2 HX.out hn (HBW.out.mono hBw) (k := j) (by omega)
          cases he
          exact ⟨g, hg, fun w6 h6 => by rw [h6.cell (by show b < _; have := HBW.out.size; omega)]; exact hatg.1⟩
        go_wp2_with fail
        refine (HWC.out _).mono ?_
        rintro e w5 ⟨rfl, hw5⟩
        have HB5 : Aside (Below wr.heap.size wr w5) := ((Below.refl _ _).alloc (Nat.le_refl _) _).trans (hw5.mono (by simp))
        have y0 : w5.cell? ⟨wr.heap.size, 0, none⟩ = some (.int .u64 f.page) := by rw [hw5.cell (by simp)]; exact cell_new0 () rfl
        have P3 : Aside (w5.cell? ⟨w.heap.size, 3, none⟩ = some (.slice (some ⟨b, o, none⟩) n c)) := by
          have := HB.out.size
          simp at this
          show w5.cell? _ = _
          rw [HB5.out.cell (by show w.heap.size < _; omega)]; exact p3
        clear p1 p3 c0 c1 c2 c3 hw5
        cases wf with
        | true =>
          have HCK1 : Aside (chk ⟨on, root, asid, l⟩ = 1) := by
            have := HCK.out
            rw [HWT.out rfl] at this
            exact this
          clear HCK HRS
          go_wp2_with fail
          go_ret
          rw [HCK1.out]
          exact ⟨rfl, HBW.out.trans (HB5.out.mono HBW.out.size)⟩
        | false =>
          have HWN := HWF.out rfl
          have HWN : Aside ((l.take (k + 1)).any wrong = false) := HWN
          have HRS : Aside (rises (l.take (k + 1)) = (rk && (decide (f.page < 268435456) && (decide (k = 0) || decide ((((l[k - 1]?).map Lf.page).getD 0) < f.page))))) := HRS
          have HEND : Aside (∀ v : Bool, v = (decide ((n : Int) ≤ 1024) && rises (l.take (k + 1))) → ∀ w6, Below wr.heap.size wr w6 → ∃ k' : Nat, k' ≤ n ∧ Value.int .i64 ((k : Int) + 1) = .int .i64 k' ∧ Value.bool v = .bool (decide ((n : Int) ≤ 1024) && rises (l.take k')) ∧ Below (w.heap.size + 1) (w.alloc (.cells #[.bool on, .int .u64 root, .int .i64 asid, .slice (some ⟨b, o, none⟩) n c] 26)) w6 ∧ (l.take k').any wrong = false) := fun v hv w6 h6 =>
            ⟨k + 1, by omega, by go_num, by rw [hv], HB.out.trans (h6.mono (by have := HB.out.size; simp at this; omega)), HWN.out⟩
          generalize hfl : (decide ((n : Int) ≤ 1024) && rk) = fl
          have HFL : Aside ((decide ((n : Int) ≤ 1024) && rk) = fl) := hfl
          clear hfl HWN HWF HWT HWC
          go_upto_region 9 with fail
          cases fl with
          | false =>
            have HV : Aside (false = (decide ((n : Int) ≤ 1024) && rises (l.take (k + 1)))) := by
              show _ = _
              rw [HRS.out, ← Bool.and_assoc, HFL.out]; rfl
            go_quiet (fail)
            go_wp2_with fail
            go_roundw
            case rel => exact HEND.out false (HV.out) _ (below_drewN HB5.out _)
            case measure => simp [RowKit.intOf]; omega
          | true =>
            by_cases hp : f.page < 268435456
            · by_cases hk0 : k = 0
              · have HV : Aside (true = (decide ((n : Int) ≤ 1024) && rises (l.take (k + 1)))) := by
                  show _ = _
                  rw [HRS.out, ← Bool.and_assoc, HFL.out, decide_eq_true hp, decide_eq_true hk0]; rfl
                subst hk0
                go_quiet (fail)
                go_wp2_with fail
                go_roundw
                case rel => exact HEND.out true (HV.out) _ (below_drewN HB5.out _)
                case measure => simp [RowKit.intOf]; omega
              · obtain ⟨j, rfl⟩ : ∃ j, k = j + 1 := ⟨k - 1, by omega⟩
                obtain ⟨g, hg, hgc⟩ := HPV.out j rfl
                have g0 := hgc w5 HB5.out
                have p3 := P3.out
                have hwj : IntKind.i64.wrap (j : Int) = (j : Int) := IntWalk.i64_in _ (by omega)
                have hjn : (j : Int) < (n : Int) := by omega
                have HGE : Aside (rises (l.take (j + 1 + 1)) = (rk && (decide (f.page < 268435456) && (decide (j + 1 = 0) || decide (g.page < f.page))))) := by
                  have := HRS.out
                  rw [show j + 1 - 1 = j by omega, hg] at this
                  exact this
                clear HRS HPV hg hgc hk0
                by_cases hpp : g.page < f.page
                · have HV : Aside (true = (decide ((n : Int) ≤ 1024) && rises (l.take (j + 1 + 1)))) := by
                    show _ = _
                    rw [HGE.out, ← Bool.and_assoc, HFL.out, decide_eq_true hp, decide_eq_true hpp]; simp
                  go_quiet (fail)
                  go_wp2_with fail
                  go_roundw
                  case rel => exact HEND.out true (HV.out) _ (below_drewN HB5.out _)
                  case measure => simp [RowKit.intOf]; omega
                · have HV : Aside (false = (decide ((n : Int) ≤ 1024) && rises (l.take (j + 1 + 1)))) := by
                    show _ = _
                    rw [HGE.out, ← Bool.and_assoc, HFL.out, decide_eq_true hp, decide_eq_false hpp]; simp
                  have hpd : decide (g.page < f.page) = false := decide_eq_false hpp
                  go_quiet (fail)
                  go_wp2_with fail
                  go_roundw
                  case rel => exact HEND.out false (HV.out) _ (below_drewN HB5.out _)
                  case measure => simp [RowKit.intOf]; omega
            · have HV : Aside (false = (decide ((n : Int) ≤ 1024) && rises (l.take (k + 1)))) := by
                show _ = _
                rw [HRS.out, ← Bool.and_assoc, HFL.out, decide_eq_false hp]; rfl
              have hpd : decide (f.page < 268435456) = false := decide_eq_false hp
              go_quiet (fail)
              go_wp2_with fail
              go_roundw
              case rel => exact HEND.out false (HV.out) _ (below_drewN HB5.out _)
              case measure => simp [RowKit.intOf]; omega
      · have hkn : k = n := by omega
        have HALL : Aside (l.any wrong = false) := by
          have := HW.out
          rw [hkn, ← hn, List.take_length] at this
          exact this
        have HRA : Aside (rises (l.take k) = rises l) := by
          show _ = _
          rw [hkn, ← hn, List.take_length]
        have HCK2 : Aside (chk ⟨on, root, asid, l⟩ = if root % 4096 ≠ 0 then 3 else if 1099511627776 ≤ root ∨ ¬ (l.length ≤ 1024 ∧ rises l = true) then 2 else 0) := by
          show _ = _
          have := HCK.out
          rw [HALL.out] at this
          exact this
        have HNL : Aside (l.length = n) := hn
        generalize rises (l.take k) = rk at HRA
        generalize hfl : (decide ((n : Int) ≤ 1024) && rk) = fl
        have HFE : Aside ((decide ((n : Int) ≤ 1024) && rk) = fl) := hfl
        subst hkn
        clear hn hfl HCK HX HLN
        by_cases hm : root % 4096 = 0
        · by_cases hg : 1099511627776 ≤ root
          · have HF : Aside (chk ⟨on, root, asid, l⟩ = 2) := by
              show _ = _
              rw [HCK2.out, if_neg (by omega), if_pos (.inl hg)]
            go_wp2_with fail
            go_ret
            rw [HF.out]
            exact ⟨rfl, HBW.out⟩
          · cases fl with
            | true =>
              have HF : Aside (chk ⟨on, root, asid, l⟩ = 0) := by
                show _ = _
                have h := HFE.out
                rw [HRA.out] at h
                simp at h
                rw [HCK2.out, if_neg (by omega), if_neg]
                rintro (h' | h')
                · exact hg h'
                · exact h' ⟨by have := HNL.out; omega, h.2⟩
              go_wp2_with fail
              go_ret
              rw [HF.out]
              exact ⟨rfl, HBW.out⟩
            | false =>
              have HF : Aside (chk ⟨on, root, asid, l⟩ = 2) := by
                show _ = _
                have h := HFE.out
                rw [HRA.out] at h
                rw [HCK2.out, if_neg (by omega), if_pos]
                right
                rintro ⟨h1, h2⟩
                rw [h2, decide_eq_true (by have := HNL.out; omega)] at h
                cases h
              go_wp2_with fail
              go_ret
              rw [HF.out]
              exact ⟨rfl, HBW.out⟩
        · have HF : Aside (chk ⟨on, root, asid, l⟩ = 3) := by
            show _ = _
            rw [HCK2.out, if_pos hm]
          go_wp2_with fail
          go_ret
          rw [HF.out]
          exact ⟨rfl, HBW.out⟩

theorem Check_calls (m : Img) {B : Nat} {w : World} {x : Value} {fs : List Value} (hbig : m.leaves.length ≤ 100000000) (hBw : B ≤ w.heap.size) (hr0 : 0 ≤ m.root)
    (hx : LeavesF B w x m.leaves fs) (hlen : ∀ f ∈ m.leaves, f.bytes.length ≤ 1000000000) :
    Calls Try.prog 13 #[.agg #[.bool m.on, .int .u64 m.root, .int .i64 m.asid, x]] w fun e w' => e = .returned (.int .i64 (chk m)) ∧ Below w.heap.size w w' := by
  obtain ⟨a, c, rfl, _⟩ := hx.shape
  exact Check_any m.on m.root m.asid a m.leaves.length c B m.leaves fs w rfl hbig hBw hr0 hx hlen
end Go.Proofs.Ytdlnipimljpmgaa
