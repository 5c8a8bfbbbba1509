/- The document's Check. -/
import Derived.Test.YtdlnipimljpmgaaIW2
import Derived.BigQuiet
set_option linter.unusedVariables false
set_option linter.unusedSimpArgs false
set_option linter.unusedSectionVars false
set_option linter.unnecessarySimpa false
namespace Go.Proofs.Ytdlnipimljpmgaa
open Go Go.RowKit Go.Im Go.Lib

theorem chk_bools (on : Bool) (root asid : Int) (l : List Lf) : chk ⟨on, root, asid, l⟩ = if ((decide (asid < 0) || decide (255 < asid)) || l.any wrong) = true then 1 else if root % 4096 ≠ 0 then 3 else if (decide (1099511627776 ≤ root) || decide (1024 < (l.length : Int))) || !(rises l) then 2 else 0 := by
  unfold chk
  simp only
  by_cases h1 : asid < 0 ∨ 255 < asid
  · rw [if_pos h1, if_pos (by rw [← Bool.decide_or, decide_eq_true h1]; rfl)]
  · rw [if_neg h1, ← Bool.decide_or, decide_eq_false h1, Bool.false_or]
    by_cases h2 : l.any wrong = true
    · rw [if_pos h2, if_pos h2]
    · rw [if_neg h2, if_neg h2]
      by_cases h3 : root % 4096 = 0
      · have h3' : ¬ (root % 4096 ≠ 0) := by omega
        simp only [h3', if_false]
        by_cases h4 : 1099511627776 ≤ root
        · rw [if_pos (.inl h4), decide_eq_true h4]; rfl
        · rw [decide_eq_false h4, Bool.false_or]
          by_cases h5 : l.length ≤ 1024
          · rw [decide_eq_false (by omega), Bool.false_or]
            cases h6 : rises l
            · rw [if_pos (.inr (by simp))]; rfl
            · rw [if_neg (by simp [h4, h5])]; rfl
          · rw [decide_eq_true (by omega), if_pos (.inr (by simp [h5]))]; rfl
      · rw [if_pos h3, if_pos h3]

set_option maxRecDepth 100000 in
set_option maxHeartbeats 4000000 in
theorem refCheck_any (on : Bool) (root asid : Int) (x : Option Addr) (n c B : Nat) (l : List Lf) (fs : List Value) (w : World) (hn : l.length = n) (hbig : n ≤ 100000000) (hBw : B ≤ w.heap.size) (hr0 : 0 ≤ root)
    (hx : LeavesF B w (.slice x n c) l fs) (hlen : ∀ f ∈ l, f.bytes.length ≤ 1000000000) :
    Calls Try.prog 14 #[.agg #[.bool on, .int .u64 root, .int .i64 asid, .slice x n c]] w fun e w' => e = .returned (.int .i64 (chk ⟨on, root, asid, l⟩)) ∧ Below w.heap.size w w' := by
  have HX : Aside (LeavesF B w (.slice x n c) l fs) := hx
  have HLN : Aside (∀ f ∈ l, f.bytes.length ≤ 1000000000) := hlen
  have HNL : Aside (l.length = n) := hn
  clear hx hlen hn
  obtain ⟨b0, hb0⟩ : ∃ b0 : Bool, b0 = (decide (asid < 0) || decide (255 < asid)) := ⟨_, rfl⟩
  have HB0 : Aside (b0 = (decide (asid < 0) || decide (255 < asid))) := hb0
  clear hb0
  go_enter Try.func14, Try.ntmps14
  go_upto_region 1 with fail
  go_cut [3] from 7 (fun v wc => v = .bool b0 ∧ wc = w.alloc (.cells #[.bool on, .int .u64 root, .int .i64 asid, .slice x n c] 29))
  case first =>
    by_cases h1 : asid < 0
    · have HV : Aside (true = b0) := by show _ = _; rw [HB0.out, decide_eq_true h1]; rfl
      go_wp2_with fail
      go_meet
      exact ⟨congrArg Value.bool HV.out, rfl⟩
    · by_cases h2 : 255 < asid
      · have HV : Aside (true = b0) := by show _ = _; rw [HB0.out, decide_eq_true h2]; simp
        go_wp2_with fail
        go_meet
        exact ⟨congrArg Value.bool HV.out, rfl⟩
      · have HV : Aside (false = b0) := by show _ = _; rw [HB0.out, decide_eq_false h1, decide_eq_false h2]; rfl
        go_wp2_with fail
        go_meet
        exact ⟨congrArg Value.bool HV.out, rfl⟩
  case rest =>
    obtain ⟨rfl, rfl⟩ := hcut
    go_wp2_with fail
    go_loopw [3, 4] (fun v i wr => ∃ k : Nat, k ≤ n ∧ i = .int .i64 k ∧ v = .bool (b0 || (l.take k).any wrong) ∧ Below (w.heap.size + 1) (w.alloc (.cells #[.bool on, .int .u64 root, .int .i64 asid, .slice x n c] 29)) wr)
      (fun _ i _ => n - (RowKit.intOf i).toNat)
    case atStart => exact ⟨0, Nat.zero_le _, rfl, by simp, Below.refl _ _⟩
    case round =>
      obtain ⟨k, hk, rfl, rfl, hbl⟩ := hrel
      have HB : Aside (Below (w.heap.size + 1) (w.alloc (.cells #[.bool on, .int .u64 root, .int .i64 asid, .slice x n c] 29)) wr) := hbl
      have HBW : Aside (Below w.heap.size w wr) := ((Below.refl _ _).alloc (Nat.le_refl _) _).trans (hbl.mono (by omega))
      have p1 : wr.cell? ⟨w.heap.size, 1, none⟩ = some (.int .u64 root) := by rw [hbl.cell (by simp)]; exact cell_new0 () rfl
      have p3 : wr.cell? ⟨w.heap.size, 3, none⟩ = some (.slice x n c) := by rw [hbl.cell (by simp)]; exact cell_new0 () rfl
      clear hbl
      by_cases hlt : k < n
      · obtain ⟨b, o, f, fa, fc, rfl, hB, hs, hat, hbs, hf⟩ := LeavesF.at2 HX.out HNL.out (HBW.out.mono hBw) hlt
        obtain ⟨c0, c1, c2, c3⟩ := hat
        have hi : (k : Int) < (n : Int) := by omega
        have HFL : Aside (f.bytes.length ≤ 1000000000) := HLN.out f (List.mem_of_getElem? hs)
        have hnx : (b0 || (l.take (k + 1)).any wrong) = ((b0 || (l.take k).any wrong) || wrong f) := by
          rw [List.take_add_one, hs, List.any_append, Bool.or_assoc]; simp
        obtain ⟨kd, hkd⟩ : ∃ kd, f.kind = kd := ⟨_, rfl⟩
        obtain ⟨wr0, hwr0⟩ : ∃ wr0, f.write = wr0 := ⟨_, rfl⟩
        obtain ⟨ln, hln⟩ : ∃ ln, f.bytes.length = ln := ⟨_, rfl⟩
        have hwr : wrong f = ((!(kd == 1) && !(kd == 2) && !(kd == 5)) || (wr0 && !(kd == 5)) || !(ln == 4096)) := by unfold wrong; rw [hkd, hwr0, hln]
        rw [hkd] at c1
        rw [hwr0] at c2
        rw [hln] at c3 HFL
        rw [hwr] at hnx
        obtain ⟨bk, hbk⟩ : ∃ bk, (b0 || (l.take k).any wrong) = bk := ⟨_, rfl⟩
        rw [hbk] at hnx ⊢
        have HEND : Aside (∀ v : Bool, v = (bk || ((!(kd == 1) && !(kd == 2) && !(kd == 5)) || (wr0 && !(kd == 5)) || !(ln == 4096))) → ∀ w6, Below wr.heap.size wr w6 → ∃ k' : Nat, k' ≤ n ∧ Value.int .i64 ((k : Int) + 1) = .int .i64 k' ∧ Value.bool v = .bool (b0 || (l.take k').any wrong) ∧ Below (w.heap.size + 1) (w.alloc (.cells #[.bool on, .int .u64 root, .int .i64 asid, .slice (some ⟨b, o, none⟩) n c] 29)) w6) := fun v hv w6 h6 =>
          ⟨k + 1, by omega, by go_num, by rw [hv, hnx], HB.out.trans (h6.mono (by have := HB.out.size; simp at this; omega))⟩
        have hfl := HFL.out
        clear hbs hf hs hnx hkd hwr0 hln hwr hbk HFL
        cases bk with
        | true =>
          go_wp2_with fail
          go_roundw
          case rel => exact HEND.out true rfl _ ((Below.refl _ _).alloc (Nat.le_refl _) _)
          case measure => simp [RowKit.intOf]; omega
        | false =>
          by_cases h4 : ln = 4096
          all_goals cases wr0
          all_goals rcases (by omega : kd = 1 ∨ kd = 2 ∨ kd = 5 ∨ (¬ kd = 1 ∧ ¬ kd = 2 ∧ ¬ kd = 5)) with h5 | h5 | h5 | ⟨h5, h6, h7⟩
          all_goals first | subst h5 | skip
          all_goals first | subst h4 | skip
          all_goals go_wp2_with fail
          all_goals go_roundw
          all_goals first
            | (simp [RowKit.intOf]; omega)
            | (refine HEND.out _ ?_ _ ((Below.refl _ _).alloc (Nat.le_refl _) _); simp [*]; done)
            | (refine HEND.out _ ?_ _ ((Below.refl _ _).alloc (Nat.le_refl _) _); have e1 : ((ln : Int) == 4096) = false := beq_eq_false_iff_ne.2 (by omega); have e2 : (ln == 4096) = false := beq_eq_false_iff_ne.2 h4; simp only [bne, e1, e2]; simp [*])
      · have hkn : k = n := by omega
        subst hkn
        have hall : (l.take k).any wrong = l.any wrong := by rw [← HNL.out, List.take_length]
        rw [hall]
        obtain ⟨b1, hb1⟩ : ∃ b1, (b0 || l.any wrong) = b1 := ⟨_, rfl⟩
        rw [hb1]
        have HCK : Aside (chk ⟨on, root, asid, l⟩ = if b1 = true then 1 else if root % 4096 ≠ 0 then 3 else if (decide (1099511627776 ≤ root) || decide (1024 < (k : Int))) || !(rises l) then 2 else 0) := by
          have := chk_bools on root asid l
          rw [← HB0.out, hb1, HNL.out] at this
          exact this
        clear hall hb1
        cases b1 with
        | true =>
          have HF : Aside (chk ⟨on, root, asid, l⟩ = 1) := by
            show _ = _
            rw [HCK.out, if_pos rfl]
          go_wp2_with fail
          go_ret
          rw [HF.out]
          exact ⟨rfl, HBW.out⟩
        | false =>
          by_cases hm : ¬ root % 4096 = 0
          · have HF : Aside (chk ⟨on, root, asid, l⟩ = 3) := by
              show _ = _
              rw [HCK.out, if_neg (by decide), if_pos hm]
            go_wp2_with fail
            go_ret
            rw [HF.out]
            exact ⟨rfl, HBW.out⟩
          · have hm : root % 4096 = 0 := by omega
            have HCK2 : Aside (chk ⟨on, root, asid, l⟩ = if (decide (1099511627776 ≤ root) || decide (1024 < (k : Int))) || !(rises l) then 2 else 0) := by
              show _ = _
              rw [HCK.out, if_neg (by decide), if_neg (by omega)]
            obtain ⟨b2, hb2⟩ : ∃ b2, (decide (1099511627776 ≤ root) || decide (1024 < (k : Int))) = b2 := ⟨_, rfl⟩
            rw [hb2] at HCK2
            have HB2 : Aside ((decide (1099511627776 ≤ root) || decide (1024 < (k : Int))) = b2) := hb2
            clear HCK hb2
            go_upto_region 11 with fail
            clear hm
            go_cut [3] from 63 (fun v wc => v = .bool b2 ∧ wc = wr)
            case first =>
              by_cases h1 : 1099511627776 ≤ root
              · have HV : Aside (true = b2) := by show _ = _; rw [← HB2.out, decide_eq_true h1]; rfl
                go_wp2_with fail
                go_meet
                exact ⟨congrArg Value.bool HV.out, rfl⟩
              · by_cases h2 : 1024 < (k : Int)
                · have HV : Aside (true = b2) := by show _ = _; rw [← HB2.out, decide_eq_true h2]; simp
                  go_wp2_with fail
                  go_meet
                  exact ⟨congrArg Value.bool HV.out, rfl⟩
                · have HV : Aside (false = b2) := by show _ = _; rw [← HB2.out, decide_eq_false h1, decide_eq_false h2]; rfl
                  go_wp2_with fail
                  go_meet
                  exact ⟨congrArg Value.bool HV.out, rfl⟩
            case rest =>
              obtain ⟨rfl, rfl⟩ := hcut
              go_wp2_with fail
              go_loopw [3, 6] (fun v i wr => ∃ j : Nat, j ≤ k ∧ i = .int .i64 j ∧ v = .bool (b2 || !(rises (l.take j))) ∧ Below wc.heap.size wc wr)
                (fun _ i _ => k - (RowKit.intOf i).toNat)
              case atStart => exact ⟨0, Nat.zero_le _, rfl, by simp [rises], Below.refl _ _⟩
              case round =>
                obtain ⟨j, hj, rfl, rfl, hbl⟩ := hrel
                have HB2' : Aside (Below wc.heap.size wc wr) := hbl
                have HBW2 : Aside (Below w.heap.size w wr) := HBW.out.trans (hbl.mono HBW.out.size)
                have hlt0 := World.block_lt_of_cell? wc _ p3
                have q3 : wr.cell? ⟨w.heap.size, 3, none⟩ = some (.slice x k c) := by rw [hbl.cell (by exact hlt0)]; exact p3
                clear hbl hlt0
                by_cases hjk : j < k
                · obtain ⟨b, o, f, fa, fc, rfl, hB, hs, hat, hbs, hf⟩ := LeavesF.at2 HX.out HNL.out (HBW2.out.mono hBw) hjk
                  obtain ⟨c0, c1, c2, c3⟩ := hat
                  have HS : Aside (l[j]? = some f) := hs
                  have hi : (j : Int) < (k : Int) := by omega
                  have HRS := rises_take HS.out
                  obtain ⟨rk, hrk⟩ : ∃ rk, rises (l.take j) = rk := ⟨_, rfl⟩
                  rw [hrk] at HRS ⊢
                  have HPV : Aside (∀ i, j = i + 1 → ∃ g : Lf, l[i]? = some g ∧ wr.cell? ⟨b, o + i * 4, none⟩ = some (.int .u64 g.page)) := fun i hij => by
                    obtain ⟨b', o', g, ga, gc, he, hB', hg, hatg, _, _⟩ := LeavesF.at2 HX.out HNL.out (HBW2.out.mono hBw) (k := i) (by omega)
                    cases he
                    exact ⟨g, hg, hatg.1⟩
                  have HRS' : Aside (rises (l.take (j + 1)) = (rk && (decide (f.page < 268435456) && (decide (j = 0) || decide ((((l[j - 1]?).map Lf.page).getD 0) < f.page))))) := HRS
                  have HEND : Aside (∀ v : Bool, v = (b2 || !(rises (l.take (j + 1)))) → ∀ w6, Below wr.heap.size wr w6 → ∃ j' : Nat, j' ≤ k ∧ Value.int .i64 ((j : Int) + 1) = .int .i64 j' ∧ Value.bool v = .bool (b2 || !(rises (l.take j'))) ∧ Below wc.heap.size wc w6) := fun v hv w6 h6 =>
                    ⟨j + 1, by omega, by go_num, by rw [hv], HB2'.out.trans (h6.mono HB2'.out.size)⟩
                  obtain ⟨bv, hbv⟩ : ∃ bv, (b2 || !rk) = bv := ⟨_, rfl⟩
                  rw [hbv]
                  have HBV : Aside ((b2 || !rk) = bv) := hbv
                  clear HRS hs hbs hf hrk hbv c1 c2 c3
                  go_upto_region 15 with fail
                  cases bv with
                  | true =>
                    have HV : Aside (true = (b2 || !(rises (l.take (j + 1))))) := by
                      show _ = _
                      rw [HRS'.out]
                      have := HBV.out
                      revert this
                      cases b2 <;> cases rk <;> simp
                    go_quiet (fail)
                    go_wp2_with fail
                    go_roundw
                    case rel => exact HEND.out true HV.out _ (below_drewN (Below.refl _ _) _)
                    case measure => simp [RowKit.intOf]; omega
                  | false =>
                    have HBR : Aside (b2 = false ∧ rk = true) := by
                      have := HBV.out
                      revert this
                      cases b2 <;> cases rk <;> intro h <;> first | exact ⟨rfl, rfl⟩ | cases h
                    by_cases hp : f.page < 268435456
                    · have hpd : decide (268435456 ≤ f.page) = false := decide_eq_false (by omega)
                      by_cases hk0 : j = 0
                      · have HV : Aside (false = (b2 || !(rises (l.take (j + 1))))) := by
                          show _ = _
                          rw [HRS'.out, HBR.out.1, HBR.out.2, decide_eq_true hp, decide_eq_true hk0]; rfl
                        subst hk0
                        rw [Nat.zero_mul, Nat.add_zero] at c0
                        have hk00 : (0 : Int) < (k : Int) := by omega
                        go_quiet (fail)
                        go_wp2_with fail
                        go_roundw
                        case rel => exact HEND.out false HV.out _ (below_drewN (Below.refl _ _) _)
                        case measure => simp [RowKit.intOf]; omega
                      · obtain ⟨i, rfl⟩ : ∃ i, j = i + 1 := ⟨j - 1, by omega⟩
                        obtain ⟨g, hg, g0⟩ := HPV.out i rfl
                        have hwj : IntKind.i64.wrap (i : Int) = (i : Int) := IntWalk.i64_in _ (by omega)
                        have hjn : (i : Int) < (k : Int) := by omega
                        have HGE : Aside (rises (l.take (i + 1 + 1)) = (rk && (decide (f.page < 268435456) && (decide (i + 1 = 0) || decide (g.page < f.page))))) := by
                          have := HRS'.out
                          rw [show i + 1 - 1 = i by omega, hg] at this
                          exact this
                        clear HPV hg hk0
                        by_cases hpp : g.page < f.page
                        · have HV : Aside (false = (b2 || !(rises (l.take (i + 1 + 1))))) := by
                            show _ = _
                            rw [HGE.out, HBR.out.1, HBR.out.2, decide_eq_true hp, decide_eq_true hpp]; simp
                          have hpe : decide (f.page ≤ g.page) = false := decide_eq_false (by omega)
                          go_quiet (fail)
                          go_wp2_with fail
                          go_roundw
                          case rel => exact HEND.out false HV.out _ (below_drewN (Below.refl _ _) _)
                          case measure => simp [RowKit.intOf]; omega
                        · have HV : Aside (true = (b2 || !(rises (l.take (i + 1 + 1))))) := by
                            show _ = _
                            rw [HGE.out, HBR.out.1, HBR.out.2, decide_eq_true hp, decide_eq_false hpp]; simp
                          have hpe : f.page ≤ g.page := by omega
                          go_quiet (fail)
                          go_wp2_with fail
                          go_roundw
                          case rel => exact HEND.out true HV.out _ (below_drewN (Below.refl _ _) _)
                          case measure => simp [RowKit.intOf]; omega
                    · have HV : Aside (true = (b2 || !(rises (l.take (j + 1))))) := by
                        show _ = _
                        rw [HRS'.out, HBR.out.1, HBR.out.2, decide_eq_false hp]; rfl
                      have hpg : 268435456 ≤ f.page := by omega
                      go_quiet (fail)
                      go_wp2_with fail
                      go_roundw
                      case rel => exact HEND.out true HV.out _ (below_drewN (Below.refl _ _) _)
                      case measure => simp [RowKit.intOf]; omega
                · have hjk' : j = k := by omega
                  have hra : rises (l.take j) = rises l := by rw [hjk', ← HNL.out, List.take_length]
                  rw [hra]
                  obtain ⟨b3, hb3⟩ : ∃ b3, (b2 || !(rises l)) = b3 := ⟨_, rfl⟩
                  have HF : Aside (chk ⟨on, root, asid, l⟩ = if b3 = true then 2 else 0) := by
                    show _ = _
                    rw [HCK2.out, hb3]
                  rw [hb3]
                  clear hra hb3
                  cases b3 with
                  | true =>
                    go_wp2_with fail
                    go_ret
                    rw [HF.out]
                    exact ⟨rfl, HBW2.out⟩
                  | false =>
                    go_wp2_with fail
                    go_ret
                    rw [HF.out]
                    exact ⟨rfl, HBW2.out⟩
end Go.Proofs.Ytdlnipimljpmgaa
