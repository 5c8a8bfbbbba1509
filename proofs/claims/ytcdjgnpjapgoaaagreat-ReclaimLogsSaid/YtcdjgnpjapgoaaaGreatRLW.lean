/- demesnelaw23.ReclaimLogs, walked. -/
import Derived.Test.YtcdjgnpjapgoaaaGreatRDf
import Derived.Deep.RegionHeld3
import Derived.Deep.Cut
import Derived.Deep.CutBlock
import Derived.Deep.CutRange
import Derived.BigRegion
set_option linter.unusedVariables false
set_option linter.unusedSimpArgs false
set_option linter.unusedSectionVars false
namespace Go.Proofs.YtcdjgnpjapgoaaaGreat
open Go Go.RowKit Go.Lib Go.Proofs.YtcdjgnpjapgoaaaGreat.Dm

theorem mask7 (z : Int) : ∃ r : Nat, r < 8 ∧ bits .and .i64 z 7 = (r : Int) := by
  have key : ∀ x : BitVec 64, (x &&& 7#64).toNat < 8 := by
    intro x
    rw [BitVec.toNat_and]
    exact Nat.lt_of_le_of_lt Nat.and_le_right (by decide)
  have e : bits .and .i64 z 7 = IntKind.wrap .i64 ((BitVec.ofInt 64 z &&& BitVec.ofInt 64 (7 : Int)).toNat : Int) := rfl
  have h := key (BitVec.ofInt 64 z)
  refine ⟨(BitVec.ofInt 64 z &&& 7#64).toNat, h, ?_⟩
  rw [e, show BitVec.ofInt 64 (7 : Int) = 7#64 from rfl]
  generalize (BitVec.ofInt 64 z &&& 7#64).toNat = m at h
  simp [IntKind.wrap, IntKind.signed, IntKind.bits]
  omega

theorem bitsF_get {f : Nat → Bool} {j : Nat} : ∀ {m : Nat}, j < m → f j = true → (bitsF f m)[(bitsF f j).length]? = some j ∧ (bitsF f j).length < (bitsF f m).length
  | 0, h, _ => absurd h (by omega)
  | m + 1, h, hf => by
    have e : bitsF f (m + 1) = bitsF f m ++ cnd (f m) [m] [] := rfl
    rw [e]
    by_cases hj : j = m
    · subst hj
      rw [hf]
      simp
    · obtain ⟨h1, h2⟩ := bitsF_get (f := f) (j := j) (m := m) (by omega) hf
      rw [List.getElem?_append_left h2]
      exact ⟨h1, by rw [List.length_append]; omega⟩
theorem bitsF_succ (f : Nat → Bool) (j : Nat) : (bitsF f (j + 1)).length = (bitsF f j).length + (if f j = true then 1 else 0) := by
  have e : bitsF f (j + 1) = bitsF f j ++ cnd (f j) [j] [] := rfl
  rw [e, List.length_append]
  cases f j <;> simp

set_option maxHeartbeats 0 in
set_option maxRecDepth 100000 in
theorem Logs_any (a : Option Addr) (n cap : Nat) (hn : n ≤ 9223372036854775807) (at_ : Int) (W : World) (b o : Nat) (X : Nat → Int) (ha : 0 < n → a = some ⟨b, o, none⟩ ∧ b < W.heap.size)
    (hc : ∀ i, i < n → W.cell? ⟨b, o + i, none⟩ = some (.int .i64 (X i))) :
    Calls Tryz.prog 5 #[.slice a n cap, .int .i64 at_] W fun e w' => e = .returned (.bool true) ∧ Below W.heap.size W w' := by
  have HA : Aside (0 < n → a = some ⟨b, o, none⟩ ∧ b < W.heap.size) := ha
  have HC : Aside (∀ i, i < n → W.cell? ⟨b, o + i, none⟩ = some (.int .i64 (X i))) := hc
  clear ha hc
  go_enter Tryz.func5, Tryz.ntmps5
  go_wp2_with (go_at_call 50; refine (Begun_W _).mono ?_; rintro e w1 ⟨pb, rfl, hd, hk⟩)
  have HD : Aside (Wd (fun c => c < W.heap.size) pb (DS 0) w1 ∧ Kp (fun c => c < W.heap.size) W w1) := ⟨hd, hk⟩
  clear hd hk
  go_loopw [7] (fun i wr => ∃ k : Nat, k ≤ 8 ∧ i = .int .u64 k ∧ Wd (fun c => c < W.heap.size) pb (DS k) wr ∧ Kp (fun c => c < W.heap.size) W wr) (fun i _ => 8 - (RowKit.intOf i).toNat)
  case atStart => exact ⟨0, by omega, rfl, HD.out.1, HD.out.2⟩
  case round =>
    obtain ⟨k, hk, rfl, hd, hkp⟩ := hrel
    have HD2 : Aside (Wd (fun c => c < W.heap.size) pb (DS k) wr ∧ Kp (fun c => c < W.heap.size) W wr) := ⟨hd, hkp⟩
    clear hd hkp
    by_cases h8 : k < 8
    · go_wp2_with (go_at_call 51; refine (made_W h8 (fun c hc => Nat.lt_of_lt_of_le hc HD2.out.2.size) HD2.out.1).mono ?_; rintro e w3 ⟨rfl, hw3, hk3⟩)
      have HN : Aside (Wd (fun c => c < W.heap.size) pb (DS (k + 1)) w3 ∧ Kp (fun c => c < W.heap.size) W w3) := ⟨hw3, HD2.out.2.trans hk3⟩
      clear hw3 hk3
      go_roundw
      case rel => exact ⟨k + 1, by omega, by go_num, HN.out.1, HN.out.2⟩
      case measure => simp [RowKit.intOf]; omega
    · obtain rfl : k = 8 := by omega
      obtain ⟨cb, hpn, hpbl, hpc, hws⟩ := Ws_of HD2.out.1
      have HL0 : Aside (Lx W (fun A w => Ws A cb w) pb cb [pb] wr) := by
        refine ⟨⟨HD2.out.2.os, HD2.out.2.tape, HD2.out.2.output, HD2.out.2.size, fun c hc => HD2.out.2.block c hc⟩, hpc, (Ws.mch cb).anti hws (fun c hc => ?_), by simp, fun c hc => ?_⟩
        · rcases hc with hc | hc
          · exact .inl hc
          · simp at hc; exact .inr hc
        · simp at hc; subst hc
          exact ⟨by simpa using hpn, hpbl⟩
      clear hpn hpbl hws hk h8 HD2 HD
      go_wp2_with (first
        | (have hfirst := HP; clear hfirst; go_at_call 52; (with_reducible refine (LogAgain_W (p := p) HL1.out.lt HL1.out.wm).mono ?_); rintro e w3 ⟨rfl, hw3, hk3⟩; have HL2 : Aside (Lx W (fun A w => Wl A p true none (fun _ => false) w) pb p.cb [pb] w3) := HL1.out.call hw3 hk3; clear hw3 hk3)
        | (go_at_call 52; (with_reducible refine (LogFirst_W HL0.out.lt HL0.out.wm).mono ?_); rintro e w2 ⟨rfl, ⟨p, HP, hw2⟩, hk2⟩; subst HP; have HP : Aside (p.cb = p.cb) := rfl; have HL1 : Aside (Lx W (fun A w => Wl A p true none (fun _ => false) w) pb p.cb [pb] w2) := HL0.out.call hw2 hk2; have hpc2 := HL1.out.pc; clear hw2 hk2))
      have hpc3 := HL2.out.pc
      go_wp2
      obtain ⟨nb, hnb⟩ : ∃ nb, nb = w3.heap.size := ⟨_, rfl⟩
      have HNB : Aside (nb ≠ pb) := fun e => by have := (HL2.out.ge pb HL2.out.inl).2; omega
      have HL3 : Aside (Lx W (fun A w => Wo A p (fun _ => false) w) pb p.cb [nb, pb] (w3.alloc (Obj.cells (arrB fun _ => false) 99)) ∧ (w3.alloc (Obj.cells (arrB fun _ => false) 99)).heap[nb]? = some (.cells (arrB fun _ => false) 99)) := by
        refine ⟨?_, ?_⟩
        · rw [hnb]
          exact Lx.alloc (Wo.mch p _) (HL2.out.to (.inl ⟨HL2.out.wm, fun _ _ => rfl⟩)) _
        · rw [hnb]
          show (w3.heap.push _)[w3.heap.size]? = _
          simp
      rw [← hnb]
      clear hnb hpc hpc2 hpc3 HL2 HL1 HL0 HP
      go_loopw [9] (fun i wr => ∃ (k : Nat) (on : Nat → Bool), k ≤ n ∧ k ≤ 40 ∧ i = .int .i64 k ∧ Lx W (fun A w => Wo A p on w) pb p.cb [nb, pb] wr ∧ wr.heap[nb]? = some (.cells (arrB on) 99)) (fun i _ => 40 - (RowKit.intOf i).toNat)
      case atStart => exact ⟨0, fun _ => false, by omega, by omega, rfl, HL3.out⟩
      case round =>
        obtain ⟨k, on, hkn, hk40, rfl, hlx, hnc⟩ := hrel
        have hpc := hlx.pc
        have HL : Aside (Lx W (fun A w => Wo A p on w) pb p.cb [nb, pb] wr ∧ wr.heap[nb]? = some (.cells (arrB on) 99)) := ⟨hlx, hnc⟩
        clear hnc hlx
        by_cases h1 : k < n ∧ k < 40
        · obtain ⟨h1, h2⟩ := h1
          obtain ⟨rfl, hbW⟩ := HA.out (by omega)
          have c0 := HC.out k h1
          rw [← HL.out.1.bl.cell (show (⟨b, o + k, none⟩ : Addr).block < W.heap.size from hbW)] at c0
          obtain ⟨r, hr8, hre⟩ := mask7 (X k)
          go_upto_region 18 with (go_at_call 53; (with_reducible refine (Written_W (p := p) hr8 HL.out.1.lt HL.out.1.wm).mono ?_); rintro e w4 ⟨rfl, hw4, hk4⟩; have HL4 : Aside (Lx W (fun A w => Wo A p (updB on r true) w) pb p.cb [nb, pb] w4 ∧ w4.heap[nb]? = some (.cells (arrB on) 99)) := ⟨HL.out.1.call hw4 hk4, (hk4.block nb (.inr (by simp))).trans HL.out.2⟩; clear hw4 hk4)
          have hcr := cell_of_block HL4.out.2 (arrB_get (on := on) hr8)
          have hfr := frozen_of_block (j := r) HL4.out.2
          have hpc4 := HL4.out.1.pc
          obtain ⟨on', hon'⟩ : ∃ on', on' = updB on r true := ⟨_, rfl⟩
          have hr1 : on' r = true := by rw [hon']; simp [updB]
          have HON : Aside (on' = updB on r true ∧ on' r = true) := ⟨hon', hr1⟩
          clear hon' hr1
          go_upto_if 80 with fail
          have HL5 : Aside (Lx W (fun A w => Wo A p on' w) pb p.cb [nb, pb] (w4.setCell ⟨nb, r, none⟩ (.bool true)) ∧ (w4.setCell ⟨nb, r, none⟩ (.bool true)).heap[nb]? = some (.cells (arrB on') 99)) := by
            rw [HON.out.1]
            exact ⟨HL4.out.1.set (Wo.mch p _) (by simp) HNB.out r _, arrB_set hr8 HL4.out.2 true⟩
          go_cut [11, 12, 13, 14] from 75 to 119 (fun u11 u12 u13 u14 wc => ∃ on5, Lx W (fun A w => Wo A p on5 w) pb p.cb [nb, pb] wc ∧ wc.heap[nb]? = some (.cells (arrB on5) 99))
          case first =>
            generalize w4.setCell ⟨nb, r, none⟩ (.bool true) = w5 at *
            have hpc5 := HL5.out.1.pc
            have hwl : Wl (Own W.heap.size [nb, pb]) p true (some on') on' w5 := by
              rcases HL5.out.1.wm with ⟨_, h⟩ | h
              · exact absurd HON.out.2 (by rw [h r hr8]; decide)
              · exact h
            have HCW := Collect_W (p := p) (on := on') HL5.out.1.lt hwl
            clear hwl
            go_upto_region 21 with (go_at_call 54; (with_reducible refine HCW.mono ?_); rintro e w6 ⟨V6, rfl, hk6, hV6⟩)
            · rcases hV6 with ⟨rfl, h0, -⟩ | ⟨gb, cp, rfl, hcp, hls, hgb, hw6⟩
              · have := mem_bitsF.2 ⟨hr8, HON.out.2⟩
                rw [h0] at this; cases this
              have HL6 : Aside (Lx W (fun A w => Wo A p (fun _ => false) w) pb p.cb [nb, pb] w6 ∧ w6.heap[nb]? = some (.cells (arrB on') 99) ∧ LsAt w6 gb (bitsF on' 8)) :=
                ⟨HL5.out.1.call (.inl ⟨hw6.mono (fun c hc => .inl hc), fun _ _ => rfl⟩) hk6, (hk6.block nb (.inr (by simp))).trans HL5.out.2, hls⟩
              have hlen8 := bits_len on' 8
              have HNL : Aside ((bitsF on' 8).length ≤ 8 ∧ (bitsF on' 8).length ≤ cp) := ⟨hlen8, hcp⟩
              clear hw6 hls hk6 hcp hgb HCW hpc5
              go_wp2
              go_loopw [13, 14] (fun vn vj wr2 => ∃ j : Nat, j ≤ 8 ∧ vj = .int .i64 j ∧ vn = .int .i64 (bitsF on' j).length ∧ wr2 = w6) (fun _ vj _ => 8 - (RowKit.intOf vj).toNat)
              case atStart => exact ⟨0, by omega, rfl, rfl, rfl⟩
              case round =>
                obtain ⟨j, hj8, rfl, rfl, hww⟩ := hrel
                replace hww := hww.symm
                subst hww
                by_cases hj : j < 8
                · have hcj := cell_of_block HL6.out.2.1 (arrB_get (on := on') hj)
                  have hb1 := bits_len on' j
                  have hsu := bitsF_succ on' j
                  cases hoj : on' j with
                  | true =>
                    obtain ⟨g1, g2⟩ := bitsF_get (f := on') (m := 8) hj hoj
                    have hcl := HL6.out.2.2.cell g1
                    rw [hoj] at hcj
                    rw [hoj, if_pos rfl] at hsu
                    clear g1
                    have HSU : Aside ((bitsF on' (j + 1)).length = (bitsF on' j).length + 1 ∧ on' j = true) := ⟨hsu, hoj⟩
                    clear hsu hoj
                    go_wp2
                    go_roundw
                    case rel => exact ⟨j + 1, by omega, by go_num, by rw [HSU.out.1]; go_num, trivial⟩
                    case measure => simp [RowKit.intOf]; omega
                  | false =>
                    rw [hoj] at hcj
                    rw [hoj, if_neg (by decide)] at hsu
                    have HSU : Aside ((bitsF on' (j + 1)).length = (bitsF on' j).length + 0 ∧ on' j = false) := ⟨hsu, hoj⟩
                    clear hsu hoj
                    go_wp2
                    go_roundw
                    case rel => exact ⟨j + 1, by omega, by go_num, by rw [HSU.out.1, Nat.add_zero], trivial⟩
                    case measure => simp [RowKit.intOf]; omega
                · obtain rfl : j = 8 := by omega
                  have c0 := cell_of_block HL6.out.2.1 (arrB_get (on := on') (j := 0) (by omega)); have f0 := frozen_of_block (j := 0) HL6.out.2.1
                  have c1 := cell_of_block HL6.out.2.1 (arrB_get (on := on') (j := 1) (by omega)); have f1 := frozen_of_block (j := 1) HL6.out.2.1
                  have c2 := cell_of_block HL6.out.2.1 (arrB_get (on := on') (j := 2) (by omega)); have f2 := frozen_of_block (j := 2) HL6.out.2.1
                  have c3 := cell_of_block HL6.out.2.1 (arrB_get (on := on') (j := 3) (by omega)); have f3 := frozen_of_block (j := 3) HL6.out.2.1
                  have c4 := cell_of_block HL6.out.2.1 (arrB_get (on := on') (j := 4) (by omega)); have f4 := frozen_of_block (j := 4) HL6.out.2.1
                  have c5 := cell_of_block HL6.out.2.1 (arrB_get (on := on') (j := 5) (by omega)); have f5 := frozen_of_block (j := 5) HL6.out.2.1
                  have c6 := cell_of_block HL6.out.2.1 (arrB_get (on := on') (j := 6) (by omega)); have f6 := frozen_of_block (j := 6) HL6.out.2.1
                  have c7 := cell_of_block HL6.out.2.1 (arrB_get (on := on') (j := 7) (by omega)); have f7 := frozen_of_block (j := 7) HL6.out.2.1
                  go_wp2
                  go_meet
                  have m := Wo.mch p (fun _ => false)
                  have mm : nb ∈ [nb, pb] := by simp
                  refine ⟨fun _ => false, (((((((HL6.out.1.set m mm HNB.out 0 _).set m mm HNB.out 1 _).set m mm HNB.out 2 _).set m mm HNB.out 3 _).set m mm HNB.out 4 _).set m mm HNB.out 5 _).set m mm HNB.out 6 _).set m mm HNB.out 7 _, ?_⟩
                  have h := arrB_set (k := 7) (by omega) (arrB_set (k := 6) (by omega) (arrB_set (k := 5) (by omega) (arrB_set (k := 4) (by omega) (arrB_set (k := 3) (by omega) (arrB_set (k := 2) (by omega) (arrB_set (k := 1) (by omega) (arrB_set (k := 0) (by omega) HL6.out.2.1 false) false) false) false) false) false) false) false
                  exact h
            · go_meet
              exact ⟨on', HL5.out⟩
          case rest =>
            obtain ⟨on5, hlx5, hnb5⟩ := hcut
            have HL7 : Aside (Lx W (fun A w => Wo A p on5 w) pb p.cb [nb, pb] wc ∧ wc.heap[nb]? = some (.cells (arrB on5) 99)) := ⟨hlx5, hnb5⟩
            clear hlx5 hnb5 c0 hre hcr hfr hpc4 HL4 HL5 HON hpc
            go_wp2
            go_loopw [15] (fun i wr => ∃ j : Nat, j ≤ 8 ∧ i = .int .u64 j ∧ Lx W (fun A w => Wo A p on5 w) pb p.cb [nb, pb] wr ∧ wr.heap[nb]? = some (.cells (arrB on5) 99)) (fun i _ => 8 - (RowKit.intOf i).toNat)
            case atStart => exact ⟨0, by omega, rfl, HL7.out⟩
            case round =>
              obtain ⟨j, hj8, rfl, hlx, hnc⟩ := hrel
              have hpc := hlx.pc
              have HL : Aside (Lx W (fun A w => Wo A p on5 w) pb p.cb [nb, pb] wr ∧ wr.heap[nb]? = some (.cells (arrB on5) 99)) := ⟨hlx, hnc⟩
              clear hlx hnc
              by_cases hj : j < 8
              · go_upto_region 36 with (first
                  | (have hfirst := HL8; clear hfirst; go_at_call 55; (with_reducible refine (GetO_W hj HL8.out.1.lt HL8.out.1.wm).mono ?_); rintro e w9 ⟨⟨x9, y9, z9, u9, rfl⟩, hw9, hk9⟩; have HL9 : Aside (Lx W (fun A w => Wo A p on5 w) pb p.cb [nb, pb] w9 ∧ w9.heap[nb]? = some (.cells (arrB on5) 99)) := ⟨HL8.out.1.call hw9 hk9, (hk9.block nb (.inr (by simp))).trans HL8.out.2⟩; clear hw9 hk9)
                  | (go_at_call 26; (with_reducible refine (TableO_W (p := p) HL.out.1.lt HL.out.1.wm).mono ?_); rintro e w8 ⟨rfl, hw8, hk8⟩; have HL8 : Aside (Lx W (fun A w => Wo A p on5 w) pb p.cb [nb, pb] w8 ∧ w8.heap[nb]? = some (.cells (arrB on5) 99)) := ⟨HL.out.1.call hw8 hk8, (hk8.block nb (.inr (by simp))).trans HL.out.2⟩; clear hw8 hk8))
                obtain ⟨lf, hlf⟩ : ∃ lf, lf = w9.heap.size := ⟨_, rfl⟩
                rw [← hlf]
                have HL10 : Aside (∃ w10, w10 = (w9.alloc (Obj.cells #[.int .u64 x9, .int .i64 y9, .bool true, .bool (on5 j), .bool true, .int .i64 z9, .int .i64 u9] 104)) ∧ Lx W (fun A w => Wo A p on5 w) pb p.cb [nb, pb] w10 ∧ w10.heap[nb]? = some (.cells (arrB on5) 99) ∧ w10.heap[lf]? = some (.cells #[.int .u64 x9, .int .i64 y9, .bool true, .bool (on5 j), .bool true, .int .i64 z9, .int .i64 u9] 104)) := by
                  refine ⟨_, rfl, (HL9.out.1.alloc (Wo.mch p _) _).less (Wo.mch p _) (fun c hc => List.mem_cons_of_mem _ hc) (by simp), ?_, ?_⟩
                  · rw [heap_alloc _ _ (HL9.out.1.ge nb (by simp)).2]; exact HL9.out.2
                  · rw [hlf]
                    show (w9.heap.push _)[w9.heap.size]? = _
                    simp
                obtain ⟨w10, e10, hlx10, hnb10, hlf10⟩ := HL10.out
                rw [← e10]
                clear HL10 e10 hlf HL9 HL8 hpc
                have hcj := cell_of_block hnb10 (arrB_get (on := on5) hj)
                have l2 := cell_of_block (j := 2) hlf10 rfl
                have l3 := cell_of_block (j := 3) hlf10 rfl
                have l4 := cell_of_block (j := 4) hlf10 rfl
                have HL10 : Aside (Lx W (fun A w => Wo A p on5 w) pb p.cb [nb, pb] w10 ∧ w10.heap[nb]? = some (.cells (arrB on5) 99)) := ⟨hlx10, hnb10⟩
                clear hlx10 hnb10 hlf10
                go_region
                all_goals go_wp2
                all_goals go_roundw
                all_goals try (case rel => exact ⟨j + 1, by omega, by go_num, HL10.out.1.drew (Wo.mch p _), HL10.out.2⟩)
                all_goals try (case measure => simp [RowKit.intOf]; omega)
              · obtain rfl : j = 8 := by omega
                go_wp2
                go_roundw
                case rel => exact ⟨k + 1, on5, by omega, by omega, by go_num, HL.out⟩
                case measure => simp [RowKit.intOf]; omega
        · have hend : k = n ∨ (k < n ∧ k = 40) := by omega
          clear h1
          have hM : Mch (fun A w => Wl A p false none (fun _ => true) w) := Wl.mch p false none _
          have HM : Aside (Mch (fun A w => Wl A p false none (fun _ => true) w)) := hM
          clear hM
          rcases hend with rfl | ⟨hlt, rfl⟩
          all_goals
            go_wp2_with (first
              | (have hfirst := HU1; clear hfirst; go_at_call 56; (with_reducible refine (UnlogAgain_W (p := p) HU1.out.lt HU1.out.wm).mono ?_); rintro e w5 ⟨rfl, hw5, hk5⟩; have HU2 : Aside (Lx W (fun A w => Wl A p false none (fun _ => true) w) pb p.cb [nb, pb] w5) := HU1.out.call hw5 hk5; clear hw5 hk5)
              | (go_at_call 56; (with_reducible refine (UnlogO_W (p := p) HL.out.1.lt HL.out.1.wm).mono ?_); rintro e w4 ⟨rfl, hw4, hk4⟩; have HU1 : Aside (Lx W (fun A w => Wl A p false none (fun _ => true) w) pb p.cb [nb, pb] w4) := HL.out.1.call hw4 hk4; have hpc4 := HU1.out.pc; clear hw4 hk4))
            go_loopw [18] (fun i wr => ∃ j : Nat, j ≤ 8 ∧ i = .int .u64 j ∧ Lx W (fun A w => Wl A p false none (fun _ => true) w) pb p.cb [nb, pb] wr) (fun i _ => 8 - (RowKit.intOf i).toNat)
            case atStart => exact ⟨0, by omega, rfl, HU2.out⟩
            case round =>
              obtain ⟨j, hj8, rfl, hlx⟩ := hrel
              have hpc6 := hlx.pc
              have HV : Aside (Lx W (fun A w => Wl A p false none (fun _ => true) w) pb p.cb [nb, pb] wr) := hlx
              clear hlx
              by_cases hj : j < 8
              · go_wp2_with (first
                  | (have hfirst := HL8; clear hfirst; go_at_call 55; (with_reducible refine (Get_W hj (.inr (.inr ⟨rfl, rfl, rfl⟩)) HL8.out.lt HL8.out.wm).mono ?_); rintro e w9 ⟨⟨x9, y9, z9, u9, rfl⟩, hw9, hk9⟩; have HL9 : Aside (Lx W (fun A w => Wl A p false none (fun _ => true) w) pb p.cb [nb, pb] w9) := HL8.out.call hw9 hk9; clear hw9 hk9)
                  | (go_at_call 26; (with_reducible refine (Table_W (p := p) .off HV.out.lt HV.out.wm).mono ?_); rintro e w8 ⟨rfl, hw8, hk8⟩; have HL8 : Aside (Lx W (fun A w => Wl A p false none (fun _ => true) w) pb p.cb [nb, pb] w8) := HV.out.call hw8 hk8; clear hw8 hk8))
                go_roundw
                case rel => exact ⟨j + 1, by omega, by go_num, (HL9.out.alloc HM.out _).less HM.out (fun c hc => List.mem_cons_of_mem _ hc) (by simp)⟩
                case measure => simp [RowKit.intOf]; omega
              · obtain rfl : j = 8 := by omega
                go_wp2_with (first
                  | (go_at_call 54; (with_reducible refine (CollectOff_W (p := p) HV.out.lt HV.out.wm).mono ?_); rintro e w10 ⟨rfl, hw10, hk10⟩; have HC10 : Aside (Lx W (fun A w => Wl A p false none (fun _ => true) w) pb p.cb [nb, pb] w10) := HV.out.call hw10 hk10; clear hw10 hk10)
                  | (go_at_call 57; (with_reducible refine (told_calls _).mono ?_); rintro e w11 ⟨rfl, hb11⟩; have HT11 : Aside (Lx W (fun A w => Wl A p false none (fun _ => true) w) pb p.cb [nb, pb] w11) := HC10.out.below HM.out hb11; clear hb11))
                go_ret
                exact ⟨rfl, HT11.out.bl⟩
end Go.Proofs.YtcdjgnpjapgoaaaGreat
