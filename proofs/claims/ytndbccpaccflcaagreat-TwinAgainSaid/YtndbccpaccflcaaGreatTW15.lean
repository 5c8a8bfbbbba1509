import Derived.Test.YtndbccpaccflcaaGreatTW7
import Derived.Test.YtndbccpaccflcaaGreatTW13
import Derived.Test.YtndbccpaccflcaaGreatTW14
import Derived.Test.YtndbccpaccflcaaGreatTW16
import Derived.StillTailTactics
import Derived.Deep.QuietTactic
import Derived.BigQuiet
set_option linter.unusedVariables false
set_option linter.unusedSimpArgs false
set_option linter.unusedSectionVars false
namespace Go.Proofs.YtndbccpaccflcaaGreat
open Go Go.RowKit Go.Tw Go.Lib

/-- One box behind all that was: its cells, and that what was there stays. -/
theorem kept_box {w0 : World} {c1 : Array Value} : Below w0.heap.size w0 (w0.alloc (.cells c1 31)) ∧ (w0.alloc (.cells c1 31)).heap.size = w0.heap.size + 1 ∧ (∀ j, (w0.alloc (.cells c1 31)).cell? ⟨w0.heap.size, j, none⟩ = c1[j]?) ∧ ∀ j, (w0.alloc (.cells c1 31)).frozen? ⟨w0.heap.size, j, none⟩ = false := by
  have h : (w0.alloc (.cells c1 31)).heap[w0.heap.size]? = some (.cells c1 31) := by
    show (w0.heap.push (.cells c1 31))[w0.heap.size]? = _
    rw [Array.getElem?_push, if_pos rfl]
  refine ⟨(Below.refl _ _).alloc (Nat.le_refl _) _, by simp, fun j => ?_, fun j => ?_⟩
  · simp only [World.cell?, h]
    simp
  · simp only [World.frozen?, h]
    simp

set_option maxRecDepth 100000 in
set_option maxHeartbeats 4000000 in
theorem Again_any (x : Option Addr) (n c B : Nat) (l : List St) (fs : List Value) (g salt : Int) (raw : Bool) (w : World) (hn : l.length = n) (hbig : n ≤ 9223372036854775807) (hBw : B ≤ w.heap.size)
    (hx : StepsF B w (.slice x n c) l fs) (hok : ∀ s ∈ l, (Lit.int .i64 s.page).wf = true ∧ (Lit.int .u64 s.value).wf = true) (hcap : ∀ f ∈ fs, ∀ a n c, f = .slice a n c → n ≤ c) (hlen : ∀ s ∈ l, s.fails.length ≤ 9223372036854775807) :
    Calls Tryz.prog 4 #[.slice x n c, .int .i64 g, .int .u64 salt, .bool raw] w fun e w' => e = .returned (.bool true) ∧ Below w.heap.size w w' := by
  have HFEW : Aside (Calls Tryz.prog 5 #[.slice x n c, .bool raw] w fun e w' => ∃ (r : Value) (ok : Bool), e = .returned (.tuple #[r, .bool ok]) ∧ Below w.heap.size w w' ∧
      (ok = true → ∃ o gs, StepsF w'.heap.size w' r o gs ∧ o.length ≤ 60 ∧ ∀ s ∈ o, Fine s)) := (few_any x n c B l fs raw w hn hbig hBw hx hok hcap hlen (fun n v w1 h0 h4 => Word_calls n v w1 h0 h4))
  have HT : Aside (∀ w1, Calls Tryz.prog 6 #[] w1 fun e w' => e = .returned (.bool true) ∧ Below w1.heap.size w1 w') := told_calls
  clear hx hok hcap hlen
  go_enter Tryz.func4, Tryz.ntmps4
  go_wp2_with fail
  refine HFEW.out.mono ?_
  rintro e w1 ⟨r1, ok, rfl, hw1, hok1⟩
  cases ok with
  | false =>
    clear hok1
    go_wp2_with fail
    refine (HT.out _).mono ?_
    rintro e w2 ⟨rfl, hw2⟩
    have HB : Aside (Below w.heap.size w w2) := hw1.trans (hw2.mono hw1.size)
    clear hw1 hw2
    go_wp2
    go_ret
    exact ⟨rfl, HB.out⟩
  | true =>
    obtain ⟨o, gs, hin, ho60, hfine⟩ := hok1 rfl
    obtain ⟨a1, c1, hr1, hsh1⟩ := hin.shape
    have hpg : ∀ s ∈ o, (Lit.int .i64 s.page).wf = true := fun s h => (hfine s h).1
    have hfl : ∀ s ∈ o, s.fails.length ≤ 1000000 := fun s h => by have := (hfine s h).2.1; omega
    have hval : ∀ s ∈ o, 0 ≤ s.value ∧ s.value < 2 ^ 64 := fun s h => by
      have := (hfine s h).2.2
      simp [Lit.wf, IntKind.min, IntKind.max, IntKind.signed, IntKind.bits] at this
      omega
    have HPG : Aside (∀ s ∈ o, (Lit.int .i64 s.page).wf = true) := hpg
    have HFL : Aside (∀ s ∈ o, s.fails.length ≤ 1000000) := hfl
    have HVL : Aside (∀ s ∈ o, 0 ≤ s.value ∧ s.value < 2 ^ 64) := hval
    have HIN : Aside (StepsF w1.heap.size w1 r1 o gs) := hin
    have HW1 : Aside (Below w.heap.size w w1) := hw1
    clear hok1 hin hfine hpg hfl hval hw1
    subst hr1
    go_wp2_with fail
    refine (Vary_calls g salt (Nat.le_refl _) HIN.out (by omega) HPG.out HFL.out).mono ?_
    rintro e w2 ⟨r2, gs2, rfl, hw2, hv2⟩
    obtain ⟨a2, c2, hr2, hsh2⟩ := hv2.shape
    subst hr2
    have hlv : (o.map (vary1 o g salt)).length = o.length := by simp
    rw [hlv] at hv2 ⊢
    generalize hV : o.map (vary1 o g salt) = V at hv2
    have HVV : Aside (o.map (vary1 o g salt) = V) := hV
    have HV2 : Aside (StepsF w2.heap.size w2 (.slice a2 o.length c2) V gs2) := hv2
    have HI2 : Aside (StepsF w2.heap.size w2 (.slice a1 o.length c1) o gs) := (HIN.out.below hw2).up hw2.size
    have HW2 : Aside (Below w.heap.size w w2) := HW1.out.trans (hw2.mono HW1.out.size)
    have hlV : V.length = o.length := by rw [← hV]; simp
    have HPV : Aside (∀ s ∈ V, (Lit.int .i64 s.page).wf = true) := fun s h => by
      rw [← HVV.out] at h
      obtain ⟨t, ht, rfl⟩ := List.mem_map.1 h
      rw [(vary1_kind o g salt t).2.2.1]; exact HPG.out t ht
    have HFV : Aside (∀ s ∈ V, s.fails.length ≤ 1000000) := fun s h => by
      rw [← HVV.out] at h
      obtain ⟨t, ht, rfl⟩ := List.mem_map.1 h
      rw [(vary1_kind o g salt t).2.2.2.2]; exact HFL.out t ht
    clear hv2 hV hw2 hlv
    go_wp2_with fail
    refine (Vary_calls g salt (Nat.le_refl _) HV2.out (by omega) HPV.out HFV.out).mono ?_
    rintro e w3 ⟨r3, gs3, rfl, hw3, hv3⟩
    have hback : V.map (vary1 V g salt) = o := by
      rw [← HVV.out]; exact vary_twice o g salt HVL.out
    rw [hback] at hv3
    have HV3 : Aside (StepsF w3.heap.size w3 r3 o gs3) := hv3
    have HI3 : Aside (StepsF w3.heap.size w3 (.slice a1 o.length c1) o gs) := (HI2.out.below hw3).up hw3.size
    have HB3 : Aside (Below w2.heap.size w2 w3) := hw3
    obtain ⟨a3, c3, hr3, hsh3⟩ := hv3.shape
    subst hr3
    clear hv3 hw3 hback hsh1 hsh2 hsh3
    go_wp2_with fail
    refine (All_calls (Nat.le_refl _) HV3.out HI3.out (by omega) HFL.out).mono ?_
    rintro e w4 ⟨rfl, hw4⟩
    rw [decide_eq_true (rfl : o = o)]
    have HB4 : Aside (Below w2.heap.size w2 w4) := HB3.out.trans (hw4.mono HB3.out.size)
    clear hw4
    go_wp2_with fail
    refine (Alike_calls g (HB4.out.size) (HI2.out.below HB4.out) (HV2.out.below HB4.out) (by omega) HPG.out HFL.out).mono ?_
    rintro e w5 ⟨⟨t1, rfl, ht1⟩, hw5⟩
    have ht1 : t1 = true := ht1.2 (by rw [← HVV.out]; exact alike_vary o g salt)
    subst ht1
    have HB5 : Aside (Below w2.heap.size w2 w5) := HB4.out.trans (hw5.mono HB4.out.size)
    clear hw5
    go_wp2_with fail
    refine (Alike_calls g (HB5.out.size) (HV2.out.below HB5.out) (HI2.out.below HB5.out) (by omega) HPV.out HFV.out).mono ?_
    rintro e w6 ⟨⟨t2, rfl, ht2⟩, hw6⟩
    have ht2 : t2 = true := ht2.2 (by rw [← HVV.out]; exact alike_back o g salt)
    subst ht2
    have HB6 : Aside (Below w2.heap.size w2 w6) := HB5.out.trans (hw6.mono HB5.out.size)
    clear hw6
    go_wp2_with fail
    refine (Alike_calls g (HB6.out.size) (HI2.out.below HB6.out) (HI2.out.below HB6.out) (by omega) HPG.out HFL.out).mono ?_
    rintro e w7 ⟨⟨t3, rfl, ht3⟩, hw7⟩
    have ht3 : t3 = true := ht3.2 (alike_self o g)
    subst ht3
    have HB7 : Aside (Below w2.heap.size w2 w7) := HB6.out.trans (hw7.mono HB6.out.size)
    clear hw7
    go_wp2_with fail
    refine (Apart_calls g (HB7.out.size) (HI2.out.below HB7.out) (by omega) HPG.out).mono ?_
    rintro e w8 ⟨⟨p1, rfl, hp1⟩, hw8⟩
    have HB8 : Aside (Below w2.heap.size w2 w8) := HB7.out.trans (hw8.mono HB7.out.size)
    have HP1 : Aside (p1 = true ↔ ApartP o g) := hp1
    clear hw8 hp1
    go_wp2_with fail
    refine (Apart_calls g (HB8.out.size) (HV2.out.below HB8.out) (by omega) HPV.out).mono ?_
    rintro e w9 ⟨⟨p2, rfl, hp2⟩, hw9⟩
    have hpp : p2 = p1 := by
      rw [Bool.eq_iff_iff, hp2, HP1.out, ← HVV.out]
      exact apart_vary o g salt
    subst hpp
    have HB9 : Aside (Below w2.heap.size w2 w9) := HB8.out.trans (hw9.mono HB8.out.size)
    clear hw9 hp2
    have HL : Aside (∀ (k : Nat), V[k]? = (o[k]?).map (vary1 o g salt)) := fun k => by rw [← HVV.out, List.getElem?_map]
    have hneq : ∀ (a b : Bool) (w : World), Sem.run Tryz.prog (binOp .neq 4 (.bool a) (.bool b)) w = .ok (.bool (!(a == b))) w := fun a b w => by simp [binOp, run_equal_bool w 4 a b Tryz.underlying4]
    clear HP1
    cases p2
    all_goals (
      go_wp2_with fail
      go_loopw [12] (fun i wr => ∃ k : Nat, k ≤ o.length ∧ i = .int .i64 k ∧ Below w2.heap.size w2 wr) (fun i _ => o.length - (RowKit.intOf i).toNat)
      case atStart => exact ⟨0, Nat.zero_le _, rfl, HB9.out⟩
      case round =>
        obtain ⟨k, hk, rfl, hbl⟩ := hrel
        have HBL : Aside (Below w2.heap.size w2 wr) := hbl
        clear hbl
        by_cases hlt : k < o.length
        · obtain ⟨s, hs⟩ : ∃ s, o[k]? = some s := ⟨_, List.getElem?_eq_getElem hlt⟩
          have hvs : V[k]? = some (vary1 o g salt s) := by rw [HL.out, hs]; rfl
          obtain ⟨b1, o1, rfl⟩ : ∃ b o, a1 = some ⟨b, o, none⟩ := by
            obtain ⟨a, cap, he, hne⟩ := HI2.out.shape
            cases he
            exact hne (by intro h; rw [h] at hs; simp at hs)
          obtain ⟨b2, o2, rfl⟩ : ∃ b o, a2 = some ⟨b, o, none⟩ := by
            obtain ⟨a, cap, he, hne⟩ := HV2.out.shape
            simp only [Value.slice.injEq] at he
            obtain ⟨rfl, -, -⟩ := he
            exact hne (by intro h; rw [h] at hvs; simp at hvs)
          obtain ⟨f, hf⟩ : ∃ f, gs[k]? = some f := ⟨_, List.getElem?_eq_getElem (by have := HI2.out.1; omega)⟩
          obtain ⟨f', hg⟩ : ∃ g, gs2[k]? = some g := ⟨_, List.getElem?_eq_getElem (by have := HV2.out.1; omega)⟩
          obtain ⟨hb, hat⟩ := HI2.out.at hs hf
          obtain ⟨hb', hat'⟩ := HV2.out.at hvs hg
          have hbf : Bools w2.heap.size wr f s.fails := (HI2.out.2.1 k s f hs hf).below HBL.out
          have hbg : Bools w2.heap.size wr f' (vary1 o g salt s).fails := (HV2.out.2.1 k _ f' hvs hg).below HBL.out
          obtain ⟨c0, c1, c2, c3, c4, c5, c6, c7, c8, c9, c10, c11⟩ := hat.below HBL.out (by omega)
          obtain ⟨d0, d1, d2, d3, d4, d5, d6, d7, d8, d9, d10, d11⟩ := hat'.below HBL.out (by omega)
          obtain ⟨fa, fc, rfl⟩ := Bools.shape hbf
          obtain ⟨ga, gc, rfl⟩ := Bools.shape hbg
          have HS : Aside (o[k]? = some s) := hs
          have hE := same_value o g salt s
          have hG := own_steps o g salt s
          generalize hVS : vary1 o g salt s = t at *
          have hs4 : s.fails.length ≤ 1000000 := HFL.out s (List.mem_of_getElem? hs)
          have ht4 : t.fails.length ≤ 1000000 := HFV.out t (List.mem_of_getElem? hvs)
          have HSM : Aside (∀ (u : St) (w6 : World), u.fails = t.fails → Below wr.heap.size wr w6 → Calls Tryz.prog 14 #[u.val (.slice ga t.fails.length gc), s.val (.slice fa s.fails.length fc)] w6 fun e w' => e = .returned (.bool (decide (u = s))) ∧ Below w6.heap.size w6 w') := fun u w6 hu h6 => by
            have h1 : Bools wr.heap.size wr (.slice ga t.fails.length gc) u.fails := by rw [hu]; exact hbg.up HBL.out.size
            exact Same_calls (h1.below h6) ((hbf.up HBL.out.size).below h6) h6.size (by rw [hu]; omega)
          have HSB : Aside (∀ (v : Int) (w6 : World), v = s.value → Below wr.heap.size wr w6 → Calls Tryz.prog 14 #[.agg #[.int .i64 t.kind, .int .i64 t.guest, .int .u64 t.addr, .int .i64 t.size, .int .u64 v, .int .i64 t.page, .bool t.on, .int .i64 t.asid, .int .i64 t.what, .int .i64 t.set, .int .i64 t.way, .slice ga t.fails.length gc], .agg #[.int .i64 s.kind, .int .i64 s.guest, .int .u64 s.addr, .int .i64 s.size, .int .u64 s.value, .int .i64 s.page, .bool s.on, .int .i64 s.asid, .int .i64 s.what, .int .i64 s.set, .int .i64 s.way, .slice fa s.fails.length fc]] w6 fun e w' => e = .returned (.bool true) ∧ Below w6.heap.size w6 w') := fun v w6 hv h6 => by
            have := HSM.out { t with value := v } w6 rfl h6
            have he : ({ t with value := v } : St) = s := by rw [hv]; exact hE
            rw [decide_eq_true he] at this
            exact this
          have HSA : Aside (s.guest = g → s.kind ≠ 18 → ∀ (w6 : World), Below wr.heap.size wr w6 → Calls Tryz.prog 14 #[.agg #[.int .i64 t.kind, .int .i64 t.guest, .int .u64 t.addr, .int .i64 t.size, .int .u64 t.value, .int .i64 t.page, .bool t.on, .int .i64 t.asid, .int .i64 t.what, .int .i64 t.set, .int .i64 t.way, .slice ga t.fails.length gc], .agg #[.int .i64 s.kind, .int .i64 s.guest, .int .u64 s.addr, .int .i64 s.size, .int .u64 s.value, .int .i64 s.page, .bool s.on, .int .i64 s.asid, .int .i64 s.what, .int .i64 s.set, .int .i64 s.way, .slice fa s.fails.length fc]] w6 fun e w' => e = .returned (.bool true) ∧ Below w6.heap.size w6 w') := fun hg hk w6 h6 => by
            have := HSM.out t w6 rfl h6
            rw [decide_eq_true (hG hg hk)] at this
            exact this
          clear HSM
          have hi : (k : Int) < (o.length : Int) := by omega
          have HC : Aside (At wr b1 (o1 + k * 12) s (.slice fa s.fails.length fc)) := ⟨c0, c1, c2, c3, c4, c5, c6, c7, c8, c9, c10, c11⟩
          clear hs hvs hf hg hat hat' hVS hbf hbg ht1 ht2 ht3 hE hG hs4 ht4 c0 c1 c2 c3 c4 c5 c6 c7 c8 c9 c10 c11
          have hb1w : b1 < wr.heap.size := by have := HBL.out.size; omega
          go_wp2_with fail
          have hbox := kept_box (w0 := wr) (c1 := #[.int .i64 t.kind, .int .i64 t.guest, .int .u64 t.addr, .int .i64 t.size, .int .u64 t.value, .int .i64 t.page, .bool t.on, .int .i64 t.asid, .int .i64 t.what, .int .i64 t.set, .int .i64 t.way, .slice ga t.fails.length gc])
          generalize wr.alloc (.cells #[.int .i64 t.kind, .int .i64 t.guest, .int .u64 t.addr, .int .i64 t.size, .int .u64 t.value, .int .i64 t.page, .bool t.on, .int .i64 t.asid, .int .i64 t.what, .int .i64 t.set, .int .i64 t.way, .slice ga t.fails.length gc] 31) = W at *
          obtain ⟨hbw, hsz, hbc, hfz⟩ := hbox
          have HBW : Aside (Below wr.heap.size wr W) := hbw
          have HSZ : Aside (W.heap.size = wr.heap.size + 1) := hsz
          have HBC : Aside (∀ j, W.cell? ⟨wr.heap.size, j, none⟩ = (#[.int .i64 t.kind, .int .i64 t.guest, .int .u64 t.addr, .int .i64 t.size, .int .u64 t.value, .int .i64 t.page, .bool t.on, .int .i64 t.asid, .int .i64 t.what, .int .i64 t.set, .int .i64 t.way, .slice ga t.fails.length gc] : Array Value)[j]?) := hbc
          have HFZ : Aside (∀ j, W.frozen? ⟨wr.heap.size, j, none⟩ = false) := hfz
          clear hbw hsz hbc hfz d0 d1 d2 d3 d4 d5 d6 d7 d8 d9 d10 d11
          obtain ⟨c0, c1, c2, c3, c4, c5, c6, c7, c8, c9, c10, c11⟩ := HC.out.below HBW.out hb1w
          have b0 : W.cell? ⟨wr.heap.size, 0, none⟩ = some (.int .i64 t.kind) := HBC.out 0
          have b1' : W.cell? ⟨wr.heap.size, 1, none⟩ = some (.int .i64 t.guest) := HBC.out 1
          have b2' : W.cell? ⟨wr.heap.size, 2, none⟩ = some (.int .u64 t.addr) := HBC.out 2
          have b3 : W.cell? ⟨wr.heap.size, 3, none⟩ = some (.int .i64 t.size) := HBC.out 3
          have b4 : W.cell? ⟨wr.heap.size, 4, none⟩ = some (.int .u64 t.value) := HBC.out 4
          have b5 : W.cell? ⟨wr.heap.size, 5, none⟩ = some (.int .i64 t.page) := HBC.out 5
          have b6 : W.cell? ⟨wr.heap.size, 6, none⟩ = some (.bool t.on) := HBC.out 6
          have b7 : W.cell? ⟨wr.heap.size, 7, none⟩ = some (.int .i64 t.asid) := HBC.out 7
          have b8 : W.cell? ⟨wr.heap.size, 8, none⟩ = some (.int .i64 t.what) := HBC.out 8
          have b9 : W.cell? ⟨wr.heap.size, 9, none⟩ = some (.int .i64 t.set) := HBC.out 9
          have b10 : W.cell? ⟨wr.heap.size, 10, none⟩ = some (.int .i64 t.way) := HBC.out 10
          have b11 : W.cell? ⟨wr.heap.size, 11, none⟩ = some (.slice ga t.fails.length gc) := HBC.out 11
          have f4 := HFZ.out 4
          by_cases hgg : s.guest = g
          · by_cases hkk : s.kind = 18
            · have hg1 : (s.guest == g) = true := by rw [hgg]; simp
              have hk1 : (s.kind != 18) = false := by rw [hkk]; rfl
              clear hgg hkk
              go_quiet (fail)
              clear c0 c1 c2 c3 c4 c5 c6 c7 c8 c9 c10 c11 b0 b1' b2' b3 b4 b5 b6 b7 b8 b9 b10 b11 f4
              have hwq : Below W.heap.size W (W.drewN nq) := below_drewN (Below.refl _ _) _
              generalize W.drewN nq = X at *
              have HX : Aside (Below W.heap.size W X) := hwq
              clear hwq hg1 hk1 HSA
              obtain ⟨c0, c1, c2, c3, c4, c5, c6, c7, c8, c9, c10, c11⟩ := HC.out.below (HBW.out.trans (HX.out.mono (by have := HSZ.out; omega))) hb1w
              have b0_ : X.cell? ⟨wr.heap.size, 0, none⟩ = some (.int .i64 t.kind) := by rw [HX.out.cell (by have := HSZ.out; show wr.heap.size < _; omega)]; exact HBC.out 0
              have b1_ : X.cell? ⟨wr.heap.size, 1, none⟩ = some (.int .i64 t.guest) := by rw [HX.out.cell (by have := HSZ.out; show wr.heap.size < _; omega)]; exact HBC.out 1
              have b2_ : X.cell? ⟨wr.heap.size, 2, none⟩ = some (.int .u64 t.addr) := by rw [HX.out.cell (by have := HSZ.out; show wr.heap.size < _; omega)]; exact HBC.out 2
              have b3_ : X.cell? ⟨wr.heap.size, 3, none⟩ = some (.int .i64 t.size) := by rw [HX.out.cell (by have := HSZ.out; show wr.heap.size < _; omega)]; exact HBC.out 3
              have b4_ : X.cell? ⟨wr.heap.size, 4, none⟩ = some (.int .u64 t.value) := by rw [HX.out.cell (by have := HSZ.out; show wr.heap.size < _; omega)]; exact HBC.out 4
              have b5_ : X.cell? ⟨wr.heap.size, 5, none⟩ = some (.int .i64 t.page) := by rw [HX.out.cell (by have := HSZ.out; show wr.heap.size < _; omega)]; exact HBC.out 5
              have b6_ : X.cell? ⟨wr.heap.size, 6, none⟩ = some (.bool t.on) := by rw [HX.out.cell (by have := HSZ.out; show wr.heap.size < _; omega)]; exact HBC.out 6
              have b7_ : X.cell? ⟨wr.heap.size, 7, none⟩ = some (.int .i64 t.asid) := by rw [HX.out.cell (by have := HSZ.out; show wr.heap.size < _; omega)]; exact HBC.out 7
              have b8_ : X.cell? ⟨wr.heap.size, 8, none⟩ = some (.int .i64 t.what) := by rw [HX.out.cell (by have := HSZ.out; show wr.heap.size < _; omega)]; exact HBC.out 8
              have b9_ : X.cell? ⟨wr.heap.size, 9, none⟩ = some (.int .i64 t.set) := by rw [HX.out.cell (by have := HSZ.out; show wr.heap.size < _; omega)]; exact HBC.out 9
              have b10_ : X.cell? ⟨wr.heap.size, 10, none⟩ = some (.int .i64 t.way) := by rw [HX.out.cell (by have := HSZ.out; show wr.heap.size < _; omega)]; exact HBC.out 10
              have b11_ : X.cell? ⟨wr.heap.size, 11, none⟩ = some (.slice ga t.fails.length gc) := by rw [HX.out.cell (by have := HSZ.out; show wr.heap.size < _; omega)]; exact HBC.out 11
              have f4 : X.frozen? ⟨wr.heap.size, 4, none⟩ = false := by rw [HX.out.frozen (by have := HSZ.out; show wr.heap.size < _; omega)]; exact HFZ.out 4
              have HBX : Aside (Below wr.heap.size wr X) := HBW.out.trans (HX.out.mono (by have := HSZ.out; omega))
              go_wp2_with fail
              have hy4 : (X.setCell ⟨wr.heap.size, 4, none⟩ (.int .u64 s.value)).cell? ⟨wr.heap.size, 4, none⟩ = some (.int .u64 s.value) := World.cell?_setCell_same' _ _ _ (by rw [b4_]; rfl)
              have hyo : ∀ j, 4 ≠ j → (X.setCell ⟨wr.heap.size, 4, none⟩ (.int .u64 s.value)).cell? ⟨wr.heap.size, j, none⟩ = X.cell? ⟨wr.heap.size, j, none⟩ := fun j hj => cellO hj
              have hyb : Below wr.heap.size wr (X.setCell ⟨wr.heap.size, 4, none⟩ (.int .u64 s.value)) := HBX.out.setCell (Nat.le_refl _) _
              generalize X.setCell ⟨wr.heap.size, 4, none⟩ (.int .u64 s.value) = Y at *
              have y0 : Y.cell? ⟨wr.heap.size, 0, none⟩ = some (.int .i64 t.kind) := (hyo 0 (by decide)).trans b0_
              have y1 : Y.cell? ⟨wr.heap.size, 1, none⟩ = some (.int .i64 t.guest) := (hyo 1 (by decide)).trans b1_
              have y2 : Y.cell? ⟨wr.heap.size, 2, none⟩ = some (.int .u64 t.addr) := (hyo 2 (by decide)).trans b2_
              have y3 : Y.cell? ⟨wr.heap.size, 3, none⟩ = some (.int .i64 t.size) := (hyo 3 (by decide)).trans b3_
              have y5 : Y.cell? ⟨wr.heap.size, 5, none⟩ = some (.int .i64 t.page) := (hyo 5 (by decide)).trans b5_
              have y6 : Y.cell? ⟨wr.heap.size, 6, none⟩ = some (.bool t.on) := (hyo 6 (by decide)).trans b6_
              have y7 : Y.cell? ⟨wr.heap.size, 7, none⟩ = some (.int .i64 t.asid) := (hyo 7 (by decide)).trans b7_
              have y8 : Y.cell? ⟨wr.heap.size, 8, none⟩ = some (.int .i64 t.what) := (hyo 8 (by decide)).trans b8_
              have y9 : Y.cell? ⟨wr.heap.size, 9, none⟩ = some (.int .i64 t.set) := (hyo 9 (by decide)).trans b9_
              have y10 : Y.cell? ⟨wr.heap.size, 10, none⟩ = some (.int .i64 t.way) := (hyo 10 (by decide)).trans b10_
              have y11 : Y.cell? ⟨wr.heap.size, 11, none⟩ = some (.slice ga t.fails.length gc) := (hyo 11 (by decide)).trans b11_
              clear c0 c1 c2 c3 c4 c5 c6 c7 c8 c9 c10 c11 b0_ b1_ b2_ b3_ b4_ b5_ b6_ b7_ b8_ b9_ b10_ b11_ f4 hyo
              obtain ⟨c0, c1, c2, c3, c4, c5, c6, c7, c8, c9, c10, c11⟩ := HC.out.below hyb hb1w
              have HYB : Aside (Below wr.heap.size wr Y) := hyb
              clear hyb
              go_still_tail 5, (by kernel_rfl)
              change wpList _ _ _ _ _ Y.drew
              go_wp2_with fail
              refine (HSB.out _ _ rfl HYB.out.drew).mono ?_
              rintro e Z ⟨rfl, hZ⟩
              have HZ : Aside (Below wr.heap.size wr Z) := HYB.out.drew.trans (hZ.mono HYB.out.drew.size)
              clear hZ hy4 y0 y1 y2 y3 y5 y6 y7 y8 y9 y10 y11 c0 c1 c2 c3 c4 c5 c6 c7 c8 c9 c10 c11 HSB
              go_wp2_with fail
              go_roundw
              case rel => exact ⟨k + 1, by omega, by go_num, HBL.out.trans (HZ.out.mono HBL.out.size)⟩
              case measure => simp [RowKit.intOf]; omega
            · have hg1 : (s.guest == g) = true := by rw [hgg]; simp
              have hk1 : (s.kind != 18) = true := by rw [bne_iff_ne]; exact hkk
              have hsa := HSA.out hgg hkk
              have HSA2 : Aside (∀ (w6 : World), Below wr.heap.size wr w6 → Calls Tryz.prog 14 #[.agg #[.int .i64 t.kind, .int .i64 t.guest, .int .u64 t.addr, .int .i64 t.size, .int .u64 t.value, .int .i64 t.page, .bool t.on, .int .i64 t.asid, .int .i64 t.what, .int .i64 t.set, .int .i64 t.way, .slice ga t.fails.length gc], .agg #[.int .i64 s.kind, .int .i64 s.guest, .int .u64 s.addr, .int .i64 s.size, .int .u64 s.value, .int .i64 s.page, .bool s.on, .int .i64 s.asid, .int .i64 s.what, .int .i64 s.set, .int .i64 s.way, .slice fa s.fails.length fc]] w6 fun e w' => e = .returned (.bool true) ∧ Below w6.heap.size w6 w') := hsa
              clear hsa hgg hkk
              go_still_tail 21, (by kernel_rfl)
              change wpList _ _ _ _ _ W.drew
              go_wp2_with fail
              refine (HSA2.out _ HBW.out.drew).mono ?_
              rintro e X ⟨rfl, hX⟩
              have HX : Aside (Below W.heap.size W X) := (Below.refl _ _).drew.trans hX
              clear hX hg1 hk1 HSA2 HSA
              clear c0 c1 c2 c3 c4 c5 c6 c7 c8 c9 c10 c11 b0 b1' b2' b3 b4 b5 b6 b7 b8 b9 b10 b11 f4
              obtain ⟨c0, c1, c2, c3, c4, c5, c6, c7, c8, c9, c10, c11⟩ := HC.out.below (HBW.out.trans (HX.out.mono (by have := HSZ.out; omega))) hb1w
              have b0_ : X.cell? ⟨wr.heap.size, 0, none⟩ = some (.int .i64 t.kind) := by rw [HX.out.cell (by have := HSZ.out; show wr.heap.size < _; omega)]; exact HBC.out 0
              have b1_ : X.cell? ⟨wr.heap.size, 1, none⟩ = some (.int .i64 t.guest) := by rw [HX.out.cell (by have := HSZ.out; show wr.heap.size < _; omega)]; exact HBC.out 1
              have b2_ : X.cell? ⟨wr.heap.size, 2, none⟩ = some (.int .u64 t.addr) := by rw [HX.out.cell (by have := HSZ.out; show wr.heap.size < _; omega)]; exact HBC.out 2
              have b3_ : X.cell? ⟨wr.heap.size, 3, none⟩ = some (.int .i64 t.size) := by rw [HX.out.cell (by have := HSZ.out; show wr.heap.size < _; omega)]; exact HBC.out 3
              have b4_ : X.cell? ⟨wr.heap.size, 4, none⟩ = some (.int .u64 t.value) := by rw [HX.out.cell (by have := HSZ.out; show wr.heap.size < _; omega)]; exact HBC.out 4
              have b5_ : X.cell? ⟨wr.heap.size, 5, none⟩ = some (.int .i64 t.page) := by rw [HX.out.cell (by have := HSZ.out; show wr.heap.size < _; omega)]; exact HBC.out 5
              have b6_ : X.cell? ⟨wr.heap.size, 6, none⟩ = some (.bool t.on) := by rw [HX.out.cell (by have := HSZ.out; show wr.heap.size < _; omega)]; exact HBC.out 6
              have b7_ : X.cell? ⟨wr.heap.size, 7, none⟩ = some (.int .i64 t.asid) := by rw [HX.out.cell (by have := HSZ.out; show wr.heap.size < _; omega)]; exact HBC.out 7
              have b8_ : X.cell? ⟨wr.heap.size, 8, none⟩ = some (.int .i64 t.what) := by rw [HX.out.cell (by have := HSZ.out; show wr.heap.size < _; omega)]; exact HBC.out 8
              have b9_ : X.cell? ⟨wr.heap.size, 9, none⟩ = some (.int .i64 t.set) := by rw [HX.out.cell (by have := HSZ.out; show wr.heap.size < _; omega)]; exact HBC.out 9
              have b10_ : X.cell? ⟨wr.heap.size, 10, none⟩ = some (.int .i64 t.way) := by rw [HX.out.cell (by have := HSZ.out; show wr.heap.size < _; omega)]; exact HBC.out 10
              have b11_ : X.cell? ⟨wr.heap.size, 11, none⟩ = some (.slice ga t.fails.length gc) := by rw [HX.out.cell (by have := HSZ.out; show wr.heap.size < _; omega)]; exact HBC.out 11
              have f4 : X.frozen? ⟨wr.heap.size, 4, none⟩ = false := by rw [HX.out.frozen (by have := HSZ.out; show wr.heap.size < _; omega)]; exact HFZ.out 4
              have HBX : Aside (Below wr.heap.size wr X) := HBW.out.trans (HX.out.mono (by have := HSZ.out; omega))
              go_wp2_with fail
              have hy4 : (X.setCell ⟨wr.heap.size, 4, none⟩ (.int .u64 s.value)).cell? ⟨wr.heap.size, 4, none⟩ = some (.int .u64 s.value) := World.cell?_setCell_same' _ _ _ (by rw [b4_]; rfl)
              have hyo : ∀ j, 4 ≠ j → (X.setCell ⟨wr.heap.size, 4, none⟩ (.int .u64 s.value)).cell? ⟨wr.heap.size, j, none⟩ = X.cell? ⟨wr.heap.size, j, none⟩ := fun j hj => cellO hj
              have hyb : Below wr.heap.size wr (X.setCell ⟨wr.heap.size, 4, none⟩ (.int .u64 s.value)) := HBX.out.setCell (Nat.le_refl _) _
              generalize X.setCell ⟨wr.heap.size, 4, none⟩ (.int .u64 s.value) = Y at *
              have y0 : Y.cell? ⟨wr.heap.size, 0, none⟩ = some (.int .i64 t.kind) := (hyo 0 (by decide)).trans b0_
              have y1 : Y.cell? ⟨wr.heap.size, 1, none⟩ = some (.int .i64 t.guest) := (hyo 1 (by decide)).trans b1_
              have y2 : Y.cell? ⟨wr.heap.size, 2, none⟩ = some (.int .u64 t.addr) := (hyo 2 (by decide)).trans b2_
              have y3 : Y.cell? ⟨wr.heap.size, 3, none⟩ = some (.int .i64 t.size) := (hyo 3 (by decide)).trans b3_
              have y5 : Y.cell? ⟨wr.heap.size, 5, none⟩ = some (.int .i64 t.page) := (hyo 5 (by decide)).trans b5_
              have y6 : Y.cell? ⟨wr.heap.size, 6, none⟩ = some (.bool t.on) := (hyo 6 (by decide)).trans b6_
              have y7 : Y.cell? ⟨wr.heap.size, 7, none⟩ = some (.int .i64 t.asid) := (hyo 7 (by decide)).trans b7_
              have y8 : Y.cell? ⟨wr.heap.size, 8, none⟩ = some (.int .i64 t.what) := (hyo 8 (by decide)).trans b8_
              have y9 : Y.cell? ⟨wr.heap.size, 9, none⟩ = some (.int .i64 t.set) := (hyo 9 (by decide)).trans b9_
              have y10 : Y.cell? ⟨wr.heap.size, 10, none⟩ = some (.int .i64 t.way) := (hyo 10 (by decide)).trans b10_
              have y11 : Y.cell? ⟨wr.heap.size, 11, none⟩ = some (.slice ga t.fails.length gc) := (hyo 11 (by decide)).trans b11_
              clear c0 c1 c2 c3 c4 c5 c6 c7 c8 c9 c10 c11 b0_ b1_ b2_ b3_ b4_ b5_ b6_ b7_ b8_ b9_ b10_ b11_ f4 hyo
              obtain ⟨c0, c1, c2, c3, c4, c5, c6, c7, c8, c9, c10, c11⟩ := HC.out.below hyb hb1w
              have HYB : Aside (Below wr.heap.size wr Y) := hyb
              clear hyb
              go_still_tail 5, (by kernel_rfl)
              change wpList _ _ _ _ _ Y.drew
              go_wp2_with fail
              refine (HSB.out _ _ rfl HYB.out.drew).mono ?_
              rintro e Z ⟨rfl, hZ⟩
              have HZ : Aside (Below wr.heap.size wr Z) := HYB.out.drew.trans (hZ.mono HYB.out.drew.size)
              clear hZ hy4 y0 y1 y2 y3 y5 y6 y7 y8 y9 y10 y11 c0 c1 c2 c3 c4 c5 c6 c7 c8 c9 c10 c11 HSB
              go_wp2_with fail
              go_roundw
              case rel => exact ⟨k + 1, by omega, by go_num, HBL.out.trans (HZ.out.mono HBL.out.size)⟩
              case measure => simp [RowKit.intOf]; omega
          · have hg1 : (s.guest == g) = false := by simp [hgg]
            clear hgg
            go_quiet (fail)
            clear c0 c1 c2 c3 c4 c5 c6 c7 c8 c9 c10 c11 b0 b1' b2' b3 b4 b5 b6 b7 b8 b9 b10 b11 f4
            have hwq : Below W.heap.size W (W.drewN nq) := below_drewN (Below.refl _ _) _
            generalize W.drewN nq = X at *
            have HX : Aside (Below W.heap.size W X) := hwq
            clear hwq hg1 HSA
            obtain ⟨c0, c1, c2, c3, c4, c5, c6, c7, c8, c9, c10, c11⟩ := HC.out.below (HBW.out.trans (HX.out.mono (by have := HSZ.out; omega))) hb1w
            have b0_ : X.cell? ⟨wr.heap.size, 0, none⟩ = some (.int .i64 t.kind) := by rw [HX.out.cell (by have := HSZ.out; show wr.heap.size < _; omega)]; exact HBC.out 0
            have b1_ : X.cell? ⟨wr.heap.size, 1, none⟩ = some (.int .i64 t.guest) := by rw [HX.out.cell (by have := HSZ.out; show wr.heap.size < _; omega)]; exact HBC.out 1
            have b2_ : X.cell? ⟨wr.heap.size, 2, none⟩ = some (.int .u64 t.addr) := by rw [HX.out.cell (by have := HSZ.out; show wr.heap.size < _; omega)]; exact HBC.out 2
            have b3_ : X.cell? ⟨wr.heap.size, 3, none⟩ = some (.int .i64 t.size) := by rw [HX.out.cell (by have := HSZ.out; show wr.heap.size < _; omega)]; exact HBC.out 3
            have b4_ : X.cell? ⟨wr.heap.size, 4, none⟩ = some (.int .u64 t.value) := by rw [HX.out.cell (by have := HSZ.out; show wr.heap.size < _; omega)]; exact HBC.out 4
            have b5_ : X.cell? ⟨wr.heap.size, 5, none⟩ = some (.int .i64 t.page) := by rw [HX.out.cell (by have := HSZ.out; show wr.heap.size < _; omega)]; exact HBC.out 5
            have b6_ : X.cell? ⟨wr.heap.size, 6, none⟩ = some (.bool t.on) := by rw [HX.out.cell (by have := HSZ.out; show wr.heap.size < _; omega)]; exact HBC.out 6
            have b7_ : X.cell? ⟨wr.heap.size, 7, none⟩ = some (.int .i64 t.asid) := by rw [HX.out.cell (by have := HSZ.out; show wr.heap.size < _; omega)]; exact HBC.out 7
            have b8_ : X.cell? ⟨wr.heap.size, 8, none⟩ = some (.int .i64 t.what) := by rw [HX.out.cell (by have := HSZ.out; show wr.heap.size < _; omega)]; exact HBC.out 8
            have b9_ : X.cell? ⟨wr.heap.size, 9, none⟩ = some (.int .i64 t.set) := by rw [HX.out.cell (by have := HSZ.out; show wr.heap.size < _; omega)]; exact HBC.out 9
            have b10_ : X.cell? ⟨wr.heap.size, 10, none⟩ = some (.int .i64 t.way) := by rw [HX.out.cell (by have := HSZ.out; show wr.heap.size < _; omega)]; exact HBC.out 10
            have b11_ : X.cell? ⟨wr.heap.size, 11, none⟩ = some (.slice ga t.fails.length gc) := by rw [HX.out.cell (by have := HSZ.out; show wr.heap.size < _; omega)]; exact HBC.out 11
            have f4 : X.frozen? ⟨wr.heap.size, 4, none⟩ = false := by rw [HX.out.frozen (by have := HSZ.out; show wr.heap.size < _; omega)]; exact HFZ.out 4
            have HBX : Aside (Below wr.heap.size wr X) := HBW.out.trans (HX.out.mono (by have := HSZ.out; omega))
            go_wp2_with fail
            have hy4 : (X.setCell ⟨wr.heap.size, 4, none⟩ (.int .u64 s.value)).cell? ⟨wr.heap.size, 4, none⟩ = some (.int .u64 s.value) := World.cell?_setCell_same' _ _ _ (by rw [b4_]; rfl)
            have hyo : ∀ j, 4 ≠ j → (X.setCell ⟨wr.heap.size, 4, none⟩ (.int .u64 s.value)).cell? ⟨wr.heap.size, j, none⟩ = X.cell? ⟨wr.heap.size, j, none⟩ := fun j hj => cellO hj
            have hyb : Below wr.heap.size wr (X.setCell ⟨wr.heap.size, 4, none⟩ (.int .u64 s.value)) := HBX.out.setCell (Nat.le_refl _) _
            generalize X.setCell ⟨wr.heap.size, 4, none⟩ (.int .u64 s.value) = Y at *
            have y0 : Y.cell? ⟨wr.heap.size, 0, none⟩ = some (.int .i64 t.kind) := (hyo 0 (by decide)).trans b0_
            have y1 : Y.cell? ⟨wr.heap.size, 1, none⟩ = some (.int .i64 t.guest) := (hyo 1 (by decide)).trans b1_
            have y2 : Y.cell? ⟨wr.heap.size, 2, none⟩ = some (.int .u64 t.addr) := (hyo 2 (by decide)).trans b2_
            have y3 : Y.cell? ⟨wr.heap.size, 3, none⟩ = some (.int .i64 t.size) := (hyo 3 (by decide)).trans b3_
            have y5 : Y.cell? ⟨wr.heap.size, 5, none⟩ = some (.int .i64 t.page) := (hyo 5 (by decide)).trans b5_
            have y6 : Y.cell? ⟨wr.heap.size, 6, none⟩ = some (.bool t.on) := (hyo 6 (by decide)).trans b6_
            have y7 : Y.cell? ⟨wr.heap.size, 7, none⟩ = some (.int .i64 t.asid) := (hyo 7 (by decide)).trans b7_
            have y8 : Y.cell? ⟨wr.heap.size, 8, none⟩ = some (.int .i64 t.what) := (hyo 8 (by decide)).trans b8_
            have y9 : Y.cell? ⟨wr.heap.size, 9, none⟩ = some (.int .i64 t.set) := (hyo 9 (by decide)).trans b9_
            have y10 : Y.cell? ⟨wr.heap.size, 10, none⟩ = some (.int .i64 t.way) := (hyo 10 (by decide)).trans b10_
            have y11 : Y.cell? ⟨wr.heap.size, 11, none⟩ = some (.slice ga t.fails.length gc) := (hyo 11 (by decide)).trans b11_
            clear c0 c1 c2 c3 c4 c5 c6 c7 c8 c9 c10 c11 b0_ b1_ b2_ b3_ b4_ b5_ b6_ b7_ b8_ b9_ b10_ b11_ f4 hyo
            obtain ⟨c0, c1, c2, c3, c4, c5, c6, c7, c8, c9, c10, c11⟩ := HC.out.below hyb hb1w
            have HYB : Aside (Below wr.heap.size wr Y) := hyb
            clear hyb
            go_still_tail 5, (by kernel_rfl)
            change wpList _ _ _ _ _ Y.drew
            go_wp2_with fail
            refine (HSB.out _ _ rfl HYB.out.drew).mono ?_
            rintro e Z ⟨rfl, hZ⟩
            have HZ : Aside (Below wr.heap.size wr Z) := HYB.out.drew.trans (hZ.mono HYB.out.drew.size)
            clear hZ hy4 y0 y1 y2 y3 y5 y6 y7 y8 y9 y10 y11 c0 c1 c2 c3 c4 c5 c6 c7 c8 c9 c10 c11 HSB
            go_wp2_with fail
            go_roundw
            case rel => exact ⟨k + 1, by omega, by go_num, HBL.out.trans (HZ.out.mono HBL.out.size)⟩
            case measure => simp [RowKit.intOf]; omega
        · have hge : ¬ ((k : Int) < (o.length : Int)) := by omega
          clear ht1 ht2 ht3
          go_wp2_with fail
          refine (HT.out _).mono ?_
          rintro e Z ⟨rfl, hZ⟩
          have HZ : Aside (Below w.heap.size w Z) := HW2.out.trans ((HBL.out.trans (hZ.mono HBL.out.size)).mono HW2.out.size)
          clear hZ
          go_wp2_with fail
          go_ret
          exact ⟨rfl, HZ.out⟩)
end Go.Proofs.YtndbccpaccflcaaGreat
