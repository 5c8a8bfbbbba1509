/- demesnelaw25.AccessBytes, walked. -/
import Derived.Test.YtafkkicnfngpoaaGreatY10
import Derived.Test.YtafkkicnfngpoaaGreatT25
import Derived.Deep.RegionHeld3
import Derived.Deep.Cut
import Derived.Deep.CutBlock
import Derived.Deep.CutRange
import Derived.BigRegion
set_option linter.unusedVariables false
set_option linter.unusedSimpArgs false
set_option linter.unusedSectionVars false
namespace Go.Proofs.YtafkkicnfngpoaaGreat
open Go Go.RowKit Go.Lib Go.Proofs.YtafkkicnfngpoaaGreat.Dm

theorem told25_calls (w : World) : Calls Tryz.prog 12 #[] w fun e w' => e = .returned (.bool true) ∧ Below w.heap.size w w' :=
  calls_true (args := []) («as» := #[]) (evA_ok 100000).2 trivial told25_run w

theorem maskN (z : Int) : ∃ r : Nat, r < 4 ∧ bits .and .i64 z 3 = (r : Int) := by
  have key : ∀ x : BitVec 64, (x &&& 3#64).toNat < 4 := by
    intro x
    rw [BitVec.toNat_and]
    exact Nat.lt_of_le_of_lt Nat.and_le_right (by decide)
  have e : bits .and .i64 z 3 = IntKind.wrap .i64 ((BitVec.ofInt 64 z &&& BitVec.ofInt 64 (3 : Int)).toNat : Int) := rfl
  have h := key (BitVec.ofInt 64 z)
  refine ⟨(BitVec.ofInt 64 z &&& 3#64).toNat, h, ?_⟩
  rw [e, show BitVec.ofInt 64 (3 : Int) = 3#64 from rfl]
  generalize (BitVec.ofInt 64 z &&& 3#64).toNat = m at h
  simp [IntKind.wrap, IntKind.signed, IntKind.bits]
  omega

def zerosA (n : Nat) : Array Value := ((List.replicate n (Value.int .u8 0))).toArray
theorem made_zeros (n : Nat) : madeCells #[Value.int .u8 0] n = zerosA n := by
  apply Array.ext
  · rw [size_madeCells]; simp [zerosA]
  · intro i h1 h2
    simp [madeCells, zerosA, Nat.mod_one]
theorem make58 (w : World) : Sem.run Tryz.prog (Instr.makeSlice 58 (.int .i64 4096) (.int .i64 4096)) w = .ok (.slice (some ⟨w.heap.size, 0, none⟩) 4096 4096) (w.alloc (.cells (zerosA 4096) 5)) := by
  obtain ⟨i0, hi0, hz⟩ := Option.map_eq_some_iff.1 info5z
  simp only [Prod.mk.injEq] at hz
  obtain ⟨hz0, hz1, hz2⟩ := hz
  have := run_makeSlice (P := Tryz.prog) (w := w) 58 5 i0 (.int .u8 0) Tryz.underlying58 hi0 hz0 .i64 .i64 4096 4096 (by decide) (by decide) (by rw [hz1]; decide) (by rw [hz2]; decide) (by decide)
  rw [hz1] at this
  rw [this]
  show Result.ok (Value.slice _ 4096 4096) (w.alloc (.cells (madeCells #[Value.int .u8 0] (4096 * 1)) 5)) = _
  rw [made_zeros]
theorem zeros_n (n : Nat) : (zerosA n).size = n ∧ ∀ i, i < n → (zerosA n)[i]? = some (.int .u8 ((0 : Nat) : Int)) := by
  refine ⟨by simp [zerosA], fun i hi => ?_⟩
  simp [zerosA, hi]
theorem zeros_get : (zerosA 4096).size = 4096 ∧ ∀ i, i < 4096 → (zerosA 4096)[i]? = some (.int .u8 ((0 : Nat) : Int)) := zeros_n 4096

/-- Begun, a page given, a row made: the law's blocks stand. -/
theorem Hy.begun {W w1 w2 : World} {cb pb : Nat} (h1 : W.heap.size ≤ pb) (h2 : pb < w1.heap.size) (hpc : w1.cell? ⟨pb, 0, none⟩ = some (.pointer (some ⟨cb, 0, none⟩))) (hb : Below W.heap.size W w1)
    (hw : Wy (Ah W.heap.size pb) cb (ST 0) (fun _ => 0) w2) (hk : Kp (Ah W.heap.size pb) w1 w2) (cs : Array Value) (hcs : cs.size = 4096 ∧ ∀ i, i < 4096 → cs[i]? = some (.int .u8 ((0 : Nat) : Int))) :
    Hy W cb pb w2.heap.size [pb, w2.heap.size] (ST 0) (fun _ => 0) (fun _ => 0) (w2.alloc (.cells cs 5)) := by
  have hz : (w2.alloc (.cells cs 5)).heap.size = w2.heap.size + 1 := by simp
  have hw0 : Wy (Own W.heap.size [pb]) cb (ST 0) (fun _ => 0) w2 := hw.anti (fun c hc => by
    rcases hc with hc | hc
    · exact .inl hc
    · simp at hc; exact .inr hc)
  have hlt2 : pb < w2.heap.size := Nat.lt_of_lt_of_le h2 hk.size
  refine ⟨⟨hk.os.trans hb.os, hk.tape.trans hb.tape, hk.output.trans hb.output, by have := hb.size; have := hk.size; omega, fun c hc => ?_⟩, ?_, ⟨cs, ?_, hcs.1, hcs.2⟩, (hw0.alloc _).anti (fun c hc => ?_), by simp, fun c hc => ?_, by omega⟩
  · rw [heap_alloc _ _ _ (by have := hb.size; have := hk.size; omega), hk.block c (.inl hc)]; exact hb.block c hc
  · rw [cell_same (heap_alloc _ _ pb hlt2), cell_same (hk.block pb (.inr rfl))]; exact hpc
  · show (w2.heap.push _)[w2.heap.size]? = _
    simp
  · rcases hc with hc | hc
    · exact .inl hc
    · simp only [List.mem_cons, List.not_mem_nil, or_false] at hc
      rcases hc with rfl | rfl
      · exact .inr (by simp)
      · exact .inr (by simp)
  · simp only [List.mem_cons, List.not_mem_nil, or_false] at hc
    have := hb.size
    have := hk.size
    rcases hc with rfl | rfl <;> omega

set_option maxHeartbeats 0 in
set_option maxRecDepth 100000 in
theorem Bytes_any (a : Option Addr) (n cap : Nat) (hn : n ≤ 9223372036854775807) (W : World) (b o : Nat) (Sz : Nat → Int) (Ad V : Nat → Nat) (ha : 0 < n → a = some ⟨b, o, none⟩ ∧ b < W.heap.size)
    (hc : ∀ i, i < n → W.cell? ⟨b, o + (i * 25 + 3), none⟩ = some (.int .i64 (Sz i)) ∧ W.cell? ⟨b, o + (i * 25 + 7), none⟩ = some (.int .u64 (Ad i : Nat)) ∧ W.cell? ⟨b, o + (i * 25 + 8), none⟩ = some (.int .u64 (V i : Nat)) ∧ Ad i < 18446744073709551616 ∧ V i < 18446744073709551616) :
    Calls Tryz.prog 4 #[.slice a n cap] W fun e w' => e = .returned (.bool true) ∧ Below W.heap.size W w' := by
  have HB : Aside (∀ w, Calls Tryz.prog 7 #[.agg #[.int .i64 30, .int .i64 10, .int .i64 0, .int .i64 2, .int .i64 1, .int .i64 1]] w fun e w' => ∃ cb pb, e = .returned (.tuple #[.pointer (some ⟨pb, 0, none⟩), .bool true]) ∧
    w.heap.size ≤ pb ∧ pb < w'.heap.size ∧ w'.cell? ⟨pb, 0, none⟩ = some (.pointer (some ⟨cb, 0, none⟩)) ∧ Wy (Ah w.heap.size pb) cb D0 (fun _ => 0) w' ∧ Below w.heap.size w w') := Begun_Y
  have HA : Aside (0 < n → a = some ⟨b, o, none⟩ ∧ b < W.heap.size) := ha
  have HC : Aside (∀ i, i < n → W.cell? ⟨b, o + (i * 25 + 3), none⟩ = some (.int .i64 (Sz i)) ∧ W.cell? ⟨b, o + (i * 25 + 7), none⟩ = some (.int .u64 (Ad i : Nat)) ∧ W.cell? ⟨b, o + (i * 25 + 8), none⟩ = some (.int .u64 (V i : Nat)) ∧ Ad i < 18446744073709551616 ∧ V i < 18446744073709551616) := hc
  clear ha hc
  go_enter Tryz.func4, Tryz.ntmps4
  go_wp2_with (go_at_call 7; refine (HB.out _).mono ?_; rintro e w1 ⟨cb, pb, rfl, hpb, hpb', hpc, hwm, hbl⟩; have HW1 : Aside (W.heap.size ≤ pb ∧ pb < w1.heap.size ∧ Wy (Ah W.heap.size pb) cb D0 (fun _ => 0) w1 ∧ Below W.heap.size W w1) := ⟨hpb, hpb', hwm, hbl⟩; clear hpb hpb' hwm hbl)
  have HPC : Aside (w1.cell? ⟨pb, 0, none⟩ = some (.pointer (some ⟨cb, 0, none⟩))) := hpc
  have hA1 : ∀ c, Ah W.heap.size pb c → c < w1.heap.size := fun c hc => by
    have h1 := HW1.out.2.1
    have h2 := HW1.out.2.2.2.size
    rcases hc with hc | rfl
    · omega
    · exact h1
  refine (Donate_Y hA1 HW1.out.2.2.1).mono ?_
  rintro e w2 ⟨rfl, hw2, hk2⟩
  have HW2 : Aside (Wy (Ah W.heap.size pb) cb (ST 0) (fun _ => 0) w2 ∧ Kp (Ah W.heap.size pb) w1 w2) := ⟨hw2, hk2⟩
  clear hw2 hk2 hA1
  have hmk := make58
  go_wp2_with fail
  clear hmk hpc
  have HX : Aside (Hy W cb pb w2.heap.size [pb, w2.heap.size] (ST 0) (fun _ => 0) (fun _ => 0) (w2.alloc (.cells (zerosA 4096) 5))) := Hy.begun HW1.out.1 HW1.out.2.1 HPC.out HW1.out.2.2.2 HW2.out.1 HW2.out.2 _ zeros_get
  obtain ⟨w3, wb, e3, eb⟩ : ∃ w3 wb, w3 = w2.alloc (.cells (zerosA 4096) 5) ∧ wb = w2.heap.size := ⟨_, _, rfl, rfl⟩
  rw [← e3, ← eb] at HX ⊢
  clear e3 eb HW1 HW2 HPC
  go_loopw [6] (fun i wr => ∃ (k j : Nat) (f : Nat → Nat), k ≤ n ∧ k ≤ 40 ∧ j ≤ 2 ∧ (j < 2 → ∀ q, q < 4096 → f q = 0) ∧ i = .int .i64 k ∧ Hy W cb pb wb [pb, wb] (ST j) f f wr) (fun i _ => 40 - (RowKit.intOf i).toNat)
  case atStart => exact ⟨0, 0, fun _ => 0, by omega, by omega, by omega, fun _ _ _ => rfl, rfl, HX.out⟩
  case round =>
    obtain ⟨k, j, f, hkn, hk40, hj, hf0, rfl, HL⟩ := hrel
    have HL : Aside (Hy W cb pb wb [pb, wb] (ST j) f f wr) := HL
    have HF0 : Aside (j < 2 → ∀ q, q < 4096 → f q = 0) := hf0
    clear hf0
    by_cases h1 : k < n ∧ k < 40
    · obtain ⟨h1, h2⟩ := h1
      obtain ⟨rfl, hbW⟩ := HA.out (by omega)
      obtain ⟨c3, c7, c8, had, hV⟩ := HC.out k h1
      have HCW : Aside (∀ w : World, Below W.heap.size W w → w.cell? ⟨b, o + k * 25 + 3, none⟩ = some (.int .i64 (Sz k)) ∧ w.cell? ⟨b, o + k * 25 + 7, none⟩ = some (.int .u64 (Ad k : Nat)) ∧ w.cell? ⟨b, o + k * 25 + 8, none⟩ = some (.int .u64 (V k : Nat))) := by
        intro w hb
        refine ⟨?_, ?_, ?_⟩
        · rw [hb.cell (show (⟨b, o + k * 25 + 3, none⟩ : Addr).block < W.heap.size from hbW), Nat.add_assoc]; exact c3
        · rw [hb.cell (show (⟨b, o + k * 25 + 7, none⟩ : Addr).block < W.heap.size from hbW), Nat.add_assoc]; exact c7
        · rw [hb.cell (show (⟨b, o + k * 25 + 8, none⟩ : Addr).block < W.heap.size from hbW), Nat.add_assoc]; exact c8
      clear c3 c7 c8
      have HVK : Aside (Ad k < 18446744073709551616 ∧ V k < 18446744073709551616) := ⟨had, hV⟩
      clear had hV
      obtain ⟨c3, c7, c8⟩ := HCW.out wr HL.out.bl
      obtain ⟨sz, hsz, hse⟩ := maskN (Sz k)
      go_upto_region 8 with fail
      go_cut [7] from 44 to 185 (fun v wc => ∃ s : Nat, (s = 1 ∨ s = 2 ∨ s = 4 ∨ s = 8) ∧ v = .int .i64 s ∧ wc = wr)
      case first =>
        as_aux_lemma =>
          -- [A
          rcases (by omega : sz = 0 ∨ sz = 1 ∨ sz = 2 ∨ sz = 3) with rfl | rfl | rfl | rfl
          all_goals go_wp2_with fail
          all_goals go_meet
          · exact ⟨1, .inl rfl, rfl, rfl⟩
          · exact ⟨2, .inr (.inl rfl), rfl, rfl⟩
          · exact ⟨4, .inr (.inr (.inl rfl)), rfl, rfl⟩
          · exact ⟨8, .inr (.inr (.inr rfl)), rfl, rfl⟩
          -- ]A
      case rest =>
        obtain ⟨s, hs, rfl, hww⟩ := hcut
        replace hww := hww.symm
        subst hww
        have HS : Aside (s = 1 ∨ s = 2 ∨ s = 4 ∨ s = 8) := hs
        clear hs hse hsz
        go_upto_region 9 with fail
        go_cut [8] from 44 to 185 (fun v w' => ∃ at_ : Nat, at_ + s ≤ 4096 ∧ at_ % s = 0 ∧ v = .int .i64 at_ ∧ w' = wr)
        case first =>
          as_aux_lemma =>
            -- [B
            obtain ⟨a0, ha0, hae⟩ : ∃ a0 : Nat, a0 < 4096 ∧ bits .and .u64 ((Ad k : Nat) : Int) 4095 = (a0 : Int) := ⟨Ad k % 2 ^ 12, Nat.mod_lt _ (by decide), bits_mod (Ad k) 12 HVK.out.1 (by decide)⟩
            have hwa : IntKind.i64.wrap (a0 : Int) = (a0 : Int) := IntWalk.i64_in _ (by omega)
            have n0 : bits .andNot .i64 (a0 : Int) 0 = ((a0 - a0 % 1 : Nat) : Int) := andNot_n a0 ha0 0 (by decide)
            have n1 : bits .andNot .i64 (a0 : Int) 1 = ((a0 - a0 % 2 : Nat) : Int) := andNot_n a0 ha0 1 (by decide)
            have n2 : bits .andNot .i64 (a0 : Int) 3 = ((a0 - a0 % 4 : Nat) : Int) := andNot_n a0 ha0 2 (by decide)
            have n3 : bits .andNot .i64 (a0 : Int) 7 = ((a0 - a0 % 8 : Nat) : Int) := andNot_n a0 ha0 3 (by decide)
            generalize hx1 : a0 - a0 % 1 = x1 at *
            generalize hx2 : a0 - a0 % 2 = x2 at *
            generalize hx4 : a0 - a0 % 4 = x4 at *
            generalize hx8 : a0 - a0 % 8 = x8 at *
            rcases HS.out with rfl | rfl | rfl | rfl
            all_goals go_wp2_with fail
            all_goals go_meet
            · exact ⟨x1, by omega, by omega, rfl, rfl⟩
            · exact ⟨x2, by omega, by omega, rfl, rfl⟩
            · exact ⟨x4, by omega, by omega, rfl, rfl⟩
            · exact ⟨x8, by omega, by omega, rfl, rfl⟩
            -- ]B
        case rest =>
          obtain ⟨at_, hat, ham, rfl, hww⟩ := hcut
          replace hww := hww.symm
          subst hww
          go_upto_region 10 with fail
          obtain ⟨c3, c7, c8⟩ := HCW.out wr HL.out.bl
          have hpc := HL.out.pc
          have HDS : Aside (∀ w' l, Hy W cb pb wb l (ST j) f f w' →
              Calls Tryz.prog 9 #[.pointer (some ⟨cb, 0, none⟩), .int .i64 1, .int .u64 (IntKind.u64.wrap (24576 + IntKind.u64.wrap (at_ : Int))), .int .i64 2, .int .i64 (s : Int), .int .u64 (V k : Nat), .int .i64 0] w' fun e w'' =>
              ∃ (x p m : Value) (f1 f2 f3 f4 : Int) (f5 : Bool), e = .returned (.tuple #[x, p, .agg #[.int .i64 f1, .int .i64 f2, .int .i64 f3, .int .u64 f4, .bool f5], m, .int .i64 0]) ∧
                Hy W cb pb wb l (ST 2) (putF f at_ s (V k)) f w'' ∧ ∀ c ∈ l, w''.heap[c]? = w'.heap[c]?) := by
            intro w' l h1
            have h := Store_W hj h1.lt h1.wy HF0.out HS.out hat ham HVK.out.2
            rw [show ((24576 + at_ : Nat) : Int) = IntKind.u64.wrap (24576 + IntKind.u64.wrap (at_ : Int)) by simp only [IntKind.wrap_u64]; omega] at h
            refine h.mono ?_
            rintro e w'' ⟨x, p, q, m, he, ⟨f1, f2, f3, f4, f5, rfl⟩, h2, h3⟩
            exact ⟨x, p, m, f1, f2, f3, f4, f5, he, h1.call h2 h3, fun c hc => h3.block c (.inr hc)⟩
          have hpw : ¬ pb = wr.heap.size := fun e => by have := (HL.out.ge pb HL.out.inl.1).2; omega
          have hpw' : ¬ wr.heap.size = pb := fun e => hpw e.symm
          have hbw : ¬ b = wr.heap.size := fun e => by have := HL.out.bl.size; omega
          have hbw' : ¬ wr.heap.size = b := fun e => hbw e.symm
          go_cut [13] from 44 to 185 (fun v w' => v = .int .i64 0 ∧ Hy W cb pb wb [pb, wb] (ST 2) (putF f at_ s (V k)) f w')
          case first =>
            as_aux_lemma =>
              -- [C
              go_region_held3 (fun w' => w'.cell? ⟨pb, 0, none⟩ = some (.pointer (some ⟨cb, 0, none⟩)) ∧ w'.cell? ⟨b, o + k * 25 + 8, none⟩ = some (.int .u64 (V k : Nat))) (go_keep) (first
                | (go_simp; go_at_call 9; (with_reducible refine (HDS.out _ _ HL.out.drew).mono ?_); rintro e w5 ⟨x5, p5, n5, f1, f2, f3, f4, f5, rfl, hx5, -⟩; have HX5 : Aside (Hy W cb pb wb [pb, wb] (ST 2) (putF f at_ s (V k)) f w5) := hx5; clear hx5; have q1 := HX5.out.pc; have q8 := (HCW.out w5 HX5.out.bl).2.2)
                | ((go_simp; go_at_call 9; (with_reducible refine (HDS.out _ _ ((HL.out.alloc _).drew)).mono ?_); rintro e w5 ⟨x5, p5, n5, f1, f2, f3, f4, f5, rfl, hx5, hsm⟩; have HX5 : Aside (Hy W cb pb wb [wr.heap.size, pb, wb] (ST 2) (putF f at_ s (V k)) f w5) := hx5; clear hx5; have hfb : w5.heap[wr.heap.size]? = some (.cells #[.int .i64 0, .int .i64 0, .int .i64 0, .int .u64 0, .bool false] 46) := (hsm _ (List.mem_cons_self)).trans (by show (wr.heap.push _)[wr.heap.size]? = _; simp); clear hsm; have t0 := cell_of_block (j := 0) hfb rfl; have g0 := frozen_of_block (j := 0) hfb; have t1 := cell_of_block (j := 1) hfb rfl; have g1 := frozen_of_block (j := 1) hfb; have t2 := cell_of_block (j := 2) hfb rfl; have g2 := frozen_of_block (j := 2) hfb; have t3 := cell_of_block (j := 3) hfb rfl; have g3 := frozen_of_block (j := 3) hfb; have t4 := cell_of_block (j := 4) hfb rfl; have g4 := frozen_of_block (j := 4) hfb; have HFB := (show Aside _ from hfb); clear hfb; have q1 := HX5.out.pc; have q8 := (HCW.out w5 HX5.out.bl).2.2)))
              all_goals (try go_wp2_with fail)
              all_goals go_meet
              · exact ⟨rfl, (HX5.out.alloc _).less⟩
              · have hmem : wr.heap.size ∈ [wr.heap.size, pb, wb] := List.mem_cons_self
                have hne : wr.heap.size ≠ pb ∧ wr.heap.size ≠ wb := ⟨hpw', fun e => by have := (HL.out.ge wb HL.out.inl.2).2; omega⟩
                exact ⟨rfl, (((((HX5.out.set hmem hne 0 _).set hmem hne 1 _).set hmem hne 2 _).set hmem hne 3 _).set hmem hne 4 _).less⟩
              -- ]C
          case rest =>
            obtain ⟨rfl, hx6⟩ := hcut
            have HX6 : Aside (Hy W cb pb wb [pb, wb] (ST 2) (putF f at_ s (V k)) f wc) := hx6
            clear hx6 hpw hpw' hbw hbw' hpc c3 c7 c8
            go_wp2_with fail
            -- [D
            go_loopw [14] (fun i w' => ∃ q : Nat, q ≤ s ∧ i = .int .i64 q ∧ Hy W cb pb wb [pb, wb] (ST 2) (putF f at_ s (V k)) (putF f at_ q (V k)) w') (fun i _ => s - (RowKit.intOf i).toNat)
            case atStart => exact ⟨0, by omega, rfl, HX6.out.congr0 (fun i _ => (putF_zero f at_ (V k) i).symm)⟩
            case round =>
              obtain ⟨q, hq, rfl, HQ⟩ := hrel
              have HQ : Aside (Hy W cb pb wb [pb, wb] (ST 2) (putF f at_ s (V k)) (putF f at_ q (V k)) wr) := HQ
              have hs8 : s ≤ 8 := by have := HS.out; omega
              by_cases hqs : q < s
              · obtain ⟨c3, c7, c8⟩ := HCW.out wr HQ.out.bl
                obtain ⟨z1, z2⟩ := HQ.out.wc.cell (i := at_ + q) (by omega)
                have hi1 : (q : Int) < (s : Int) := by omega
                have hwa : IntKind.i64.wrap ((at_ : Int) + (q : Int)) = (at_ : Int) + (q : Int) := IntWalk.i64_in _ (by omega)
                have hi2 : (at_ : Int) + (q : Int) < (4096 : Int) := by omega
                have hi3 : 0 ≤ (at_ : Int) + (q : Int) := by omega
                have htn : ((at_ : Int) + (q : Int)).toNat = at_ + q := by omega
                have hw8 : IntKind.i64.wrap (8 * (q : Int)) = 8 * (q : Int) := IntWalk.i64_in _ (by omega)
                have hu8 : IntKind.u64.wrap (8 * (q : Int)) = 8 * (q : Int) := by rw [IntKind.wrap_u64]; omega
                have ht8 : (8 * (q : Int)).toNat = 8 * q := by omega
                go_wp2_with fail
                go_roundw
                case rel =>
                  refine ⟨q + 1, by omega, by go_num, ?_⟩
                  rw [shr_byte (V k) q]
                  exact (HQ.out.setW (j := at_ + q) (u := V k / 256 ^ q % 256) (by omega)).congr0 (fun i _ => (putF_step f at_ (V k) q i).symm)
                case measure => simp [RowKit.intOf]; omega
              · obtain rfl : q = s := by omega
                have HZ : Aside (Hy W cb pb wb [pb, wb] (ST 2) (putF f at_ q (V k)) (putF f at_ q (V k)) wr) := HQ.out
                have HDL : Aside (∀ w' l, Hy W cb pb wb l (ST 2) (putF f at_ q (V k)) (putF f at_ q (V k)) w' →
                    Calls Tryz.prog 9 #[.pointer (some ⟨cb, 0, none⟩), .int .i64 1, .int .u64 (24576 + (at_ : Int)), .int .i64 1, .int .i64 (q : Int), .int .u64 0, .int .i64 0] w' fun e w'' =>
                    ∃ (p m : Value) (f1 f2 f3 f4 : Int) (f5 : Bool), e = .returned (.tuple #[.int .u64 ((V k % 256 ^ q : Nat) : Int), p, .agg #[.int .i64 f1, .int .i64 f2, .int .i64 f3, .int .u64 f4, .bool f5], m, .int .i64 0]) ∧
                      Hy W cb pb wb l (ST 2) (putF f at_ q (V k)) (putF f at_ q (V k)) w'') := by
                  intro w' l h1
                  have h := Load_W h1.lt h1.wy HS.out hat ham
                  rw [show ((24576 + at_ : Nat) : Int) = 24576 + (at_ : Int) by omega] at h
                  refine h.mono ?_
                  rintro e w'' ⟨p, r, m, he, ⟨f1, f2, f3, f4, f5, rfl⟩, h2, h3⟩
                  rw [leF_put] at he
                  exact ⟨p, m, f1, f2, f3, f4, f5, he, h1.call h2 h3⟩
                have hpc := HZ.out.pc
                generalize hvs : V k % 256 ^ q = vs at *
                go_upto_region 17 with fail
                go_cut [15, 19] from 44 to 185 (fun v e w' => v = .int .u64 (vs : Nat) ∧ e = .int .i64 0 ∧ Hy W cb pb wb [pb, wb] (ST 2) (putF f at_ q (V k)) (putF f at_ q (V k)) w')
                case first =>
                  as_aux_lemma =>
                    go_wp2_with (go_at_call 9; (with_reducible refine (HDL.out _ _ HZ.out).mono ?_); rintro e w5 ⟨p5, n5, f1, f2, f3, f4, f5, rfl, hx5⟩; have HX5 : Aside (Hy W cb pb wb [pb, wb] (ST 2) (putF f at_ q (V k)) (putF f at_ q (V k)) w5) := hx5; clear hx5)
                    go_meet
                    exact ⟨rfl, rfl, (HX5.out.alloc _).less⟩
                case rest =>
                  obtain ⟨rfl, rfl, hz7⟩ := hcut
                  have HZ7 : Aside (Hy W cb pb wb [pb, wb] (ST 2) (putF f at_ q (V k)) (putF f at_ q (V k)) wc) := hz7
                  clear hz7 hpc HZ
                  go_upto_region 18 with fail
                  go_cut [162] from 44 to 185 (fun v w' => v = .bool false ∧ w' = wc)
                  case first =>
                    as_aux_lemma =>
                      obtain ⟨c3, c7, c8⟩ := HCW.out wc HZ7.out.bl
                      have hV := HVK.out.2
                      have m1 : bits .and .u64 ((V k : Nat) : Int) 255 = ((V k % 2 ^ 8 : Nat) : Int) := bits_mod (V k) 8 hV (by decide)
                      have m2 : bits .and .u64 ((V k : Nat) : Int) 65535 = ((V k % 2 ^ 16 : Nat) : Int) := bits_mod (V k) 16 hV (by decide)
                      have m4 : bits .and .u64 ((V k : Nat) : Int) 4294967295 = ((V k % 2 ^ 32 : Nat) : Int) := bits_mod (V k) 32 hV (by decide)
                      have hv1 : q = 1 → vs = V k % 2 ^ 8 := by rintro rfl; exact hvs.symm
                      have hv2 : q = 2 → vs = V k % 2 ^ 16 := by rintro rfl; exact hvs.symm
                      have hv4 : q = 4 → vs = V k % 2 ^ 32 := by rintro rfl; exact hvs.symm
                      have hv8 : q = 8 → vs = V k := by rintro rfl; rw [← hvs]; exact Nat.mod_eq_of_lt hV
                      clear hvs
                      generalize V k % 2 ^ 8 = g1 at *
                      generalize V k % 2 ^ 16 = g2 at *
                      generalize V k % 2 ^ 32 = g4 at *
                      rcases HS.out with rfl | rfl | rfl | rfl
                      · obtain rfl := hv1 rfl
                        go_wp2_with fail
                        go_meet
                        exact ⟨rfl, rfl⟩
                      · obtain rfl := hv2 rfl
                        go_wp2_with fail
                        go_meet
                        exact ⟨rfl, rfl⟩
                      · obtain rfl := hv4 rfl
                        go_wp2_with fail
                        go_meet
                        exact ⟨rfl, rfl⟩
                      · obtain rfl := hv8 rfl
                        go_wp2_with fail
                        go_meet
                        exact ⟨rfl, rfl⟩
                  case rest =>
                    obtain ⟨rfl, hcut⟩ := hcut
                    replace hcut := hcut.symm
                    subst hcut
                    have HDM : Aside (∀ w', Hy W cb pb wb [pb, wb] (ST 2) (putF f at_ q (V k)) (putF f at_ q (V k)) w' →
                        Calls Tryz.prog 9 #[.pointer (some ⟨cb, 0, none⟩), .int .i64 1, .int .u64 (24576 + (at_ : Int) + 1), .int .i64 1, .int .i64 (max 2 (q : Int)), .int .u64 0, .int .i64 0] w' fun e w'' =>
                        ∃ (x p r m : Value) (er : Int), e = .returned (.tuple #[x, p, r, m, .int .i64 er]) ∧ (1 < q → er = 3) ∧ Hy W cb pb wb [pb, wb] (ST 2) (putF f at_ q (V k)) (putF f at_ q (V k)) w'') := by
                      intro w' h1
                      rw [show 24576 + (at_ : Int) + 1 = ((24576 + (at_ + 1) : Nat) : Int) by omega]
                      have hq4 := HS.out
                      by_cases hq1 : q = 1
                      · subst hq1
                        rw [show max 2 ((1 : Nat) : Int) = ((2 : Nat) : Int) by decide]
                        by_cases hodd : at_ % 2 = 0
                        · have h := Mis_W h1.lt h1.wy (.inl rfl) (at_ := at_ + 1) (by omega) (by omega)
                          refine h.mono ?_
                          rintro e w'' ⟨x, p, r, m, he, -, h2, h3⟩
                          exact ⟨x, p, r, m, 3, he, fun _ => rfl, h1.call h2 h3⟩
                        · by_cases hend : at_ = 4095
                          · subst hend
                            have h := Far_W h1.lt h1.wy
                            refine h.mono ?_
                            rintro e w'' ⟨x, p, r, m, er, he, -, h2, h3⟩
                            exact ⟨x, p, r, m, er, he, fun h => absurd h (by omega), h1.call h2 h3⟩
                          · have h := Load_W h1.lt h1.wy (.inr (.inl rfl)) (at_ := at_ + 1) (by omega) (by omega)
                            refine h.mono ?_
                            rintro e w'' ⟨p, r, m, he, -, h2, h3⟩
                            exact ⟨_, p, r, m, 0, he, fun h => absurd h (by omega), h1.call h2 h3⟩
                      · rw [show max 2 (q : Int) = (q : Int) by omega]
                        have h := Mis_W (s := q) h1.lt h1.wy (by omega) (at_ := at_ + 1) (by omega) (by rcases hq4 with rfl | rfl | rfl | rfl <;> omega)
                        refine h.mono ?_
                        rintro e w'' ⟨x, p, r, m, he, -, h2, h3⟩
                        exact ⟨x, p, r, m, 3, he, fun _ => rfl, h1.call h2 h3⟩
                    have hpc := HZ7.out.pc
                    go_upto_region 20 with fail
                    go_cut [19] from 44 to 185 (fun e w' => ∃ er : Int, e = .int .i64 er ∧ (1 < q → er = 3) ∧ Hy W cb pb wb [pb, wb] (ST 2) (putF f at_ q (V k)) (putF f at_ q (V k)) w')
                    case first =>
                      as_aux_lemma =>
                        go_wp2_with (go_at_call 9; (with_reducible refine (HDM.out _ HZ7.out).mono ?_); rintro e w5 ⟨x5, p5, r5, m5, er, rfl, her, hx5⟩; have HX5 : Aside ((1 < q → er = 3) ∧ Hy W cb pb wb [pb, wb] (ST 2) (putF f at_ q (V k)) (putF f at_ q (V k)) w5) := ⟨her, hx5⟩; clear hx5 her)
                        go_meet
                        exact ⟨er, rfl, HX5.out⟩
                    case rest =>
                      obtain ⟨er, rfl, her, hz8⟩ := hcut
                      have HZ8 : Aside (Hy W cb pb wb [pb, wb] (ST 2) (putF f at_ q (V k)) (putF f at_ q (V k)) wc) := hz8
                      clear hz8 hpc
                      by_cases hq1 : 1 < q
                      · obtain rfl := her hq1
                        go_wp2_with fail
                        go_roundw
                        case rel => exact ⟨k + 1, 2, _, by omega, by omega, by omega, fun h => absurd h (by omega), by go_num, HZ8.out⟩
                        case measure => simp [RowKit.intOf]; omega
                      · have hq2 : q = 1 := by have := HS.out; omega
                        go_wp2_with fail
                        go_roundw
                        case rel => exact ⟨k + 1, 2, _, by omega, by omega, by omega, fun h => absurd h (by omega), by go_num, HZ8.out⟩
                        case measure => simp [RowKit.intOf]; omega
            -- ]D
    · have hend : k = n ∨ (k < n ∧ k = 40) := by omega
      clear h1
      have HT : Aside (∀ w' j, Hy W cb pb wb [pb, wb] (ST j) f f w' → Calls Tryz.prog 12 #[] w' fun e w'' => e = .returned (.bool true) ∧ Hy W cb pb wb [pb, wb] (ST j) f f w'') := by
        intro w' j h
        refine (told25_calls w').mono ?_
        rintro e w'' ⟨he, h1⟩
        exact ⟨he, h.below h1⟩
      have HD8 : Aside (∀ w' j, j ≤ 2 → (j < 2 → ∀ q, q < 4096 → f q = 0) → Hy W cb pb wb [pb, wb] (ST j) f f w' → ∀ at_ : Nat, at_ + 8 ≤ 4096 → at_ % 8 = 0 →
          Calls Tryz.prog 9 #[.pointer (some ⟨cb, 0, none⟩), .int .i64 1, .int .u64 (24576 + (at_ : Int)), .int .i64 1, .int .i64 8, .int .u64 0, .int .i64 0] w' fun e w'' =>
          ∃ (p m : Value) (f1 f2 f3 f4 : Int) (f5 : Bool) (j' : Nat), e = .returned (.tuple #[.int .u64 (leF f at_ 8 : Nat), p, .agg #[.int .i64 f1, .int .i64 f2, .int .i64 f3, .int .u64 f4, .bool f5], m, .int .i64 0]) ∧ j' ≤ 2 ∧ (j' < 2 → ∀ q, q < 4096 → f q = 0) ∧
            Hy W cb pb wb [pb, wb] (ST j') f f w'') := by
        intro w' j hj h0 h1 at_ ha hm
        have h := Load8_W hj h1.lt h1.wy h0 ha hm
        rw [show ((24576 + at_ : Nat) : Int) = 24576 + (at_ : Int) by omega] at h
        refine h.mono ?_
        rintro e w'' ⟨p, r, m, j', he, ⟨f1, f2, f3, f4, f5, rfl⟩, hj', hjj, h2, h3⟩
        exact ⟨p, m, f1, f2, f3, f4, f5, j', he, hj', fun h => h0 (hjj h), h1.call h2 h3⟩
      rcases hend with rfl | ⟨hlt, rfl⟩
      · as_aux_lemma =>
          go_wp2_with fail
          go_loopw [20] (fun i w' => ∃ (m j' : Nat), m ≤ 512 ∧ i = .int .i64 (8 * m : Nat) ∧ j' ≤ 2 ∧ (j' < 2 → ∀ q, q < 4096 → f q = 0) ∧ Hy W cb pb wb [pb, wb] (ST j') f f w') (fun i _ => 4096 - (RowKit.intOf i).toNat)
          case atStart => exact ⟨0, j, by omega, rfl, hj, HF0.out, HL.out⟩
          case round =>
            obtain ⟨m, j', hm, rfl, hj', h0', HQ⟩ := hrel
            have HQ : Aside (Hy W cb pb wb [pb, wb] (ST j') f f wr) := HQ
            have H0 : Aside (j' < 2 → ∀ q, q < 4096 → f q = 0) := h0'
            clear h0'
            obtain ⟨x, hx⟩ : ∃ x, x = 8 * m := ⟨_, rfl⟩
            rw [← hx]
            have HXM : Aside (x = 8 * m) := hx
            by_cases hm5 : x < 4096
            · have hpc := HQ.out.pc
              have HDX : Aside (∀ w', Hy W cb pb wb [pb, wb] (ST j') f f w' → _) := fun w' h => HD8.out w' j' hj' H0.out h x (by omega) (by omega)
              have hx8 : x + 8 ≤ 4096 := by omega
              clear hx
              go_wp2_with (go_at_call 9; (with_reducible refine (HDX.out _ HQ.out).mono ?_); rintro e w5 ⟨p5, n5, f1, f2, f3, f4, f5, j6, rfl, hj6, h06, hx5⟩; have HX5 : Aside ((j6 < 2 → ∀ q, q < 4096 → f q = 0) ∧ Hy W cb pb wb [pb, wb] (ST j6) f f w5) := ⟨h06, hx5⟩; clear hx5 h06)
              go_loopw [26, 27] (fun v i w' => ∃ c : Nat, c ≤ 8 ∧ i = .int .i64 (7 - (c : Int)) ∧ v = .int .u64 (leF f (x + 8 - c) c : Nat) ∧ Hy W cb pb wb [pb, wb] (ST j6) f f w') (fun _ i _ => (RowKit.intOf i + 1).toNat)
              case atStart => exact ⟨0, by omega, rfl, rfl, (HX5.out.2.alloc _).less⟩
              case round =>
                obtain ⟨c, hc, rfl, rfl, HZ⟩ := hrel
                have HZ : Aside (Hy W cb pb wb [pb, wb] (ST j6) f f wr) := HZ
                by_cases hc8 : c < 8
                · obtain ⟨y, hy⟩ : ∃ y, y = x + 7 - c := ⟨_, rfl⟩
                  obtain ⟨z1, -⟩ := HZ.out.wc.cell (i := y) (by omega)
                  have hfy := (HZ.out.wy).lt_of (i := y) (by omega)
                  have hwa : IntKind.i64.wrap ((x : Int) + (7 - (c : Int))) = ((y : Nat) : Int) := by
                    rw [show (x : Int) + (7 - (c : Int)) = ((y : Nat) : Int) by omega]
                    exact IntWalk.i64_in _ (by omega)
                  have hi2 : (y : Int) < (4096 : Int) := by omega
                  have hc0 : (0 : Int) ≤ 7 - (c : Int) := by omega
                  have hWlt : leF f (x + 8 - c) c < 256 ^ c := leF_lt c (x + 8 - c) (fun i h1 h2 => (HZ.out.wy).lt_of (i := i) (by omega))
                  have hpw : 256 ^ c ≤ 256 ^ 7 := Nat.pow_le_pow_right (by decide) (by omega)
                  have HYC : Aside (y = x + 7 - c) := hy
                  have HWD : Aside (leF f (x + 8 - (c + 1)) (c + 1) = f y + 256 * leF f (x + 8 - c) c) := by
                    show leF f (x + 8 - (c + 1)) (c + 1) = _
                    rw [show x + 8 - (c + 1) = y by omega]
                    show f y + 256 * leF f (y + 1) c = _
                    rw [show y + 1 = x + 8 - c by omega]
                  have HOR : Aside (bits .or .u64 ((leF f (x + 8 - c) c * 256 : Nat) : Int) ((f y : Nat) : Int) = ((f y + 256 * leF f (x + 8 - c) c : Nat) : Int)) := bits_or _ _ hfy (by omega)
                  generalize leF f (x + 8 - c) c = Wc at *
                  generalize f y = fy at *
                  have hsh : IntKind.u64.wrap ((Wc : Int) * 256) = ((Wc * 256 : Nat) : Int) := by rw [IntKind.wrap_u64]; omega
                  have hcv : IntKind.u64.wrap (fy : Int) = (fy : Int) := by rw [IntKind.wrap_u64]; omega
                  clear hy
                  go_wp2_with fail
                  go_roundw
                  case rel =>
                    refine ⟨c + 1, by omega, by rw [show (7 : Int) - (c : Int) - 1 = 7 - ((c + 1 : Nat) : Int) by omega], ?_, HZ.out⟩
                    rw [HWD.out, show ((Wc : Int) * 256) = ((Wc * 256 : Nat) : Int) by omega, HOR.out]
                  case measure => simp [RowKit.intOf]; omega
                · obtain rfl : c = 8 := by omega
                  have hx88 : x + 8 - 8 = x := by omega
                  rw [hx88]
                  generalize leF f x 8 = vv at *
                  go_wp2_with fail
                  go_roundw
                  case rel => exact ⟨m + 1, j6, by have := HXM.out; omega, by rw [HXM.out]; go_num, hj6, HX5.out.1, HZ.out⟩
                  case measure => simp [RowKit.intOf]; omega
            · have hm2 : x = 4096 := by have := HXM.out; omega
              clear hx
              go_wp2_with (go_at_call 12; (with_reducible refine (HT.out _ _ HQ.out).mono ?_); rintro e w6 ⟨rfl, h6⟩; have HB3 : Aside (Hy W cb pb wb [pb, wb] (ST j') f f w6) := h6; clear h6)
              go_ret
              exact ⟨rfl, HB3.out.bl⟩
      · as_aux_lemma =>
          go_wp2_with fail
          go_loopw [20] (fun i w' => ∃ (m j' : Nat), m ≤ 512 ∧ i = .int .i64 (8 * m : Nat) ∧ j' ≤ 2 ∧ (j' < 2 → ∀ q, q < 4096 → f q = 0) ∧ Hy W cb pb wb [pb, wb] (ST j') f f w') (fun i _ => 4096 - (RowKit.intOf i).toNat)
          case atStart => exact ⟨0, j, by omega, rfl, hj, HF0.out, HL.out⟩
          case round =>
            obtain ⟨m, j', hm, rfl, hj', h0', HQ⟩ := hrel
            have HQ : Aside (Hy W cb pb wb [pb, wb] (ST j') f f wr) := HQ
            have H0 : Aside (j' < 2 → ∀ q, q < 4096 → f q = 0) := h0'
            clear h0'
            obtain ⟨x, hx⟩ : ∃ x, x = 8 * m := ⟨_, rfl⟩
            rw [← hx]
            have HXM : Aside (x = 8 * m) := hx
            by_cases hm5 : x < 4096
            · have hpc := HQ.out.pc
              have HDX : Aside (∀ w', Hy W cb pb wb [pb, wb] (ST j') f f w' → _) := fun w' h => HD8.out w' j' hj' H0.out h x (by omega) (by omega)
              have hx8 : x + 8 ≤ 4096 := by omega
              clear hx
              go_wp2_with (go_at_call 9; (with_reducible refine (HDX.out _ HQ.out).mono ?_); rintro e w5 ⟨p5, n5, f1, f2, f3, f4, f5, j6, rfl, hj6, h06, hx5⟩; have HX5 : Aside ((j6 < 2 → ∀ q, q < 4096 → f q = 0) ∧ Hy W cb pb wb [pb, wb] (ST j6) f f w5) := ⟨h06, hx5⟩; clear hx5 h06)
              go_loopw [26, 27] (fun v i w' => ∃ c : Nat, c ≤ 8 ∧ i = .int .i64 (7 - (c : Int)) ∧ v = .int .u64 (leF f (x + 8 - c) c : Nat) ∧ Hy W cb pb wb [pb, wb] (ST j6) f f w') (fun _ i _ => (RowKit.intOf i + 1).toNat)
              case atStart => exact ⟨0, by omega, rfl, rfl, (HX5.out.2.alloc _).less⟩
              case round =>
                obtain ⟨c, hc, rfl, rfl, HZ⟩ := hrel
                have HZ : Aside (Hy W cb pb wb [pb, wb] (ST j6) f f wr) := HZ
                by_cases hc8 : c < 8
                · obtain ⟨y, hy⟩ : ∃ y, y = x + 7 - c := ⟨_, rfl⟩
                  obtain ⟨z1, -⟩ := HZ.out.wc.cell (i := y) (by omega)
                  have hfy := (HZ.out.wy).lt_of (i := y) (by omega)
                  have hwa : IntKind.i64.wrap ((x : Int) + (7 - (c : Int))) = ((y : Nat) : Int) := by
                    rw [show (x : Int) + (7 - (c : Int)) = ((y : Nat) : Int) by omega]
                    exact IntWalk.i64_in _ (by omega)
                  have hi2 : (y : Int) < (4096 : Int) := by omega
                  have hc0 : (0 : Int) ≤ 7 - (c : Int) := by omega
                  have hWlt : leF f (x + 8 - c) c < 256 ^ c := leF_lt c (x + 8 - c) (fun i h1 h2 => (HZ.out.wy).lt_of (i := i) (by omega))
                  have hpw : 256 ^ c ≤ 256 ^ 7 := Nat.pow_le_pow_right (by decide) (by omega)
                  have HYC : Aside (y = x + 7 - c) := hy
                  have HWD : Aside (leF f (x + 8 - (c + 1)) (c + 1) = f y + 256 * leF f (x + 8 - c) c) := by
                    show leF f (x + 8 - (c + 1)) (c + 1) = _
                    rw [show x + 8 - (c + 1) = y by omega]
                    show f y + 256 * leF f (y + 1) c = _
                    rw [show y + 1 = x + 8 - c by omega]
                  have HOR : Aside (bits .or .u64 ((leF f (x + 8 - c) c * 256 : Nat) : Int) ((f y : Nat) : Int) = ((f y + 256 * leF f (x + 8 - c) c : Nat) : Int)) := bits_or _ _ hfy (by omega)
                  generalize leF f (x + 8 - c) c = Wc at *
                  generalize f y = fy at *
                  have hsh : IntKind.u64.wrap ((Wc : Int) * 256) = ((Wc * 256 : Nat) : Int) := by rw [IntKind.wrap_u64]; omega
                  have hcv : IntKind.u64.wrap (fy : Int) = (fy : Int) := by rw [IntKind.wrap_u64]; omega
                  clear hy
                  go_wp2_with fail
                  go_roundw
                  case rel =>
                    refine ⟨c + 1, by omega, by rw [show (7 : Int) - (c : Int) - 1 = 7 - ((c + 1 : Nat) : Int) by omega], ?_, HZ.out⟩
                    rw [HWD.out, show ((Wc : Int) * 256) = ((Wc * 256 : Nat) : Int) by omega, HOR.out]
                  case measure => simp [RowKit.intOf]; omega
                · obtain rfl : c = 8 := by omega
                  have hx88 : x + 8 - 8 = x := by omega
                  rw [hx88]
                  generalize leF f x 8 = vv at *
                  go_wp2_with fail
                  go_roundw
                  case rel => exact ⟨m + 1, j6, by have := HXM.out; omega, by rw [HXM.out]; go_num, hj6, HX5.out.1, HZ.out⟩
                  case measure => simp [RowKit.intOf]; omega
            · have hm2 : x = 4096 := by have := HXM.out; omega
              clear hx
              go_wp2_with (go_at_call 12; (with_reducible refine (HT.out _ _ HQ.out).mono ?_); rintro e w6 ⟨rfl, h6⟩; have HB3 : Aside (Hy W cb pb wb [pb, wb] (ST j') f f w6) := h6; clear h6)
              go_ret
              exact ⟨rfl, HB3.out.bl⟩
end Go.Proofs.YtafkkicnfngpoaaGreat
