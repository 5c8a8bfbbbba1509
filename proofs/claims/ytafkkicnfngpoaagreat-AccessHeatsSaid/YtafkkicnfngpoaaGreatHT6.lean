/- demesnelaw25.AccessHeats, walked: the machine is made, the accesses, the heats. -/
import Derived.Test.YtafkkicnfngpoaaGreatHT6a
import Derived.Test.YtafkkicnfngpoaaGreatT25
import Derived.Deep.RegionHeld3
import Derived.Deep.Cut
import Derived.Deep.CutBlock
import Derived.Deep.CutRange
import Derived.BigRegion
set_option linter.unusedVariables false
set_option linter.unusedSimpArgs false
set_option linter.unusedSectionVars false
namespace Go.Proofs.YtafkkicnfngpoaaGreat
open Go Go.RowKit Go.Lib Go.Proofs.YtafkkicnfngpoaaGreat.Dm

theorem maskN (kk : IntKind) (hkk : kk = .i64 ∨ kk = .u64) (z : Int) : ∃ r : Nat, r < 4 ∧ bits .and kk z 3 = (r : Int) := by
  have key : ∀ x : BitVec 64, (x &&& 3#64).toNat < 4 := by
    intro x
    rw [BitVec.toNat_and]
    exact Nat.lt_of_le_of_lt Nat.and_le_right (by decide)
  rcases hkk with rfl | rfl
  · have e : bits .and .i64 z 3 = IntKind.wrap .i64 ((BitVec.ofInt 64 z &&& BitVec.ofInt 64 (3 : Int)).toNat : Int) := rfl
    have h := key (BitVec.ofInt 64 z)
    refine ⟨(BitVec.ofInt 64 z &&& 3#64).toNat, h, ?_⟩
    rw [e, show BitVec.ofInt 64 (3 : Int) = 3#64 from rfl]
    generalize (BitVec.ofInt 64 z &&& 3#64).toNat = m at h
    simp [IntKind.wrap, IntKind.signed, IntKind.bits]
    omega
  · have e : bits .and .u64 z 3 = IntKind.wrap .u64 ((BitVec.ofInt 64 z &&& BitVec.ofInt 64 (3 : Int)).toNat : Int) := rfl
    have h := key (BitVec.ofInt 64 z)
    refine ⟨(BitVec.ofInt 64 z &&& 3#64).toNat, h, ?_⟩
    rw [e, show BitVec.ofInt 64 (3 : Int) = 3#64 from rfl]
    generalize (BitVec.ofInt 64 z &&& 3#64).toNat = m at h
    simp [IntKind.wrap, IntKind.signed, IntKind.bits]
    omega

theorem cne49 (x y u v : Nat) (w : World) : Sem.run Tryz.prog (binOp .neq 49 (.complex .f64 x y) (.complex .f64 u v)) w = .ok (.bool (!((FloatKind.f64.format.order x u == some Ordering.eq) && (FloatKind.f64.format.order y v == some Ordering.eq)))) w := by rfl
theorem field51 (x y : Int) (z : Bool) (p r : Nat) (w : World) : Sem.run Tryz.prog (Instr.field 51 (.agg #[.int .i64 x, .int .i64 y, .bool z, .complex .f64 p r]) 3) w = .ok (.complex .f64 p r) w := by kernel_rfl
theorem zeq51 (w : World) : Sem.run Tryz.prog (binOp .eql 51 (.agg #[.int .i64 0, .int .i64 0, .bool false, .complex .f64 0 0]) (.agg #[.int .i64 0, .int .i64 0, .bool false, .complex .f64 0 0])) w = .ok (.bool true) w := by kernel_rfl
theorem hfb_small {n : Nat} (h : n ≤ 60) : hfb n = FloatKind.f64.nearest (n : Int) := by
  unfold hfb
  rw [show min n 1048576 = n by omega]
theorem hfb_self {n : Nat} (h : n ≤ 60) : (FloatKind.f64.format.order (hfb n) (hfb n) == some Ordering.eq) = true := by
  rw [hfb_small h]
  have := order_eq (Fl.Wh.of (n : Int)) (Fl.Wh.of (n : Int)) (by omega) (by omega)
  rw [show Fl.fb (n : Int) = FloatKind.f64.nearest (n : Int) from rfl] at this
  rw [this]; simp
theorem conv_hfb {n : Nat} (h : n ≤ 60) (w : World) : Sem.run Tryz.prog (convert 3 55 (.int .i64 (n : Int))) w = .ok (.float .f64 (hfb n)) w := by
  rw [hfb_small h]
  exact run_convert_int_float w 3 55 .i64 .f64 n (by rw [Tryz.underlying3]; rfl) Tryz.underlying55
theorem told25_calls (w : World) : Calls Tryz.prog 12 #[] w fun e w' => e = .returned (.bool true) ∧ Below w.heap.size w w' :=
  calls_true (args := []) («as» := #[]) (evA_ok 100000).2 trivial told25_run w

set_option maxHeartbeats 0 in
set_option maxRecDepth 100000 in
theorem Heats_any (a : Option Addr) (n cap : Nat) (hn : n ≤ 9223372036854775807) (W : World) (b o : Nat) (P At V Wh : Nat → Int) (ha : 0 < n → a = some ⟨b, o, none⟩ ∧ b < W.heap.size)
    (hc : ∀ i, i < n → W.cell? ⟨b, o + (i * 25 + 2), none⟩ = some (.int .i64 (Wh i)) ∧ W.cell? ⟨b, o + (i * 25 + 5), none⟩ = some (.int .i64 (At i)) ∧ W.cell? ⟨b, o + (i * 25 + 8), none⟩ = some (.int .u64 (V i)) ∧ W.cell? ⟨b, o + (i * 25 + 9), none⟩ = some (.int .u64 (P i))) :
    Calls Tryz.prog 3 #[.slice a n cap] W fun e w' => e = .returned (.bool true) ∧ Below W.heap.size W w' := by
  have HB : Aside (∀ w, Calls Tryz.prog 7 #[.agg #[.int .i64 30, .int .i64 10, .int .i64 0, .int .i64 2, .int .i64 1, .int .i64 1]] w fun e w' => ∃ cb gb pb, e = .returned (.tuple #[.pointer (some ⟨pb, 0, none⟩), .bool true]) ∧
    w.heap.size ≤ pb ∧ pb < w'.heap.size ∧ w'.cell? ⟨pb, 0, none⟩ = some (.pointer (some ⟨cb, 0, none⟩)) ∧ Wm (Ah w.heap.size pb) cb gb D0 (fun _ => 0) (fun _ => 0) w' ∧ Below w.heap.size w w') := Begun_W
  have HA : Aside (0 < n → a = some ⟨b, o, none⟩ ∧ b < W.heap.size) := ha
  have HC : Aside (∀ i, i < n → W.cell? ⟨b, o + (i * 25 + 2), none⟩ = some (.int .i64 (Wh i)) ∧ W.cell? ⟨b, o + (i * 25 + 5), none⟩ = some (.int .i64 (At i)) ∧ W.cell? ⟨b, o + (i * 25 + 8), none⟩ = some (.int .u64 (V i)) ∧ W.cell? ⟨b, o + (i * 25 + 9), none⟩ = some (.int .u64 (P i))) := hc
  clear ha hc
  go_enter Tryz.func3, Tryz.ntmps3
  go_wp2_with (go_at_call 7; refine (HB.out _).mono ?_; rintro e w1 ⟨cb, gb, pb, rfl, hpb, hpb', hpc, hwm, hbl⟩)
  have HX0 : Aside (∃ w2 rb sb, w2 = ((w1.alloc (Obj.cells #[Value.int IntKind.i64 0, Value.int IntKind.i64 0, Value.int IntKind.i64 0, Value.int IntKind.i64 0] 28)).alloc (Obj.cells #[Value.int IntKind.i64 0, Value.int IntKind.i64 0, Value.int IntKind.i64 0, Value.int IntKind.i64 0] 28)) ∧
      rb = w1.heap.size ∧ sb = w1.heap.size + 1 ∧ Hx W cb gb pb rb sb [pb, rb, sb] D0 (fun _ => 0) (fun _ => 0) (fun _ => 0) (fun _ => 0) w2) := by
    refine ⟨_, _, _, rfl, rfl, rfl, ?_⟩
    have hw0 : Wm (Own W.heap.size [pb]) cb gb D0 (fun _ => 0) (fun _ => 0) w1 := hwm.anti (fun c hc => by
      rcases hc with hc | hc
      · exact .inl hc
      · simp at hc; exact .inr hc)
    have h1 := hw0.alloc (Obj.cells #[Value.int IntKind.i64 0, Value.int IntKind.i64 0, Value.int IntKind.i64 0, Value.int IntKind.i64 0] 28)
    have h2 := h1.alloc (Obj.cells #[Value.int IntKind.i64 0, Value.int IntKind.i64 0, Value.int IntKind.i64 0, Value.int IntKind.i64 0] 28)
    have hsz : (w1.alloc (Obj.cells #[Value.int IntKind.i64 0, Value.int IntKind.i64 0, Value.int IntKind.i64 0, Value.int IntKind.i64 0] 28)).heap.size = w1.heap.size + 1 := by simp
    rw [hsz] at h2
    have hold : ∀ c, c < w1.heap.size → ((w1.alloc (Obj.cells #[Value.int IntKind.i64 0, Value.int IntKind.i64 0, Value.int IntKind.i64 0, Value.int IntKind.i64 0] 28)).alloc (Obj.cells #[Value.int IntKind.i64 0, Value.int IntKind.i64 0, Value.int IntKind.i64 0, Value.int IntKind.i64 0] 28)).heap[c]? = w1.heap[c]? := fun c hc => by
      show ((w1.heap.push _).push _)[c]? = _
      rw [Array.getElem?_push, if_neg (by simp; omega), Array.getElem?_push, if_neg (by omega)]
    refine ⟨⟨hbl.os, hbl.tape, hbl.output, by have := hbl.size; simp; omega, fun c hc => by rw [hold c (by have := hbl.size; omega)]; exact hbl.block c hc⟩, ?_, ?_, ?_, h2.anti (fun c hc => ?_), by simp, fun c hc => ?_, by omega⟩
    · rw [cell_same (hold pb hpb')]; exact hpc
    · show ((w1.heap.push _).push _)[w1.heap.size]? = _
      rw [Array.getElem?_push, if_neg (by simp), Array.getElem?_push, if_pos rfl]; rfl
    · show ((w1.heap.push _).push _)[w1.heap.size + 1]? = _
      rw [Array.getElem?_push, if_pos (by simp)]; rfl
    · rcases hc with hc | hc
      · exact .inl hc
      · simp only [List.mem_cons, List.not_mem_nil, or_false] at hc
        rcases hc with rfl | rfl | rfl
        · exact .inr (by simp)
        · exact .inr (by simp)
        · exact .inr (by simp)
    · simp only [List.mem_cons, List.not_mem_nil, or_false] at hc
      have := hbl.size
      rcases hc with rfl | rfl | rfl <;> simp <;> omega
  clear hwm hbl hpc
  obtain ⟨w2, rb, sb, e1, e2, e3, HX⟩ := HX0.out
  rw [← e1, ← e3, ← e2]
  have HX : Aside (Hx W cb gb pb rb sb [pb, rb, sb] D0 (fun _ => 0) (fun _ => 0) (fun _ => 0) (fun _ => 0) w2) := HX
  clear HX0 e1 e2 e3 hpb hpb' w1
  go_loopw [7] (fun i wr => ∃ k : Nat, k ≤ 3 ∧ i = .int .u64 k ∧ Hx W cb gb pb rb sb [pb, rb, sb] (DS k) (fun _ => 0) (fun _ => 0) (fun _ => 0) (fun _ => 0) wr) (fun i _ => 3 - (RowKit.intOf i).toNat)
  case atStart => exact ⟨0, by omega, rfl, HX.out⟩
  case round =>
    obtain ⟨k, hk, rfl, HR⟩ := hrel
    have hpc := HR.pc
    have HR : Aside (Hx W cb gb pb rb sb [pb, rb, sb] (DS k) (fun _ => 0) (fun _ => 0) (fun _ => 0) (fun _ => 0) wr) := HR
    by_cases h3 : k < 3
    · go_wp2_with (go_at_call 8; refine (Donate_W h3 HR.out.lt HR.out.wm).mono ?_; rintro e w3 ⟨rfl, hw3, hk3⟩)
      have HN : Aside (Hx W cb gb pb rb sb [pb, rb, sb] (DS (k + 1)) (fun _ => 0) (fun _ => 0) (fun _ => 0) (fun _ => 0) w3) := HR.out.call hw3 hk3
      clear hw3 hk3
      go_roundw
      case rel => exact ⟨k + 1, by omega, by go_num, HN.out⟩
      case measure => simp [RowKit.intOf]; omega
    · obtain rfl : k = 3 := by omega
      have HR : Aside (Hx W cb gb pb rb sb [pb, rb, sb] (ST 0) (fun _ => 0) (fun _ => 0) (fun _ => 0) (fun _ => 0) wr) := HR.out
      clear hk h3
      go_wp2
      go_loopw [8] (fun i wr => ∃ (k j : Nat) (R S : Nat → Nat), k ≤ n ∧ k ≤ 60 ∧ j ≤ 16 ∧ i = .int .i64 k ∧ (∀ q, R q + S q ≤ k) ∧ R 3 = 0 ∧ S 3 = 0 ∧ Hx W cb gb pb rb sb [pb, rb, sb] (ST j) R S R S wr) (fun i _ => 60 - (RowKit.intOf i).toNat)
      case atStart => exact ⟨0, 0, fun _ => 0, fun _ => 0, by omega, by omega, by omega, rfl, fun q => Nat.le_refl _, rfl, rfl, HR.out⟩
      case round =>
        obtain ⟨k, j, R, S, hkn, hk60, hj, rfl, hRS, hR3, hS3, HL⟩ := hrel
        have hpc2 := HL.pc
        have HL : Aside (Hx W cb gb pb rb sb [pb, rb, sb] (ST j) R S R S wr) := HL
        have HRS : Aside ((∀ q, R q + S q ≤ k) ∧ R 3 = 0 ∧ S 3 = 0) := ⟨hRS, hR3, hS3⟩
        clear hRS hR3 hS3 hpc
        by_cases h1 : k < n ∧ k < 60
        · obtain ⟨h1, h2⟩ := h1
          obtain ⟨rfl, hbW⟩ := HA.out (by omega)
          obtain ⟨c2, c5, c8, c9⟩ := HC.out k h1
          have hbl := HL.out.bl
          have HCW : Aside (W.cell? ⟨b, o + k * 25 + 5, none⟩ = some (.int .i64 (At k)) ∧ W.cell? ⟨b, o + k * 25 + 8, none⟩ = some (.int .u64 (V k))) := ⟨by rw [Nat.add_assoc]; exact c5, by rw [Nat.add_assoc]; exact c8⟩
          rw [← hbl.cell (show (⟨b, o + (k * 25 + 2), none⟩ : Addr).block < W.heap.size from hbW)] at c2
          rw [← hbl.cell (show (⟨b, o + (k * 25 + 5), none⟩ : Addr).block < W.heap.size from hbW)] at c5
          rw [← hbl.cell (show (⟨b, o + (k * 25 + 8), none⟩ : Addr).block < W.heap.size from hbW)] at c8
          rw [← hbl.cell (show (⟨b, o + (k * 25 + 9), none⟩ : Addr).block < W.heap.size from hbW)] at c9
          rw [← Nat.add_assoc] at c2 c5 c8 c9
          have HBL : Aside (Below W.heap.size W wr) := hbl
          clear hbl
          obtain ⟨pg, hpg, hpe⟩ := maskN .u64 (.inr rfl) (P k)
          obtain ⟨wh, hwh, hwe⟩ := maskN .i64 (.inl rfl) (Wh k)
          obtain ⟨at_, hat, hae⟩ := maskN .i64 (.inl rfl) (At k)
          go_upto_region 15 with fail
          obtain ⟨wt, hwt1, hwt3, hwt⟩ : ∃ wt : Nat, 1 ≤ wt ∧ wt ≤ 3 ∧ (1 + (wh : Int) % 3) = wt := ⟨1 + wh % 3, by omega, by omega, by omega⟩
          rw [hwt]
          have HD : Aside (∀ w' l, Hx W cb gb pb rb sb l (ST j) R S R S w' →
              Calls Tryz.prog 9 #[.pointer (some ⟨cb, 0, none⟩), .int .i64 1, .int .u64 (IntKind.u64.wrap (IntKind.u64.wrap ((pg : Int) * 4096) + IntKind.u64.wrap (IntKind.u64.wrap (at_ : Int) * 8))), .int .i64 (wt : Int), .int .i64 4, .int .u64 (V k), .int .i64 0] w' fun e w'' =>
      ∃ (x n : Value) (f1 f2 f3 f4 : Int) (f5 : Bool) (p er : Nat) (j : Nat), e = .returned (.tuple #[x, .int .u64 (p : Int), .agg #[.int .i64 f1, .int .i64 f2, .int .i64 f3, .int .u64 f4, .bool f5], n, .int .i64 (er : Int)]) ∧ (pg < 3 → p = pg ∧ er = 0) ∧ (¬ pg < 3 → er ≠ 0) ∧ j ≤ 16 ∧
        Hx W cb gb pb rb sb l (ST j) (rd' pg wt R) (wr' pg wt S) R S w'' ∧ ∀ c ∈ l, w''.heap[c]? = w'.heap[c]?) := by
            intro w' l h1
            have h := Do_W hj h1.lt h1.wm hpg hwt1 hwt3 hat (V k)
            rw [show ((pg * 4096 + at_ * 8 : Nat) : Int) = IntKind.u64.wrap (IntKind.u64.wrap ((pg : Int) * 4096) + IntKind.u64.wrap (IntKind.u64.wrap (at_ : Int) * 8)) by simp only [IntKind.wrap_u64]; omega] at h
            refine h.mono ?_
            rintro e w'' ⟨x, n, f1, f2, f3, f4, f5, p, er, j', he, o1, o2, o3, o4, o5⟩
            exact ⟨x, n, f1, f2, f3, f4, f5, p, er, j', he, o1, o2, o3, h1.call o4 o5, fun c hc => o5.block c (.inr hc)⟩
          clear hwt hwh hwe c2 c9
          have hpw : ¬ pb = wr.heap.size := fun e => by have := (HL.out.ge pb HL.out.inl.1).2; omega
          have hpw' : ¬ wr.heap.size = pb := fun e => hpw e.symm
          have hbw : ¬ b = wr.heap.size := fun e => by have := HBL.out.size; omega
          have hbw' : ¬ wr.heap.size = b := fun e => hbw e.symm
          go_cut [12, 15] from 35 to 118 (fun p e wc => ∃ p5 er5 j5 : Nat, p = .int .u64 p5 ∧ e = .int .i64 er5 ∧ (pg < 3 → p5 = pg ∧ er5 = 0) ∧ (¬ pg < 3 → er5 ≠ 0) ∧ j5 ≤ 16 ∧ Hx W cb gb pb rb sb [pb, rb, sb] (ST j5) (rd' pg wt R) (wr' pg wt S) R S wc)
          case first =>
            go_region_held3 (fun w' => w'.cell? ⟨pb, 0, none⟩ = some (.pointer (some ⟨cb, 0, none⟩)) ∧ w'.cell? ⟨b, o + k * 25 + 5, none⟩ = some (.int .i64 (At k)) ∧ w'.cell? ⟨b, o + k * 25 + 8, none⟩ = some (.int .u64 (V k))) (go_keep) (first
              | (go_simp; go_at_call 9; (with_reducible refine (HD.out _ _ HL.out.drew).mono ?_); rintro e w5 ⟨x5, n5, f1, f2, f3, f4, f5, p5, er5, j5, rfl, ho1, ho2, hj5, hx5, -⟩; have HX5 : Aside (Hx W cb gb pb rb sb [pb, rb, sb] (ST j5) (rd' pg wt R) (wr' pg wt S) R S w5) := hx5; clear hx5; have q1 := HX5.out.pc; have q5 := (HX5.out.bl.cell (show (⟨b, o + k * 25 + 5, none⟩ : Addr).block < W.heap.size from hbW)).trans HCW.out.1; have q8 := (HX5.out.bl.cell (show (⟨b, o + k * 25 + 8, none⟩ : Addr).block < W.heap.size from hbW)).trans HCW.out.2)
              | ((go_simp; go_at_call 9; (with_reducible refine (HD.out _ _ ((HL.out.alloc _).drew)).mono ?_); rintro e w5 ⟨x5, n5, f1, f2, f3, f4, f5, p5, er5, j5, rfl, ho1, ho2, hj5, hx5, hsm⟩; have HX5 : Aside (Hx W cb gb pb rb sb [wr.heap.size, pb, rb, sb] (ST j5) (rd' pg wt R) (wr' pg wt S) R S w5) := hx5; clear hx5; have hfb : w5.heap[wr.heap.size]? = some (.cells #[.int .i64 0, .int .i64 0, .int .i64 0, .int .u64 0, .bool false] 46) := (hsm _ (List.mem_cons_self)).trans (by show (wr.heap.push _)[wr.heap.size]? = _; simp); clear hsm; have t0 := cell_of_block (j := 0) hfb rfl; have g0 := frozen_of_block (j := 0) hfb; have t1 := cell_of_block (j := 1) hfb rfl; have g1 := frozen_of_block (j := 1) hfb; have t2 := cell_of_block (j := 2) hfb rfl; have g2 := frozen_of_block (j := 2) hfb; have t3 := cell_of_block (j := 3) hfb rfl; have g3 := frozen_of_block (j := 3) hfb; have t4 := cell_of_block (j := 4) hfb rfl; have g4 := frozen_of_block (j := 4) hfb; have HFB := (show Aside _ from hfb); clear hfb; have q1 := HX5.out.pc; have q5 := (HX5.out.bl.cell (show (⟨b, o + k * 25 + 5, none⟩ : Addr).block < W.heap.size from hbW)).trans HCW.out.1; have q8 := (HX5.out.bl.cell (show (⟨b, o + k * 25 + 8, none⟩ : Addr).block < W.heap.size from hbW)).trans HCW.out.2)))
            all_goals (try go_wp2_with fail)
            all_goals go_meet
            · exact ⟨p5, er5, j5, rfl, rfl, ho1, ho2, hj5, (HX5.out.alloc _).less⟩
            · have hmem : wr.heap.size ∈ [wr.heap.size, pb, rb, sb] := List.mem_cons_self
              have hne : wr.heap.size ≠ pb ∧ wr.heap.size ≠ rb ∧ wr.heap.size ≠ sb := ⟨hpw', fun e => by have := (HL.out.ge rb HL.out.inl.2.1).2; omega, fun e => by have := (HL.out.ge sb HL.out.inl.2.2).2; omega⟩
              exact ⟨p5, er5, j5, rfl, rfl, ho1, ho2, hj5, (((((HX5.out.set hmem hne 0 _).set hmem hne 1 _).set hmem hne 2 _).set hmem hne 3 _).set hmem hne 4 _).less⟩
          case rest =>
            obtain ⟨p5, er5, j5, rfl, rfl, ho1, ho2, hj5, hx5⟩ := hcut
            have HX5 : Aside (Hx W cb gb pb rb sb [pb, rb, sb] (ST j5) (rd' pg wt R) (wr' pg wt S) R S wc) := hx5
            clear hx5
            have HLE : Aside ((∀ q, rd' pg wt R q + wr' pg wt S q ≤ k + 1) ∧ rd' pg wt R 3 = 0 ∧ wr' pg wt S 3 = 0) := ⟨rw_le HRS.out.1, (rw_three HRS.out.2.1 HRS.out.2.2).1, (rw_three HRS.out.2.1 HRS.out.2.2).2⟩
            have hb1 : R pg + S pg ≤ k := HRS.out.1 pg
            have r1 := HX5.out.rcell hpg
            have r2 := HX5.out.scell hpg
            have r3 := frozen_of_block (j := pg) HX5.out.rc
            have r4 := frozen_of_block (j := pg) HX5.out.sc
            clear hpc2 hpe
            by_cases hp3 : pg < 3
            · obtain ⟨rfl, rfl⟩ := ho1 hp3
              clear ho1 ho2
              by_cases hw2 : wt = 2
              · subst hw2
                go_wp2_with fail
                go_roundw
                case rel =>
                  refine ⟨k + 1, j5, _, _, by omega, by omega, hj5, by go_num, HLE.out.1, HLE.out.2.1, HLE.out.2.2, ?_⟩
                  have h := HX5.out.incS hpg (v := .int .i64 ((S p5 + 1 : Nat) : Int)) rfl
                  rw [(rw_store hp3 R S).1, (rw_store hp3 R S).2] at h ⊢
                  exact h
                case measure => simp [RowKit.intOf]; omega
              · go_wp2_with fail
                go_roundw
                case rel =>
                  refine ⟨k + 1, j5, _, _, by omega, by omega, hj5, by go_num, HLE.out.1, HLE.out.2.1, HLE.out.2.2, ?_⟩
                  have h := HX5.out.incR hpg (v := .int .i64 ((R p5 + 1 : Nat) : Int)) rfl
                  rw [(rw_read hp3 hw2 R S).1, (rw_read hp3 hw2 R S).2] at h ⊢
                  exact h
                case measure => simp [RowKit.intOf]; omega
            · have he5 := ho2 hp3
              obtain rfl : pg = 3 := by omega
              have he6 : ((er5 : Int) == 0) = false := by simp; omega
              clear ho1 ho2
              go_wp2_with fail
              go_roundw
              case rel =>
                refine ⟨k + 1, j5, _, _, by omega, by omega, hj5, by go_num, HLE.out.1, HLE.out.2.1, HLE.out.2.2, ?_⟩
                have h := HX5.out
                rw [(rw_none hp3 R S).1, (rw_none hp3 R S).2] at h ⊢
                exact h
              case measure => simp [RowKit.intOf]; omega
        · have hend : k = n ∨ (k < n ∧ k = 60) := by omega
          clear h1
          have HPW : Aside (∀ w', Hx W cb gb pb rb sb [pb, rb, sb] (ST j) R S R S w' → Calls Tryz.prog 10 #[.pointer (some ⟨cb, 0, none⟩), .int .i64 1] w' fun e w'' => e = .returned (.pointer (some ⟨gb, 0, none⟩)) ∧ Hx W cb gb pb rb sb [pb, rb, sb] (ST j) R S R S w'') := by
            intro w' h
            refine (Pages_W hj h.lt h.wm).mono ?_
            rintro e w'' ⟨he, h1, h2⟩
            exact ⟨he, h.call h1 h2⟩
          have HGW : Aside (∀ q : Nat, q < 3 → ∀ w', Hx W cb gb pb rb sb [pb, rb, sb] (ST j) R S R S w' → Calls Tryz.prog 11 #[.pointer (some ⟨gb, 0, none⟩), .int .u64 (q : Int)] w' fun e w'' => ∃ (x y : Int) (z : Bool), e = .returned (.agg #[.int .i64 x, .int .i64 y, .bool z, .complex .f64 (hfb (R q)) (hfb (S q))]) ∧ Hx W cb gb pb rb sb [pb, rb, sb] (ST j) R S R S w'') := by
            intro q hq w' h
            refine (Get_W hj h.lt h.wm hq).mono ?_
            rintro e w'' ⟨x, y, z, he, h1, h2⟩
            exact ⟨x, y, z, he, h.call h1 h2⟩
          have HGZ : Aside (∀ w', Hx W cb gb pb rb sb [pb, rb, sb] (ST j) R S R S w' → Calls Tryz.prog 11 #[.pointer (some ⟨gb, 0, none⟩), .int .u64 3] w' fun e w'' => e = .returned (.agg #[.int .i64 0, .int .i64 0, .bool false, .complex .f64 0 0]) ∧ Hx W cb gb pb rb sb [pb, rb, sb] (ST j) R S R S w'') := by
            intro w' h
            refine (GetZ_W hj h.lt h.wm).mono ?_
            rintro e w'' ⟨he, h1, h2⟩
            exact ⟨he, h.call h1 h2⟩
          have HT : Aside (∀ w', Hx W cb gb pb rb sb [pb, rb, sb] (ST j) R S R S w' → Calls Tryz.prog 12 #[] w' fun e w'' => e = .returned (.bool true) ∧ Hx W cb gb pb rb sb [pb, rb, sb] (ST j) R S R S w'') := by
            intro w' h
            refine (told25_calls w').mono ?_
            rintro e w'' ⟨he, h1⟩
            exact ⟨he, h.below h1⟩
          rcases hend with rfl | ⟨hlt, rfl⟩
          · go_wp2_with fail
            go_loopw [16] (fun i wr => ∃ q : Nat, q ≤ 3 ∧ i = .int .u64 q ∧ Hx W cb gb pb rb sb [pb, rb, sb] (ST j) R S R S wr) (fun i _ => 3 - (RowKit.intOf i).toNat)
            case atStart => exact ⟨0, by omega, rfl, HL.out⟩
            case round =>
              obtain ⟨q, hq, rfl, HQ⟩ := hrel
              have hpc3 := HQ.pc
              have HQ : Aside (Hx W cb gb pb rb sb [pb, rb, sb] (ST j) R S R S wr) := HQ
              clear hpc2
              by_cases hq3 : q < 3
              · have r1 := HQ.out.rcell (q := q) (by omega)
                have r2 := HQ.out.scell (q := q) (by omega)
                have hle := HRS.out.1 q
                have v1 : ∀ w, Sem.run Tryz.prog (convert 3 55 (.int .i64 (R q : Nat))) w = .ok (.float .f64 (hfb (R q))) w := fun w => conv_hfb (by omega) w
                have v2 : ∀ w, Sem.run Tryz.prog (convert 3 55 (.int .i64 (S q : Nat))) w = .ok (.float .f64 (hfb (S q))) w := fun w => conv_hfb (by omega) w
                have e3 : ∀ (p q : Nat) (w : World), Sem.run Tryz.prog (Builtin.complex_ #[55, 55] 49 #[.float .f64 p, .float .f64 q]) w = .ok (.complex .f64 p q) w := fun p q w => rfl
                have n1 := hfb_self (n := R q) (by omega)
                have n2 := hfb_self (n := S q) (by omega)
                have n3 := cne49
                have n4 := field51
                have hq4 : (q : Int) < 4 := by omega
                have hq0 : (0 : Int) ≤ q := by omega
                have HG : Aside (∀ w', Hx W cb gb pb rb sb [pb, rb, sb] (ST j) R S R S w' → Calls Tryz.prog 11 #[.pointer (some ⟨gb, 0, none⟩), .int .u64 (q : Int)] w' fun e w'' => ∃ (x y : Int) (z : Bool), e = .returned (.agg #[.int .i64 x, .int .i64 y, .bool z, .complex .f64 (hfb (R q)) (hfb (S q))]) ∧ Hx W cb gb pb rb sb [pb, rb, sb] (ST j) R S R S w'') := HGW.out q hq3
                clear hle
                generalize hfb (R q) = fx at *
                generalize hfb (S q) = fy at *
                go_upto_region 25 with fail
                go_region_held3 (fun w' => w'.cell? ⟨pb, 0, none⟩ = some (.pointer (some ⟨cb, 0, none⟩)) ∧ w'.cell? ⟨rb, q, none⟩ = some (.int .i64 (R q : Nat)) ∧ w'.cell? ⟨sb, q, none⟩ = some (.int .i64 (S q : Nat))) (go_keep) (first
                  | (have hfirst := H5; clear hfirst; go_simp; go_at_call 11; (with_reducible refine (HG.out _ H5.out).mono ?_); rintro e w6 ⟨x6, y6, z6, rfl, h6⟩; have H6 : Aside (Hx W cb gb pb rb sb [pb, rb, sb] (ST j) R S R S w6) := h6; have s1 := h6.pc; have s2 := h6.rcell (q := q) (by omega); have s3 := h6.scell (q := q) (by omega); clear h6)
                  | ((go_simp; go_at_call 10; (with_reducible refine (HPW.out _ HQ.out.drew).mono ?_); rintro e w5 ⟨rfl, h5⟩; have H5 : Aside (Hx W cb gb pb rb sb [pb, rb, sb] (ST j) R S R S w5) := h5; have t1 := h5.pc; have t2 := h5.rcell (q := q) (by omega); have t3 := h5.scell (q := q) (by omega); clear h5)))
                all_goals go_wp2_with fail
                all_goals go_roundw
                all_goals try (case rel => exact ⟨q + 1, by omega, by go_num, H6.out⟩)
                all_goals try (case measure => simp [RowKit.intOf]; omega)
              · obtain rfl : q = 3 := by omega
                have z1 := zeq51
                go_wp2_with (first
                  | (have hfirst := HB2; clear hfirst; go_at_call 11; (with_reducible refine (HGZ.out _ HB2.out).mono ?_); rintro e w6 ⟨rfl, h6⟩; have HB3 : Aside (Hx W cb gb pb rb sb [pb, rb, sb] (ST j) R S R S w6) := h6; clear h6)
                  | (have hfirst := HB1; clear hfirst; go_at_call 10; (with_reducible refine (HPW.out _ HB1.out).mono ?_); rintro e w5 ⟨rfl, h5⟩; have HB2 : Aside (Hx W cb gb pb rb sb [pb, rb, sb] (ST j) R S R S w5) := h5; clear h5)
                  | (go_at_call 12; (with_reducible refine (HT.out _ HQ.out).mono ?_); rintro e w4 ⟨rfl, h4⟩; have HB1 : Aside (Hx W cb gb pb rb sb [pb, rb, sb] (ST j) R S R S w4) := h4; have hpc4 := h4.pc; clear h4))
                go_ret
                exact ⟨rfl, HB3.out.bl⟩
          · go_wp2_with fail
            go_loopw [16] (fun i wr => ∃ q : Nat, q ≤ 3 ∧ i = .int .u64 q ∧ Hx W cb gb pb rb sb [pb, rb, sb] (ST j) R S R S wr) (fun i _ => 3 - (RowKit.intOf i).toNat)
            case atStart => exact ⟨0, by omega, rfl, HL.out⟩
            case round =>
              obtain ⟨q, hq, rfl, HQ⟩ := hrel
              have hpc3 := HQ.pc
              have HQ : Aside (Hx W cb gb pb rb sb [pb, rb, sb] (ST j) R S R S wr) := HQ
              clear hpc2
              by_cases hq3 : q < 3
              · have r1 := HQ.out.rcell (q := q) (by omega)
                have r2 := HQ.out.scell (q := q) (by omega)
                have hle := HRS.out.1 q
                have v1 : ∀ w, Sem.run Tryz.prog (convert 3 55 (.int .i64 (R q : Nat))) w = .ok (.float .f64 (hfb (R q))) w := fun w => conv_hfb (by omega) w
                have v2 : ∀ w, Sem.run Tryz.prog (convert 3 55 (.int .i64 (S q : Nat))) w = .ok (.float .f64 (hfb (S q))) w := fun w => conv_hfb (by omega) w
                have e3 : ∀ (p q : Nat) (w : World), Sem.run Tryz.prog (Builtin.complex_ #[55, 55] 49 #[.float .f64 p, .float .f64 q]) w = .ok (.complex .f64 p q) w := fun p q w => rfl
                have n1 := hfb_self (n := R q) (by omega)
                have n2 := hfb_self (n := S q) (by omega)
                have n3 := cne49
                have n4 := field51
                have hq4 : (q : Int) < 4 := by omega
                have hq0 : (0 : Int) ≤ q := by omega
                have HG : Aside (∀ w', Hx W cb gb pb rb sb [pb, rb, sb] (ST j) R S R S w' → Calls Tryz.prog 11 #[.pointer (some ⟨gb, 0, none⟩), .int .u64 (q : Int)] w' fun e w'' => ∃ (x y : Int) (z : Bool), e = .returned (.agg #[.int .i64 x, .int .i64 y, .bool z, .complex .f64 (hfb (R q)) (hfb (S q))]) ∧ Hx W cb gb pb rb sb [pb, rb, sb] (ST j) R S R S w'') := HGW.out q hq3
                clear hle
                generalize hfb (R q) = fx at *
                generalize hfb (S q) = fy at *
                go_upto_region 25 with fail
                go_region_held3 (fun w' => w'.cell? ⟨pb, 0, none⟩ = some (.pointer (some ⟨cb, 0, none⟩)) ∧ w'.cell? ⟨rb, q, none⟩ = some (.int .i64 (R q : Nat)) ∧ w'.cell? ⟨sb, q, none⟩ = some (.int .i64 (S q : Nat))) (go_keep) (first
                  | (have hfirst := H5; clear hfirst; go_simp; go_at_call 11; (with_reducible refine (HG.out _ H5.out).mono ?_); rintro e w6 ⟨x6, y6, z6, rfl, h6⟩; have H6 : Aside (Hx W cb gb pb rb sb [pb, rb, sb] (ST j) R S R S w6) := h6; have s1 := h6.pc; have s2 := h6.rcell (q := q) (by omega); have s3 := h6.scell (q := q) (by omega); clear h6)
                  | ((go_simp; go_at_call 10; (with_reducible refine (HPW.out _ HQ.out.drew).mono ?_); rintro e w5 ⟨rfl, h5⟩; have H5 : Aside (Hx W cb gb pb rb sb [pb, rb, sb] (ST j) R S R S w5) := h5; have t1 := h5.pc; have t2 := h5.rcell (q := q) (by omega); have t3 := h5.scell (q := q) (by omega); clear h5)))
                all_goals go_wp2_with fail
                all_goals go_roundw
                all_goals try (case rel => exact ⟨q + 1, by omega, by go_num, H6.out⟩)
                all_goals try (case measure => simp [RowKit.intOf]; omega)
              · obtain rfl : q = 3 := by omega
                have z1 := zeq51
                go_wp2_with (first
                  | (have hfirst := HB2; clear hfirst; go_at_call 11; (with_reducible refine (HGZ.out _ HB2.out).mono ?_); rintro e w6 ⟨rfl, h6⟩; have HB3 : Aside (Hx W cb gb pb rb sb [pb, rb, sb] (ST j) R S R S w6) := h6; clear h6)
                  | (have hfirst := HB1; clear hfirst; go_at_call 10; (with_reducible refine (HPW.out _ HB1.out).mono ?_); rintro e w5 ⟨rfl, h5⟩; have HB2 : Aside (Hx W cb gb pb rb sb [pb, rb, sb] (ST j) R S R S w5) := h5; clear h5)
                  | (go_at_call 12; (with_reducible refine (HT.out _ HQ.out).mono ?_); rintro e w4 ⟨rfl, h4⟩; have HB1 : Aside (Hx W cb gb pb rb sb [pb, rb, sb] (ST j) R S R S w4) := h4; have hpc4 := h4.pc; clear h4))
                go_ret
                exact ⟨rfl, HB3.out.bl⟩
end Go.Proofs.YtafkkicnfngpoaaGreat
