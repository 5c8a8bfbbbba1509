/- ImageCodes: the walk. -/
import Derived.Test.YtdlnipimljpmgaaIK6
import Derived.Test.YtdlnipimljpmgaaIW18
set_option linter.unusedVariables false
set_option linter.unusedSimpArgs false
set_option linter.unusedSectionVars false
set_option linter.unnecessarySimpa false
namespace Go.Proofs.Ytdlnipimljpmgaa
open Go Go.RowKit Go.Im Go.Lib Go.Fl

/-- Two operations under names. -/
abbrev conv81a : Oper := { dst := some 55, op := Op.convert 32 9 (Operand.tmp 54), type := 9, pos := "law.go:81", after := #[{ on := 0, ground := Ground.data }], guard := none }
abbrev conv81b : Oper := { dst := some 57, op := Op.convert 32 9 (Operand.tmp 56), type := 9, pos := "law.go:81", after := #[{ on := 2, ground := Ground.data }], guard := none }

set_option maxRecDepth 100000 in
set_option maxHeartbeats 4000000 in
theorem Codes_any (on : Bool) (root asid : Int) (x : Option Addr) (n c B : Nat) (l : List Ln) (w : World) (hBw : B ≤ w.heap.size) (hr : 0 ≤ root ∧ root < 18446744073709551616) (hx : Lns B w (.slice x n c) l) :
    Calls Try.prog 3 #[.bool on, .int .u64 root, .int .i64 asid, .slice x n c] w fun e w' => e = .returned (.bool true) ∧ Below w.heap.size w w' := by
  have HX : Aside (Lns B w (.slice x n c) l) := hx
  have HT : Aside (∀ w, Calls Try.prog 17 #[] w fun e w' => e = .returned (.bool true) ∧ Below w.heap.size w w') := told_calls
  clear hx
  go_enter Try.func3, Try.ntmps3
  go_wp2_with fail
  go_loopw [9] (fun i wr => ∃ j : Nat, j ≤ 2 ∧ i = .int .i64 j ∧ Below w.heap.size w wr)
    (fun i _ => 2 - (RowKit.intOf i).toNat)
  case atStart => exact ⟨0, by omega, rfl, Below.refl _ _⟩
  case round =>
    obtain ⟨j, hj, rfl, hbl⟩ := hrel
    have HBW : Aside (Below w.heap.size w wr) := hbl
    by_cases hlt : j < 2
    · have hji : (j : Int) < 2 := by omega
      have HXR : Aside (Lns B wr (.slice x n c) l) := by
        obtain ⟨a, cap, he, h3⟩ := HX.out
        refine ⟨a, cap, he, ?_⟩
        rcases h3 with h3 | ⟨b, off, hb, hlt, hh⟩
        · exact .inl h3
        · refine .inr ⟨b, off, hb, hlt, fun i s hi => ?_⟩
          obtain ⟨h1, h2, h3, h4, f, g, hc, h5, h6⟩ := hh i s hi
          exact ⟨h1, h2, h3, h4, f, g, fun q hq => by rw [(hbl.mono hBw).cell (by exact hlt)]; exact hc q hq, h5.below (hbl.mono hBw), h6.below (hbl.mono hBw)⟩
      obtain ⟨right, hrt⟩ : ∃ r : Bool, decide ((j : Int) = 1) = r := ⟨_, rfl⟩
      have hrt2 : ((j : Int) == 1) = right := hrt
      have HBZ : Aside (B ≤ wr.heap.size) := Nat.le_trans hBw hbl.size
      clear hbl
      go_wp2_with fail
      refine (Made_any right on root asid x n c B l wr HBZ.out hr HXR.out).mono ?_
      rintro e w1 ⟨rt, asd, ls, fa, fb, v1, v2, rfl, hhdr, ⟨last, hmo⟩, hl12, hsa, hsb, hb1⟩
      have HMO : Aside (∀ f ∈ ls, (0 ≤ f.page ∧ f.page < 18446744073709551616) ∧ Byte f.bytes ∧ 0 < f.bytes.length ∧ f.bytes.length ≤ 4096) := hmo.all
      have HLA : Aside (LeavesF w1.heap.size w1 v1 ls fa) := hsa.leaves.1
      have HLB : Aside (LeavesF w1.heap.size w1 v2 ls fb) := hsb.leaves.1
      have HB1 : Aside (Below wr.heap.size wr w1) := hb1
      have HL12 : Aside (ls.length ≤ 12) := hl12
      have hca := hsa.leaves.2
      have hcb := hsb.leaves.2
      have hrtt := hhdr.1
      obtain ⟨va, vc, rfl, -⟩ := HLA.out.shape
      obtain ⟨vb, vd, rfl, -⟩ := HLB.out.shape
      obtain ⟨E, x1, x2, hboth⟩ := both_of on hrtt hl12 HLA.out HLB.out hca hcb HMO.out
      obtain ⟨ck, hck⟩ : ∃ ck, chk ⟨on, rt, asd, ls⟩ = ck := ⟨_, rfl⟩
      rw [hck] at hboth
      have HBO : Aside (Both w1 on rt asd va vc vb vd ls ck E x1 x2) := hboth
      clear hhdr hmo hl12 hsa hsb hb1 hca hcb hrtt hboth hck
      go_upto_region 5 with fail
      have HBA : Aside (Box ((w1.alloc (.cells #[.bool on, .int .u64 rt, .int .i64 asd, .slice va ls.length vc] 26)).alloc (.cells #[.bool on, .int .u64 rt, .int .i64 asd, .slice vb ls.length vd] 29)) w1.heap.size (.bool on) (.int .u64 rt) (.int .i64 asd) (.slice va ls.length vc)) := Box.new.all (below_alloc _ _)
      have HBB : Aside (Box ((w1.alloc (.cells #[.bool on, .int .u64 rt, .int .i64 asd, .slice va ls.length vc] 26)).alloc (.cells #[.bool on, .int .u64 rt, .int .i64 asd, .slice vb ls.length vd] 29)) (w1.heap.size + 1) (.bool on) (.int .u64 rt) (.int .i64 asd) (.slice vb ls.length vd)) := Box.new1
      have HB2 : Aside (Below w1.heap.size w1 ((w1.alloc (.cells #[.bool on, .int .u64 rt, .int .i64 asd, .slice va ls.length vc] 26)).alloc (.cells #[.bool on, .int .u64 rt, .int .i64 asd, .slice vb ls.length vd] 29))) := ((Below.refl _ _).alloc (Nat.le_refl _) _).alloc (by simp) _
      generalize (w1.alloc (.cells #[.bool on, .int .u64 rt, .int .i64 asd, .slice va ls.length vc] 26)).alloc (.cells #[.bool on, .int .u64 rt, .int .i64 asd, .slice vb ls.length vd] 29) = w2 at *
      obtain ⟨-, a0, a1, a2, a3⟩ := HBA.out
      go_wp2_with fail
      refine (HBO.out.enc _ HB2.out).mono ?_
      rintro e w3 ⟨hb3, xa, xn, xc, rfl, hcv3⟩
      have HCV3 : Aside (∀ w2, Below w3.heap.size w3 w2 → Sem.run Try.prog (convert 32 9 (.slice xa xn xc)) w2 = .ok (.string (strOfNums E)) w2) := hcv3
      have HBA3 : Aside (Box w3 w1.heap.size (.bool on) (.int .u64 rt) (.int .i64 asd) (.slice va ls.length vc)) := HBA.out.all hb3
      have HBB3 : Aside (Box w3 (w1.heap.size + 1) (.bool on) (.int .u64 rt) (.int .i64 asd) (.slice vb ls.length vd)) := HBB.out.all hb3
      have HB3 : Aside (Below w1.heap.size w1 w3) := HB2.out.trans (hb3.mono HB2.out.size)
      clear hb3 hcv3 a0 a1 a2 a3
      obtain ⟨-, b0, b1, b2, b3⟩ := HBB3.out
      go_wp2_with fail
      refine (HBO.out.ren _ HB3.out).mono ?_
      rintro e w4 ⟨hb4, ya, yn, yc, rfl, hcv4⟩
      have HCV4 : Aside (∀ w2, Below w4.heap.size w4 w2 → Sem.run Try.prog (convert 32 9 (.slice ya yn yc)) w2 = .ok (.string (strOfNums E)) w2) := hcv4
      have HBA4 : Aside (Box w4 w1.heap.size (.bool on) (.int .u64 rt) (.int .i64 asd) (.slice va ls.length vc)) := HBA3.out.all hb4
      have HBB4 : Aside (Box w4 (w1.heap.size + 1) (.bool on) (.int .u64 rt) (.int .i64 asd) (.slice vb ls.length vd)) := HBB3.out.all hb4
      have HB4 : Aside (Below w1.heap.size w1 w4) := HB3.out.trans (hb4.mono HB3.out.size)
      have HB34 : Aside (Below w3.heap.size w3 w4) := hb4
      clear hb4 hcv4 b0 b1 b2 b3
      obtain ⟨-, a0, a1, a2, a3⟩ := HBA4.out
      go_wp2_with fail
      refine (HBO.out.sum _ HB4.out).mono ?_
      rintro e w5 ⟨rfl, hb5⟩
      have HBA5 : Aside (Box w5 w1.heap.size (.bool on) (.int .u64 rt) (.int .i64 asd) (.slice va ls.length vc)) := HBA4.out.all hb5
      have HBB5 : Aside (Box w5 (w1.heap.size + 1) (.bool on) (.int .u64 rt) (.int .i64 asd) (.slice vb ls.length vd)) := HBB4.out.all hb5
      have HB5 : Aside (Below w1.heap.size w1 w5) := HB4.out.trans (hb5.mono HB4.out.size)
      have HB35 : Aside (Below w3.heap.size w3 w5) := HB34.out.trans (hb5.mono HB34.out.size)
      have HB45 : Aside (Below w4.heap.size w4 w5) := hb5
      clear hb5 a0 a1 a2 a3
      obtain ⟨-, b0, b1, b2, b3⟩ := HBB5.out
      go_wp2_with fail
      refine (HBO.out.rsu _ HB5.out).mono ?_
      rintro e w6 ⟨rfl, hb6⟩
      have HBA6 : Aside (Box w6 w1.heap.size (.bool on) (.int .u64 rt) (.int .i64 asd) (.slice va ls.length vc)) := HBA5.out.all hb6
      have HBB6 : Aside (Box w6 (w1.heap.size + 1) (.bool on) (.int .u64 rt) (.int .i64 asd) (.slice vb ls.length vd)) := HBB5.out.all hb6
      have HB6 : Aside (Below w1.heap.size w1 w6) := HB5.out.trans (hb6.mono HB5.out.size)
      have hc1 : Sem.run Try.prog (convert 32 9 (.slice xa xn xc)) w6.drew = .ok (.string (strOfNums E)) w6.drew := HCV3.out _ (HB35.out.trans (hb6.mono HB35.out.size)).drew
      have hc2 : Sem.run Try.prog (convert 32 9 (.slice ya yn yc)) w6.drew = .ok (.string (strOfNums E)) w6.drew := HCV4.out _ (HB45.out.trans (hb6.mono HB45.out.size)).drew
      clear hb6 b0 b1 b2 b3 HBA HBB HBA3 HBB3 HBA4 HBB4 HBA5 HBB5
      obtain ⟨-, a0, a1, a2, a3⟩ := HBA6.out
      obtain ⟨hlb, b0, b1, b2, b3⟩ := HBB6.out
      have HNQ := HBO.out.neq
      have hst : ((strOfNums E).toList == (strOfNums E).toList) = true := beq_self_eq_true _
      have hls : decide (ls = ls) = true := decide_eq_true rfl
      have HLM : Aside (∀ f ∈ ls, 0 < f.bytes.length ∧ Byte f.bytes) := fun f hf => ⟨(HMO.out f hf).2.2.1, (HMO.out f hf).2.1⟩
      go_upto_region 9 with fail
      go_cut [92] from 20 to 92 (fun v wx => v = .bool false ∧ Below w6.heap.size w6 wx)
      case first =>
        have HX6 : Aside (Box w6 w1.heap.size (.bool on) (.int .u64 rt) (.int .i64 asd) (.slice va ls.length vc) ∧ Box w6 (w1.heap.size + 1) (.bool on) (.int .u64 rt) (.int .i64 asd) (.slice vb ls.length vd)) := ⟨HBA6.out, HBB6.out⟩
        rw [show ({ dst := some 55, op := Op.convert 32 9 (Operand.tmp 54), type := 9, pos := "law.go:81", after := #[{ on := 0, ground := Ground.data }], guard := none } : Oper) = conv81a from rfl]
        rw [show ({ dst := some 57, op := Op.convert 32 9 (Operand.tmp 56), type := 9, pos := "law.go:81", after := #[{ on := 2, ground := Ground.data }], guard := none } : Oper) = conv81b from rfl]
        go_region_held3 (fun w' => (w'.cell? ⟨w1.heap.size, 0, none⟩ = some (.bool on) ∧ w'.cell? ⟨w1.heap.size, 1, none⟩ = some (.int .u64 rt) ∧ w'.cell? ⟨w1.heap.size, 2, none⟩ = some (.int .i64 asd) ∧ w'.cell? ⟨w1.heap.size, 3, none⟩ = some (.slice va ls.length vc)) ∧
            w'.cell? ⟨w1.heap.size + 1, 0, none⟩ = some (.bool on) ∧ w'.cell? ⟨w1.heap.size + 1, 1, none⟩ = some (.int .u64 rt) ∧ w'.cell? ⟨w1.heap.size + 1, 2, none⟩ = some (.int .i64 asd) ∧ w'.cell? ⟨w1.heap.size + 1, 3, none⟩ = some (.slice vb ls.length vd)) (go_keep) (first
          | (go_simp; go_at_call 12; (with_reducible refine (HBO.out.cln _).mono ?_); rintro e w' ⟨rfl, hww⟩; replace hww := hww.symm; subst hww)
          | (go_simp; go_at_call 13; refine (HBO.out.chk w6.drew HB6.out.drew).mono ?_; rintro e w7 ⟨rfl, hb7⟩; have HB7' : Below w6.heap.size w6 w7 := ⟨hb7.os, hb7.tape, hb7.output, hb7.size, hb7.block⟩; have HB7 : Aside (Below w6.heap.size w6 w7 ∧ Box w7 w1.heap.size (.bool on) (.int .u64 rt) (.int .i64 asd) (.slice va ls.length vc) ∧ Box w7 (w1.heap.size + 1) (.bool on) (.int .u64 rt) (.int .i64 asd) (.slice vb ls.length vd)) := ⟨HB7', HX6.out.1.all HB7', HX6.out.2.all HB7'⟩; obtain ⟨-, t0, t1, t2, t3⟩ := HB7.out.2.1; obtain ⟨-, m0, m1, m2, m3⟩ := HB7.out.2.2; clear hb7 HB7')
          | (go_simp; go_at_call 14; refine (HBO.out.rck w7 (HB6.out.trans (HB7.out.1.mono HB6.out.size))).mono ?_; rintro e w8 ⟨rfl, hb8⟩; have HB8 : Aside (Below w6.heap.size w6 w8 ∧ Box w8 w1.heap.size (.bool on) (.int .u64 rt) (.int .i64 asd) (.slice va ls.length vc) ∧ Box w8 (w1.heap.size + 1) (.bool on) (.int .u64 rt) (.int .i64 asd) (.slice vb ls.length vd)) := ⟨HB7.out.1.trans (hb8.mono HB7.out.1.size), HB7.out.2.1.all hb8, HB7.out.2.2.all hb8⟩; obtain ⟨-, s0, s1, s2, s3⟩ := HB8.out.2.1; obtain ⟨-, n0, n1, n2, n3⟩ := HB8.out.2.2; clear hb8)
          | (go_simp; go_at_call 16; refine (of_callsE on rt asd ls (B := w1.heap.size) (w := w8) (by have := HL12.out; omega) (HB6.out.trans (HB8.out.1.mono HB6.out.size)).size (HLA.out.below (HB6.out.trans (HB8.out.1.mono HB6.out.size)))).mono ?_; rintro e w9 ⟨v9, v9c, rfl, hb9, hl9⟩; have HL9 : Aside (LeavesF w9.heap.size w9 (.slice v9 ls.length v9c) ls fa ∧ Below w6.heap.size w6 w9 ∧ Box w9 w1.heap.size (.bool on) (.int .u64 rt) (.int .i64 asd) (.slice va ls.length vc) ∧ Box w9 (w1.heap.size + 1) (.bool on) (.int .u64 rt) (.int .i64 asd) (.slice vb ls.length vd)) := ⟨hl9, HB8.out.1.trans (hb9.mono HB8.out.1.size), HB8.out.2.1.all hb9, HB8.out.2.2.all hb9⟩; obtain ⟨-, c0, c1, c2, c3⟩ := HL9.out.2.2.1; obtain ⟨-, d0, d1, d2, d3⟩ := HL9.out.2.2.2; clear hb9 hl9)
          | (go_loud (go_simp; go_at_call 15; refine (Same_loop2 on on rt rt asd asd v9 vb ls.length v9c vd w9.heap.size ls ls fa fb w9 rfl rfl (by have := HL12.out; omega) (Nat.le_refl _) rfl rfl rfl HL9.out.1 (Box.lv HLB.out (HB6.out.trans (HL9.out.2.1.mono HB6.out.size))) HLM.out HLM.out).mono ?_; rintro e w10 ⟨rfl, hb10⟩; have HB10 : Aside (Below w6.heap.size w6 w10) := HL9.out.2.1.trans (hb10.mono HL9.out.2.1.size); obtain ⟨-, k0, k1, k2, k3⟩ := HL9.out.2.2.1.all hb10; obtain ⟨-, j0, j1, j2, j3⟩ := HL9.out.2.2.2.all hb10; clear hb10)))
        all_goals (try go_wp2_with fail)
        all_goals go_meet
        all_goals exact ⟨rfl, HB10.out⟩
      case rest =>
        obtain ⟨rfl, hbx⟩ := hcut
        have HBX : Aside (Below w.heap.size w wc) := (HBW.out.trans ((HB1.out.trans (HB6.out.mono HB1.out.size)).mono HBW.out.size)).trans (hbx.mono (Nat.le_trans HBW.out.size (Nat.le_trans HB1.out.size HB6.out.size)))
        clear hbx a0 a1 a2 a3 b0 b1 b2 b3 hc1 hc2
        go_wp2_with fail
        go_roundw
        case rel => exact ⟨j + 1, by omega, by go_num, HBX.out⟩
        case measure => simp [RowKit.intOf]; omega
    · have hji : ¬ (j : Int) < 2 := by omega
      go_wp2_with fail
      refine (HT.out _).mono ?_
      rintro e w10 ⟨rfl, hb10⟩
      go_wp2_with fail
      go_ret
      exact ⟨rfl, HBW.out.trans (hb10.mono HBW.out.size)⟩
end Go.Proofs.Ytdlnipimljpmgaa
