/- image.Sum. -/
import Derived.Test.YtdlnipimljpmgaaIF4
import Derived.Test.YtdlnipimljpmgaaIW7
set_option linter.unusedVariables false
set_option linter.unusedSimpArgs false
set_option linter.unusedSectionVars false
set_option linter.unnecessarySimpa false
namespace Go.Proofs.Ytdlnipimljpmgaa
open Go Go.RowKit Go.Im Go.Lib Go.Fl

def lfRe (f : Lf) : Int := rotRe (f.page.toNat % 4) (dg f.bytes 512).1 (dg f.bytes 512).2
def lfIm (f : Lf) : Int := rotIm (f.page.toNat % 4) (dg f.bytes 512).1 (dg f.bytes 512).2
def smRe : List Lf → Int
  | [] => 0
  | f :: l => lfRe f + smRe l
def smIm : List Lf → Int
  | [] => 0
  | f :: l => lfIm f + smIm l

theorem smRe_append : ∀ (l : List Lf) (f : Lf), smRe (l ++ [f]) = smRe l + lfRe f
  | [], f => by simp [smRe]
  | g :: l, f => by simp only [List.cons_append, smRe, smRe_append l f]; omega
theorem smIm_append : ∀ (l : List Lf) (f : Lf), smIm (l ++ [f]) = smIm l + lfIm f
  | [], f => by simp [smIm]
  | g :: l, f => by simp only [List.cons_append, smIm, smIm_append l f]; omega

theorem lf_le {f : Lf} (h : Byte f.bytes) : (lfRe f).natAbs ≤ 2199023255552 ∧ (lfIm f).natAbs ≤ 2199023255552 := by
  have h1 := dg_le h 512
  exact rot_le (by omega) (by omega)

theorem sm_le : ∀ (l : List Lf), (∀ f ∈ l, Byte f.bytes) → (smRe l).natAbs ≤ l.length * 2199023255552 ∧ (smIm l).natAbs ≤ l.length * 2199023255552
  | [], _ => by simp [smRe, smIm]
  | f :: l, h => by
    have h1 := lf_le (h f (by simp))
    have h2 := sm_le l (fun g hg => h g (by simp [hg]))
    simp only [smRe, smIm, List.length_cons]
    omega

set_option maxRecDepth 100000 in
set_option maxHeartbeats 4000000 in
theorem Sum_any (on : Bool) (root asid : Int) (x : Option Addr) (n c B : Nat) (l : List Lf) (fs : List Value) (w : World) (hn : l.length = n) (hbig : n ≤ 1024) (hBw : B ≤ w.heap.size) (hr0 : 0 ≤ root)
    (hx : LeavesF B w (.slice x n c) l fs) (hl0 : ∀ f ∈ l, 0 ≤ f.page ∧ f.page < 1000000000) (hlen : ∀ f ∈ l, f.bytes.length = 4096 ∧ Byte f.bytes) (hck : chk ⟨on, root, asid, l⟩ = 0) :
    Calls Try.prog 10 #[.agg #[.bool on, .int .u64 root, .int .i64 asid, .slice x n c]] w fun e w' => e = .returned (.tuple #[.complex .f64 (fb (smRe l)) (fb (smIm l)), .int .i64 0]) ∧ Below w.heap.size w w' := by
  have HX : Aside (LeavesF B w (.slice x n c) l fs) := hx
  have HL0 : Aside (∀ f ∈ l, 0 ≤ f.page ∧ f.page < 1000000000) := hl0
  have HLN : Aside (∀ f ∈ l, f.bytes.length = 4096 ∧ Byte f.bytes) := hlen
  have HNL : Aside (l.length = n) := hn
  have HC : Aside (∀ w1, Below w.heap.size w w1 → Calls Try.prog 13 #[.agg #[.bool on, .int .u64 root, .int .i64 asid, .slice x n c]] w1 fun e w' => e = .returned (.int .i64 0) ∧ Below w1.heap.size w1 w') := fun w1 h1 => by
    have := Check_any on root asid x n c B l fs w1 hn (by omega) (Nat.le_trans hBw h1.size) hr0 (hx.below (h1.mono hBw)) (fun f hf => by rw [(hlen f hf).1]; omega)
    rw [hck] at this
    exact this
  clear hx hl0 hlen hck hn
  go_enter Try.func10, Try.ntmps10
  go_wp2_with fail
  refine (HC.out _ ((Below.refl _ _).alloc (Nat.le_refl _) _)).mono ?_
  rintro e w1 ⟨rfl, hw1⟩
  have q3 : w1.cell? ⟨w.heap.size, 3, none⟩ = some (.slice x n c) := by rw [hw1.cell (by simp)]; exact cell_new0 () rfl
  have HB1 : Aside (Below w.heap.size w w1) := ((Below.refl _ _).alloc (Nat.le_refl _) _).trans (hw1.mono (by simp))
  clear hw1
  go_wp2_with fail
  go_loopw [5, 18] (fun z i wr => ∃ k : Nat, k ≤ n ∧ i = .int .i64 k ∧ z = .complex .f64 (fb (smRe (l.take k))) (fb (smIm (l.take k))) ∧ Below w1.heap.size w1 wr)
    (fun _ i _ => n - (RowKit.intOf i).toNat)
  case atStart => exact ⟨0, Nat.zero_le _, rfl, by simp [smRe, smIm, fb_zero], Below.refl _ _⟩
  case round =>
    obtain ⟨k, hk, rfl, rfl, hbl⟩ := hrel
    have HB6 : Aside (Below w1.heap.size w1 wr) := hbl
    have HBW : Aside (Below w.heap.size w wr) := HB1.out.trans (hbl.mono HB1.out.size)
    clear hbl
    by_cases hlt : k < n
    · obtain ⟨b, o, f, fa, fc, rfl, hB, hs, hat, hbs, hf⟩ := LeavesF.at2 HX.out HNL.out (HBW.out.mono hBw) hlt
      obtain ⟨c0, c1, c2, c3⟩ := hat
      have hi : (k : Int) < (n : Int) := by omega
      have hfl := HLN.out f (List.mem_of_getElem? hs)
      have hpg := HL0.out f (List.mem_of_getElem? hs)
      rw [hfl.1] at hbs c3
      obtain ⟨pn, hpn⟩ : ∃ pn : Nat, f.page = pn := ⟨f.page.toNat, by omega⟩
      have hwp : IntKind.i64.wrap f.page = f.page := by rw [IntKind.wrap_i64]; omega
      have HD : Aside (∀ w2, Below wr.heap.size wr w2 → Calls Try.prog 30 #[.slice fa 4096 fc] w2 fun e w' => e = .returned (.tuple #[.complex .f64 (fb (dg f.bytes 512).1) (fb (dg f.bytes 512).2), .int .i64 0]) ∧ w' = w2) :=
        fun w2 h2 => Dig_any fa fc B f.bytes w2 hfl.1 hfl.2 (hbs.below (h2.mono (Nat.le_trans hBw HBW.out.size))) (Nat.le_trans hBw (Nat.le_trans HBW.out.size h2.size))
      have hdg := dg_le hfl.2 512
      have HT : Aside (∀ w, Calls Try.prog 21 #[.complex .f64 (fb (dg f.bytes 512).1) (fb (dg f.bytes 512).2), .int .i64 f.page] w fun e w' => e = .returned (.complex .f64 (fb (lfRe f)) (fb (lfIm f))) ∧ w' = w) := fun w => by
        have h := Turn_calls (Wh.of (dg f.bytes 512).1) (Wh.of (dg f.bytes 512).2) (by omega) (by omega) f.page (f.page.toNat % 4) (by omega) (by rw [hpn]; exact and3_mod pn (by omega)) w
        exact h
      have hle := lf_le hfl.2
      have hsm := sm_le (l.take k) (fun g hg => (HLN.out g (List.mem_of_mem_take hg)).2)
      rw [List.length_take, HNL.out, Nat.min_eq_left hk] at hsm
      have HSN : Aside (smRe (l.take k) + lfRe f = smRe (l.take (k + 1)) ∧ smIm (l.take k) + lfIm f = smIm (l.take (k + 1))) := by
        show _ ∧ _
        rw [List.take_add_one, hs]
        simp only [Option.toList_some]
        rw [smRe_append, smIm_append]
        exact ⟨rfl, rfl⟩
      have HA : Aside (∀ w, Calls Try.prog 22 #[.complex .f64 (fb (smRe (l.take k))) (fb (smIm (l.take k))), .complex .f64 (fb (lfRe f)) (fb (lfIm f))] w fun e w' => e = .returned (.tuple #[.complex .f64 (fb (smRe (l.take (k + 1)))) (fb (smIm (l.take (k + 1)))), .int .i64 0]) ∧ w' = w) := fun w => by
        have h := Add_calls (Wh.of (smRe (l.take k))) (Wh.of (smIm (l.take k))) (Wh.of (lfRe f)) (Wh.of (lfIm f)) (by omega) (by omega) (by omega) (by omega) (by omega) (by omega) w
        rw [HSN.out.1, HSN.out.2] at h
        exact h
      clear hs hbs hf hfl hpg hdg hle hsm hpn HSN
      go_wp2_with fail
      refine (HD.out _ ((Below.refl _ _).alloc (Nat.le_refl _) _)).mono ?_
      rintro e w5 ⟨rfl, rfl⟩
      go_wp2_with fail
      refine (HT.out _).mono ?_
      rintro e w5 ⟨rfl, rfl⟩
      go_wp2_with fail
      refine (HA.out _).mono ?_
      rintro e w5 ⟨rfl, rfl⟩
      go_wp2_with fail
      go_roundw
      case rel => exact ⟨k + 1, by omega, by go_num, rfl, HB6.out.alloc HB6.out.size _⟩
      case measure => simp [RowKit.intOf]; omega
    · have hkn : k = n := by omega
      have HE : Aside (l.take k = l) := by show _ = _; rw [hkn, ← HNL.out, List.take_length]
      rw [HE.out]
      go_wp2_with fail
      refine bodyPost_ret (v := .tuple #[.complex .f64 (fb (smRe l)) (fb (smIm l)), .int .i64 0]) (by simp [results, Try.results10, go_sem]) rfl ⟨rfl, HBW.out⟩

set_option maxRecDepth 100000 in
set_option maxHeartbeats 4000000 in
theorem Sum_bad (on : Bool) (root asid : Int) (x : Option Addr) (n c B : Nat) (l : List Lf) (fs : List Value) (w : World) (hn : l.length = n) (hbig : n ≤ 1000000) (hBw : B ≤ w.heap.size) (hr0 : 0 ≤ root)
    (hx : LeavesF B w (.slice x n c) l fs) (hlen : ∀ f ∈ l, f.bytes.length ≤ 1000000000) (hck : chk ⟨on, root, asid, l⟩ ≠ 0) :
    Calls Try.prog 10 #[.agg #[.bool on, .int .u64 root, .int .i64 asid, .slice x n c]] w fun e w' => e = .returned (.tuple #[.complex .f64 0 0, .int .i64 (chk ⟨on, root, asid, l⟩)]) ∧ Below w.heap.size w w' := by
  have HC : Aside (∀ w1, Below w.heap.size w w1 → Calls Try.prog 13 #[.agg #[.bool on, .int .u64 root, .int .i64 asid, .slice x n c]] w1 fun e w' => e = .returned (.int .i64 (chk ⟨on, root, asid, l⟩)) ∧ Below w1.heap.size w1 w') := fun w1 h1 =>
    Check_any on root asid x n c B l fs w1 hn (by omega) (Nat.le_trans hBw h1.size) hr0 (hx.below (h1.mono hBw)) hlen
  clear hx hlen hn
  generalize chk ⟨on, root, asid, l⟩ = ck at *
  go_enter Try.func10, Try.ntmps10
  go_wp2_with fail
  refine (HC.out _ ((Below.refl _ _).alloc (Nat.le_refl _) _)).mono ?_
  rintro e w1 ⟨rfl, hw1⟩
  have HB1 : Aside (Below w.heap.size w w1) := ((Below.refl _ _).alloc (Nat.le_refl _) _).trans (hw1.mono (by simp))
  clear hw1
  go_wp2_with fail
  refine bodyPost_ret (v := .tuple #[.complex .f64 0 0, .int .i64 ck]) (by simp [results, Try.results10, go_sem]) rfl ⟨rfl, HB1.out⟩
end Go.Proofs.Ytdlnipimljpmgaa
