/- The document's sum of a page and of an image. -/
import Derived.Test.YtdlnipimljpmgaaIK3
import Derived.Test.YtdlnipimljpmgaaIR1
set_option linter.unusedVariables false
set_option linter.unusedSimpArgs false
set_option linter.unusedSectionVars false
set_option linter.unnecessarySimpa false
namespace Go.Proofs.Ytdlnipimljpmgaa
open Go Go.RowKit Go.Im Go.Lib Go.Fl

set_option maxRecDepth 100000 in
set_option maxHeartbeats 2000000 in
theorem rDig_any (a : Option Addr) (c B : Nat) (l : List Int) (w : World) (hn : l.length = 4096) (hb : Byte l) (hx : Bs B w (.slice a 4096 c) l) :
    Calls Try.prog 31 #[.slice a 4096 c] w fun e w' => e = .returned (.tuple #[.complex .f64 (fb (dg l 512).1) (fb (dg l 512).2), .int .i64 0]) ∧ w' = w := by
  have HX : Aside (Bs B w (.slice a 4096 c) l) := hx
  have HY : Aside (Byte l) := hb
  have HN : Aside (l.length = 4096) := hn
  clear hx hb hn
  go_enter Try.func31, Try.ntmps31
  go_wp2_with fail
  go_loopw [4, 5, 6] (fun u v i wr => ∃ k : Nat, k ≤ 512 ∧ i = .int .i64 k ∧ u = .int .i64 (dg l k).1 ∧ v = .int .i64 (dg l k).2 ∧ wr = w)
    (fun _ _ i _ => 512 - (RowKit.intOf i).toNat)
  case atStart => exact ⟨0, by omega, rfl, rfl, rfl, rfl⟩
  case round =>
    obtain ⟨k, hk, rfl, rfl, rfl, rfl⟩ := hrel
    by_cases hlt : k < 512
    · have hi : (k : Int) < 512 := by omega
      have HW : Aside (Calls Try.prog 44 #[.slice a 4096 c, .int .i64 (k : Int)] wr fun e w' => e = .returned (.int .u64 (wd l k)) ∧ w' = wr) := word_calls a c B k l wr HN.out hlt HY.out HX.out
      have HP : Aside (∀ w, Calls Try.prog 43 #[.int .u64 (wd l k), .int .i64 (k : Int)] w fun e w' => e = .returned (.tuple #[.int .i64 (rotRe (k % 4) (wd l k % 4294967296) (wd l k / 4294967296)), .int .i64 (rotIm (k % 4) (wd l k % 4294967296) (wd l k / 4294967296))]) ∧ w' = w) := parts_calls (wd l k) k (wd_lt HY.out k)
      have hd := dg_le HY.out k
      have hwb := wd_lt HY.out k
      have hr := rot_le (r := k % 4) (a := wd l k % 4294967296) (b := wd l k / 4294967296) (M := 4294967296) (by omega) (by omega)
      have HD1 : Aside ((dg l (k + 1)).1 = (dg l k).1 + rotRe (k % 4) (wd l k % 4294967296) (wd l k / 4294967296)) := rfl
      have HD2 : Aside ((dg l (k + 1)).2 = (dg l k).2 + rotIm (k % 4) (wd l k % 4294967296) (wd l k / 4294967296)) := rfl
      generalize rotRe (k % 4) (wd l k % 4294967296) (wd l k / 4294967296) = p at *
      generalize rotIm (k % 4) (wd l k % 4294967296) (wd l k / 4294967296) = q at *
      have hw1 : IntKind.i64.wrap ((dg l k).1 + p) = (dg l k).1 + p := IntWalk.i64_in _ (by omega)
      have hw2 : IntKind.i64.wrap ((dg l k).2 + q) = (dg l k).2 + q := IntWalk.i64_in _ (by omega)
      generalize (dg l k).1 = x1 at *
      generalize (dg l k).2 = x2 at *
      generalize wd l k = wv at *
      go_wp2_with fail
      refine HW.out.mono ?_
      rintro e w5 ⟨rfl, rfl⟩
      go_wp2_with fail
      refine (HP.out _).mono ?_
      rintro e w5 ⟨rfl, rfl⟩
      go_wp2_with fail
      go_roundw
      case rel => exact ⟨k + 1, by omega, by go_num, by rw [HD1.out], by rw [HD2.out], (by first | trivial | rfl)⟩
      case measure => simp [RowKit.intOf]; omega
    · have : k = 512 := by omega
      subst this
      go_wp2_with fail
      refine (Make_calls _ _ _).mono ?_
      rintro e w5 ⟨rfl, rfl⟩
      go_wp2_with fail
      refine bodyPost_ret (v := .tuple #[.complex .f64 (fb (dg l 512).1) (fb (dg l 512).2), .int .i64 0]) (by simp [results, Try.results31, go_sem]) rfl ⟨rfl, rfl⟩

theorem and3_u (k : Nat) (hk : k < 1000000000) : bits .and .u64 (k : Int) 3 = ((k % 4 : Nat) : Int) := by
  rw [u64_and (k : Int) 3 (by omega) (by omega) (by decide) (by decide)]
  have e : (3 : Int).toNat = 2 ^ 2 - 1 := rfl
  rw [e, Nat.and_two_pow_sub_one_eq_mod]
  simp

set_option maxRecDepth 100000 in
set_option maxHeartbeats 4000000 in
theorem refSum_any (on : Bool) (root asid : Int) (x : Option Addr) (n c B : Nat) (l : List Lf) (fs : List Value) (w : World) (hn : l.length = n) (hbig : n ≤ 1024) (hBw : B ≤ w.heap.size) (hr0 : 0 ≤ root)
    (hx : LeavesF B w (.slice x n c) l fs) (hl0 : ∀ f ∈ l, 0 ≤ f.page ∧ f.page < 1000000000) (hlen : ∀ f ∈ l, f.bytes.length = 4096 ∧ Byte f.bytes) (hck : chk ⟨on, root, asid, l⟩ = 0) :
    Calls Try.prog 11 #[.agg #[.bool on, .int .u64 root, .int .i64 asid, .slice x n c]] w fun e w' => e = .returned (.tuple #[.complex .f64 (fb (smRe l)) (fb (smIm l)), .int .i64 0]) ∧ Below w.heap.size w w' := by
  have HX : Aside (LeavesF B w (.slice x n c) l fs) := hx
  have HL0 : Aside (∀ f ∈ l, 0 ≤ f.page ∧ f.page < 1000000000) := hl0
  have HLN : Aside (∀ f ∈ l, f.bytes.length = 4096 ∧ Byte f.bytes) := hlen
  have HNL : Aside (l.length = n) := hn
  have HC : Aside (∀ w1, Below w.heap.size w w1 → Calls Try.prog 14 #[.agg #[.bool on, .int .u64 root, .int .i64 asid, .slice x n c]] w1 fun e w' => e = .returned (.int .i64 0) ∧ Below w1.heap.size w1 w') := fun w1 h1 => by
    have := refCheck_any on root asid x n c B l fs w1 hn (by omega) (Nat.le_trans hBw h1.size) hr0 (hx.below (h1.mono hBw)) (fun f hf => by rw [(hlen f hf).1]; omega)
    rw [hck] at this
    exact this
  clear hx hl0 hlen hck hn
  go_enter Try.func11, Try.ntmps11
  go_wp2_with fail
  refine (HC.out _ ((Below.refl _ _).alloc (Nat.le_refl _) _)).mono ?_
  rintro e w1 ⟨rfl, hw1⟩
  have q3 : w1.cell? ⟨w.heap.size, 3, none⟩ = some (.slice x n c) := by rw [hw1.cell (by simp)]; exact cell_new0 () rfl
  have HB1 : Aside (Below w.heap.size w w1) := ((Below.refl _ _).alloc (Nat.le_refl _) _).trans (hw1.mono (by simp))
  have HB1' : Aside (w.heap.size + 1 ≤ w1.heap.size) := by have := hw1.size; simp at this; exact this
  clear hw1
  go_wp2_with fail
  go_loopw [5, 6] (fun z i wr => ∃ k : Nat, k ≤ n ∧ i = .int .i64 k ∧ z = .complex .f64 (fb (smRe (l.take k))) (fb (smIm (l.take k))) ∧ wr = w1)
    (fun _ i _ => n - (RowKit.intOf i).toNat)
  case atStart => exact ⟨0, Nat.zero_le _, rfl, by simp [smRe, smIm, fb_zero], rfl⟩
  case round =>
    obtain ⟨k, hk, rfl, rfl, rfl⟩ := hrel
    by_cases hlt : k < n
    · obtain ⟨b, o, f, fa, fc, rfl, hB, hs, hat, hbs, hf⟩ := LeavesF.at2 HX.out HNL.out (HB1.out.mono hBw) hlt
      obtain ⟨c0, c1, c2, c3⟩ := hat
      have hi : (k : Int) < (n : Int) := by omega
      have hfl := HLN.out f (List.mem_of_getElem? hs)
      have hpg := HL0.out f (List.mem_of_getElem? hs)
      rw [hfl.1] at hbs c3
      obtain ⟨pn, hpn⟩ : ∃ pn : Nat, f.page = pn := ⟨f.page.toNat, by omega⟩
      have hba : bits .and .u64 f.page 3 = ((pn % 4 : Nat) : Int) := by rw [hpn]; exact and3_u pn (by omega)
      have hwr4 : IntKind.i64.wrap ((pn % 4 : Nat) : Int) = ((pn % 4 : Nat) : Int) := IntWalk.i64_in _ (by omega)
      have HD : Aside (Calls Try.prog 31 #[.slice fa 4096 fc] wr fun e w' => e = .returned (.tuple #[.complex .f64 (fb (dg f.bytes 512).1) (fb (dg f.bytes 512).2), .int .i64 0]) ∧ w' = wr) :=
        rDig_any fa fc B f.bytes wr hfl.1 hfl.2 hbs
      have hdg := dg_le hfl.2 512
      have HT : Aside (∀ w, Calls Try.prog 33 #[.complex .f64 (fb (dg f.bytes 512).1) (fb (dg f.bytes 512).2), .int .i64 ((pn % 4 : Nat) : Int)] w fun e w' => e = .returned (.complex .f64 (fb (lfRe f)) (fb (lfIm f))) ∧ w' = w) := fun w => by
        have h := rTurn_calls (Wh.of (dg f.bytes 512).1) (Wh.of (dg f.bytes 512).2) (by omega) (by omega) (pn % 4) (by omega) w
        have e : f.page.toNat % 4 = pn % 4 := by rw [hpn]; rfl
        unfold lfRe lfIm
        rw [e]
        exact h
      have hle := lf_le hfl.2
      have hsm := sm_le (l.take k) (fun g hg => (HLN.out g (List.mem_of_mem_take hg)).2)
      rw [List.length_take, HNL.out, Nat.min_eq_left hk] at hsm
      have HSN : Aside (smRe (l.take k) + lfRe f = smRe (l.take (k + 1)) ∧ smIm (l.take k) + lfIm f = smIm (l.take (k + 1))) := by
        show _ ∧ _
        rw [List.take_add_one, hs]
        simp only [Option.toList_some]
        rw [smRe_append, smIm_append]
        exact ⟨rfl, rfl⟩
      have HA : Aside (∀ w, Calls Try.prog 32 #[.complex .f64 (fb (smRe (l.take k))) (fb (smIm (l.take k))), .complex .f64 (fb (lfRe f)) (fb (lfIm f))] w fun e w' => e = .returned (.tuple #[.complex .f64 (fb (smRe (l.take (k + 1)))) (fb (smIm (l.take (k + 1)))), .int .i64 0]) ∧ w' = w) := fun w => by
        have h := rAdd_calls (Wh.of (smRe (l.take k))) (Wh.of (smIm (l.take k))) (Wh.of (lfRe f)) (Wh.of (lfIm f)) (by omega) (by omega) (by omega) (by omega) (by omega) (by omega) w
        rw [HSN.out.1, HSN.out.2] at h
        exact h
      clear hs hbs hf hfl hpg hdg hle hsm HSN hpn
      generalize fb (smRe (l.take k)) = z1 at *
      generalize fb (smIm (l.take k)) = z2 at *
      generalize hy1 : fb (smRe (l.take (k + 1))) = y1 at *
      generalize hy2 : fb (smIm (l.take (k + 1))) = y2 at *
      have HY : Aside (fb (smRe (l.take (k + 1))) = y1 ∧ fb (smIm (l.take (k + 1))) = y2) := ⟨hy1, hy2⟩
      clear hy1 hy2
      generalize fb (dg f.bytes 512).1 = d1 at *
      generalize fb (dg f.bytes 512).2 = d2 at *
      generalize fb (lfRe f) = f1 at *
      generalize fb (lfIm f) = f2 at *
      go_wp2_with fail
      refine HD.out.mono ?_
      rintro e w5 ⟨rfl, rfl⟩
      go_wp2_with fail
      refine (HT.out _).mono ?_
      rintro e w5 ⟨rfl, rfl⟩
      go_wp2_with fail
      refine (HA.out _).mono ?_
      rintro e w5 ⟨rfl, rfl⟩
      go_wp2_with fail
      go_roundw
      case rel => exact ⟨k + 1, by omega, by go_num, by rw [HY.out.1, HY.out.2], (by first | trivial | rfl)⟩
      case measure => simp [RowKit.intOf]; omega
    · have hkn : k = n := by omega
      have HE : Aside (l.take k = l) := by show _ = _; rw [hkn, ← HNL.out, List.take_length]
      rw [HE.out]
      go_wp2_with fail
      refine bodyPost_ret (v := .tuple #[.complex .f64 (fb (smRe l)) (fb (smIm l)), .int .i64 0]) (by simp [results, Try.results11, go_sem]) rfl ⟨rfl, HB1.out⟩

set_option maxRecDepth 100000 in
set_option maxHeartbeats 4000000 in
theorem refSum_bad (on : Bool) (root asid : Int) (x : Option Addr) (n c B : Nat) (l : List Lf) (fs : List Value) (w : World) (hn : l.length = n) (hbig : n ≤ 1000000) (hBw : B ≤ w.heap.size) (hr0 : 0 ≤ root)
    (hx : LeavesF B w (.slice x n c) l fs) (hlen : ∀ f ∈ l, f.bytes.length ≤ 1000000000) (hck : chk ⟨on, root, asid, l⟩ ≠ 0) :
    Calls Try.prog 11 #[.agg #[.bool on, .int .u64 root, .int .i64 asid, .slice x n c]] w fun e w' => e = .returned (.tuple #[.complex .f64 0 0, .int .i64 (chk ⟨on, root, asid, l⟩)]) ∧ Below w.heap.size w w' := by
  have HC : Aside (∀ w1, Below w.heap.size w w1 → Calls Try.prog 14 #[.agg #[.bool on, .int .u64 root, .int .i64 asid, .slice x n c]] w1 fun e w' => e = .returned (.int .i64 (chk ⟨on, root, asid, l⟩)) ∧ Below w1.heap.size w1 w') := fun w1 h1 =>
    refCheck_any on root asid x n c B l fs w1 hn (by omega) (Nat.le_trans hBw h1.size) hr0 (hx.below (h1.mono hBw)) hlen
  clear hx hlen hn
  generalize chk ⟨on, root, asid, l⟩ = ck at *
  go_enter Try.func11, Try.ntmps11
  go_wp2_with fail
  refine (HC.out _ ((Below.refl _ _).alloc (Nat.le_refl _) _)).mono ?_
  rintro e w1 ⟨rfl, hw1⟩
  have HB1 : Aside (Below w.heap.size w w1) := ((Below.refl _ _).alloc (Nat.le_refl _) _).trans (hw1.mono (by simp))
  clear hw1
  go_wp2_with fail
  refine bodyPost_ret (v := .tuple #[.complex .f64 0 0, .int .i64 ck]) (by simp [results, Try.results11, go_sem]) rfl ⟨rfl, HB1.out⟩
end Go.Proofs.Ytdlnipimljpmgaa
