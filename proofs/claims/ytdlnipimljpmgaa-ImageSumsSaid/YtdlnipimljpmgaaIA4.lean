/- ImageSums. -/
import Derived.Test.YtdlnipimljpmgaaIA3
import Derived.BigQuiet
import Derived.Deep.QuietTactic
set_option linter.unusedVariables false
set_option linter.unusedSimpArgs false
set_option linter.unusedSectionVars false
set_option linter.unnecessarySimpa false
namespace Go.Proofs.Ytdlnipimljpmgaa
open Go Go.RowKit Go.Im Go.Lib Go.Fl

theorem Box.set {w : World} {g b j : Nat} {x0 x1 x2 x3 u : Value} (h : Box w g x0 x1 x2 x3) (hb : b ≠ g) : Box (w.setCell ⟨b, j, none⟩ u) g x0 x1 x2 x3 := by
  obtain ⟨h0, h1, h2, h3, h4⟩ := h
  refine ⟨by simpa using h0, ?_, ?_, ?_, ?_⟩
  all_goals rw [World.cell?_setCell_other _ _ _ _ (by intro e; simp only [Addr.mk.injEq] at e; omega)]
  all_goals assumption

theorem Side.froz {wc : World} {lo e b m cap : Nat} {l : List Lf} {fs : List Value} (S : Side wc lo e (.slice (some ⟨b, 0, none⟩) m cap) l fs) (j : Nat) : wc.frozen? ⟨b, j, none⟩ = false := by
  rcases S.row.2 with ⟨h, _⟩ | ⟨g, c, cur, h, _, h2, _⟩
  · cases h
  · simp only [Value.slice.injEq, Option.some.injEq, Addr.mk.injEq, and_true] at h
    obtain ⟨rfl, -⟩ := h
    exact frozen_of_row wc b j cur e h2

theorem Side.froz2 {wc : World} {lo e g m cap n : Nat} {v : Value} {l : List Lf} {fs : List Value} {f : Lf} (S : Side wc lo e v l fs) (hl : l[n]? = some f) (hf : fs[n]? = some (.slice (some ⟨g, 0, none⟩) m cap)) (j : Nat) : wc.frozen? ⟨g, j, none⟩ = false := by
  rcases (S.bys n f _ hl hf).1.2 with ⟨h, _⟩ | ⟨g', c, cur, h, _, h2, _⟩
  · cases h
  · simp only [Value.slice.injEq, Option.some.injEq, Addr.mk.injEq, and_true] at h
    obtain ⟨rfl, -⟩ := h
    exact frozen_of_row wc g j cur 5 h2

theorem place (z : Int) : ∃ k : Nat, (wrap64 (z.tmod 4096 + 4096)).tmod 4096 = (k : Int) ∧ k < 4096 := by
  have h1 := Int.tmod_lt_of_pos z (b := 4096) (by decide)
  have h2 := Int.lt_tmod_of_pos z (b := 4096) (by decide)
  have e : wrap64 (z.tmod 4096 + 4096) = z.tmod 4096 + 4096 := by
    unfold wrap64; omega
  rw [e, Int.tmod_eq_emod_of_nonneg (by omega)]
  exact ⟨((z.tmod 4096 + 4096) % 4096).toNat, by omega, by omega⟩

theorem turned {u b : Int} (hu : 0 ≤ u ∧ u < 256) (hb : 0 ≤ b ∧ b < 256) : ∃ nb : Int, bits .xor .u8 u (bits .or .u8 b 1) = nb ∧ (0 ≤ nb ∧ nb < 256) ∧ nb - u ≠ 0 := by
  obtain ⟨m, rfl⟩ : ∃ m : Nat, u = m := ⟨u.toNat, by omega⟩
  obtain ⟨b, rfl⟩ : ∃ n : Nat, b = n := ⟨b.toNat, by omega⟩
  have h1 : b ||| 1 < 2 ^ 8 := Nat.or_lt_two_pow (by omega) (by decide)
  have e1 : bits .or .u8 (b : Int) 1 = ((b ||| 1 : Nat) : Int) := u8_or_nat b 1 (by omega) (by decide)
  rw [e1, u8_xor_nat m (b ||| 1) (by omega) (by omega)]
  have h2 : m ^^^ (b ||| 1) < 2 ^ 8 := Nat.xor_lt_two_pow (by omega) h1
  refine ⟨_, rfl, by omega, fun h => ?_⟩
  have h3 : m ^^^ (b ||| 1) = m := by omega
  have h4 : m ^^^ (m ^^^ (b ||| 1)) = b ||| 1 := by rw [← Nat.xor_assoc, Nat.xor_self, Nat.zero_xor]
  rw [h3, Nat.xor_self] at h4
  have h5 : 1 ≤ b ||| 1 := Nat.right_le_or
  omega

theorem and4_mod (k : Nat) (hk : k < 4096) : bits .and .i64 (k : Int) 4 = if k % 8 < 4 then 0 else 4 := by
  have e : bits .and .i64 (k : Int) 4 = IntKind.wrap .i64 ((BitVec.ofInt 64 (k : Int) &&& BitVec.ofInt 64 (4 : Int)).toNat : Int) := rfl
  have t : (BitVec.ofInt 64 (k : Int) &&& BitVec.ofInt 64 (4 : Int)).toNat = k &&& 4 := by
    rw [BitVec.toNat_and, BitVec.toNat_ofInt, BitVec.toNat_ofInt]
    have a1 : ((k : Int) % ((2 ^ 64 : Nat) : Int)).toNat = k := by omega
    have a2 : ((4 : Int) % ((2 ^ 64 : Nat) : Int)).toNat = 4 := by decide
    rw [a1, a2]
  have h8 : k &&& 4 = (k % 8) &&& 4 := by
    have h := Nat.and_mod_two_pow (a := k) (b := 4) (n := 3)
    have h' : k &&& 4 ≤ 4 := Nat.and_le_right
    rw [show (2 : Nat) ^ 3 = 8 from rfl, show 4 % 8 = 4 from rfl] at h
    omega
  rw [e, t, h8, IntKind.wrap_i64]
  rcases (by omega : k % 8 = 0 ∨ k % 8 = 1 ∨ k % 8 = 2 ∨ k % 8 = 3 ∨ k % 8 = 4 ∨ k % 8 = 5 ∨ k % 8 = 6 ∨ k % 8 = 7) with h | h | h | h | h | h | h | h <;> rw [h] <;> rfl

theorem set_last (L : List Lf) (f f' : Lf) : (L ++ [f]).set L.length f' = L ++ [f'] := by
  rw [List.set_append_right _ _ (Nat.le_refl _), Nat.sub_self]; rfl

theorem wrong_bytes {f : Lf} {l : List Int} (h : wrong f = false) (hl : l.length = f.bytes.length) : wrong ⟨f.page, f.kind, f.write, l⟩ = false := by
  unfold wrong at *
  simp only [hl]
  exact h

theorem img_last {on : Bool} {rt asd : Int} {L : List Lf} {f : Lf} (kd : Int) (wr : Bool) (l : List Int) (h : chk ⟨on, rt, asd, L ++ [f]⟩ = 0)
    (hf : ∀ z ∈ L ++ [f], (0 ≤ z.page ∧ z.page < 18446744073709551616) ∧ z.bytes.length = 4096 ∧ z.page < 268435456 ∧ Byte z.bytes) (h4 : l.length = 4096) (hb : Byte l) (hw : wrong ⟨f.page, kd, wr, l⟩ = false) :
    chk ⟨on, rt, asd, L ++ [⟨f.page, kd, wr, l⟩]⟩ = 0 ∧ ∀ z ∈ L ++ [⟨f.page, kd, wr, l⟩], (0 ≤ z.page ∧ z.page < 1000000000) ∧ z.bytes.length = 4096 ∧ Byte z.bytes := by
  have hfz := hf f (by simp)
  refine ⟨?_, fun z hz => ?_⟩
  · obtain ⟨h1, h2, h3, h4', h5, h6, h7⟩ := chk_right h
    simp only at h1 h2 h3 h4' h5 h6 h7
    have hwa : (L ++ [(⟨f.page, kd, wr, l⟩ : Lf)]).any wrong = false := by
      rw [List.any_append, Bool.or_eq_false_iff] at h3
      rw [List.any_append, h3.1]
      simp [hw]
    have hri : rises (L ++ [(⟨f.page, kd, wr, l⟩ : Lf)]) = true := by
      rw [rises_snoc] at h7 ⊢
      exact h7
    unfold chk
    simp only
    rw [if_neg (by omega), hwa, if_neg (by simp), if_neg (by omega), if_neg]
    intro hc
    rcases hc with hc | hc
    · omega
    · refine hc ⟨?_, hri⟩
      simp at h6 ⊢; omega
  · rcases List.mem_append.1 hz with hz | hz
    · have := hf z (by simp [hz])
      exact ⟨by omega, this.2.1, this.2.2.2⟩
    · simp at hz
      subst hz
      exact ⟨⟨by simpa using hfz.1.1, by simp only; omega⟩, h4, hb⟩

theorem headed {w : World} {lo b m cap : Nat} {L : List Lf} {p kd : Int} {wr : Bool} {bs : List Int} {fs : List Value} (S : Side w lo 58 (.slice (some ⟨b, 0, none⟩) m cap) (L ++ [⟨p, kd, wr, bs⟩]) fs) (q : Nat) :
    Side (((w.drewN q).setCell ⟨b, L.length * 4 + 1, none⟩ (.int .i64 1)).setCell ⟨b, L.length * 4 + 2, none⟩ (.bool false)) lo 58 (.slice (some ⟨b, 0, none⟩) m cap) (L ++ [⟨p, 1, false, bs⟩]) fs := by
  have h0 : Side (w.drewN q) lo 58 (.slice (some ⟨b, 0, none⟩) m cap) (L ++ [⟨p, kd, wr, bs⟩]) fs := ⟨S.row, S.fsl, S.bys, S.apart⟩
  have get : ∀ f : Lf, (L ++ [f])[L.length]? = some f := fun f => by rw [List.getElem?_append_right (Nat.le_refl _), Nat.sub_self]; rfl
  have h1 := h0.head (by decide) (n := L.length) (j := 1) (f' := ⟨p, 1, wr, bs⟩) (u := .int .i64 1) (get _) rfl (by decide) (fun _ => rfl) rfl
  rw [set_last] at h1
  have h2 := h1.head (by decide) (n := L.length) (j := 2) (f' := ⟨p, 1, false, bs⟩) (u := .bool false) (get _) rfl (by decide) (fun _ => rfl) rfl
  rw [set_last] at h2
  exact h2

set_option maxRecDepth 100000 in
set_option maxHeartbeats 1000000 in
theorem Sums_any (on : Bool) (root asid : Int) (x : Option Addr) (n c B : Nat) (l : List Ln) (at_ by_ : Int) (w : World) (hBw : B ≤ w.heap.size) (hr : 0 ≤ root ∧ root < 18446744073709551616) (hu : 0 ≤ by_ ∧ by_ < 256) (hx : Lns B w (.slice x n c) l) :
    Calls Try.prog 6 #[.bool on, .int .u64 root, .int .i64 asid, .slice x n c, .int .i64 at_, .int .u8 by_] w fun e w' => e = .returned (.bool true) ∧ Below w.heap.size w w' := by
  have HX : Aside (Lns B w (.slice x n c) l) := hx
  have HT : Aside (∀ w, Calls Try.prog 17 #[] w fun e w' => e = .returned (.bool true) ∧ Below w.heap.size w w') := told_calls
  clear hx
  go_enter Try.func6, Try.ntmps6
  go_wp2_with fail
  refine (Made_any true on root asid x n c B l w hBw hr HX.out).mono ?_
  rintro e w1 ⟨rt, asd, ls, fa, fb', v1, v2, rfl, hhdr, ⟨last, hmo⟩, hl12, hsa, hsb, hb1⟩
  obtain ⟨vb, vd, rfl, -⟩ := hsb.leaves.1.shape
  have HCK : Aside (chk ⟨on, rt, asd, ls⟩ = 0) := made_chk hhdr hmo hl12
  have HFL : Aside (∀ f ∈ ls, f.bytes.length = 4096 ∧ f.page < 268435456 ∧ wrong f = false) := (chk_facts HCK.out).2.2
  have HMO : Aside (∀ f ∈ ls, (0 ≤ f.page ∧ f.page < 18446744073709551616) ∧ Byte f.bytes ∧ 0 < f.bytes.length ∧ f.bytes.length ≤ 4096) := hmo.all
  have HRT : Aside (0 ≤ rt ∧ rt < 18446744073709551616) := hhdr.1
  have HSA : Aside (Side w1 (w.heap.size + 4) 58 v1 ls fa) := hsa
  have HB1 : Aside (Below w.heap.size w w1) := hb1
  have HL12 : Aside (ls.length ≤ 12) := hl12
  clear hhdr hmo hl12 hsa hsb hb1
  rcases List.eq_nil_or_concat ls with rfl | ⟨L, f, rfl⟩
  · obtain ⟨va, vc, rfl, -⟩ := HSA.out.leaves.1.shape
    go_wp2_with fail
    refine (Check_any on rt asd va 0 vc w1.heap.size [] fa _ rfl (by omega) (by simp; omega) HRT.out.1 (HSA.out.leaves.1.below (((Below.refl _ _).alloc (Nat.le_refl _) _).alloc (by simp) _)) (fun f hf => by cases hf)).mono ?_
    rintro e w2 ⟨rfl, hb2⟩
    rw [HCK.out]
    have HBA : Aside (Box w2 w1.heap.size (.bool on) (.int .u64 rt) (.int .i64 asd) (.slice va 0 vc)) := (Box.new.all (below_alloc _ _)).all hb2
    have HB2 : Aside (Below w1.heap.size w1 w2) := (((Below.refl _ _).alloc (Nat.le_refl _) _).alloc (by simp) _).trans (hb2.mono (by simp; omega))
    have HWB2 : Aside (Below w.heap.size w w2) := HB1.out.trans (HB2.out.mono HB1.out.size)
    clear hb2
    obtain ⟨-, a0, a1, a2, a3⟩ := HBA.out
    go_wp2_with fail
    refine (HT.out _).mono ?_
    rintro e w3 ⟨rfl, hb3⟩
    go_wp2_with fail
    go_ret
    exact ⟨rfl, HWB2.out.trans (hb3.mono HWB2.out.size)⟩
  · have hfl : (L ++ [f])[L.length]? = some f := by simp
    have hmem : f ∈ L.concat f := by simp
    obtain ⟨bq, cap, g, m, rfl, hfs, hbg, hblt, hglt, hbl, hgl, hbf, hgf⟩ := HSA.out.ats (by decide) (n := L.length) (f := f) (by simp)
    have hlen : (L.concat f).length = L.length + 1 := by simp
    have hf4 : f.bytes.length = 4096 := (HFL.out f hmem).1
    rw [hlen] at HSA ⊢
    rw [hf4] at hfs
    obtain ⟨x8, hx8⟩ : ∃ x8, f.bytes = x8 := ⟨_, rfl⟩
    have HCK2 : Aside (chk ⟨on, rt, asd, L ++ [f]⟩ = 0) := by have := HCK.out; rw [List.concat_eq_append] at this; exact this
    have HSA2 : Aside (Side w1 (w.heap.size + 4) 58 (.slice (some ⟨bq, 0, none⟩) (L.length + 1) cap) (L ++ [f]) fa) := by have := HSA.out; rw [List.concat_eq_append] at this; exact this
    have HFL2 : Aside (∀ z ∈ L ++ [f], z.bytes.length = 4096 ∧ z.page < 268435456 ∧ wrong z = false) := by have := HFL.out; rw [List.concat_eq_append] at this; exact this
    have HMO2 : Aside (∀ z ∈ L ++ [f], (0 ≤ z.page ∧ z.page < 18446744073709551616) ∧ Byte z.bytes ∧ 0 < z.bytes.length ∧ z.bytes.length ≤ 4096) := by have := HMO.out; rw [List.concat_eq_append] at this; exact this
    have hL12 : L.length + 1 ≤ 12 := by have := HL12.out; rw [hlen] at this; exact this
    have HFB : Aside (fa[L.length]? = some (.slice (some ⟨g, 0, none⟩) 4096 m) ∧ bq < w1.heap.size ∧ g < w1.heap.size ∧ bq ≠ g ∧ w.heap.size + 4 ≤ bq ∧ w.heap.size + 4 ≤ g) := ⟨hfs, hblt, hglt, hbg, hbl, hgl⟩
    clear hx8 HCK HSA HFL HMO hfs hblt hglt hbl hgl hmem hlen
    go_wp2_with fail
    refine (Check_any on rt asd (some ⟨bq, 0, none⟩) (L.length + 1) cap w1.heap.size (L ++ [f]) fa _ (by simp) (by omega) (by simp; omega) HRT.out.1 (HSA2.out.leaves.1.below (((Below.refl _ _).alloc (Nat.le_refl _) _).alloc (by simp) _)) (fun z hz => by rw [(HFL2.out z hz).1]; omega)).mono ?_
    rintro e w2 ⟨rfl, hb2⟩
    rw [HCK2.out]
    have HBA : Aside (Box w2 w1.heap.size (.bool on) (.int .u64 rt) (.int .i64 asd) (.slice (some ⟨bq, 0, none⟩) (L.length + 1) cap)) := (Box.new.all (below_alloc _ _)).all hb2
    have HB2 : Aside (Below w1.heap.size w1 w2) := (((Below.refl _ _).alloc (Nat.le_refl _) _).alloc (by simp) _).trans (hb2.mono (by simp; omega))
    have HWB2 : Aside (Below w.heap.size w w2) := HB1.out.trans (HB2.out.mono HB1.out.size)
    have HS2 : Aside (Side w2 (w.heap.size + 4) 58 (.slice (some ⟨bq, 0, none⟩) (L.length + 1) cap) (L ++ [f]) fa) := HSA2.out.below HB2.out
    clear hb2
    obtain ⟨-, a0, a1, a2, a3⟩ := HBA.out
    have hnl : (((L.length : Int) + 1) == 0) = false := by rw [beq_eq_false_iff_ne]; omega
    go_wp2_with fail
    refine (Sum_any on rt asd (some ⟨bq, 0, none⟩) (L.length + 1) cap w2.heap.size (L ++ [f]) fa _ (by simp) (by omega) (by simp) HRT.out.1 HS2.out.leaves.1 (fun z hz => ⟨(HMO2.out z hz).1.1, by have := (HFL2.out z hz).2.1; omega⟩) (fun z hz => ⟨(HFL2.out z hz).1, (HMO2.out z hz).2.1⟩) HCK2.out).mono ?_
    rintro e w3 ⟨rfl, hb3⟩
    have HBA3 : Aside (Box w3 w1.heap.size (.bool on) (.int .u64 rt) (.int .i64 asd) (.slice (some ⟨bq, 0, none⟩) (L.length + 1) cap)) := HBA.out.all hb3
    have HWB3 : Aside (Below w.heap.size w w3) := HWB2.out.trans (hb3.mono HWB2.out.size)
    have HS3 : Aside (Side w3 (w.heap.size + 4) 58 (.slice (some ⟨bq, 0, none⟩) (L.length + 1) cap) (L ++ [f]) fa) := HS2.out.below hb3
    clear hb3 a0 a1 a2 a3
    obtain ⟨-, a0, a1, a2, a3⟩ := HBA3.out
    obtain ⟨c0, c1, c2, c3⟩ := (HS3.out.leaves.1.at hfl HFB.out.1).2
    rw [Nat.zero_add] at c0 c1 c2 c3
    go_upto_region 7 with fail
    obtain ⟨k, hk, hk4⟩ : ∃ k : Nat, (wrap64 (at_.tmod 4096 + 4096)).tmod 4096 = (k : Int) ∧ k < 4096 := place at_
    rw [hk]
    clear hk
    obtain ⟨bz, oz, u0, hez, -, hu0, hcz⟩ := (HS3.out.leaves.1.2.1 L.length f _ hfl HFB.out.1).at (j := k) (by rw [hf4]; exact hk4)
    cases hez
    have hu0b := (HMO2.out f (by simp)).2.1 u0 (List.mem_of_getElem? hu0)
    obtain ⟨nb, hnb, hnr, hnz⟩ := turned hu0b hu
    have hzf : w3.frozen? ⟨g, 0 + k, none⟩ = false := by rw [Nat.zero_add]; exact HS3.out.froz2 hfl HFB.out.1 k
    rw [Nat.zero_add] at hcz hzf
    go_upto_region 9 with fail
    have HS4 : Aside (Side (w3.setCell ⟨g, k, none⟩ (.int .u8 nb)) (w.heap.size + 4) 58 (.slice (some ⟨bq, 0, none⟩) (L.length + 1) cap) (L ++ [⟨f.page, f.kind, f.write, f.bytes.set k nb⟩]) fa) := by
      have h := HS3.out.byte (by decide) hfl HFB.out.1 (k := k) nb
      rw [set_last] at h
      exact h
    have HBA4 : Aside (Box (w3.setCell ⟨g, k, none⟩ (.int .u8 nb)) w1.heap.size (.bool on) (.int .u64 rt) (.int .i64 asd) (.slice (some ⟨bq, 0, none⟩) (L.length + 1) cap)) := HBA3.out.set (by have := HFB.out.2.2.1; omega)
    have HWB4 : Aside (Below w.heap.size w (w3.setCell ⟨g, k, none⟩ (.int .u8 nb))) := HWB3.out.setCell (by have := HFB.out; show w.heap.size ≤ g; omega) _
    clear c0 c1 c2 c3 hcz hzf a0 a1 a2 a3
    generalize w3.setCell ⟨g, k, none⟩ (.int .u8 nb) = w4 at *
    obtain ⟨hk5, hf5⟩ := img_last f.kind f.write (f.bytes.set k nb) HCK2.out (fun z hz => ⟨(HMO2.out z hz).1, (HFL2.out z hz).1, (HFL2.out z hz).2.1, (HMO2.out z hz).2.1⟩) (by simpa using hf4) (byte_set (HMO2.out f (by simp)).2.1 k nb hnr) (wrong_bytes (HFL2.out f (by simp)).2.2 (by simp))
    have HCK5 : Aside (chk ⟨on, rt, asd, L ++ [⟨f.page, f.kind, f.write, f.bytes.set k nb⟩]⟩ = 0) := hk5
    obtain ⟨hk8, hf8⟩ := img_last 1 false (f.bytes.set k nb) HCK2.out (fun z hz => ⟨(HMO2.out z hz).1, (HFL2.out z hz).1, (HFL2.out z hz).2.1, (HMO2.out z hz).2.1⟩) (by simpa using hf4) (byte_set (HMO2.out f (by simp)).2.1 k nb hnr) (by simp [wrong, hf4])
    have HCK8 : Aside (chk ⟨on, rt, asd, L ++ [⟨f.page, 1, false, f.bytes.set k nb⟩]⟩ = 0) := hk8
    have HF8 : Aside (∀ z ∈ L ++ [⟨f.page, 1, false, f.bytes.set k nb⟩], (0 ≤ z.page ∧ z.page < 1000000000) ∧ z.bytes.length = 4096 ∧ Byte z.bytes) := hf8
    have HF5 : Aside (∀ z ∈ L ++ [⟨f.page, f.kind, f.write, f.bytes.set k nb⟩], (0 ≤ z.page ∧ z.page < 1000000000) ∧ z.bytes.length = 4096 ∧ Byte z.bytes) := hf5
    clear hk5 hf5 hk8 hf8
    obtain ⟨-, a0, a1, a2, a3⟩ := HBA4.out
    go_wp2_with fail
    refine (Sum_any on rt asd (some ⟨bq, 0, none⟩) (L.length + 1) cap w4.heap.size (L ++ [⟨f.page, f.kind, f.write, f.bytes.set k nb⟩]) fa _ (by simp) (by omega) (by simp) HRT.out.1 HS4.out.leaves.1 (fun z hz => (HF5.out z hz).1) (fun z hz => (HF5.out z hz).2) HCK5.out).mono ?_
    rintro e w5 ⟨rfl, hb5⟩
    have HBA5 : Aside (Box w5 w1.heap.size (.bool on) (.int .u64 rt) (.int .i64 asd) (.slice (some ⟨bq, 0, none⟩) (L.length + 1) cap)) := HBA4.out.all hb5
    have HWB5 : Aside (Below w.heap.size w w5) := HWB4.out.trans (hb5.mono HWB4.out.size)
    have HS5 : Aside (Side w5 (w.heap.size + 4) 58 (.slice (some ⟨bq, 0, none⟩) (L.length + 1) cap) (L ++ [⟨f.page, f.kind, f.write, f.bytes.set k nb⟩]) fa) := HS4.out.below hb5
    clear hb5 a0 a1 a2 a3
    obtain ⟨-, a0, a1, a2, a3⟩ := HBA5.out
    obtain ⟨c0, c1, c2, c3⟩ := (HS5.out.leaves.1.at (i := L.length) (s := ⟨f.page, f.kind, f.write, f.bytes.set k nb⟩) (by rw [List.getElem?_append_right (Nat.le_refl _), Nat.sub_self]; rfl) HFB.out.1).2
    rw [Nat.zero_add] at c0 c1 c2 c3
    simp only at c0 c1 c2 c3
    go_upto_region 11 with fail
    obtain ⟨d, hd⟩ : ∃ d, nb - u0 = d := ⟨_, rfl⟩
    have hsum := sum_set L f k nb u0 f.kind f.write (HMO2.out f (by simp)).2.1 hf4 hk4 hnr hu0
    have hsum2 := sum_set L f k nb u0 1 false (HMO2.out f (by simp)).2.1 hf4 hk4 hnr hu0
    have hnz := w_nz f k hnz
    have hdl : d.natAbs ≤ 255 := by omega
    have hdr := d_le k hdl
    have hsl := sm_le (L ++ [f]) (fun z hz => (HMO2.out z hz).2.1)
    have hll : (L ++ [f]).length ≤ 12 := by simpa using hL12
    rw [hd] at hsum hsum2 hnz
    rw [hd, hsum.1, hsum.2]
    obtain ⟨X1, hX1⟩ : ∃ X1, smRe (L ++ [f]) = X1 := ⟨_, rfl⟩
    obtain ⟨X2, hX2⟩ : ∃ X2, smIm (L ++ [f]) = X2 := ⟨_, rfl⟩
    rw [hX1] at hsum hsum2 hsl ⊢
    rw [hX2] at hsum hsum2 hsl ⊢
    obtain ⟨r, hr4, hpr, hre⟩ : ∃ r : Nat, r < 4 ∧ bits .and .u64 f.page 3 = (r : Int) ∧ f.page.toNat % 4 = r := by
      have h1 := (HMO2.out f (by simp)).1
      refine ⟨f.page.toNat % 4, by omega, ?_, rfl⟩
      rw [u64_and f.page 3 h1.1 h1.2 (by decide) (by decide)]
      have e : (3 : Int).toNat = 2 ^ 2 - 1 := rfl
      rw [e, Nat.and_two_pow_sub_one_eq_mod]
    obtain ⟨W1, hW1⟩ : ∃ W1, wRe f k d = W1 := ⟨_, rfl⟩
    obtain ⟨W2, hW2⟩ : ∃ W2, wIm f k d = W2 := ⟨_, rfl⟩
    rw [hW1] at hsum hsum2 hnz ⊢
    rw [hW2] at hsum hsum2 hnz ⊢
    unfold wRe at hW1
    unfold wIm at hW2
    rw [hre] at hW1 hW2
    have hb1 : X1.natAbs ≤ 26388279066624 := Nat.le_trans hsl.1 (Nat.mul_le_mul_right _ hll)
    have hb2 : X2.natAbs ≤ 26388279066624 := Nat.le_trans hsl.2 (Nat.mul_le_mul_right _ hll)
    obtain ⟨ht1, ht2, had, hq1, hq2, hsh⟩ := sums_facts hdl hk4 hr4 hb1 hb2 hW1 hW2 hnz
    have HT1 : Aside (∀ z, z = ((k / 8 : Nat) : Int) → ∀ w, Calls Try.prog 21 #[.complex .f64 (fb (dRe k d)) (fb (dIm k d)), .int .i64 z] w fun e w' => e = .returned (.complex .f64 (fb (rotRe (k / 8 % 4) (dRe k d) (dIm k d))) (fb (rotIm (k / 8 % 4) (dRe k d) (dIm k d)))) ∧ w' = w) := ht1
    have HT2 : Aside (∀ w, Calls Try.prog 21 #[.complex .f64 (fb (rotRe (k / 8 % 4) (dRe k d) (dIm k d))) (fb (rotIm (k / 8 % 4) (dRe k d) (dIm k d))), .int .i64 (r : Int)] w fun e w' => e = .returned (.complex .f64 (fb W1) (fb W2)) ∧ w' = w) := ht2
    have HAD : Aside (∀ w, Calls Try.prog 22 #[.complex .f64 (fb X1) (fb X2), .complex .f64 (fb W1) (fb W2)] w fun e w' => e = .returned (.tuple #[.complex .f64 (fb (X1 + W1)) (fb (X2 + W2)), .int .i64 0]) ∧ w' = w) := had
    have HQ : Aside ((∀ w, Sem.run Try.prog (binOp .eql 38 (.complex .f64 (fb (X1 + W1)) (fb (X2 + W2))) (.complex .f64 (fb (X1 + W1)) (fb (X2 + W2)))) w = .ok (.bool true) w) ∧
        (∀ w, Sem.run Try.prog (binOp .neq 38 (.complex .f64 (fb X1) (fb X2)) (.complex .f64 (fb (X1 + W1)) (fb (X2 + W2)))) w = .ok (.bool true) w)) := ⟨hq1, hq2⟩
    have HSUM : Aside (fb (smRe (L ++ [⟨f.page, 1, false, f.bytes.set k nb⟩])) = fb (X1 + W1) ∧ fb (smIm (L ++ [⟨f.page, 1, false, f.bytes.set k nb⟩])) = fb (X2 + W2)) := ⟨congrArg fb hsum2.1, congrArg fb hsum2.2⟩
    have h3 := and3_mod k (by omega)
    have h4 := and4_mod k (by omega)
    obtain ⟨kr, hkr⟩ : ∃ kr, k % 4 = kr := ⟨_, rfl⟩
    rw [hkr] at h3 hsh
    have HC : Aside ((k % 8 < 4 → fb (d * 256 ^ kr) = fb (dRe k d) ∧ fb 0 = fb (dIm k d)) ∧ (¬ k % 8 < 4 → fb (d * 256 ^ kr) = fb (dIm k d) ∧ fb 0 = fb (dRe k d))) := by
      refine ⟨fun h => ?_, fun h => ?_⟩
      · unfold dRe dIm; rw [if_pos h, if_pos h, hkr]; exact ⟨rfl, rfl⟩
      · unfold dRe dIm; rw [if_neg h, if_neg h, hkr]; exact ⟨rfl, rfl⟩
    clear hsum hsum2 hnz hdl hdr hsl hll hX1 hX2 hre hb1 hb2 ht1 ht2 had hq1 hq2 hW1 hW2 hd hnb hnr hu0b
    generalize fb (dRe k d) = p1 at *
    generalize fb (dIm k d) = p2 at *
    generalize fb (rotRe (k / 8 % 4) (dRe k d) (dIm k d)) = q1 at *
    generalize fb (rotIm (k / 8 % 4) (dRe k d) (dIm k d)) = q2 at *
    generalize fb (X1 + W1) = y1 at *
    generalize fb (X2 + W2) = y2 at *
    generalize fb W1 = v1 at *
    generalize fb W2 = v2 at *
    generalize fb X1 = x1 at *
    generalize fb X2 = x2 at *
    go_wp2_with fail
    refine (Make_calls _ _ _).mono ?_
    rintro e w6 ⟨rfl, rfl⟩
    rw [hsh]
    by_cases hk8 : k % 8 < 4
    case' pos =>
      rw [if_pos hk8] at h4
      have hAB := HC.out.1 hk8
      rw [hAB.1, hAB.2]
      go_upto_region 14 with fail
    case' neg =>
      rw [if_neg hk8] at h4
      go_wp2_with fail
      refine (Make_calls _ _ _).mono ?_
      rintro e w6 ⟨rfl, rfl⟩
      have hAB := HC.out.2 hk8
      rw [hsh, hAB.1, hAB.2]
      go_upto_region 14 with fail
    all_goals clear hAB h3 h4 hkr hsh
    all_goals go_quiet (first | (go_at_call 21; with_reducible refine Calls.quiet_of_same (HT1.out _ (Int.natCast_ediv k 8).symm _)) | (go_at_call 21; with_reducible refine Calls.quiet_of_same (HT2.out _)))
    all_goals go_wp2_with fail
    all_goals refine (HAD.out _).mono ?_
    all_goals rintro e w7 ⟨rfl, rfl⟩
    all_goals have fz : ∀ j, w6.frozen? ⟨bq, j, none⟩ = false := fun j => HS5.out.froz j
    all_goals have hne1 : ¬ (bq = w1.heap.size) := by have := HFB.out.2.1; omega
    all_goals have hne2 : ¬ (w1.heap.size = bq) := by have := HFB.out.2.1; omega
    all_goals go_upto_region 18 with fail
    all_goals have HS8 : Aside (Side (((w6.drewN nq).setCell ⟨bq, L.length * 4 + 1, none⟩ (.int .i64 1)).setCell ⟨bq, L.length * 4 + 2, none⟩ (.bool false)) (w.heap.size + 4) 58 (.slice (some ⟨bq, 0, none⟩) (L.length + 1) cap) (L ++ [⟨f.page, 1, false, f.bytes.set k nb⟩]) fa) := headed HS5.out nq
    all_goals have HBA8 : Aside (Box (((w6.drewN nq).setCell ⟨bq, L.length * 4 + 1, none⟩ (.int .i64 1)).setCell ⟨bq, L.length * 4 + 2, none⟩ (.bool false)) w1.heap.size (.bool on) (.int .u64 rt) (.int .i64 asd) (.slice (some ⟨bq, 0, none⟩) (L.length + 1) cap)) := ((show Box (w6.drewN nq) _ _ _ _ _ from HBA5.out).set hne1).set hne1
    all_goals have HWB8 : Aside (Below w.heap.size w (((w6.drewN nq).setCell ⟨bq, L.length * 4 + 1, none⟩ (.int .i64 1)).setCell ⟨bq, L.length * 4 + 2, none⟩ (.bool false))) := ((show Below w.heap.size w (w6.drewN nq) from ⟨HWB5.out.os, HWB5.out.tape, HWB5.out.output, HWB5.out.size, HWB5.out.block⟩).setCell (by have := HFB.out; show w.heap.size ≤ bq; omega) _).setCell (by have := HFB.out; show w.heap.size ≤ bq; omega) _
    all_goals clear a0 a1 a2 a3 c0 c1 c2 c3 fz hne1 hne2
    all_goals generalize ((w6.drewN nq).setCell ⟨bq, L.length * 4 + 1, none⟩ (.int .i64 1)).setCell ⟨bq, L.length * 4 + 2, none⟩ (.bool false) = w8 at *
    all_goals obtain ⟨-, a0, a1, a2, a3⟩ := HBA8.out
    all_goals go_wp2_with fail
    all_goals refine (Sum_any on rt asd (some ⟨bq, 0, none⟩) (L.length + 1) cap w8.heap.size (L ++ [⟨f.page, 1, false, f.bytes.set k nb⟩]) fa _ (by simp) (by omega) (by simp) HRT.out.1 HS8.out.leaves.1 (fun z hz => (HF8.out z hz).1) (fun z hz => (HF8.out z hz).2) HCK8.out).mono ?_
    all_goals rintro e w9 ⟨rfl, hb9⟩
    all_goals rw [HSUM.out.1, HSUM.out.2]
    all_goals have HWB9 : Aside (Below w.heap.size w w9) := HWB8.out.trans (hb9.mono HWB8.out.size)
    all_goals clear hb9 a0 a1 a2 a3
    all_goals go_wp2_with fail
    all_goals refine (HT.out _).mono ?_
    all_goals rintro e w10 ⟨rfl, hb10⟩
    all_goals have HWB10 : Aside (Below w.heap.size w w10) := HWB9.out.trans (hb10.mono HWB9.out.size)
    all_goals have hq1 := HQ.out.1
    all_goals have hq2 := HQ.out.2
    all_goals clear hb10
    all_goals go_wp2_with fail
    all_goals go_ret
    all_goals exact ⟨rfl, HWB10.out⟩
end Go.Proofs.Ytdlnipimljpmgaa
