/- ImageBack. -/
import Derived.Test.YtdlnipimljpmgaaIW18
import Derived.Test.YtdlnipimljpmgaaIW17
import Derived.Test.YtdlnipimljpmgaaIW8
import Derived.Test.YtdlnipimljpmgaaIW10
set_option linter.unusedVariables false
set_option linter.unusedSimpArgs false
set_option linter.unusedSectionVars false
set_option linter.unnecessarySimpa false
namespace Go.Proofs.Ytdlnipimljpmgaa
open Go Go.RowKit Go.Im Go.Lib Go.Fl

theorem made_chk {on : Bool} {root asid rt asd last : Int} {ls : List Lf} (h : Hdr true root asid rt asd) (k : MadeOk true ls last) (hl : ls.length ≤ 12) : chk ⟨on, rt, asd, ls⟩ = 0 := by
  obtain ⟨h1, h2, -⟩ := h
  obtain ⟨a1, a2, a3, a4⟩ := h2 rfl
  obtain ⟨b1, b2, -⟩ := k.ok rfl
  have hw : ls.any wrong = false := by
    rw [List.any_eq_false]
    intro f hf
    rw [b1 f hf]
    simp
  unfold chk
  simp only
  rw [if_neg (by omega), hw, if_neg (by simp), if_neg (by omega), if_neg]
  intro hc
  rcases hc with hc | hc
  · omega
  · exact hc ⟨by omega, b2⟩

theorem chk_facts {m : Img} (h : chk m = 0) : m.leaves.length ≤ 1024 ∧ m.root < 1099511627776 ∧ (∀ f ∈ m.leaves, f.bytes.length = 4096 ∧ f.page < 268435456 ∧ wrong f = false) := by
  obtain ⟨_, _, h3, _, h5, h6, h7⟩ := chk_right h
  refine ⟨h6, h5, fun f hf => ?_⟩
  have hw : wrong f = false := by
    rw [List.any_eq_false] at h3
    have := h3 f hf
    simpa using this
  refine ⟨?_, rises_lt _ h7 f hf, hw⟩
  unfold wrong at hw
  simp only [Bool.or_eq_false_iff] at hw
  have := hw.2
  simpa using this

theorem encLeaf_short {f : Lf} (h : f.bytes.length = 4096) : (encLeaf f).length ≤ 4104 := by
  have := used_le f.bytes
  unfold encLeaf
  simp [leB_length]
  omega
theorem flat_short : ∀ (l : List Lf), (∀ f ∈ l, f.bytes.length = 4096) → (l.flatMap encLeaf).length ≤ l.length * 4104
  | [], _ => by simp
  | f :: l, h => by
    have h1 := encLeaf_short (h f (by simp))
    have h2 := flat_short l (fun g hg => h g (by simp [hg]))
    simp only [List.flatMap_cons, List.length_append, List.length_cons]
    omega
theorem enc_short (m : Img) (h : m.leaves.length ≤ 12) (hl : ∀ f ∈ m.leaves, f.bytes.length = 4096) : (enc m).length ≤ 1000000 := by
  have h1 := flat_short m.leaves hl
  have h2 : (encHead m).length = 18 := by simp [encHead, leB_length]
  unfold enc
  rw [List.length_append, h2]
  omega
theorem byte_nn {l : List Int} (h : Byte l) : Nn l := fun x hx => (h x hx).1
theorem dec_enc {m : Img} (h : chk m = 0) (hp : ∀ f ∈ m.leaves, 0 ≤ f.page) (hr : 0 ≤ m.root) (hb : ∀ f ∈ m.leaves, Byte f.bytes) : dec (enc m) = some m :=
  (dec_iff (byte_nn (enc_byte m hb)) m).2 ⟨h, rfl, hp, hr⟩

/-- A box of four cells. -/
def Box (w : World) (g : Nat) (x0 x1 x2 x3 : Value) : Prop := g < w.heap.size ∧ w.cell? ⟨g, 0, none⟩ = some x0 ∧ w.cell? ⟨g, 1, none⟩ = some x1 ∧ w.cell? ⟨g, 2, none⟩ = some x2 ∧ w.cell? ⟨g, 3, none⟩ = some x3
section
variable {w w' : World} {g : Nat} {x0 x1 x2 x3 : Value}
theorem Box.all (h : Box w g x0 x1 x2 x3) (hb : Below w.heap.size w w') : Box w' g x0 x1 x2 x3 := by
  obtain ⟨h0, h1, h2, h3, h4⟩ := h
  exact ⟨Nat.lt_of_lt_of_le h0 hb.size, (hb.cell (by exact h0)).trans h1, (hb.cell (by exact h0)).trans h2, (hb.cell (by exact h0)).trans h3, (hb.cell (by exact h0)).trans h4⟩
theorem Box.new {t : Nat} : Box (w.alloc (.cells #[x0, x1, x2, x3] t)) w.heap.size x0 x1 x2 x3 := by
  refine ⟨by simp, ?_, ?_, ?_, ?_⟩ <;> exact cell_new0 () rfl
theorem Box.new1 {t : Nat} {o : Obj} : Box ((w.alloc o).alloc (.cells #[x0, x1, x2, x3] t)) (w.heap.size + 1) x0 x1 x2 x3 := by
  have := Box.new (w := w.alloc o) (t := t) (x0 := x0) (x1 := x1) (x2 := x2) (x3 := x3)
  have e : (w.alloc o).heap.size = w.heap.size + 1 := by simp
  rw [e] at this
  exact this
end
theorem below_alloc (w : World) (o : Obj) : Below w.heap.size w (w.alloc o) := (Below.refl _ _).alloc (Nat.le_refl _) _

theorem of_callsE (on : Bool) (rt asd : Int) (ls : List Lf) {B : Nat} {w : World} {a4 : Option Addr} {c4 : Nat} {fs : List Value} (hbig : ls.length ≤ 1000000) (hBw : B ≤ w.heap.size) (hx : LeavesF B w (.slice a4 ls.length c4) ls fs) :
    Calls Try.prog 16 #[.agg #[.bool on, .int .u64 rt, .int .i64 asd, .slice a4 ls.length c4]] w fun e w' => ∃ v5 v5c, e = .returned (.agg #[.bool on, .int .u64 rt, .int .i64 asd, .slice v5 ls.length v5c]) ∧ Below w.heap.size w w' ∧ LeavesF w'.heap.size w' (.slice v5 ls.length v5c) ls fs :=
  (of_calls ⟨on, rt, asd, ls⟩ (x := .slice a4 ls.length c4) hbig hBw hx).mono fun e w' ⟨u5, he, hb, hl⟩ => by
    obtain ⟨v5, v5c, rfl, -⟩ := hl.shape
    exact ⟨v5, v5c, he, hb, hl⟩

theorem back_mid {w1 w4 w5 : World} {on : Bool} {rt asd : Int} {a4 v5 vb : Option Addr} {c4 v5c vd : Nat} {ls : List Lf} {fb fs4 : List Value} (hlb : LeavesF w1.heap.size w1 (.slice vb ls.length vd) ls fb) (h14 : Below w1.heap.size w1 w4) (hbb : Box w4 (w1.heap.size + 1) (.bool on) (.int .u64 rt) (.int .i64 asd) (.slice vb ls.length vd))
    (hb5 : Below ((w4.alloc (.cells #[.bool on, .int .u64 rt, .int .i64 asd, .slice a4 ls.length c4] 26)).drew).heap.size ((w4.alloc (.cells #[.bool on, .int .u64 rt, .int .i64 asd, .slice a4 ls.length c4] 26)).drew) w5) (hl5 : LeavesF w5.heap.size w5 (.slice v5 ls.length v5c) ls fs4) :
    LeavesF w5.heap.size w5 (.slice v5 ls.length v5c) ls fs4 ∧ LeavesF w5.heap.size w5 (.slice vb ls.length vd) ls fb ∧ Below w4.heap.size w4 w5 ∧ Box w5 w4.heap.size (.bool on) (.int .u64 rt) (.int .i64 asd) (.slice a4 ls.length c4) ∧ Box w5 (w1.heap.size + 1) (.bool on) (.int .u64 rt) (.int .i64 asd) (.slice vb ls.length vd) := by
  have hb5 : Below (w4.heap.size + 1) ((w4.alloc (.cells #[.bool on, .int .u64 rt, .int .i64 asd, .slice a4 ls.length c4] 26)).drew) w5 := by
    have e : ((w4.alloc (.cells #[.bool on, .int .u64 rt, .int .i64 asd, .slice a4 ls.length c4] 26)).drew).heap.size = w4.heap.size + 1 := by
      show (w4.alloc _).heap.size = _; simp
    rw [← e]; exact hb5
  have h45 : Below w4.heap.size w4 w5 := ((below_alloc w4 _).drew).trans (hb5.mono (by omega))
  refine ⟨hl5, ((hlb.below h14).up h14.size |>.below h45).up h45.size, h45, ?_, hbb.all h45⟩
  have hn : Box (w4.alloc (.cells #[.bool on, .int .u64 rt, .int .i64 asd, .slice a4 ls.length c4] 26)) w4.heap.size (.bool on) (.int .u64 rt) (.int .i64 asd) (.slice a4 ls.length c4) := Box.new
  obtain ⟨h0, h1, h2, h3, h4⟩ := hn
  refine ⟨by have := h45.size; have := hb5.size; have e : ((w4.alloc (.cells #[.bool on, .int .u64 rt, .int .i64 asd, .slice a4 ls.length c4] 26)).drew).heap.size = w4.heap.size + 1 := (by show (w4.alloc _).heap.size = _; simp); omega, ?_, ?_, ?_, ?_⟩
  · rw [hb5.cell (by simp)]; exact h1
  · rw [hb5.cell (by simp)]; exact h2
  · rw [hb5.cell (by simp)]; exact h3
  · rw [hb5.cell (by simp)]; exact h4

set_option maxRecDepth 100000 in
set_option maxHeartbeats 4000000 in
theorem Back_any (rx : Option Addr) (rn rc : Nat) (L : List Int) (on : Bool) (root asid : Int) (x : Option Addr) (n c B : Nat) (l : List Ln) (w : World) (hBw : B ≤ w.heap.size) (hr : 0 ≤ root ∧ root < 18446744073709551616) (hrn : L.length = rn) (hby : Byte L) (hraw : Bs B w (.slice rx rn rc) L) (hx : Lns B w (.slice x n c) l) :
    Calls Try.prog 5 #[.slice rx rn rc, .bool on, .int .u64 root, .int .i64 asid, .slice x n c] w fun e w' => e = .returned (.bool true) ∧ Below w.heap.size w w' := by
  have HRAW : Aside (Bs B w (.slice rx rn rc) L) := hraw
  have HX : Aside (Lns B w (.slice x n c) l) := hx
  have HBY : Aside (Byte L) := hby
  have HRN : Aside (L.length = rn) := hrn
  clear hraw hx hby hrn
  go_enter Try.func5, Try.ntmps5
  go_wp2_with fail
  refine (Made_any true on root asid x n c B l w hBw hr HX.out).mono ?_
  rintro e w1 ⟨rt, asd, ls, fa, fb, v1, v2, rfl, hhdr, ⟨last, hmo⟩, hl12, hsa, hsb, hb1⟩
  have HCK : Aside (chk ⟨on, rt, asd, ls⟩ = 0) := made_chk hhdr hmo hl12
  have HFL : Aside (∀ f ∈ ls, f.bytes.length = 4096 ∧ f.page < 268435456 ∧ wrong f = false) := (chk_facts HCK.out).2.2
  have HMO : Aside (∀ f ∈ ls, (0 ≤ f.page ∧ f.page < 18446744073709551616) ∧ Byte f.bytes ∧ 0 < f.bytes.length ∧ f.bytes.length ≤ 4096) := hmo.all
  have HRT : Aside (0 ≤ rt ∧ rt < 18446744073709551616) := hhdr.1
  have HLA : Aside (LeavesF w1.heap.size w1 v1 ls fa) := hsa.leaves.1
  have HCA : Aside (∀ f ∈ fa, CapOk f) := hsa.leaves.2
  have HLB : Aside (LeavesF w1.heap.size w1 v2 ls fb) := hsb.leaves.1
  have HB1 : Aside (Below w.heap.size w w1) := hb1
  have HL12 : Aside (ls.length ≤ 12) := hl12
  obtain ⟨va, vc, rfl, -⟩ := HLA.out.shape
  obtain ⟨vb, vd, rfl, -⟩ := HLB.out.shape
  clear hhdr hmo hl12 hsa hsb hb1
  go_wp2_with fail
  refine (Check_any on rt asd va ls.length vc w1.heap.size ls fa _ rfl (by have := HL12.out; omega) (by simp; omega) HRT.out.1 (HLA.out.below (((Below.refl _ _).alloc (Nat.le_refl _) _).alloc (by simp) _)) (fun f hf => by rw [(HFL.out f hf).1]; omega)).mono ?_
  rintro e w2 ⟨rfl, hb2⟩
  rw [HCK.out]
  have HBA : Aside (Box w2 w1.heap.size (.bool on) (.int .u64 rt) (.int .i64 asd) (.slice va ls.length vc)) := (Box.new.all (below_alloc _ _)).all hb2
  have HBB : Aside (Box w2 (w1.heap.size + 1) (.bool on) (.int .u64 rt) (.int .i64 asd) (.slice vb ls.length vd)) := Box.new1.all hb2
  have HB2 : Aside (Below w1.heap.size w1 w2) := (((Below.refl _ _).alloc (Nat.le_refl _) _).alloc (by simp) _).trans (hb2.mono (by simp; omega))
  have HWB2 : Aside (Below w.heap.size w w2) := HB1.out.trans (HB2.out.mono HB1.out.size)
  clear hb2
  obtain ⟨-, a0, a1, a2, a3⟩ := HBA.out
  go_wp2_with fail
  refine (Encode_any on rt asd va ls.length vc w1.heap.size ls fa _ rfl (by have := HL12.out; omega) HB2.out.size HRT.out.1 HRT.out.2 (HLA.out.below HB2.out) (fun f hf => (HMO.out f hf).1) (fun f hf => (HFL.out f hf).1) HCA.out HCK.out).mono ?_
  rintro e w3 ⟨v3, rfl, hb3, ho3⟩
  have HO3 : Aside (Bs w3.heap.size w3 v3 (enc ⟨on, rt, asd, ls⟩)) := Bs.owned ho3
  have HBB3 : Aside (Box w3 (w1.heap.size + 1) (.bool on) (.int .u64 rt) (.int .i64 asd) (.slice vb ls.length vd)) := HBB.out.all hb3
  have HWB3 : Aside (Below w.heap.size w w3) := HWB2.out.trans (hb3.mono HWB2.out.size)
  have HB13 : Aside (Below w1.heap.size w1 w3) := HB2.out.trans (hb3.mono HB2.out.size)
  have HEL : Aside ((enc ⟨on, rt, asd, ls⟩).length ≤ 1000000) := enc_short _ HL12.out (fun f hf => (HFL.out f hf).1)
  clear hb3 ho3 a0 a1 a2 a3
  go_wp2_with fail
  refine (Decode_calls w3 HEL.out (Nat.le_refl _) (enc_byte _ (fun f hf => (HMO.out f hf).2.1)) HO3.out).mono ?_
  rintro e w4 ⟨hb4, he⟩
  rw [dec_enc HCK.out (fun f hf => (HMO.out f hf).1.1) HRT.out.1 (fun f hf => (HMO.out f hf).2.1)] at he
  obtain ⟨v4, fs4, rfl, hl4, hc4⟩ := he
  have HL4 : Aside (LeavesF w4.heap.size w4 v4 ls fs4) := hl4
  have HBB4 : Aside (Box w4 (w1.heap.size + 1) (.bool on) (.int .u64 rt) (.int .i64 asd) (.slice vb ls.length vd)) := HBB3.out.all hb4
  have HWB4 : Aside (Below w.heap.size w w4) := HWB3.out.trans (hb4.mono HWB3.out.size)
  have HB14 : Aside (Below w1.heap.size w1 w4) := HB13.out.trans (hb4.mono HB13.out.size)
  obtain ⟨a4, c4, rfl, -⟩ := hl4.shape
  clear hb4 hl4 hc4
  obtain ⟨hlb, b0, b1, b2, b3⟩ := HBB4.out
  have s0 := fun ob => Lib.cell?_alloc_some ob b0
  have s1 := fun ob => Lib.cell?_alloc_some ob b1
  have s2 := fun ob => Lib.cell?_alloc_some ob b2
  have s3 := fun ob => Lib.cell?_alloc_some ob b3
  have HLM : Aside (∀ f ∈ ls, f.bytes.length = 4096 ∧ Byte f.bytes) := fun f hf => ⟨(HFL.out f hf).1, (HMO.out f hf).2.1⟩
  have hls : decide (ls = ls) = true := decide_eq_true rfl
  go_upto_region 6 with fail
  go_cut [55] from 43 (fun v wx => v = .bool false ∧ Below w4.heap.size w4 wx)
  case first =>
    go_region_held3 (fun w' => (w'.cell? ⟨w4.heap.size, 0, none⟩ = some (.bool on) ∧ w'.cell? ⟨w4.heap.size, 1, none⟩ = some (.int .u64 rt) ∧ w'.cell? ⟨w4.heap.size, 2, none⟩ = some (.int .i64 asd) ∧ w'.cell? ⟨w4.heap.size, 3, none⟩ = some (.slice a4 ls.length c4)) ∧
        w'.cell? ⟨w1.heap.size + 1, 0, none⟩ = some (.bool on) ∧ w'.cell? ⟨w1.heap.size + 1, 1, none⟩ = some (.int .u64 rt) ∧ w'.cell? ⟨w1.heap.size + 1, 2, none⟩ = some (.int .i64 asd) ∧ w'.cell? ⟨w1.heap.size + 1, 3, none⟩ = some (.slice vb ls.length vd)) (go_keep) (first
      | (have hfirst := HL5; clear hfirst; go_simp; go_at_call 15; refine (Same_loop on on rt rt asd asd v5 vb ls.length v5c vd w5.heap.size ls ls fs4 fb w5 rfl rfl (by have := HL12.out; omega) (Nat.le_refl _) rfl rfl rfl HL5.out.1 HL5.out.2.1 HLM.out HLM.out).mono ?_; rintro e w6 ⟨rfl, hb6⟩; have HB6 : Aside (Below w4.heap.size w4 w6) := HL5.out.2.2.1.trans (hb6.mono HL5.out.2.2.1.size); obtain ⟨-, k0, k1, k2, k3⟩ := HL5.out.2.2.2.1.all hb6; obtain ⟨-, j0, j1, j2, j3⟩ := HL5.out.2.2.2.2.all hb6; clear hb6)
      | (go_simp; go_at_call 16; refine (of_callsE on rt asd ls (B := w4.heap.size) (w := (w4.alloc (.cells #[.bool on, .int .u64 rt, .int .i64 asd, .slice a4 ls.length c4] 26)).drew) (by have := HL12.out; omega) (by simp) (HL4.out.below ((Below.refl _ _).alloc (Nat.le_refl _) _).drew)).mono ?_; rintro e w5 ⟨v5, v5c, rfl, hb5, hl5⟩; have HL5 : Aside (LeavesF w5.heap.size w5 (.slice v5 ls.length v5c) ls fs4 ∧ LeavesF w5.heap.size w5 (.slice vb ls.length vd) ls fb ∧ Below w4.heap.size w4 w5 ∧ Box w5 w4.heap.size (.bool on) (.int .u64 rt) (.int .i64 asd) (.slice a4 ls.length c4) ∧ Box w5 (w1.heap.size + 1) (.bool on) (.int .u64 rt) (.int .i64 asd) (.slice vb ls.length vd)) := back_mid HLB.out HB14.out HBB4.out hb5 hl5; obtain ⟨-, t0, t1, t2, t3⟩ := HL5.out.2.2.2.1; obtain ⟨-, m0, m1, m2, m3⟩ := HL5.out.2.2.2.2; clear hb5 hl5))
    all_goals go_wp2_with fail
    all_goals go_meet
    all_goals exact ⟨rfl, HB6.out⟩
  case rest =>
    obtain ⟨rfl, hbx⟩ := hcut
    have HBX : Aside (Below w.heap.size w wc) := HWB4.out.trans (hbx.mono HWB4.out.size)
    clear hbx s0 s1 s2 s3 b0 b1 b2 b3
    have HT : Aside (∀ w, Calls Try.prog 17 #[] w fun e w' => e = .returned (.bool true) ∧ Below w.heap.size w w') := told_calls
    by_cases h6 : rn ≤ 600
    · have hi : ¬ ((600 : Int) < (rn : Int)) := by omega
      go_wp2_with fail
      refine (Decode_calls wc (by rw [HRN.out]; omega) (Nat.le_trans hBw HBX.out.size) HBY.out (HRAW.out.below (HBX.out.mono hBw))).mono ?_
      rintro e w5 ⟨hb5, he⟩
      have HB5 : Aside (Below w.heap.size w w5) := HBX.out.trans (hb5.mono HBX.out.size)
      clear hb5
      cases hd : dec L with
      | none =>
        rw [hd] at he
        subst he
        go_wp2_with fail
        refine (HT.out _).mono ?_
        rintro e w6 ⟨rfl, hb6⟩
        obtain ⟨hl6, -, -, -, t3⟩ := (Box.new (w := w5) (t := 26) (x0 := .bool false) (x1 := .int .u64 0) (x2 := .int .i64 0) (x3 := .slice none 0 0)).all hb6
        have HB6 : Aside (Below w.heap.size w w6) := HB5.out.trans ((below_alloc w5 _).mono HB5.out.size |>.trans (hb6.mono (by have := HB5.out.size; simp; omega)))
        clear hb6
        go_wp2_with fail
        go_ret
        exact ⟨rfl, HB6.out⟩
      | some m =>
        rw [hd] at he
        obtain ⟨v5, fs5, rfl, hl5, hc5⟩ := he
        obtain ⟨d1, d2, d3, d4⟩ := (dec_iff (byte_nn HBY.out) m).1 hd
        obtain ⟨f1, f2, f3⟩ := chk_facts d1
        obtain ⟨on5, rt5, as5, ls5⟩ := m
        obtain ⟨a5, c5, rfl, -⟩ := hl5.shape
        have HL5 : Aside (LeavesF w5.heap.size w5 (.slice a5 ls5.length c5) ls5 fs5) := hl5
        have HC5 : Aside (∀ f ∈ fs5, CapOk f) := hc5
        have HF5 : Aside (ls5.length ≤ 1024 ∧ rt5 < 1099511627776 ∧ (∀ f ∈ ls5, f.bytes.length = 4096 ∧ f.page < 268435456 ∧ wrong f = false)) := ⟨f1, f2, f3⟩
        have HD5 : Aside (chk ⟨on5, rt5, as5, ls5⟩ = 0 ∧ enc ⟨on5, rt5, as5, ls5⟩ = L ∧ (∀ f ∈ ls5, 0 ≤ f.page) ∧ 0 ≤ rt5) := ⟨d1, d2, d3, d4⟩
        clear hl5 hc5 d1 d2 d3 d4 f1 f2 f3 hd
        go_wp2_with fail
        refine (Encode_any on5 rt5 as5 a5 ls5.length c5 w5.heap.size ls5 fs5 _ rfl HF5.out.1 (by simp) HD5.out.2.2.2 (by have := HF5.out.2.1; omega) (HL5.out.below (below_alloc w5 _)) (fun f hf => ⟨HD5.out.2.2.1 f hf, by have := (HF5.out.2.2 f hf).2.1; omega⟩) (fun f hf => (HF5.out.2.2 f hf).1) HC5.out HD5.out.1).mono ?_
        rintro e w6 ⟨v6, rfl, hb6, ho6⟩
        rw [HD5.out.2.1] at ho6
        have HB6 : Aside (Below w.heap.size w w6) := HB5.out.trans ((below_alloc w5 _).mono HB5.out.size |>.trans (hb6.mono (by have := HB5.out.size; simp; omega)))
        have HO6 : Aside (Bs w6.heap.size w6 v6 L) := Bs.owned ho6
        clear hb6 ho6
        obtain ⟨a6, c6, rfl⟩ := HO6.out.shape
        go_wp2_with fail
        refine (HT.out _).mono ?_
        rintro e w7 ⟨rfl, hb7⟩
        have HB7 : Aside (Below w.heap.size w w7) := HB6.out.trans (hb7.mono HB6.out.size)
        have hpos : 0 < L.length := by rw [← HD5.out.2.1]; exact enc_pos _
        have hcv1 := conv_bytes HO6.out rfl hpos w7 hb7
        have hcv2 := conv_bytes HRAW.out HRN.out (by rw [← HRN.out]; exact hpos) w7 (HB7.out.mono hBw)
        have hst : ((strOfNums L).toList == (strOfNums L).toList) = true := beq_self_eq_true _
        clear hb7
        go_wp2_with fail
        go_ret
        exact ⟨rfl, HB7.out⟩
    · have hi : ((600 : Int) < (rn : Int)) := by omega
      go_wp2_with fail
      refine (HT.out _).mono ?_
      rintro e w5 ⟨rfl, hb5⟩
      go_wp2_with fail
      go_ret
      exact ⟨rfl, HBX.out.trans (hb5.mono HBX.out.size)⟩
end Go.Proofs.Ytdlnipimljpmgaa
