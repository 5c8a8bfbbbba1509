/- demesnetop.TopWarm says true, whatever the orders. -/
import Derived.Test.YtmjogmpgamlhaaaGreatWTP0
import Derived.Test.YtmjogmpgamlhaaaGreatWTP8
import Derived.Test.YtmjogmpgamlhaaaGreatWTP16
import Derived.Test.YtmjogmpgamlhaaaGreatWTP24
import Derived.Test.YtmjogmpgamlhaaaGreatWTP32
import Derived.Test.YtmjogmpgamlhaaaGreatWMP0
import Derived.Test.YtmjogmpgamlhaaaGreatWMP8
import Derived.Test.YtmjogmpgamlhaaaGreatWMP15
import Derived.Test.YtmjogmpgamlhaaaGreatWX
import Derived.Test.YtmjogmpgamlhaaaGreatWO
set_option linter.unusedVariables false
set_option linter.unusedSimpArgs false
set_option linter.unusedSectionVars false
set_option maxRecDepth 100000
set_option maxHeartbeats 0
namespace Go.Proofs.YtmjogmpgamlhaaaGreat
open Go Go.Proofs.YtmjogmpgamlhaaaGreat.Dm Go.RowKit
theorem wtok_k0 : wtkc_k0.ok Tryz.prog := ⟨knownH_of (fn := Tryz.f70) wtenters70 Tryz.func70 wtbody70_eq (args := wtargs_k0) (frT := wtfrT_k0) (Nat.le_of_ble_eq_true (by kernel_rfl)) (.inl (EndsR.piece rfl (wtkk_k0_ok ) wtp_k0_0 (EndsR.piece rfl (wtkk_k0_ok ) wtp_k0_1 (EndsR.piece rfl (wtkk_k0_ok ) wtp_k0_2 (EndsR.piece rfl (wtkk_k0_ok ) wtp_k0_3 (EndsR.piece rfl (wtkk_k0_ok ) wtp_k0_4 (EndsR.end_ (wtkk_k0_ok ) wtq_k0))))))) (by kernel_rfl), by kernel_rfl, by kernel_rfl⟩
theorem wtok_k1 : wtkc_k1.ok Tryz.prog := ⟨knownH_of (fn := Tryz.f215) wtenters215 Tryz.func215 wtbody215_eq (args := wtargs_k1) (frT := wtfrT_k1) (Nat.le_of_ble_eq_true (by kernel_rfl)) (.inl (EndsR.piece rfl (wtkk_k1_ok ) wtp_k1_0 (EndsR.piece rfl (wtkk_k1_ok ) wtp_k1_1 (EndsR.piece rfl (wtkk_k1_ok ) wtp_k1_2 (EndsR.piece rfl (wtkk_k1_ok ) wtp_k1_3 (EndsR.end_ (wtkk_k1_ok ) wtq_k1)))))) (by kernel_rfl), by kernel_rfl, by kernel_rfl⟩
theorem wtok_k2 : wtkc_k2.ok Tryz.prog := ⟨knownH_of (fn := Tryz.f215) wtenters215 Tryz.func215 wtbody215_eq (args := wtargs_k2) (frT := wtfrT_k2) (Nat.le_of_ble_eq_true (by kernel_rfl)) (.inl (EndsR.piece rfl (wtkk_k2_ok ) wtp_k2_0 (EndsR.piece rfl (wtkk_k2_ok ) wtp_k2_1 (EndsR.piece rfl (wtkk_k2_ok ) wtp_k2_2 (EndsR.piece rfl (wtkk_k2_ok ) wtp_k2_3 (EndsR.end_ (wtkk_k2_ok ) wtq_k2)))))) (by kernel_rfl), by kernel_rfl, by kernel_rfl⟩
theorem wtok_k3 : wtkc_k3.ok Tryz.prog := ⟨knownH_of (fn := Tryz.f215) wtenters215 Tryz.func215 wtbody215_eq (args := wtargs_k3) (frT := wtfrT_k3) (Nat.le_of_ble_eq_true (by kernel_rfl)) (.inl (EndsR.piece rfl (wtkk_k3_ok ) wtp_k3_0 (EndsR.piece rfl (wtkk_k3_ok ) wtp_k3_1 (EndsR.piece rfl (wtkk_k3_ok ) wtp_k3_2 (EndsR.piece rfl (wtkk_k3_ok ) wtp_k3_3 (EndsR.end_ (wtkk_k3_ok ) wtq_k3)))))) (by kernel_rfl), by kernel_rfl, by kernel_rfl⟩
theorem wtends : Dm.Ends Tryz.prog false ⟨43, (Tr.e).put (some (.cv (.sc (.b true)))) 0⟩ [.code wtbody12] ⟨43, argsIn 0 [] .e⟩ Heap.nil := Dm.Ends.piece (wtkk_m_ok wtok_k0 wtok_k1 wtok_k2 wtok_k3) wtp_m_0 rfl (Dm.Ends.piece (wtkk_m_ok wtok_k0 wtok_k1 wtok_k2 wtok_k3) wtp_m_1 rfl (Dm.Ends.piece (wtkk_m_ok wtok_k0 wtok_k1 wtok_k2 wtok_k3) wtp_m_2 rfl (Dm.Ends.piece (wtkk_m_ok wtok_k0 wtok_k1 wtok_k2 wtok_k3) wtp_m_3 rfl (Dm.Ends.piece (wtkk_m_ok wtok_k0 wtok_k1 wtok_k2 wtok_k3) wtp_m_4 rfl (Dm.Ends.piece (wtkk_m_ok wtok_k0 wtok_k1 wtok_k2 wtok_k3) wtp_m_5 rfl (Dm.Ends.piece (wtkk_m_ok wtok_k0 wtok_k1 wtok_k2 wtok_k3) wtp_m_6 rfl (Dm.Ends.piece (wtkk_m_ok wtok_k0 wtok_k1 wtok_k2 wtok_k3) wtp_m_7 rfl (Dm.Ends.piece (wtkk_m_ok wtok_k0 wtok_k1 wtok_k2 wtok_k3) wtp_m_8 rfl (Dm.Ends.piece (wtkk_m_ok wtok_k0 wtok_k1 wtok_k2 wtok_k3) wtp_m_9 rfl (Dm.Ends.piece (wtkk_m_ok wtok_k0 wtok_k1 wtok_k2 wtok_k3) wtp_m_10 rfl (Dm.Ends.piece (wtkk_m_ok wtok_k0 wtok_k1 wtok_k2 wtok_k3) wtp_m_11 rfl (Dm.Ends.piece (wtkk_m_ok wtok_k0 wtok_k1 wtok_k2 wtok_k3) wtp_m_12 rfl (Dm.Ends.piece (wtkk_m_ok wtok_k0 wtok_k1 wtok_k2 wtok_k3) wtp_m_13 rfl (Dm.Ends.piece (wtkk_m_ok wtok_k0 wtok_k1 wtok_k2 wtok_k3) wtp_m_14 rfl (Dm.Ends.piece (wtkk_m_ok wtok_k0 wtok_k1 wtok_k2 wtok_k3) wtp_m_15 rfl (Dm.Ends.piece (wtkk_m_ok wtok_k0 wtok_k1 wtok_k2 wtok_k3) wtp_m_16 rfl (Dm.Ends.end_ (wtkk_m_ok wtok_k0 wtok_k1 wtok_k2 wtok_k3) wtq_m rfl)))))))))))))))))
theorem wtcalls (w : World) : Calls Tryz.prog 12 #[] w fun e w' => e = .returned (.bool true) ∧ Below w.heap.size w w' :=
  calls_of_ends (fn := Tryz.f12) Tryz.func12 wtbody12_eq (args := []) («as» := #[]) (by show 0 ≤ 43; decide) trivial wtends (by kernel_rfl) w
end Go.Proofs.YtmjogmpgamlhaaaGreat

set_option maxRecDepth 100000
set_option maxHeartbeats 0
namespace Go.Proofs.YtmjogmpgamlhaaaGreat
open Go Go.Proofs.YtmjogmpgamlhaaaGreat.Dm Go.RowKit
theorem wmok_k0 : wmkc_k0.ok Tryz.prog := ⟨knownH_of (fn := Tryz.f70) wmenters70 Tryz.func70 wmbody70_eq (args := wmargs_k0) (frT := wmfrT_k0) (Nat.le_of_ble_eq_true (by kernel_rfl)) (.inl (EndsR.piece rfl (wmkk_k0_ok ) wmp_k0_0 (EndsR.piece rfl (wmkk_k0_ok ) wmp_k0_1 (EndsR.piece rfl (wmkk_k0_ok ) wmp_k0_2 (EndsR.piece rfl (wmkk_k0_ok ) wmp_k0_3 (EndsR.piece rfl (wmkk_k0_ok ) wmp_k0_4 (EndsR.end_ (wmkk_k0_ok ) wmq_k0))))))) (by kernel_rfl), by kernel_rfl, by kernel_rfl⟩
theorem wmgoes (X0 X1 : AV) : Goes Tryz.prog [.code wmbody3] ⟨167, argsIn 0 [X0, X1] .e⟩ Heap.nil wmst_m_15 (wmfr_m_15 X0 X1) wmh_m_15 := (((((((((((((((Goes.piece (wmkk_m_ok wmok_k0) (wmp_m_0 X0 X1)).trans (Goes.piece (wmkk_m_ok wmok_k0) (wmp_m_1 X0 X1))).trans (Goes.piece (wmkk_m_ok wmok_k0) (wmp_m_2 X0 X1))).trans (Goes.piece (wmkk_m_ok wmok_k0) (wmp_m_3 X0 X1))).trans (Goes.piece (wmkk_m_ok wmok_k0) (wmp_m_4 X0 X1))).trans (Goes.piece (wmkk_m_ok wmok_k0) (wmp_m_5 X0 X1))).trans (Goes.piece (wmkk_m_ok wmok_k0) (wmp_m_6 X0 X1))).trans (Goes.piece (wmkk_m_ok wmok_k0) (wmp_m_7 X0 X1))).trans (Goes.piece (wmkk_m_ok wmok_k0) (wmp_m_8 X0 X1))).trans (Goes.piece (wmkk_m_ok wmok_k0) (wmp_m_9 X0 X1))).trans (Goes.piece (wmkk_m_ok wmok_k0) (wmp_m_10 X0 X1))).trans (Goes.piece (wmkk_m_ok wmok_k0) (wmp_m_11 X0 X1))).trans (Goes.piece (wmkk_m_ok wmok_k0) (wmp_m_12 X0 X1))).trans (Goes.piece (wmkk_m_ok wmok_k0) (wmp_m_13 X0 X1))).trans (Goes.piece (wmkk_m_ok wmok_k0) (wmp_m_14 X0 X1))).trans (Goes.piece (wmkk_m_ok wmok_k0) (wmp_m_15 X0 X1))
end Go.Proofs.YtmjogmpgamlhaaaGreat

set_option maxRecDepth 100000
namespace Go.Proofs.YtmjogmpgamlhaaaGreat
open Go Go.RowKit Go.Lib Go.Proofs.YtmjogmpgamlhaaaGreat.Dm

noncomputable def cBody : Code := sub wmbody3 [1,1,1,1,1,1,1,1,1,0,1, 0,0]
theorem body_eq : cBody = .seq (.seq c24 (.cond (.tmp 79) .skip (.exit 6))) (.seq (.block 7 (.seq c26 (.seq (.seq c27 (.cond (.tmp 91) (.seq c28 cY) .skip)) cZ))) c25) := by kernel_rfl
theorem loop_eq : sub wmbody3 [1,1,1,1,1,1,1,1,1,0,1] = .block 6 (.loop cBody) := by kernel_rfl

/-- A row of whole numbers that the law is given. -/
def SlF (W : World) (V : Value) (n : Nat) : Prop := (V = .slice none 0 0 ∧ n = 0) ∨ ∃ b o cap, V = .slice (some ⟨b, o, none⟩) n cap ∧ b < W.heap.size ∧ n ≤ cap ∧ ∀ i, i < n → ∃ z, W.cell? ⟨b, o + i, none⟩ = some (.int .i64 z)

theorem eval_tmp {a : Act} {t : Nat} {v : Value} (h : a.tmps[t]? = some v) : a.eval (.tmp t) = v := by
  simp [Act.eval, h]

theorem cell_kept {n : Nat} {w w' : World} (k : Kpt n w w') {b o : Nat} (hb : b < n) : w'.cell? ⟨b, o, none⟩ = w.cell? ⟨b, o, none⟩ := by
  simp only [World.cell?, k.block b hb]

section
variable {W : World} {V0 V1 : Value} {n0 n1 : Nat} {X0 X1 : AV} {q0 q1 : Option (Nat × Nat)} (A : Ar V0 V1 X0 X1 q0 q1) (s0 : SlF W V0 n0) (s1 : SlF W V1 n1) {pb qb : Nat} {ds : List Deferred}
include A s0 s1

/-- The loop's head holds. -/
structure Hd (W : World) (V0 V1 : Value) (q0 q1 : Option (Nat × Nat)) (pb qb : Nat) (ds : List Deferred) (i : Nat) (a : Act) (w : World) : Prop where
  fz : Fz V0 V1 (ptrV pb) (ptrV qb) (.int .i64 (i : Int)) ds a
  at_ : ∃ w' p', At W.heap.size q0 q1 pb qb (SSf w' p') w
  kp : Kpt W.heap.size W w
  pos : 0 < w.heap.size

omit A s1 in
theorem V0_form : ∃ p cap, V0 = .slice p n0 cap := by
  rcases s0 with ⟨h, rfl⟩ | ⟨b, o, cap, h, _⟩
  · exact ⟨_, _, h⟩
  · exact ⟨_, _, h⟩
omit A s0 in
theorem V1_form : ∃ p cap, V1 = .slice p n1 cap := by
  rcases s1 with ⟨h, rfl⟩ | ⟨b, o, cap, h, _⟩
  · exact ⟨_, _, h⟩
  · exact ⟨_, _, h⟩

/-- What is behind the flushes and outs: the load, and the count. -/
theorem behind {i k : Nat} (hi : i < 1000) (hk : k < 4) {a : Act} {w : World} (hf : Fz V0 V1 (ptrV pb) (ptrV qb) (.int .i64 (i : Int)) ds a) (h13 : a.tmps[13]? = some (.int .u64 (k : Int))) {g : Heap} (x : At W.heap.size q0 q1 pb qb g w)
    (hg : ∃ w' p', StZ k g (SSf w' p')) (kp : Kpt W.heap.size W w) (pos : 0 < w.heap.size) {Q : Kont} (kk : ∀ a' w', Hd W V0 V1 q0 q1 pb qb ds i a' w' → Q .normal a' w') : cZ.wp Tryz.prog Q a w := by
  obtain ⟨w2, p2, st⟩ := hg
  refine goZ A st x kp.size pos hf h13 ?_
  intro a' w' k1 k2 k3
  exact kk a' w' ⟨k1, ⟨w2, p2, k2⟩, kp.trans k3, by have := k3.size; omega⟩

theorem bodyX {i : Nat} (hi : i < n0) (hi' : i < 1000) {a : Act} {w : World} (h : Hd W V0 V1 q0 q1 pb qb ds i a w) {Q : Kont} (kk : ∀ a' w', Hd W V0 V1 q0 q1 pb qb ds i a' w' → Q .normal a' w') :
    (Code.seq c26 (.seq (.seq c27 (.cond (.tmp 91) (.seq c28 cY) .skip)) cZ)).wp Tryz.prog Q a w := by
  obtain ⟨hf, ⟨ww, pp, x⟩, kp, pos⟩ := h
  rcases s0 with ⟨_, rfl⟩ | ⟨b, o, cap, rfl, hb, hcp, hc⟩
  · omega
  obtain ⟨z, hz⟩ := hc i hi
  refine wp_seq (w26 hf w hi ((cell_kept kp hb).trans hz) ?_)
  intro a1 k hk f1 h13
  show (Code.seq _ _).wp _ _ _ _
  have s0' : SlF W (.slice (some ⟨b, o, none⟩) n0 cap) n0 := .inr ⟨b, o, cap, rfl, hb, hcp, hc⟩
  obtain ⟨p1, cap1, rfl⟩ := V1_form s1
  refine wp_seq (wp_seq (w27 (V12 := undef) f1 w h13 ?_))
  intro a2 f2 h13 h91
  show (Code.cond _ _ _).wp _ _ _ _
  refine wp_cond_split (eval_tmp h91) (fun ht => ?_) (fun hf => ?_)
  · have ht : i < n1 := by simpa using ht
    rcases s1 with ⟨hh, rfl⟩ | ⟨b1, o1, cp1, e1, hb1, hcp1, hc1⟩
    · omega
    obtain ⟨rfl, _, rfl⟩ : p1 = some ⟨b1, o1, none⟩ ∧ n1 = n1 ∧ cap1 = cp1 := by simpa using e1
    obtain ⟨z1, hz1⟩ := hc1 i ht
    refine wp_seq (w28 f2 w ht ((cell_kept kp hb1).trans hz1) h13 ?_)
    intro a3 r hr f3 h13 h96
    obtain ⟨g, sy, hg⟩ := selY hk hr ww pp
    show cY.wp _ _ _ _
    refine goY A sy x kp.size pos f3 h13 h96 ?_
    intro a4 w4 f4 h13 x4 k4
    show cZ.wp _ _ _ _
    exact behind A s0' (.inr ⟨b1, o1, cap1, rfl, hb1, hcp1, hc1⟩) hi' hk f4 h13 x4 hg (kp.trans k4) (by have := k4.size; omega) kk
  · refine wp_skip ?_
    show cZ.wp _ _ _ _
    exact behind A s0' s1 hi' hk f2 h13 x (selZ hk ww pp) kp pos kk

theorem rounds (Q : Kont) (hQ : ∀ i a w, Hd W V0 V1 q0 q1 pb qb ds i a w → Q (.exit 6) a w) : ∀ (m i : Nat), i + m = 41 → i ≤ 40 → ∀ a w, Hd W V0 V1 q0 q1 pb qb ds i a w → Code.rounds Tryz.prog cBody Q m a w := by
  intro m
  induction m with
  | zero => intro i he hle a w h; omega
  | succ m ih =>
    intro i he hle a w h
    show cBody.wp _ _ _ _
    rw [body_eq]
    obtain ⟨p0, cap0, rfl⟩ := V0_form s0
    have h0 := h
    obtain ⟨hf, hx, kp, pos⟩ := h
    refine wp_seq (wp_seq (w24 (V12 := undef) hf w ?_))
    intro a1 f1 h79
    show (Code.cond _ _ _).wp _ _ _ _
    refine wp_cond_split (eval_tmp h79) (fun ht => ?_) (fun hn => ?_)
    · simp only [Bool.and_eq_true, decide_eq_true_eq] at ht
      refine wp_skip ?_
      show (Code.seq _ _).wp _ _ _ _
      refine wp_seq (wp_block ?_)
      refine bodyX A s0 s1 ht.1 (by omega) ⟨f1, hx, kp, pos⟩ ?_
      intro a2 w2 h2
      show c25.wp _ _ _ _
      refine w25 (by omega) h2.fz w2 ?_
      intro a3 f3
      show Code.rounds _ _ _ _ _ _
      exact ih (i + 1) (by omega) (by omega) a3 w2 ⟨f3, h2.at_, h2.kp, h2.pos⟩
    · refine wp_exit ?_
      exact hQ i a1 w ⟨f1, hx, kp, pos⟩

/-- The loop. -/
theorem loop_wp {a : Act} {w : World} (h : Hd W V0 V1 q0 q1 pb qb ds 0 a w) {Q : Kont} (hQ : ∀ i a w, Hd W V0 V1 q0 q1 pb qb ds i a w → Q .normal a w) : (sub wmbody3 [1,1,1,1,1,1,1,1,1,0,1]).wp Tryz.prog Q a w := by
  rw [loop_eq]
  refine wp_block (wp_loop_rounds 41 (rounds A s0 s1 _ (fun i a w hh => ?_) 41 0 rfl (by omega) a w h))
  show Exit.inBlock 6 Q (.exit 6) a w
  simp only [Exit.inBlock, if_true]
  exact hQ i a w hh
end

/-- The law's end: told. -/
noncomputable def cEnd : Code := sub wmbody3 [1,1,1,1,1,1,1,1,1,1]
theorem end_wp {V0 V1 V6 V11 V12 : Value} {ds : List Deferred} {a : Act} (h : Fz V0 V1 V6 V11 V12 ds a) (w : World) {Q : Kont}
    (k : ∀ a' w', a'.tmps.size = 167 → a'.tmps[4]? = some (.bool true) → a'.defers = ds → Below w.heap.size w w' → Q .ret a' w') : cEnd.wp Tryz.prog Q a w := by
  obtain ⟨x, rfl⟩ := h.lit
  have HK : Aside (∀ a' w', a'.tmps.size = 167 → a'.tmps[4]? = some (.bool true) → a'.defers = ds → Below w.heap.size w w' → Q .ret a' w') := k
  clear k h
  unfold cEnd
  conv => arg 2; whnf
  go_wp2_with (first
    | (go_at_call 12; refine (wtcalls _).mono ?_; rintro e w1 ⟨rfl, hb1⟩)
    | go_in)
  exact HK.out _ _ rfl rfl rfl hb1
end Go.Proofs.YtmjogmpgamlhaaaGreat

set_option maxRecDepth 100000
set_option maxHeartbeats 0
namespace Go.Proofs.YtmjogmpgamlhaaaGreat
open Go Go.RowKit Go.Lib Go.Proofs.YtmjogmpgamlhaaaGreat.Dm

theorem arg_of {W : World} {V : Value} {n : Nat} (s : SlF W V n) (B : Nat) : ∃ (X : AV) (q : Option (Nat × Nat)), (∀ ι : Io, ι B = q → AVR ι X V) ∧ (∀ (ι : Io) U, ι B = q → AVR ι X U → U = V) ∧ (∀ c N, q = some (c, N) → c < W.heap.size) := by
  rcases s with ⟨rfl, rfl⟩ | ⟨b, o, cap, rfl, hb, hcp, hc⟩
  · exact ⟨.cv (.sc .nsl), none, fun _ _ => rfl, fun _ _ _ h => h, fun _ _ h => by cases h⟩
  · refine ⟨.cv (.sc (.sl B o n cap 1 true)), some (b, 0), fun ι h => ⟨b, 0, o, cap, h, rfl, hcp, fun _ => ⟨rfl, rfl⟩, fun h => by cases h⟩, fun ι U h hu => ?_, fun c N h => ?_⟩
    · obtain ⟨cb, N, o', cc, e1, rfl, k0, k1, k2⟩ := hu
      rw [h] at e1
      simp only [Option.some.injEq, Prod.mk.injEq] at e1
      obtain ⟨rfl, rfl⟩ := e1
      obtain ⟨rfl, rfl⟩ := k1 rfl
      rfl
    · simp only [Option.some.injEq, Prod.mk.injEq] at h
      rw [← h.1]; exact hb

theorem warm_any (V0 V1 : Value) (n0 n1 : Nat) (W : World) (s0 : SlF W V0 n0) (s1 : SlF W V1 n1) : Calls Tryz.prog 3 #[V0, V1] W fun e W' => e = .returned (.bool true) ∧ Below W.heap.size W W' := by
  obtain ⟨X0, q0, t0, o0, d0⟩ := arg_of s0 argB
  obtain ⟨X1, q1, t1, o1, d1⟩ := arg_of s1 (argB + 1)
  have A : Ar V0 V1 X0 X1 q0 q1 := ⟨t0, o0, t1, o1⟩
  have hBB : argB = 100000000000 := rfl
  let ι : Io := fun x => if x = argB then q0 else if x = argB + 1 then q1 else none
  have i0 : ι argB = q0 := if_pos rfl
  have i1 : ι (argB + 1) = q1 := by
    show (if argB + 1 = argB then q0 else if argB + 1 = argB + 1 then q1 else none) = q1
    rw [if_neg (by omega), if_pos rfl]
  have i2 : ∀ x, x ≠ argB → x ≠ argB + 1 → ι x = none := fun x h1 h2 => by
    show (if x = argB then q0 else if x = argB + 1 then q1 else none) = none
    rw [if_neg h1, if_neg h2]
  have rep0 : Rep ι W Heap.nil := ⟨fun b o h => (by cases h), fun b o h => (by cases h), fun b b' o o' c N N' h => (by cases h), fun b c N h => by
    by_cases h1 : b = argB
    · subst h1; rw [i0] at h; exact d0 c N h
    by_cases h2 : b = argB + 1
    · subst h2; rw [i1] at h; exact d1 c N h
    · rw [i2 b h1 h2] at h; cases h⟩
  have fr0 : ∀ m, m ≤ argB → Free ι 0 m := fun m hm b _ hb => i2 b (by omega) (by omega)
  have inn0 : Inn W.heap.size q0 q1 Heap.nil ι W := ⟨rep0, fr0 argB (Nat.le_refl _), i0, i1, fun b o c N h => (by cases h)⟩
  refine calls_of_wp Tryz.func3 wmbody3_eq ?_
  have hent := enter_rel (ι := ι) (args := [X0, X1]) («as» := #[V0, V1]) (n := 167) ⟨t0 ι i0, t1 ι i1, trivial⟩ (by show 2 ≤ 167; decide)
  refine (wmgoes X0 X1).2 _ ι _ W hent rep0 (fr0 _ (Nat.le_of_ble_eq_true (by kernel_rfl))) ?_
  rintro a' w' ⟨ι', g1, g2, g3⟩
  obtain ⟨j1, j2⟩ := inn0.post (Nat.le_refl _) (Nat.le_of_ble_eq_true (by kernel_rfl)) g3
  obtain ⟨U6, e6, f6⟩ := g1.2 6 (.cv (.sc (.p 4061 0))) (by kernel_rfl)
  obtain ⟨U11, e11, f11⟩ := g1.2 11 (.cv (.sc (.p 7107 0))) (by kernel_rfl)
  obtain ⟨pb, N, hp, rfl⟩ := f6
  obtain ⟨qb, M, hq, rfl⟩ := f11
  have nm' : Nm q0 q1 pb qb ι' := ⟨j1.a0, j1.a1, ⟨N, hp⟩, ⟨M, hq⟩⟩
  have pos : 0 < w'.heap.size := Nat.lt_of_le_of_lt (Nat.zero_le _) (j1.rep.dom _ _ _ hp)
  obtain ⟨ι2, k1, k2⟩ := j1.tell (g := SS false false false false false false false false) (σ := asg []) (δ := fun _ => none) (by kernel_rfl) pos mstart
  have fz := fr_of A (i := 0) (ds := []) nm' (by kernel_rfl) (by kernel_rfl) (by kernel_rfl) (by kernel_rfl) (by kernel_rfl) (by kernel_rfl) g1 g2
  have hd : Hd W V0 V1 q0 q1 pb qb [] 0 a' w' := ⟨fz, ⟨fun _ => false, fun _ => false, ι2, k1, k1.a0, k1.a1, by rw [k2 4061 (by show 4061 < 7120; decide)]; exact ⟨N, hp⟩, by rw [k2 7107 (by show 7107 < 7120; decide)]; exact ⟨M, hq⟩⟩, j2, pos⟩
  show (sub wmbody3 [1,1,1,1,1,1,1,1,1,0,1]).wp _ _ _ _
  refine loop_wp A s0 s1 hd ?_
  intro i a1 w1 h1
  show cEnd.wp _ _ _ _
  refine end_wp h1.fz w1 ?_
  intro a2 w2 hs h4 hdf hb
  have hfr : FrR (fun _ => none) ⟨167, (Tr.e).put (some (.cv (.sc (.b true)))) 4⟩ a2.tmps := FrR.putS (t := Tr.e) ⟨hs, fun t v ht => by rw [Tr.get_e] at ht; cases ht⟩ h4 rfl
  have repN : Rep (fun _ => none) w2 Heap.nil := ⟨fun b o h => (by cases h), fun b o h => (by cases h), fun b b' o o' c N N' h => (by cases h), fun b c N h => (by cases h)⟩
  have hd2 : fnDone (tiOf Tryz.prog) ⟨Tryz.f3.ntmps, Tryz.f3.results.toList, wmbody3⟩ ⟨167, (Tr.e).put (some (.cv (.sc (.b true)))) 4⟩ Heap.nil = .ok (.cv (.sc (.b true))) Heap.nil := by kernel_rfl
  obtain ⟨_, V, r1, r2⟩ := done_sound (P := Tryz.prog) (fn := Tryz.f3) (tiOf_ok Tryz.prog) hfr repN rfl hd2
  have r2 : V = .bool true := r2
  subst r2
  have kp := h1.kp
  refine ⟨hdf, _, r1, rfl, hb.os.trans kp.os, hb.tape.trans kp.tape, hb.output.trans kp.output, Nat.le_trans kp.size hb.size, fun c hc => ?_⟩
  rw [hb.block c (Nat.lt_of_lt_of_le hc kp.size)]
  exact kp.block c hc
end Go.Proofs.YtmjogmpgamlhaaaGreat
