/- ImageCodes: the law's body. -/
import Derived.Test.YtdlnipimljpmgaaIK4
import Derived.Test.YtdlnipimljpmgaaIK5
import Derived.Test.YtdlnipimljpmgaaIR6
import Derived.Test.YtdlnipimljpmgaaIA3
set_option linter.unusedVariables false
set_option linter.unusedSimpArgs false
set_option linter.unusedSectionVars false
set_option linter.unnecessarySimpa false
namespace Go.Proofs.Ytdlnipimljpmgaa
open Go Go.RowKit Go.Im Go.Lib Go.Fl

/-- What both Encodes tell. -/
def EncPost (ck : Int) (E : List Int) (w : World) (e : Ending) (w' : World) : Prop :=
  Below w.heap.size w w' ∧ ∃ xa xn xc, e = .returned (.tuple #[.slice xa xn xc, .int .i64 ck]) ∧ ∀ w2, Below w'.heap.size w' w2 → Sem.run Try.prog (convert 32 9 (.slice xa xn xc)) w2 = .ok (.string (strOfNums E)) w2

theorem conv_nil (w : World) : Sem.run Try.prog (convert 32 9 (.slice none 0 0)) w = .ok (.string (strOfNums [])) w := by kernel_rfl

structure Both (w1 : World) (on : Bool) (rt asd : Int) (va : Option Addr) (vc : Nat) (vb : Option Addr) (vd : Nat) (ls : List Lf) (ck : Int) (E : List Int) (x1 x2 : Nat) : Prop where
  enc : ∀ w2, Below w1.heap.size w1 w2 → Calls Try.prog 8 #[.agg #[.bool on, .int .u64 rt, .int .i64 asd, .slice va ls.length vc]] w2 fun e w' => EncPost ck E w2 e w'
  ren : ∀ w2, Below w1.heap.size w1 w2 → Calls Try.prog 9 #[.agg #[.bool on, .int .u64 rt, .int .i64 asd, .slice vb ls.length vd]] w2 fun e w' => EncPost ck E w2 e w'
  sum : ∀ w2, Below w1.heap.size w1 w2 → Calls Try.prog 10 #[.agg #[.bool on, .int .u64 rt, .int .i64 asd, .slice va ls.length vc]] w2 fun e w' => e = .returned (.tuple #[.complex .f64 x1 x2, .int .i64 ck]) ∧ Below w2.heap.size w2 w'
  rsu : ∀ w2, Below w1.heap.size w1 w2 → Calls Try.prog 11 #[.agg #[.bool on, .int .u64 rt, .int .i64 asd, .slice vb ls.length vd]] w2 fun e w' => e = .returned (.tuple #[.complex .f64 x1 x2, .int .i64 ck]) ∧ Below w2.heap.size w2 w'
  chk : ∀ w2, Below w1.heap.size w1 w2 → Calls Try.prog 13 #[.agg #[.bool on, .int .u64 rt, .int .i64 asd, .slice va ls.length vc]] w2 fun e w' => e = .returned (.int .i64 ck) ∧ Below w2.heap.size w2 w'
  rck : ∀ w2, Below w1.heap.size w1 w2 → Calls Try.prog 14 #[.agg #[.bool on, .int .u64 rt, .int .i64 asd, .slice vb ls.length vd]] w2 fun e w' => e = .returned (.int .i64 ck) ∧ Below w2.heap.size w2 w'
  cln : ∀ w, Calls Try.prog 12 #[.complex .f64 x1 x2] w fun e w' => e = .returned (.bool true) ∧ w' = w
  neq : ∀ w, Sem.run Try.prog (binOp .neq 38 (.complex .f64 x1 x2) (.complex .f64 x1 x2)) w = .ok (.bool false) w

theorem Box.lv {w w' : World} {v : Value} {l : List Lf} {fs : List Value} (h : LeavesF w.heap.size w v l fs) (hb : Below w.heap.size w w') : LeavesF w'.heap.size w' v l fs := (h.below hb).up hb.size

set_option maxRecDepth 100000 in
theorem both_of {w1 : World} (on : Bool) {rt asd : Int} {va : Option Addr} {vc : Nat} {vb : Option Addr} {vd : Nat} {ls : List Lf} {fa fb' : List Value} (hrt : 0 ≤ rt ∧ rt < 18446744073709551616) (hl : ls.length ≤ 12)
    (hA : LeavesF w1.heap.size w1 (.slice va ls.length vc) ls fa) (hB : LeavesF w1.heap.size w1 (.slice vb ls.length vd) ls fb') (hca : ∀ f ∈ fa, CapOk f) (hcb : ∀ f ∈ fb', CapOk f)
    (hmo : ∀ f ∈ ls, (0 ≤ f.page ∧ f.page < 18446744073709551616) ∧ Byte f.bytes ∧ 0 < f.bytes.length ∧ f.bytes.length ≤ 4096) :
    ∃ (E : List Int) (x1 x2 : Nat), Both w1 on rt asd va vc vb vd ls (chk ⟨on, rt, asd, ls⟩) E x1 x2 := by
  have hlen : ∀ f ∈ ls, f.bytes.length ≤ 1000000000 := fun f hf => by have := (hmo f hf).2.2.2; omega
  have C1 : ∀ w2, Below w1.heap.size w1 w2 → Calls Try.prog 13 #[.agg #[.bool on, .int .u64 rt, .int .i64 asd, .slice va ls.length vc]] w2 fun e w' => e = .returned (.int .i64 (chk ⟨on, rt, asd, ls⟩)) ∧ Below w2.heap.size w2 w' := fun w2 h2 =>
    Check_any on rt asd va ls.length vc w1.heap.size ls fa w2 rfl (by omega) h2.size hrt.1 (hA.below h2) hlen
  have C2 : ∀ w2, Below w1.heap.size w1 w2 → Calls Try.prog 14 #[.agg #[.bool on, .int .u64 rt, .int .i64 asd, .slice vb ls.length vd]] w2 fun e w' => e = .returned (.int .i64 (chk ⟨on, rt, asd, ls⟩)) ∧ Below w2.heap.size w2 w' := fun w2 h2 =>
    refCheck_any on rt asd vb ls.length vd w1.heap.size ls fb' w2 rfl (by omega) h2.size hrt.1 (hB.below h2) hlen
  have key : ∀ z1 z2 : Int, z1.natAbs < 9007199254740992 → z2.natAbs < 9007199254740992 → (∀ w, Calls Try.prog 12 #[.complex .f64 (fb z1) (fb z2)] w fun e w' => e = .returned (.bool true) ∧ w' = w) ∧ (∀ w, Sem.run Try.prog (binOp .neq 38 (.complex .f64 (fb z1) (fb z2)) (.complex .f64 (fb z1) (fb z2))) w = .ok (.bool false) w) := fun z1 z2 h1 h2 => by
    refine ⟨fun w => Clean_calls h1 h2 w, fun w => ?_⟩
    rw [cne, order_eq (Wh.of z1) (Wh.of z1) h1 h1, order_eq (Wh.of z2) (Wh.of z2) h2 h2, decide_eq_true rfl, decide_eq_true rfl]
    rfl
  by_cases hck : chk ⟨on, rt, asd, ls⟩ = 0
  · rw [hck] at C1 C2 ⊢
    have hf := (chk_facts hck).2.2
    have h4 : ∀ f ∈ ls, f.bytes.length = 4096 := fun f h => (hf f h).1
    have hpg : ∀ f ∈ ls, 0 ≤ f.page ∧ f.page < 1000000000 := fun f h => ⟨(hmo f h).1.1, by have := (hf f h).2.1; omega⟩
    have hb4 : ∀ f ∈ ls, f.bytes.length = 4096 ∧ Byte f.bytes := fun f h => ⟨h4 f h, (hmo f h).2.1⟩
    have hsm := sm_le ls (fun f h => (hmo f h).2.1)
    obtain ⟨k1, k2⟩ := key (smRe ls) (smIm ls) (by have := Nat.mul_le_mul_right 2199023255552 hl; omega) (by have := Nat.mul_le_mul_right 2199023255552 hl; omega)
    refine ⟨enc ⟨on, rt, asd, ls⟩, fb (smRe ls), fb (smIm ls), ⟨fun w2 h2 => ?_, fun w2 h2 => ?_, fun w2 h2 => ?_, fun w2 h2 => ?_, C1, C2, k1, k2⟩⟩
    · refine (Encode_any on rt asd va ls.length vc w1.heap.size ls fa w2 rfl (by omega) h2.size hrt.1 hrt.2 (hA.below h2) (fun f h => (hmo f h).1) h4 hca hck).mono ?_
      rintro e w' ⟨v', rfl, hb, ho⟩
      have hbs := Bs.owned ho
      obtain ⟨a, c, rfl⟩ := hbs.shape
      exact ⟨hb, a, _, c, rfl, conv_bytes hbs rfl (enc_pos _)⟩
    · refine (refEnc_any on rt asd vb ls.length vd w1.heap.size ls fb' w2 rfl (by omega) h2.size hrt.1 hrt.2 (hB.below h2) (fun f h => (hmo f h).1) h4 hcb hck).mono ?_
      rintro e w' ⟨v', rfl, hb, N, hm⟩
      have hbs : Bs w'.heap.size w' v' (enc ⟨on, rt, asd, ls⟩) := by
        have hlt := hm.lt
        obtain ⟨g, c, rfl⟩ := hm.form
        have hc := hm.cells
        have hl := hm.1
        simp at hl
        subst hl
        refine ⟨_, c, rfl, .inr ⟨g, 0, rfl, (hlt g rfl).2, fun j u hj => ?_⟩⟩
        have := hc j u hj
        rw [Addr.add_lit] at this
        exact this
      obtain ⟨a, c, rfl⟩ := hbs.shape
      exact ⟨hb, a, _, c, rfl, conv_bytes hbs rfl (enc_pos _)⟩
    · exact Sum_any on rt asd va ls.length vc w1.heap.size ls fa w2 rfl (by omega) h2.size hrt.1 (hA.below h2) hpg hb4 hck
    · exact refSum_any on rt asd vb ls.length vd w1.heap.size ls fb' w2 rfl (by omega) h2.size hrt.1 (hB.below h2) hpg hb4 hck
  · obtain ⟨k1, k2⟩ := key 0 0 (by decide) (by decide)
    rw [fb_zero] at k1 k2
    refine ⟨[], 0, 0, ⟨fun w2 h2 => ?_, fun w2 h2 => ?_, fun w2 h2 => ?_, fun w2 h2 => ?_, C1, C2, k1, k2⟩⟩
    · refine (Encode_bad on rt asd va ls.length vc w1.heap.size ls fa w2 rfl (by omega) h2.size hrt.1 hrt.2 (hA.below h2) hlen hck).mono ?_
      rintro e w' ⟨rfl, hb⟩
      exact ⟨hb, none, 0, 0, rfl, fun w3 _ => conv_nil w3⟩
    · refine (refEnc_bad on rt asd vb ls.length vd w1.heap.size ls fb' w2 rfl (by omega) h2.size hrt.1 (hB.below h2) hlen hck).mono ?_
      rintro e w' ⟨rfl, hb⟩
      exact ⟨hb, none, 0, 0, rfl, fun w3 _ => conv_nil w3⟩
    · exact Sum_bad on rt asd va ls.length vc w1.heap.size ls fa w2 rfl (by omega) h2.size hrt.1 (hA.below h2) hlen hck
    · exact refSum_bad on rt asd vb ls.length vd w1.heap.size ls fb' w2 rfl (by omega) h2.size hrt.1 (hB.below h2) hlen hck
end Go.Proofs.Ytdlnipimljpmgaa
