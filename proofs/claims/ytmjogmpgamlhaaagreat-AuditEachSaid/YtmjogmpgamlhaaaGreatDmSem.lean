/- '==' and the operators. -/
import Derived.Test.YtmjogmpgamlhaaaGreatDmRel
import Derived.ChangeKeysEq
set_option linter.unusedVariables false
set_option linter.unusedSimpArgs false
set_option linter.unusedSectionVars false
namespace Go.Proofs.YtmjogmpgamlhaaaGreat.Dm
open Go

noncomputable def TyOk (P : Program) (ty : Ty) : Prop := ∀ t ti, ty t = some ti → tiOf P t = some ti

theorem svOf_rel {v : Value} {x : SV} (ι : Io) (h : svOf v = some x) : VR ι x v := by
  unfold svOf at h
  split at h <;> simp only [Option.some.injEq, reduceCtorEq] at h <;> subst h <;> try rfl
  · exact ⟨_, rfl, rfl⟩
  · exact ⟨_, _, rfl, trivial, trivial⟩

theorem svsOf_rel (ι : Io) : ∀ {l : List Value} {x : List SV}, svsOf l = some x → Rs ι x l
  | [], x, h => by simp only [svsOf, Option.some.injEq] at h; subst h; exact trivial
  | v :: l, x, h => by
    simp only [svsOf] at h
    cases h1 : svOf v with
    | none => rw [h1] at h; cases h
    | some a =>
      rw [h1] at h; simp only [] at h
      cases h2 : svsOf l with
      | none => rw [h2] at h; cases h
      | some b =>
        rw [h2] at h
        simp only [Option.some.injEq] at h
        subst h
        exact ⟨svOf_rel ι h1, svsOf_rel ι h2⟩

theorem cvOf_rel {v : Value} {x : CV} (ι : Io) (h : cvOf v = some x) : CVR ι x v := by
  unfold cvOf at h
  split at h
  · rename_i cs
    cases h1 : svsOf cs.toList with
    | none => rw [h1] at h; cases h
    | some l => rw [h1] at h; simp only [Option.some.injEq] at h; subst h; exact ⟨cs, rfl, svsOf_rel ι h1⟩
  · cases h1 : svOf v with
    | none => rw [h1] at h; cases h
    | some a => rw [h1] at h; simp only [Option.some.injEq] at h; subst h; exact svOf_rel ι h1

/-- What a row of the table tells of the model's. -/
structure TIs (P : Program) (t : TypeId) (ti : TI) (i : TypeInfo) (d : TypeDesc) : Prop where
  info : P.info? t = some i
  und : P.underlying t = some d
  k : ti.k = tkOf d
  size : ti.size = i.size
  bytes : ti.bytes = i.bytes
  zero : ∀ z, ti.zero = some z → ∃ v, i.zero = some v ∧ cvOf v = some z
  plain : ti.plainEq = true → P.stoodInHeld t = false ∧ P.eqGuardType P.depth t = false

theorem TyOk.get {P : Program} {ty : Ty} (h : TyOk P ty) {t : TypeId} {ti : TI} (ht : ty t = some ti) : ∃ i d, TIs P t ti i d := by
  have := h t ti ht
  unfold tiOf at this
  cases h1 : P.info? t with
  | none => rw [h1] at this; cases this
  | some i =>
    rw [h1] at this; simp only [] at this
    cases h2 : P.underlying t with
    | none => rw [h2] at this; cases this
    | some d =>
      rw [h2] at this
      simp only [Option.some.injEq] at this
      subst this
      refine ⟨i, d, h1, h2, rfl, rfl, rfl, fun z hz => ?_, fun hp => ?_⟩
      · simp only [] at hz
        cases h3 : i.zero with
        | none => rw [h3] at hz; cases hz
        | some v => rw [h3] at hz; exact ⟨v, rfl, hz⟩
      · simp only [Bool.and_eq_true, Bool.not_eq_true'] at hp
        exact hp

section
variable {P : Program} {ty : Ty} {t : TypeId} {ti : TI} {i : TypeInfo} {d : TypeDesc} (s : TIs P t ti i d) (w : World)
include s
theorem TIs.r_und : (underlying t).run P w = .ok d w := by simp [underlying, s.und]
theorem TIs.r_info : (typeInfo t).run P w = .ok i w := by simp [typeInfo, s.info]
theorem TIs.r_size : (sizeOf t).run P w = .ok ti.size w := by simp [sizeOf, s.r_info, s.size]
theorem TIs.r_agg : (isAgg t).run P w = .ok (aggOf ti.k) w := by
  rw [s.k]
  unfold isAgg
  rw [Sem.run_bind, s.r_und]
  cases d <;> first | rfl | (rename_i k; cases k <;> rfl)
theorem TIs.r_zero {z : CV} (hz : ti.zero = some z) : ∃ v, (zeroValue t).run P w = .ok v w ∧ cvOf v = some z := by
  obtain ⟨v, h1, h2⟩ := s.zero z hz
  exact ⟨v, by simp [zeroValue, s.r_info, h1], h2⟩
end

theorem tk_bool {d : TypeDesc} (h : tkOf d = .bool) : d = .bool := by cases d <;> first | rfl | (simp [tkOf] at h; done) | (rename_i k; cases k <;> simp [tkOf] at h)
theorem tk_int {d : TypeDesc} {k : IntKind} (h : tkOf d = .int k) : d = .int k := by
  cases d <;> first | (simp [tkOf] at h; done) | (rename_i j; cases j <;> simp [tkOf] at h; done) | (simp [tkOf] at h; rw [h])
theorem tk_f64 {d : TypeDesc} (h : tkOf d = .f64) : d = .float .f64 := by
  cases d <;> first | (simp [tkOf] at h; done) | (rename_i j; cases j <;> first | rfl | (simp [tkOf] at h; done))
theorem tk_c128 {d : TypeDesc} (h : tkOf d = .c128) : d = .complex .f64 := by
  cases d <;> first | (simp [tkOf] at h; done) | (rename_i j; cases j <;> first | rfl | (simp [tkOf] at h; done))
theorem tk_str {d : TypeDesc} (h : tkOf d = .str) : d = .string := by
  cases d <;> first | rfl | (simp [tkOf] at h; done) | (rename_i j; cases j <;> simp [tkOf] at h; done)
theorem tk_ptr {d : TypeDesc} {e : TypeId} (h : tkOf d = .ptr e) : d = .pointer e := by
  cases d <;> first | (simp [tkOf] at h; done) | (rename_i j; cases j <;> simp [tkOf] at h; done) | (simp [tkOf] at h; rw [h])
theorem tk_sl {d : TypeDesc} {e : TypeId} (h : tkOf d = .sl e) : d = .slice e := by
  cases d <;> first | (simp [tkOf] at h; done) | (rename_i j; cases j <;> simp [tkOf] at h; done) | (simp [tkOf] at h; rw [h])
theorem tk_arr {d : TypeDesc} {n : Nat} {e : TypeId} (h : tkOf d = .arr n e) : d = .array n e := by
  cases d <;> first | (simp [tkOf] at h; done) | (rename_i j; cases j <;> simp [tkOf] at h; done) | (simp [tkOf] at h; rw [h.1, h.2])
theorem tk_map {d : TypeDesc} {n e : TypeId} (h : tkOf d = .map n e) : d = .map n e := by
  cases d <;> first | (simp [tkOf] at h; done) | (rename_i j; cases j <;> simp [tkOf] at h; done) | (simp [tkOf] at h; rw [h.1, h.2])
theorem tk_st {d : TypeDesc} {fs : List (Nat × TypeId × Bool)} (h : tkOf d = .st fs) : ∃ a : Array Field, d = .struct a ∧ fs = a.toList.map fun f => (f.offset, f.type, f.name != "_") := by
  cases d <;> first | (simp [tkOf] at h; done) | (rename_i j; cases j <;> simp [tkOf] at h; done) | (simp only [tkOf, TK.st.injEq] at h; exact ⟨_, rfl, h.symm⟩)
theorem tk_fn {d : TypeDesc} (h : tkOf d = .fn) : ∃ a b c, d = .func a b c := by
  cases d <;> first | (simp [tkOf] at h; done) | (rename_i j; cases j <;> simp [tkOf] at h; done) | exact ⟨_, _, _, rfl⟩

/-! ### scalars -/

theorem intBin_sound {op : BinOp} {k : IntKind} {x y : Int} {r : SV} (P : Program) (t : TypeId) (w : World) (ι : Io) (h : intBin op k x y = some r) : ∃ V, (Go.binOp op t (.int k x) (.int k y)).run P w = .ok V w ∧ VR ι r V := by
  cases op <;> simp only [intBin, Option.some.injEq, reduceCtorEq] at h
  case quo =>
    cases hz : ieq y 0 with
    | true => rw [hz] at h; cases h
    | false =>
      rw [hz] at h; simp only [cnd_false, Option.some.injEq] at h; subst h
      have : y ≠ 0 := by rw [ieq_eq] at hz; simpa using hz
      exact ⟨_, by simp [Go.binOp, Op.intDiv, this] <;> rfl, by rw [wr_eq]; rfl⟩
  case rem =>
    cases hz : ieq y 0 with
    | true => rw [hz] at h; cases h
    | false =>
      rw [hz] at h; simp only [cnd_false, Option.some.injEq] at h; subst h
      have : y ≠ 0 := by rw [ieq_eq] at hz; simpa using hz
      exact ⟨_, by simp [Go.binOp, Op.intDiv, this] <;> rfl, rfl⟩
  all_goals subst h
  case add => exact ⟨_, by simp [Go.binOp, Op.intArith] <;> rfl, by rw [wr_eq]; rfl⟩
  case sub => exact ⟨_, by simp [Go.binOp, Op.intArith] <;> rfl, by rw [wr_eq]; rfl⟩
  case mul => exact ⟨_, by simp [Go.binOp, Op.intArith] <;> rfl, by rw [wr_eq]; rfl⟩
  case eql => exact ⟨.bool (x == y), by simp [Go.binOp, Op.intCmp], by simp [VR, ieq_eq]⟩
  case neq => exact ⟨.bool (x != y), by simp [Go.binOp, Op.intCmp], by simp [VR, ieq_eq, bne]⟩
  case lss => exact ⟨.bool (decide (x < y)), by simp [Go.binOp, Op.intCmp], by simp [VR, ilt_eq]⟩
  case leq => exact ⟨.bool (decide (x ≤ y)), by simp [Go.binOp, Op.intCmp], by simp only [VR, ilt_eq, Value.bool.injEq, ← decide_not]; congr 1; simp⟩
  case gtr => exact ⟨.bool (decide (x > y)), by simp [Go.binOp, Op.intCmp], by simp [VR, ilt_eq]⟩
  case geq => exact ⟨.bool (decide (x ≥ y)), by simp [Go.binOp, Op.intCmp], by simp only [VR, ilt_eq, Value.bool.injEq, ← decide_not]; congr 1; simp⟩
  all_goals exact ⟨_, by simp [Go.binOp, Op.intBits] <;> rfl, rfl⟩

theorem shBin_sound {op : BinOp} {k j : IntKind} {x y : Int} {r : SV} (P : Program) (t : TypeId) (w : World) (ι : Io) (ho : op = .shl ∨ op = .shr)
    (h : shBin op k x y = some r) : ∃ V, (Go.binOp op t (.int k x) (.int j y)).run P w = .ok V w ∧ VR ι r V := by
  unfold shBin at h
  cases hz : ilt y 0 with
  | true => rw [hz] at h; cases h
  | false =>
    rw [hz] at h
    have hy : ¬ y < 0 := by rw [ilt_eq] at hz; simpa using hz
    have e : (Int.ofNat (2 ^ min y.toNat k.bits)) = (2 : Int) ^ min y.toNat k.bits := by simp
    rcases ho with rfl | rfl
    · simp only [cnd_false, Option.some.injEq] at h; subst h
      exact ⟨_, by simp only [Go.binOp, Op.shift, hy, if_false, Sem.run_pure] <;> rfl, by rw [wr_eq, e]; rfl⟩
    · simp only [cnd_false, Option.some.injEq] at h; subst h
      exact ⟨_, by simp only [Go.binOp, Op.shift, hy, if_false, Sem.run_pure] <;> rfl, by rw [e]; rfl⟩

theorem flBin_sound {op : BinOp} {x y : Nat} {r : SV} (P : Program) (t : TypeId) (w : World) (ι : Io) (h : flBin op x y = some r) :
    ∃ V, (Go.binOp op t (.float .f64 x) (.float .f64 y)).run P w = .ok V w ∧ VR ι r V := by
  cases op <;> simp only [flBin, Option.map_eq_some_iff, Option.some.injEq, reduceCtorEq] at h
  case add => obtain ⟨a, h1, rfl⟩ := h; exact ⟨_, by simp [Go.binOp, Op.floatArith, h1] <;> rfl, rfl⟩
  case sub => obtain ⟨a, h1, rfl⟩ := h; exact ⟨_, by simp [Go.binOp, Op.floatArith, h1] <;> rfl, rfl⟩
  case mul => obtain ⟨a, h1, rfl⟩ := h; exact ⟨_, by simp [Go.binOp, Op.floatArith, h1] <;> rfl, rfl⟩
  case quo => obtain ⟨a, h1, rfl⟩ := h; exact ⟨_, by simp [Go.binOp, Op.floatArith, h1] <;> rfl, rfl⟩
  all_goals (subst h; exact ⟨_, by simp only [Go.binOp, Op.floatCmp, ne_eq, not_true_eq_false, if_false, Sem.run_pure] <;> rfl, rfl⟩)

theorem arith_run {op : BinOp} {x y r : Nat} (P : Program) (w : World) (h : fpart op x y = some r) : (Op.Complex.arith op .f64 x y).run P w = .ok r w := by
  cases op <;> simp only [fpart, reduceCtorEq] at h <;> simp [Op.Complex.arith, Op.floatArith, h]

theorem cmp_eql_run (x y : Nat) (P : Program) (w : World) : (Op.Complex.cmp .eql .f64 x y).run P w = .ok (FloatKind.f64.format.order x y == some .eq) w := by
  simp [Op.Complex.cmp, Op.floatCmp, asBool]

theorem conv_run (x : Nat) (P : Program) (w : World) : (Op.Complex.conv .f64 x .f64).run P w = .ok x w := by simp [Op.Complex.conv]

theorem cxBin_sound {op : BinOp} {a b c d : Nat} {r : SV} (P : Program) (t : TypeId) (w : World) (ι : Io) (h : cxBin op a b c d = some r) :
    ∃ V, (Go.binOp op t (.complex .f64 a b) (.complex .f64 c d)).run P w = .ok V w ∧ VR ι r V := by
  cases op <;> simp only [cxBin, Option.some.injEq, reduceCtorEq] at h
  case add =>
    split at h
    · split at h
      · rename_i h1 _ _ h2; simp only [Option.some.injEq] at h; subst h
        exact ⟨_, by simp [Go.binOp, Op.complexOp, arith_run P w h1, arith_run P w h2] <;> rfl, rfl⟩
      · cases h
    · cases h
  case sub =>
    split at h
    · split at h
      · rename_i h1 _ _ h2; simp only [Option.some.injEq] at h; subst h
        exact ⟨_, by simp [Go.binOp, Op.complexOp, arith_run P w h1, arith_run P w h2] <;> rfl, rfl⟩
      · cases h
    · cases h
  case mul =>
    split at h
    · rename_i ac bd ad bc h1 h2 h3 h4
      split at h
      · rename_i r' i' h5 h6
        simp only [Option.some.injEq] at h; subst h
        have e1 := arith_run P w h1; have e2 := arith_run P w h2; have e3 := arith_run P w h3; have e4 := arith_run P w h4
        have e5 := arith_run P w h5; have e6 := arith_run P w h6
        exact ⟨_, by simp [Go.binOp, Op.complexOp, conv_run, Op.Complex.product, Op.Complex.mul, Op.Complex.sub, Op.Complex.add, e1, e2, e3, e4, e5, e6] <;> rfl, rfl⟩
      · cases h
    · cases h
  case eql => subst h; exact ⟨_, by simp [Go.binOp, Op.complexOp, cmp_eql_run] <;> rfl, rfl⟩
  case neq => subst h; exact ⟨_, by simp [Go.binOp, Op.complexOp, cmp_eql_run] <;> rfl, by simp [VR]⟩

theorem bytes_eq_iff {a b : ByteArray} : a.toList == b.toList ↔ a.data.toList.map (·.toNat) = b.data.toList.map (·.toNat) := by
  rw [ByteArray.toList_eq, ByteArray.toList_eq]
  constructor
  · intro h; rw [eq_of_beq h]
  · intro h
    have : a.data.toList = b.data.toList := (List.map_inj_right (fun x y h => UInt8.toNat_inj.1 h)).1 h
    rw [this]; simp

end Go.Proofs.YtmjogmpgamlhaaaGreat.Dm

namespace Go.Proofs.YtmjogmpgamlhaaaGreat.Dm
open Go

theorem str_eq {a b : ByteArray} {l r : List Nat} (ha : a.data.toList.map (·.toNat) = l) (hb : b.data.toList.map (·.toNat) = r) : (a.toList == b.toList) = leq l r := by
  rw [Bool.eq_iff_iff, bytes_eq_iff, leq_iff, ha, hb]

theorem bytes_ext {a b : ByteArray} (h : a.data.toList.map (·.toNat) = b.data.toList.map (·.toNat)) : a = b := by
  have := (List.map_inj_right (fun x y h => UInt8.toNat_inj.1 h)).1 h
  cases a; cases b; simp at this; simp; exact this

theorem str_beq {a b : ByteArray} {l r : List Nat} (ha : a.data.toList.map (·.toNat) = l) (hb : b.data.toList.map (·.toNat) = r) : (a == b) = leq l r := by
  rw [Bool.eq_iff_iff, leq_iff, ← ha, ← hb]
  have e : (a == b) = (a.data == b.data) := rfl
  rw [e, beq_iff_eq]
  exact ⟨fun h => by rw [h], fun h => by rw [bytes_ext h]⟩

theorem str_len {a : ByteArray} {l : List Nat} (ha : a.data.toList.map (·.toNat) = l) : a.size = l.length := by
  rw [← ha, List.length_map]; rfl

theorem stBin_sound {op : BinOp} {a b : ByteArray} {l r : List Nat} {x : SV} (P : Program) (t : TypeId) (w : World) (ι : Io)
    (ha : a.data.toList.map (·.toNat) = l) (hb : b.data.toList.map (·.toNat) = r) (h : stBin op l r = some x) :
    ∃ V, (Go.binOp op t (.string a) (.string b)).run P w = .ok V w ∧ VR ι x V := by
  cases op <;> simp only [stBin, Option.some.injEq, reduceCtorEq] at h
  case add =>
    cases hz : Nat.ble (Nat.add l.length r.length) 9223372036854775807 with
    | false => rw [hz] at h; cases h
    | true =>
      rw [hz] at h; simp only [cnd_true, Option.some.injEq] at h; subst h
      have hle : l.length + r.length ≤ 9223372036854775807 := Nat.le_of_ble_eq_true hz
      have h1 := str_len ha; have h2 := str_len hb
      have : ¬ (((a.size + b.size : Nat) : Int) > IntKind.i64.max) := by rw [h1, h2]; simp [IntKind.max, IntKind.signed, IntKind.bits]; omega
      exact ⟨.string (a ++ b), by simp only [Go.binOp, Op.stringOp, this, if_false, Sem.run_pure], a ++ b, rfl, by simp [← ha, ← hb]⟩
  case eql => subst h; exact ⟨.bool (a.toList == b.toList), by simp [Go.binOp, Op.stringOp], by simp only [VR, str_eq ha hb]⟩
  case neq => subst h; exact ⟨.bool (!(a.toList == b.toList)), by simp [Go.binOp, Op.stringOp], by simp only [VR, str_eq ha hb]⟩

theorem beqB_eq (a b : Bool) : beqB a b = (a == b) := by cases a <;> cases b <;> rfl

theorem eqS_sound {ι : Io} {x y : SV} {V W : Value} {r : Bool} {P : Program} {t : TypeId} {d : TypeDesc} {w : World} (n : Nat)
    (hd : P.underlying t = some d) (hx : VR ι x V) (hy : VR ι y W) (h : eqS (tkOf d) x y = some r) : (Op.equalIn (n + 1) t V W).run P w = .ok r w := by
  cases x <;> cases y <;> simp only [eqS, reduceCtorEq] at h <;> simp only [VR] at hx hy
  case b.b =>
    subst hx; subst hy
    cases hk : tkOf d <;> simp only [hk, Option.some.injEq, reduceCtorEq] at h
    rw [tk_bool hk] at hd; subst h; simp [Op.equalIn, underlying, hd, beqB_eq]
  case i.i =>
    subst hx; subst hy
    cases hk : tkOf d <;> simp only [hk, Option.some.injEq, reduceCtorEq] at h
    rename_i k a k' a' kk
    cases hz : keq k k' with
    | false => rw [hz] at h; cases h
    | true =>
      rw [hz] at h; simp only [cnd_true, Option.some.injEq] at h
      have := keq_iff.1 hz
      rw [tk_int hk] at hd; subst h; subst this; simp [Op.equalIn, underlying, hd, ieq_eq]
  case f.f =>
    subst hx; subst hy
    cases hk : tkOf d <;> simp only [hk, Option.some.injEq, reduceCtorEq] at h
    rw [tk_f64 hk] at hd; subst h; simp [Op.equalIn, underlying, hd, Op.floatEq]
  case c.c =>
    subst hx; subst hy
    cases hk : tkOf d <;> simp only [hk, Option.some.injEq, reduceCtorEq] at h
    rw [tk_c128 hk] at hd; subst h; simp [Op.equalIn, underlying, hd, Op.floatEq]
  case s.s =>
    obtain ⟨a, rfl, ha⟩ := hx; obtain ⟨b, rfl, hb⟩ := hy
    cases hk : tkOf d <;> simp only [hk, Option.some.injEq, reduceCtorEq] at h
    rw [tk_str hk] at hd; subst h; simp [Op.equalIn, underlying, hd, str_beq ha hb]
  case np.np =>
    subst hx; subst hy
    cases hk : tkOf d <;> simp only [hk, Option.some.injEq, reduceCtorEq] at h
    rw [tk_ptr hk] at hd; subst h; simp [Op.equalIn, underlying, hd]
  case np.p =>
    obtain ⟨_, _, _, rfl⟩ := hy; subst hx
    cases hk : tkOf d <;> simp only [hk, Option.some.injEq, reduceCtorEq] at h
    rw [tk_ptr hk] at hd; subst h; simp [Op.equalIn, underlying, hd]
  case p.np =>
    obtain ⟨_, _, _, rfl⟩ := hx; subst hy
    cases hk : tkOf d <;> simp only [hk, Option.some.injEq, reduceCtorEq] at h
    rw [tk_ptr hk] at hd; subst h; simp [Op.equalIn, underlying, hd]
  case nsl.nsl =>
    subst hx; subst hy
    cases hk : tkOf d <;> simp only [hk, Option.some.injEq, reduceCtorEq] at h
    rw [tk_sl hk] at hd; subst h; simp [Op.equalIn, underlying, hd]
  case nsl.sl =>
    obtain ⟨_, _, _, _, _, rfl, _⟩ := hy; subst hx
    cases hk : tkOf d <;> simp only [hk, Option.some.injEq, reduceCtorEq] at h
    rw [tk_sl hk] at hd; subst h; simp [Op.equalIn, underlying, hd]
  case sl.nsl =>
    obtain ⟨_, _, _, _, _, rfl, _⟩ := hx; subst hy
    cases hk : tkOf d <;> simp only [hk, Option.some.injEq, reduceCtorEq] at h
    rw [tk_sl hk] at hd; subst h; simp [Op.equalIn, underlying, hd]
  case nm.nm =>
    subst hx; subst hy
    cases hk : tkOf d <;> simp only [hk, Option.some.injEq, reduceCtorEq] at h
    rw [tk_map hk] at hd; subst h; simp [Op.equalIn, underlying, hd]
  case nm.m =>
    obtain ⟨_, _, _, rfl⟩ := hy; subst hx
    cases hk : tkOf d <;> simp only [hk, Option.some.injEq, reduceCtorEq] at h
    rw [tk_map hk] at hd; subst h; simp [Op.equalIn, underlying, hd]
  case m.nm =>
    obtain ⟨_, _, _, rfl⟩ := hx; subst hy
    cases hk : tkOf d <;> simp only [hk, Option.some.injEq, reduceCtorEq] at h
    rw [tk_map hk] at hd; subst h; simp [Op.equalIn, underlying, hd]
  case nfn.nfn =>
    subst hx; subst hy
    cases hk : tkOf d <;> simp only [hk, Option.some.injEq, reduceCtorEq] at h
    obtain ⟨_, _, _, rfl⟩ := tk_fn hk; subst h; simp [Op.equalIn, underlying, hd]
  case nfn.fn =>
    obtain ⟨_, _, rfl, _⟩ := hy; subst hx
    cases hk : tkOf d <;> simp only [hk, Option.some.injEq, reduceCtorEq] at h
    obtain ⟨_, _, _, rfl⟩ := tk_fn hk; subst h; simp [Op.equalIn, underlying, hd]
  case fn.nfn =>
    obtain ⟨_, _, rfl, _⟩ := hx; subst hy
    cases hk : tkOf d <;> simp only [hk, Option.some.injEq, reduceCtorEq] at h
    obtain ⟨_, _, _, rfl⟩ := tk_fn hk; subst h; simp [Op.equalIn, underlying, hd]
  case at.at k lo hi i k' lo' hi' j =>
    obtain ⟨c, N, hc, rfl, _⟩ := hx
    obtain ⟨c', N', hc', rfl, _⟩ := hy
    cases hk : tkOf d <;> simp only [hk, Option.some.injEq, reduceCtorEq] at h
    cases hb : (keq k k' && Nat.beq i j) with
    | false => rw [hb] at h; cases h
    | true =>
      rw [hb] at h; simp only [cnd_true, Option.some.injEq] at h; subst h
      simp only [Bool.and_eq_true] at hb
      obtain rfl := keq_iff.1 hb.1
      obtain rfl := Nat.eq_of_beq_eq_true hb.2
      rw [hc] at hc'
      simp only [Option.some.injEq, Prod.mk.injEq] at hc'
      obtain ⟨rfl, rfl⟩ := hc'
      rw [tk_int hk] at hd
      simp [Op.equalIn, underlying, hd]

theorem part_sound {P : Program} {ty : Ty} (hty : TyOk P ty) {ι : Io} {t : TypeId} {l : List SV} {a : Array Value} {off : Nat} {x : CV} (w : World)
    (ha : Rs ι l a.toList) (h : partC ty t l off = some x) : ∃ V, (part t a off).run P w = .ok V w ∧ CVR ι x V := by
  unfold partC at h
  cases ht : ty t with
  | none => rw [ht] at h; cases h
  | some ti =>
    rw [ht] at h; simp only [] at h
    obtain ⟨i, d, s⟩ := hty.get ht
    have e : ∀ n, (a.extract off (off + n)).toList = (a.toList.drop off).take n := by
      intro n; simp [Array.toList_extract, List.extract_eq_take_drop]
    cases hk : ti.k
    case st fs =>
      simp only [hk, Option.some.injEq] at h; subst h
      refine ⟨.agg (a.extract off (off + ti.size)), by simp [part, s.r_agg, s.r_size, hk, aggOf], _, rfl, ?_⟩
      rw [e]; exact (ha.drop off).take ti.size
    case arr n el =>
      simp only [hk, Option.some.injEq] at h; subst h
      refine ⟨.agg (a.extract off (off + ti.size)), by simp [part, s.r_agg, s.r_size, hk, aggOf], _, rfl, ?_⟩
      rw [e]; exact (ha.drop off).take ti.size
    all_goals
      simp only [hk] at h
      cases hl : l[off]? with
      | none => rw [hl] at h; cases h
      | some v =>
        rw [hl] at h; simp only [Option.some.injEq] at h; subst h
        obtain ⟨V, h1, h2⟩ := ha.get hl
        have h1' : a[off]? = some V := by rw [← Array.getElem?_toList]; exact h1
        exact ⟨V, by simp [part, s.r_agg, hk, aggOf, h1'], h2⟩

noncomputable def EqOk (P : Program) (ι : Io) (n : Nat) (eq : TypeId → CV → CV → Option Bool) : Prop :=
  ∀ t x y V W r m w, CVR ι x V → CVR ι y W → eq t x y = some r → n ≤ m → (Op.equalIn m t V W).run P w = .ok r w

theorem eqFs_sound {P : Program} {ty : Ty} (hty : TyOk P ty) {ι : Io} {n m : Nat} {eq : TypeId → CV → CV → Option Bool} (heq : EqOk P ι n eq) (hm : n ≤ m)
    {xs ys : List SV} {a b : Array Value} (ha : Rs ι xs a.toList) (hb : Rs ι ys b.toList) (w : World) : ∀ (fs : List Field) (r : Bool),
    eqFs ty eq xs ys (fs.map fun f => (f.offset, f.type, f.name != "_")) = some r →
    (forIn (m := Sem) fs (none, ()) (fun (f : Field) (s : Option Bool × Unit) => if f.name ≠ "_" then do
        let x ← part f.type a f.offset
        let y ← part f.type b f.offset
        let r ← Op.equalIn m f.type x y
        if (!r) = true then pure (ForInStep.done (some false, ())) else pure (ForInStep.yield (none, ()))
      else pure (ForInStep.yield (none, ())))).run P w = .ok (if r then none else some false, ()) w
  | [], r, h => by simp only [List.map_nil, eqFs, Option.some.injEq] at h; subst h; simp
  | f :: fs, r, h => by
    simp only [List.map_cons, eqFs] at h
    rw [List.forIn_cons, Sem.run_bind]
    cases hn : (f.name != "_") with
    | false =>
      rw [hn] at h; simp only [cnd_false] at h
      have hn' : f.name = "_" := by simpa using hn
      rw [if_neg (by simp [hn'])]
      simp only [Sem.run_pure, Result.andThen_ok]
      exact eqFs_sound hty heq hm ha hb w fs r h
    | true =>
      rw [hn] at h; simp only [cnd_true] at h
      have hn' : f.name ≠ "_" := by simpa using hn
      rw [if_pos hn']
      cases h1 : partC ty f.type xs f.offset with
      | none => rw [h1] at h; cases h
      | some x =>
        rw [h1] at h; simp only [] at h
        cases h2 : partC ty f.type ys f.offset with
        | none => rw [h2] at h; cases h
        | some y =>
          rw [h2] at h; simp only [] at h
          obtain ⟨V, e1, e2⟩ := part_sound hty w ha h1
          obtain ⟨W, e3, e4⟩ := part_sound hty w hb h2
          cases h3 : eq f.type x y with
          | none => rw [h3] at h; cases h
          | some q =>
            have e5 := heq f.type x y V W q m w e2 e4 h3 hm
            rw [h3] at h
            cases q with
            | false =>
              simp only [Option.some.injEq] at h; subst h
              simp [e1, e3, e5]
            | true =>
              simp only [] at h
              have ih := eqFs_sound hty heq hm ha hb w fs r h
              simp only [Sem.run_bind, e1, e3, e5, Result.andThen_ok, Bool.not_true, Bool.false_eq_true, if_false, Sem.run_pure]
              exact ih

theorem eqT_sound {P : Program} {ty : Ty} (hty : TyOk P ty) {ι : Io} : ∀ n, EqOk P ι n (eqT ty n)
  | 0 => by intro t x y V W r m w _ _ h; simp [eqT] at h
  | n + 1 => by
    intro t x y V W r m w hx hy h hm
    simp only [eqT] at h
    cases ht : ty t with
    | none => rw [ht] at h; cases h
    | some ti =>
      rw [ht] at h; simp only [] at h
      obtain ⟨i, d, s⟩ := hty.get ht
      obtain ⟨m, rfl⟩ : ∃ k, m = k + 1 := ⟨m - 1, by omega⟩
      cases x with
      | sc a => cases y with
        | sc b => simp only [] at h; rw [s.k] at h; exact eqS_sound m s.und hx hy h
        | ag r => simp at h
      | ag xs => cases y with
        | sc b => simp at h
        | ag ys =>
          simp only [] at h
          cases hp : ti.plainEq with
          | false => rw [hp] at h; cases h
          | true =>
            rw [hp] at h; simp only [cnd_true] at h
            obtain ⟨p1, p2⟩ := s.plain hp
            cases hk : ti.k <;> simp only [hk, reduceCtorEq] at h
            rename_i fs
            obtain ⟨fields, rfl, rfl⟩ := tk_st (s.k ▸ hk)
            obtain ⟨a, rfl, ha⟩ := hx
            obtain ⟨b, rfl, hb⟩ := hy
            have key := eqFs_sound hty (eqT_sound hty n) (show n ≤ m by omega) ha hb w fields.toList r h
            simp only [Op.equalIn, underlying, Sem.run_bind, run_program, Result.andThen_ok, s.und, Sem.run_pure, p1, Bool.false_eq_true, if_false]
            rw [← Array.forIn_toList, key]
            cases r <;> simp

noncomputable def noNum : Value → Bool
  | .bool _ | .pointer _ | .slice .. | .map _ | .nilFunc | .func .. | .agg _ => true
  | _ => false

theorem eql_run {V W : Value} (t : TypeId) (h : noNum V = true) : Go.binOp .eql t V W = (do pure (.bool (← Op.equal t V W))) := by
  cases V <;> first | rfl | (simp [noNum] at h; done)
theorem neq_run {V W : Value} (t : TypeId) (h : noNum V = true) : Go.binOp .neq t V W = (do pure (.bool (!(← Op.equal t V W)))) := by
  cases V <;> first | rfl | (simp [noNum] at h; done)

theorem guard_one {ι : Io} {op : BinOp} {t : TypeId} {a : SV} {V W : Value} {P : Program} (w : World) (X Y : Operand) (hx : VR ι a V) :
    (eqGuard op t X Y V W).run P w = .ok () w := by
  have h1 := VR.one hx
  have h2 : V ≠ .nilIface := by
    intro e; subst e
    cases a <;> simp [VR] at hx
  cases op <;> first | rfl | (cases V <;> first | rfl | (exact absurd rfl h2) | (simp [Value.oneCell'] at h1; done))

theorem guard_agg {op : BinOp} {t : TypeId} {a b : Array Value} {P : Program} (w : World) (X Y : Operand) (hp : P.eqGuardType P.depth t = false) :
    (eqGuard op t X Y (.agg a) (.agg b)).run P w = .ok () w := by
  cases op <;> first | rfl | simp [eqGuard, hp]

theorem atBin_sound {op : BinOp} {lo hi N : Nat} {b : Int} {r : SV} (k : IntKind) (h1 : lo ≤ N) (h2 : N ≤ hi) (e1 : atBin op lo hi b = some r) : intBin op k (N : Int) b = some r := by
  have l1 : ∀ x : Nat, ilt (.ofNat x) b = decide ((x : Int) < b) := fun x => ilt_eq _ _
  have l2 : ∀ x : Nat, ilt b (.ofNat x) = decide (b < (x : Int)) := fun x => ilt_eq _ _
  have l3 : ilt (N : Int) b = decide ((N : Int) < b) := ilt_eq _ _
  have l4 : ilt b (N : Int) = decide (b < (N : Int)) := ilt_eq _ _
  cases op <;> simp only [atBin, reduceCtorEq] at e1 <;> simp only [intBin, l3, l4] <;> rw [← e1] <;> simp only [l1, l2] at e1 ⊢
  all_goals
    by_cases q1 : (hi : Int) < b <;> by_cases q2 : (lo : Int) < b <;> by_cases q3 : b < (lo : Int) <;> by_cases q4 : b < (hi : Int) <;> simp only [q1, q2, q3, q4, decide_true, decide_false, cnd_true, cnd_false, reduceCtorEq] at e1 ⊢
    all_goals first
      | (exfalso; omega)
      | (have q : (N : Int) < b := by omega
         simp [q]; done)
      | (have q : ¬ (N : Int) < b := by omega
         simp [q]; done)
      | (have q : b < (N : Int) := by omega
         simp [q]; done)
      | (have q : ¬ b < (N : Int) := by omega
         simp [q]; done)

theorem wrapS {k : IntKind} (hk : (keq k .i64 || keq k .u64) = true) {n : Nat} (hn : n < big) : k.wrap (n : Int) = (n : Int) := by
  have hn : n < 9223372036854775808 := hn
  cases k <;> first | (exact absurd hk (by decide)) | skip
  · simp [IntKind.wrap, IntKind.signed, IntKind.bits]; omega
  · simp [IntKind.wrap, IntKind.signed, IntKind.bits]; omega

theorem bitsS {k : IntKind} (hk : (keq k .i64 || keq k .u64) = true) : k.bits = 64 := by
  cases k <;> first | (exact absurd hk (by decide)) | rfl

theorem land_page (x y c : Nat) (h : x / 4096 = y / 4096) (hc : c % 4096 = 0) : x &&& c = (y / 4096 * 4096) &&& c := by
  refine Nat.eq_of_testBit_eq fun i => ?_
  rw [Nat.testBit_and, Nat.testBit_and]
  by_cases hi : i < 12
  · have : c.testBit i = false := by
      have h1 : (c % 2 ^ 12).testBit i = (decide (i < 12) && c.testBit i) := Nat.testBit_mod_two_pow c 12 i
      rw [show c % 2 ^ 12 = 0 from hc] at h1
      simp [hi] at h1
      exact h1
    rw [this]; simp
  · have e1 : x.testBit i = (x / 4096).testBit (i - 12) := by
      rw [show (4096 : Nat) = 2 ^ 12 from rfl, Nat.testBit_div_two_pow]; congr 1; omega
    have e2 : (y / 4096 * 4096).testBit i = (y / 4096).testBit (i - 12) := by
      rw [show (4096 : Nat) = 2 ^ 12 from rfl, Nat.mul_comm, Nat.testBit_two_pow_mul]
      simp [show 12 ≤ i by omega]
    rw [e1, e2, h]

theorem binOp_add_comm {P : Program} (t : TypeId) (k : IntKind) (x y : Int) (w : World) : (Go.binOp .add t (.int k x) (.int k y)).run P w = (Go.binOp .add t (.int k y) (.int k x)).run P w := by
  obtain ⟨V, h1, h2⟩ := intBin_sound (k := k) (op := .add) (x := x) (y := y) P t w (fun _ => none) (r := .i k (wr k (Int.add x y))) rfl
  obtain ⟨U, h3, h4⟩ := intBin_sound (k := k) (op := .add) (x := y) (y := x) P t w (fun _ => none) (r := .i k (wr k (Int.add y x))) rfl
  have e : Int.add x y = Int.add y x := Int.add_comm x y
  obtain rfl : V = .int k (wr k (Int.add x y)) := h2
  obtain rfl : U = .int k (wr k (Int.add y x)) := h4
  rw [h1, h3, e]

theorem rgBin_sound {ι : Io} {op : BinOp} {k : IntKind} {id lo hi m r c0 a : Nat} {ops : List (Nat × Nat)} {b : Int} {res : SV} (P : Program) (t : TypeId) (w : World)
    (hc : ι (atomKey id) = some (c0, a)) (h1 : lo ≤ evalO ops a) (h2 : evalO ops a ≤ hi) (h3 : evalO ops a % m = r) (h : rgBin op k id ops lo hi m r b = some res) :
    ∃ V, (Go.binOp op t (.int k (evalO ops a : Nat)) (.int k b)).run P w = .ok V w ∧ VR ι res V := by
  unfold rgBin at h
  cases hk : (keq k .i64 || keq k .u64) with
  | false => rw [hk] at h; cases h
  | true =>
  rw [hk] at h; simp only [cnd_true] at h
  cases b with
  | negSucc c => cases h
  | ofNat c =>
  simp only at h
  have lift : ∀ {s : SV}, intBin op k (evalO ops a : Nat) (Int.ofNat c) = some s → (∀ V, VR ι s V → VR ι res V) → ∃ V, (Go.binOp op t (.int k (evalO ops a : Nat)) (.int k (Int.ofNat c))).run P w = .ok V w ∧ VR ι res V := by
    intro s hs hv
    obtain ⟨V, q1, q2⟩ := intBin_sound P t w ι hs
    exact ⟨V, q1, hv V q2⟩
  split at h
  · -- add
    cases hb : Nat.blt (Nat.add hi c) big with
    | false => rw [hb] at h; cases h
    | true =>
      rw [hb] at h; simp only [cnd_true, Option.some.injEq] at h
      have hlt : hi + c < big := Nat.le_of_ble_eq_true hb
      subst h
      refine lift rfl ?_
      rintro V hV
      obtain rfl : V = .int k (wr k (Int.add (evalO ops a : Nat) (Int.ofNat c))) := hV
      refine ⟨c0, a, hc, ?_, Nat.add_le_add_right h1 c, Nat.add_le_add_right h2 c, ?_⟩
      · rw [wr_eq]
        show Value.int k (k.wrap ((evalO ops a + c : Nat) : Int)) = _
        rw [wrapS hk (by omega)]
        rfl
      · show (evalO ops a + c) % m = (r + c) % m
        rw [← h3, Nat.mod_add_mod]
  · -- rem
    cases hb : (Nat.blt 0 c && Nat.blt hi big) with
    | false => rw [hb] at h; cases h
    | true =>
      rw [hb] at h; simp only [cnd_true] at h
      simp only [Bool.and_eq_true] at hb
      have c0' : 0 < c := Nat.le_of_ble_eq_true hb.1
      have hz : ieq (Int.ofNat c) 0 = false := by
        rw [ieq_eq]; simp; omega
      have hs : intBin .rem k (evalO ops a : Nat) (Int.ofNat c) = some (.i k ((evalO ops a % c : Nat) : Int)) := by
        simp only [intBin, hz, cnd_false]; rfl
      refine lift hs ?_
      rintro V hV
      obtain rfl : V = .int k ((evalO ops a % c : Nat) : Int) := hV
      cases hm : Nat.beq (Nat.mod m c) 0 with
      | true =>
        rw [hm] at h; simp only [cnd_true, Option.some.injEq] at h
        subst h
        have hm := Nat.eq_of_beq_eq_true hm
        have hm : m % c = 0 := hm
        show Value.int k ((evalO ops a % c : Nat) : Int) = .int k (.ofNat (r % c))
        rw [← h3, Nat.mod_mod_of_dvd _ (Nat.dvd_of_mod_eq_zero hm)]
        rfl
      | false =>
        rw [hm] at h; simp only [cnd_false] at h
        cases hq : Nat.beq (Nat.div lo c) (Nat.div hi c) with
        | false => rw [hq] at h; cases h
        | true =>
          rw [hq] at h; simp only [cnd_true, Option.some.injEq] at h
          have hq : lo / c = hi / c := Nat.eq_of_beq_eq_true hq
          subst h
          have l1 := Nat.div_add_mod lo c
          have l2 := Nat.div_add_mod hi c
          have l3 := Nat.div_add_mod (evalO ops a) c
          have l4 : lo / c ≤ evalO ops a / c := Nat.div_le_div_right h1
          have l5 : evalO ops a / c ≤ hi / c := Nat.div_le_div_right h2
          have l6 : evalO ops a / c = lo / c := by omega
          rw [l6] at l3
          rw [← hq] at l2
          refine ⟨c0, a, hc, rfl, ?_, ?_, ?_⟩
          · show lo % c ≤ evalO ops a % c; omega
          · show evalO ops a % c ≤ hi % c; omega
          · show evalO ops a % c % _ = _
            cases hcm : Nat.beq (Nat.mod c m) 0 with
            | true =>
              have hcm : c % m = 0 := Nat.eq_of_beq_eq_true hcm
              simp only [cnd_true]
              rw [Nat.mod_mod_of_dvd _ (Nat.dvd_of_mod_eq_zero hcm)]; exact h3
            | false => simp only [cnd_false]; omega
  · -- quo
    cases hb : (Nat.blt 0 c && (Nat.blt hi big && Nat.beq (Nat.div lo c) (Nat.div hi c))) with
    | false => rw [hb] at h; cases h
    | true =>
      rw [hb] at h; simp only [cnd_true, Option.some.injEq] at h
      simp only [Bool.and_eq_true] at hb
      have c0' : 0 < c := Nat.le_of_ble_eq_true hb.1
      have hbig : hi < big := Nat.le_of_ble_eq_true hb.2.1
      have hq : lo / c = hi / c := Nat.eq_of_beq_eq_true hb.2.2
      have hz : ieq (Int.ofNat c) 0 = false := by
        rw [ieq_eq]; simp; omega
      have l4 : lo / c ≤ evalO ops a / c := Nat.div_le_div_right h1
      have l5 : evalO ops a / c ≤ hi / c := Nat.div_le_div_right h2
      have l6 : evalO ops a / c = lo / c := by omega
      have hs : intBin .quo k (evalO ops a : Nat) (Int.ofNat c) = some (.i k (wr k ((evalO ops a / c : Nat) : Int))) := by
        simp only [intBin, hz, cnd_false]; rfl
      subst h
      refine lift hs ?_
      rintro V hV
      obtain rfl : V = .int k (wr k ((evalO ops a / c : Nat) : Int)) := hV
      show Value.int k (wr k ((evalO ops a / c : Nat) : Int)) = .int k (.ofNat (lo / c))
      rw [wr_eq, wrapS hk (by have := Nat.div_le_self (evalO ops a) c; omega), l6]
      rfl
  · -- and
    cases hb : (Nat.beq (Nat.mod c 4096) 0 && (Nat.blt hi big && (Nat.blt c (Nat.mul 2 big) && Nat.beq (Nat.div lo 4096) (Nat.div hi 4096)))) with
    | false => rw [hb] at h; cases h
    | true =>
      rw [hb] at h; simp only [cnd_true, Option.some.injEq] at h
      simp only [Bool.and_eq_true] at hb
      obtain ⟨b1, b2, b3, b4⟩ := hb
      have hcm : c % 4096 = 0 := Nat.eq_of_beq_eq_true b1
      have hbig : hi < big := Nat.le_of_ble_eq_true b2
      have hc2 : c < 18446744073709551616 := Nat.le_of_ble_eq_true b3
      have hq : lo / 4096 = hi / 4096 := Nat.eq_of_beq_eq_true b4
      have hbig' : hi < 9223372036854775808 := hbig
      have l6 : evalO ops a / 4096 = lo / 4096 := by omega
      have e64 := bitsS hk
      have hv : (BitVec.ofInt 64 ((evalO ops a : Nat) : Int) &&& BitVec.ofInt 64 (Int.ofNat c)).toNat = evalO ops a &&& c := by
        rw [BitVec.toNat_and]
        have t1 : (BitVec.ofInt 64 ((evalO ops a : Nat) : Int)).toNat = evalO ops a := by
          rw [BitVec.toNat_ofInt]; omega
        have t2 : (BitVec.ofInt 64 (Int.ofNat c)).toNat = c := by
          rw [BitVec.toNat_ofInt]
          show ((c : Int) % _).toNat = c
          omega
        rw [t1, t2]
      have hle : evalO ops a &&& c ≤ evalO ops a := Nat.and_le_left
      have hs : intBin .and k (evalO ops a : Nat) (Int.ofNat c) = some (.i k ((evalO ops a &&& c : Nat) : Int)) := by
        have : intBin .and k (evalO ops a : Nat) (Int.ofNat c) = some (.i k (k.wrap (BitVec.ofInt k.bits ((evalO ops a : Nat) : Int) &&& BitVec.ofInt k.bits (Int.ofNat c)).toNat)) := rfl
        rw [this, e64, hv, wrapS hk (by show _ < 9223372036854775808; omega)]
      subst h
      refine lift hs ?_
      rintro V hV
      obtain rfl : V = .int k ((evalO ops a &&& c : Nat) : Int) := hV
      show Value.int k ((evalO ops a &&& c : Nat) : Int) = .int k (.ofNat (Nat.land (lo / 4096 * 4096) c))
      rw [land_page _ lo c l6 hcm]
      rfl
  · -- eql
    cases hb : (Nat.blt c lo || Nat.blt hi c) with
    | false => rw [hb] at h; cases h
    | true =>
      rw [hb] at h; simp only [cnd_true, Option.some.injEq] at h
      simp only [Bool.or_eq_true] at hb
      have hne : ieq ((evalO ops a : Nat) : Int) (Int.ofNat c) = false := by
        rw [ieq_eq]
        have : ¬ ((evalO ops a : Nat) : Int) = (c : Int) := by
          rcases hb with hb | hb
          · have : c < lo := Nat.le_of_ble_eq_true hb
            omega
          · have : hi < c := Nat.le_of_ble_eq_true hb
            omega
        simpa using this
      subst h
      exact lift (s := .b false) (by simp only [intBin, hne]) (fun V hV => hV)
  · -- neq
    cases hb : (Nat.blt c lo || Nat.blt hi c) with
    | false => rw [hb] at h; cases h
    | true =>
      rw [hb] at h; simp only [cnd_true, Option.some.injEq] at h
      simp only [Bool.or_eq_true] at hb
      have hne : ieq ((evalO ops a : Nat) : Int) (Int.ofNat c) = false := by
        rw [ieq_eq]
        have : ¬ ((evalO ops a : Nat) : Int) = (c : Int) := by
          rcases hb with hb | hb
          · have : c < lo := Nat.le_of_ble_eq_true hb
            omega
          · have : hi < c := Nat.le_of_ble_eq_true hb
            omega
        simpa using this
      subst h
      exact lift (s := .b true) (by simp only [intBin, hne, Bool.not_false]) (fun V hV => hV)
  · exact lift (atBin_sound k h1 h2 h) (fun V hV => hV)

theorem unBin_sound {k : IntKind} {op : BinOp} {r : SV} (P : Program) (t : TypeId) (w : World) (ι : Io) (x y : Int) (h : unBin op k = some r) :
    ∃ V, (Go.binOp op t (.int k x) (.int k y)).run P w = .ok V w ∧ VR ι r V := by
  have key : ∀ c : Int, intBin op k x y = some (.i k c) → r = .un k → ∃ V, (Go.binOp op t (.int k x) (.int k y)).run P w = .ok V w ∧ VR ι r V := by
    rintro c hc rfl
    obtain ⟨V, h1, h2⟩ := intBin_sound P t w ι hc
    exact ⟨V, h1, c, h2⟩
  cases op <;> simp only [unBin, Option.some.injEq, reduceCtorEq] at h <;> exact key _ rfl h.symm

theorem unSh_sound {k k' : IntKind} {op : BinOp} {b : Int} {r : SV} (P : Program) (t : TypeId) (w : World) (ι : Io) (x : Int) (h : unSh op k b = some r) :
    ∃ V, (Go.binOp op t (.int k x) (.int k' b)).run P w = .ok V w ∧ VR ι r V := by
  cases hb : ilt b 0 with
  | true => cases op <;> simp [unSh, hb] at h
  | false =>
    cases op <;> simp only [unSh, hb, cnd_false, Option.some.injEq, reduceCtorEq] at h <;> subst h
    · obtain ⟨V, h1, h2⟩ := shBin_sound P t w ι (k := k) (j := k') (x := x) (y := b) (r := .i k (wr k (Int.mul x (.ofNat (2 ^ min b.toNat k.bits))))) (.inl rfl) (by simp only [shBin, hb, cnd_false])
      exact ⟨V, h1, _, h2⟩
    · obtain ⟨V, h1, h2⟩ := shBin_sound P t w ι (k := k) (j := k') (x := x) (y := b) (r := .i k (Int.fdiv x (.ofNat (2 ^ min b.toNat k.bits)))) (.inr rfl) (by simp only [shBin, hb, cnd_false])
      exact ⟨V, h1, _, h2⟩

theorem bwv_lt {o : Bool} {k n : Nat} (hn : n < 18446744073709551616) (hk : k < 64) : bwv o k n < 18446744073709551616 := by
  cases o
  · exact hn
  · exact Nat.or_lt_two_pow (n := 64) hn (Nat.pow_lt_pow_right (by decide) hk)

theorem u64_wrap {x : Nat} (h : x < 18446744073709551616) : IntKind.u64.wrap (x : Int) = x := by
  simp [IntKind.wrap, IntKind.bits, IntKind.signed]
  omega

theorem bv64 {x : Nat} (h : x < 18446744073709551616) : (BitVec.ofInt 64 (x : Int)).toNat = x := by
  simp [BitVec.toNat_ofInt]
  omega

theorem bwBin_sound {k' : IntKind} {op : BinOp} {id k : Nat} {b o : Bool} {c : Int} {r : SV} (P : Program) (t : TypeId) (w : World) {ι : Io} {cc n : Nat} (hc : ι (atomKey id) = some (cc, n)) (hn : n < 18446744073709551616) (hb : n.testBit k = b)
    (h : bwBin op id k b o k' c = some r) : ∃ V, (Go.binOp op t (.int .u64 (bwv o k n : Nat)) (.int k' c)).run P w = .ok V w ∧ VR ι r V := by
  unfold bwBin at h
  split at h
  · cases hk : (ieq c (.ofNat k) && Nat.blt k 64) with
    | false => rw [hk] at h; cases h
    | true =>
      rw [hk] at h; simp only [cnd_true, Option.some.injEq] at h; subst h
      rw [ieq_eq] at hk
      simp only [Bool.and_eq_true] at hk
      obtain rfl : c = Int.ofNat k := eq_of_beq hk.1
      have hk : k < 64 := Nat.le_of_ble_eq_true hk.2
      obtain ⟨V, h1, h2⟩ := shBin_sound P t w ι (k := .u64) (j := k') (x := (bwv o k n : Nat)) (y := Int.ofNat k) (r := .i .u64 (Int.fdiv (bwv o k n : Nat) (.ofNat (2 ^ min (Int.ofNat k).toNat IntKind.u64.bits)))) (.inr rfl) (by
        have : ilt (Int.ofNat k) 0 = false := by rw [ilt_eq]; simp
        simp only [shBin, this, cnd_false])
      obtain rfl : V = .int .u64 _ := h2
      refine ⟨_, h1, _, rfl, ?_⟩
      have hbv := bwv_lt (o := o) hn hk
      have ht : ((bwv o k n) / 2 ^ k) % 2 = cnd b 1 (cnd o 1 0) := by
        have e1 : ((bwv o k n) / 2 ^ k) % 2 = ((bwv o k n).testBit k).toNat := (Nat.toNat_testBit _ _).symm
        rw [e1]
        cases o
        · show (n.testBit k).toNat = _
          rw [hb]; cases b <;> rfl
        · show ((n ||| 2 ^ k).testBit k).toNat = _
          rw [Nat.testBit_or, hb, Nat.testBit_two_pow_self]; cases b <;> rfl
      have hcast : ((cnd b 1 (cnd o 1 0) : Int)) = (((cnd b 1 (cnd o 1 0)) : Nat) : Int) := by cases b <;> cases o <;> rfl
      rw [hcast, ← ht]
      simp only [cnd_true, intBin]
      have hfd : Int.fdiv ((bwv o k n : Nat) : Int) (.ofNat (2 ^ min (Int.ofNat k).toNat IntKind.u64.bits)) = ((bwv o k n / 2 ^ k : Nat) : Int) := by
        have e : min (Int.ofNat k).toNat IntKind.u64.bits = k := by
          show min k 64 = k
          omega
        rw [e]
        show Int.fdiv ((bwv o k n : Nat) : Int) ((2 ^ k : Nat) : Int) = _
        rw [Int.fdiv_eq_ediv_of_nonneg _ (Int.natCast_nonneg _)]
        rfl
      rw [hfd]
      have hlt : bwv o k n / 2 ^ k < 18446744073709551616 := Nat.lt_of_le_of_lt (Nat.div_le_self _ _) hbv
      generalize bwv o k n / 2 ^ k = x at hlt ⊢
      have e2 : (BitVec.ofInt IntKind.u64.bits (x : Int) &&& BitVec.ofInt IntKind.u64.bits 1).toNat = x % 2 := by
        show (BitVec.ofInt 64 (x : Int) &&& BitVec.ofInt 64 1).toNat = x % 2
        rw [BitVec.toNat_and, bv64 hlt, show (BitVec.ofInt 64 1).toNat = 1 from rfl, Nat.and_one_is_mod]
      rw [e2, u64_wrap (by omega)]
  · cases hk : (keq k' .u64 && (ieq c (.ofNat (2 ^ k)) && Nat.blt k 64)) with
    | false => rw [hk] at h; cases h
    | true =>
      rw [hk] at h; simp only [cnd_true, Option.some.injEq] at h; subst h
      simp only [Bool.and_eq_true] at hk
      obtain rfl := keq_iff.1 hk.1
      have h2 := hk.2.1
      rw [ieq_eq] at h2
      obtain rfl : c = Int.ofNat (2 ^ k) := eq_of_beq h2
      have hk : k < 64 := Nat.le_of_ble_eq_true hk.2.2
      have hbv := bwv_lt (o := o) hn hk
      have h2k : 2 ^ k < 18446744073709551616 := by
        have := Nat.pow_lt_pow_right (a := 2) (by decide : 1 < 2) hk
        simpa using this
      have e2 : (BitVec.ofInt IntKind.u64.bits ((bwv o k n : Nat) : Int) ||| BitVec.ofInt IntKind.u64.bits (Int.ofNat (2 ^ k))).toNat = bwv true k n := by
        show (BitVec.ofInt 64 ((bwv o k n : Nat) : Int) ||| BitVec.ofInt 64 ((2 ^ k : Nat) : Int)).toNat = _
        rw [BitVec.toNat_or, bv64 hbv, bv64 h2k]
        cases o
        · rfl
        · show (n ||| 2 ^ k) ||| 2 ^ k = n ||| 2 ^ k
          rw [Nat.or_assoc, Nat.or_self]
      obtain ⟨V, h1, h3⟩ := intBin_sound P t w ι (k := .u64) (x := (bwv o k n : Nat)) (y := Int.ofNat (2 ^ k)) (op := .or) (r := .i .u64 (bwv true k n : Nat)) (by
        simp only [intBin]
        rw [e2, u64_wrap (bwv_lt hn hk)])
      exact ⟨V, h1, cc, n, hc, hn, hb, h3⟩
  · cases h

theorem binA_sound {P : Program} {ty : Ty} (hty : TyOk P ty) {ι : Io} {op : BinOp} {t : TypeId} {x y r : CV} {V W : Value} (w : World)
    (hx : CVR ι x V) (hy : CVR ι y W) (h : binA ty op t x y = some r) (X Y : Operand) :
    ∃ Z, (do eqGuard op t X Y V W; Go.binOp op t V W : Sem Value).run P w = .ok Z w ∧ CVR ι r Z := by
  unfold binA at h
  split at h
  · -- two whole numbers
    rename_i k a k' b
    have hx' : VR ι (.i k a) V := hx
    have hy' : VR ι (.i k' b) W := hy
    simp only [Sem.run_bind, guard_one w X Y hx', Result.andThen_ok]
    obtain rfl : V = .int k a := hx
    obtain rfl : W = .int k' b := hy
    split at h
    · obtain ⟨c, h1, rfl⟩ := Option.map_eq_some_iff.1 h
      exact shBin_sound P t w ι (.inl rfl) h1
    · obtain ⟨c, h1, rfl⟩ := Option.map_eq_some_iff.1 h
      exact shBin_sound P t w ι (.inr rfl) h1
    · cases hk : keq k k' with
      | false => rw [hk] at h; cases h
      | true =>
        rw [hk] at h; simp only [cnd_true] at h
        obtain rfl := keq_iff.1 hk
        obtain ⟨c, h1, rfl⟩ := Option.map_eq_some_iff.1 h
        exact intBin_sound P t w ι h1
  · rename_i a b
    have hx' : VR ι (.f a) V := hx
    simp only [Sem.run_bind, guard_one w X Y hx', Result.andThen_ok]
    obtain rfl : V = .float .f64 a := hx
    obtain rfl : W = .float .f64 b := hy
    obtain ⟨c, h1, rfl⟩ := Option.map_eq_some_iff.1 h
    exact flBin_sound P t w ι h1
  · rename_i a b c d
    have hx' : VR ι (.c a b) V := hx
    simp only [Sem.run_bind, guard_one w X Y hx', Result.andThen_ok]
    obtain rfl : V = .complex .f64 a b := hx
    obtain rfl : W = .complex .f64 c d := hy
    obtain ⟨e, h1, rfl⟩ := Option.map_eq_some_iff.1 h
    exact cxBin_sound P t w ι h1
  · rename_i a b
    have hx' : VR ι (.s a) V := hx
    simp only [Sem.run_bind, guard_one w X Y hx', Result.andThen_ok]
    obtain ⟨s1, rfl, e1⟩ := hx
    obtain ⟨s2, rfl, e2⟩ := hy
    obtain ⟨e, h1, rfl⟩ := Option.map_eq_some_iff.1 h
    exact stBin_sound P t w ι e1 e2 h1
  · -- a name against a number
    rename_i k lo hi i k' b
    obtain ⟨c, N, hc, rfl, h1, h2⟩ := (show VR ι (.at k lo hi i) V from hx)
    obtain rfl : W = .int k' b := hy
    cases hk : keq k k' with
    | false => rw [hk] at h; cases h
    | true =>
      rw [hk] at h; simp only [cnd_true] at h
      obtain rfl := keq_iff.1 hk
      obtain ⟨r', e1, rfl⟩ := Option.map_eq_some_iff.1 h
      simp only [Sem.run_bind, guard_one w X Y (show VR ι (.i k (N : Int)) (.int k (N : Int)) from rfl), Result.andThen_ok]
      refine intBin_sound P t w ι (y := b) ?_
      have l1 : ∀ x : Nat, ilt (.ofNat x) b = decide ((x : Int) < b) := fun x => ilt_eq _ _
      have l2 : ∀ x : Nat, ilt b (.ofNat x) = decide (b < (x : Int)) := fun x => ilt_eq _ _
      have l3 : ilt (N : Int) b = decide ((N : Int) < b) := ilt_eq _ _
      have l4 : ilt b (N : Int) = decide (b < (N : Int)) := ilt_eq _ _
      cases op <;> simp only [atBin, reduceCtorEq] at e1 <;> simp only [intBin, l3, l4] <;> rw [← e1] <;> simp only [l1, l2] at e1 ⊢
      all_goals
        by_cases q1 : (hi : Int) < b <;> by_cases q2 : (lo : Int) < b <;> by_cases q3 : b < (lo : Int) <;> by_cases q4 : b < (hi : Int) <;> simp only [q1, q2, q3, q4, decide_true, decide_false, cnd_true, cnd_false, reduceCtorEq] at e1 ⊢
        all_goals first
          | (exfalso; omega)
          | (have q : (N : Int) < b := by omega
             simp [q]; done)
          | (have q : ¬ (N : Int) < b := by omega
             simp [q]; done)
          | (have q : b < (N : Int) := by omega
             simp [q]; done)
          | (have q : ¬ b < (N : Int) := by omega
             simp [q]; done)
  · -- a number of which one rest is known
    rename_i k a y j k' b
    obtain ⟨n, rfl, h1⟩ := (show VR ι (.cl k a y j) V from hx)
    obtain rfl : W = .int k' b := hy
    cases hk : (keq k k' && ieq y b) with
    | false => rw [hk] at h; cases h
    | true =>
      rw [hk] at h; simp only [cnd_true] at h
      simp only [Bool.and_eq_true] at hk
      obtain rfl := keq_iff.1 hk.1
      obtain rfl : y = b := by
        have := hk.2
        rw [ieq_eq] at this
        simpa using this
      simp only [Sem.run_bind, guard_one w X Y (show VR ι (.i k n) (.int k n) from rfl), Result.andThen_ok]
      split at h
      · simp only [Option.some.injEq] at h; subst h
        exact intBin_sound P t w ι h1
      · simp only [Option.some.injEq] at h; subst h
        exact intBin_sound P t w ι h1
      · cases h
  · rename_i k lo hi i k' lo' hi' j
    obtain ⟨c, N, hc, rfl, h1, h2⟩ := (show VR ι (.at k lo hi i) V from hx)
    obtain ⟨c', N', hc', rfl, h1', h2'⟩ := (show VR ι (.at k' lo' hi' j) W from hy)
    cases hk : (keq k k' && Nat.beq i j) with
    | false => rw [hk] at h; cases h
    | true =>
      rw [hk] at h; simp only [cnd_true] at h
      simp only [Bool.and_eq_true] at hk
      obtain rfl := keq_iff.1 hk.1
      obtain rfl := Nat.eq_of_beq_eq_true hk.2
      rw [hc] at hc'
      simp only [Option.some.injEq, Prod.mk.injEq] at hc'
      obtain ⟨rfl, rfl⟩ := hc'
      simp only [Sem.run_bind, guard_one w X Y (show VR ι (.i k (N : Int)) (.int k (N : Int)) from rfl), Result.andThen_ok]
      split at h
      · simp only [Option.some.injEq] at h; subst h
        have e : intBin .eql k (N : Int) (N : Int) = some (.b true) := by simp [intBin, ieq_eq]
        exact intBin_sound P t w ι e
      · simp only [Option.some.injEq] at h; subst h
        have e : intBin .neq k (N : Int) (N : Int) = some (.b false) := by simp [intBin, ieq_eq]
        exact intBin_sound P t w ι e
      · cases h
  · -- a number of a name and in bounds
    rename_i k id ops lo hi m r' k' b
    obtain ⟨c, a, hc, rfl, h1, h2, h3⟩ := (show VR ι (.rg k id ops lo hi m r') V from hx)
    obtain rfl : W = .int k' b := hy
    simp only [Sem.run_bind, guard_one w X Y (show VR ι (.i k (evalO ops a : Nat)) (.int k (evalO ops a : Nat)) from rfl), Result.andThen_ok]
    cases hk : keq k k' with
    | false => rw [hk] at h; cases h
    | true =>
      rw [hk] at h; simp only [cnd_true] at h
      obtain rfl := keq_iff.1 hk
      obtain ⟨q, e1, rfl⟩ := Option.map_eq_some_iff.1 h
      exact rgBin_sound P t w hc h1 h2 h3 e1
  · rename_i k b k' id ops lo hi m r'
    obtain rfl : V = .int k b := hx
    obtain ⟨c, a, hc, rfl, h1, h2, h3⟩ := (show VR ι (.rg k' id ops lo hi m r') W from hy)
    simp only [Sem.run_bind, guard_one w X Y (show VR ι (.i k b) (.int k b) from rfl), Result.andThen_ok]
    cases hk : keq k k' with
    | false => rw [hk] at h; cases h
    | true =>
      rw [hk] at h; simp only [cnd_true] at h
      obtain rfl := keq_iff.1 hk
      split at h
      · obtain ⟨q, e1, rfl⟩ := Option.map_eq_some_iff.1 h
        obtain ⟨Z, z1, z2⟩ := rgBin_sound P t w hc h1 h2 h3 e1
        refine ⟨Z, ?_, z2⟩
        rw [← z1]
        exact binOp_add_comm t k b (evalO ops a : Nat) w
      · cases h
  · rename_i id k b o k' c
    obtain ⟨cc, n, h1, h2, h3, rfl⟩ := (show VR ι (.bw id k b o) V from hx)
    obtain rfl : W = .int k' c := hy
    simp only [Sem.run_bind, guard_one w X Y (show VR ι (.i .u64 (bwv o k n : Nat)) (.int .u64 (bwv o k n : Nat)) from rfl), Result.andThen_ok]
    obtain ⟨q, e1, rfl⟩ := Option.map_eq_some_iff.1 h
    exact bwBin_sound P t w h1 h2 h3 e1
  · rename_i k k' b
    obtain ⟨n, rfl⟩ := (show VR ι (.un k) V from hx)
    obtain rfl : W = .int k' b := hy
    simp only [Sem.run_bind, guard_one w X Y (show VR ι (.i k n) (.int k n) from rfl), Result.andThen_ok]
    split at h
    · rename_i r' hr'
      simp only [Option.some.injEq] at h; subst h
      exact unSh_sound P t w ι n hr'
    · cases hk : keq k k' with
      | false => rw [hk] at h; cases h
      | true =>
        rw [hk] at h; simp only [cnd_true] at h
        obtain rfl := keq_iff.1 hk
        obtain ⟨c, h1, rfl⟩ := Option.map_eq_some_iff.1 h
        exact unBin_sound P t w ι n b h1
  · rename_i k a k'
    obtain rfl : V = .int k a := hx
    obtain ⟨n, rfl⟩ := (show VR ι (.un k') W from hy)
    simp only [Sem.run_bind, guard_one w X Y (show VR ι (.i k a) (.int k a) from rfl), Result.andThen_ok]
    cases hk : keq k k' with
    | false => rw [hk] at h; cases h
    | true =>
      rw [hk] at h; simp only [cnd_true] at h
      obtain rfl := keq_iff.1 hk
      obtain ⟨c, h1, rfl⟩ := Option.map_eq_some_iff.1 h
      exact unBin_sound P t w ι a n h1
  · rename_i k k'
    obtain ⟨m, rfl⟩ := (show VR ι (.un k) V from hx)
    obtain ⟨n, rfl⟩ := (show VR ι (.un k') W from hy)
    simp only [Sem.run_bind, guard_one w X Y (show VR ι (.i k m) (.int k m) from rfl), Result.andThen_ok]
    cases hk : keq k k' with
    | false => rw [hk] at h; cases h
    | true =>
      rw [hk] at h; simp only [cnd_true] at h
      obtain rfl := keq_iff.1 hk
      obtain ⟨c, h1, rfl⟩ := Option.map_eq_some_iff.1 h
      exact unBin_sound P t w ι m n h1
  · rename_i n1 n2 n3 n4 n5 n7 n6 n11 n12 n13 n8 n9 n10
    have key : ∀ b, eqT ty 12 t x y = some b → noNum V = true ∧ (eqGuard op t X Y V W).run P w = .ok () w ∧ (Op.equal t V W).run P w = .ok b w := by
      intro b hb
      have he : (Op.equal t V W).run P w = .ok b w := eqT_sound hty 12 t x y V W b 10000 w hx hy hb (by omega)
      refine ⟨?_, ?_, he⟩
      · cases x with
        | ag l => obtain ⟨a, rfl, _⟩ := hx; rfl
        | sc a =>
          simp only [eqT] at hb
          cases ht : ty t with
          | none => rw [ht] at hb; cases hb
          | some ti =>
            rw [ht] at hb; simp only [] at hb
            cases y with
            | ag l => simp at hb
            | sc c =>
              simp only [] at hb
              cases a
              case i k n => cases c <;> simp [eqS] at hb; exact (n1 _ _ _ _ rfl rfl).elim
              case f n => cases c <;> simp [eqS] at hb; exact (n2 _ _ rfl rfl).elim
              case c n m => cases c <;> simp [eqS] at hb; exact (n3 _ _ _ _ rfl rfl).elim
              case s n => cases c <;> simp [eqS] at hb; exact (n4 _ _ rfl rfl).elim
              case «at» k lo hi i => cases c <;> simp [eqS] at hb; exact (n6 _ _ _ _ _ _ _ _ rfl rfl).elim
              case cl k a y j => cases c <;> simp [eqS] at hb
              case un k => cases c <;> simp [eqS] at hb
              case hz i a b => cases c <;> simp [eqS] at hb
              case rg => cases c <;> simp [eqS] at hb
              case gt => cases c <;> simp [eqS] at hb
              case bw => cases c <;> simp [eqS] at hb
              all_goals simp only [CVR, VR] at hx
              case p => obtain ⟨_, _, _, rfl⟩ := hx; rfl
              case sl => obtain ⟨_, _, _, _, _, rfl, _⟩ := hx; rfl
              case m => obtain ⟨_, _, _, rfl⟩ := hx; rfl
              case fn => obtain ⟨_, _, rfl, _⟩ := hx; rfl
              all_goals (subst hx; rfl)
      · cases x with
        | sc a => exact guard_one w X Y (show VR ι a V from hx)
        | ag l =>
          simp only [eqT] at hb
          cases ht : ty t with
          | none => rw [ht] at hb; cases hb
          | some ti =>
            rw [ht] at hb; simp only [] at hb
            obtain ⟨i, d, s⟩ := hty.get ht
            cases y with
            | sc c => simp at hb
            | ag l' =>
              simp only [] at hb
              cases hp : ti.plainEq with
              | false => rw [hp] at hb; cases hb
              | true =>
                obtain ⟨a, rfl, _⟩ := hx
                obtain ⟨b, rfl, _⟩ := hy
                exact guard_agg w X Y (s.plain hp).2
    split at h
    · split at h
      · rename_i b hb
        simp only [Option.some.injEq] at h; subst h
        obtain ⟨h1, h2, h3⟩ := key b hb
        exact ⟨.bool b, by simp only [Sem.run_bind, h2, Result.andThen_ok, eql_run t h1, h3, Sem.run_pure], rfl⟩
      · cases h
    · split at h
      · rename_i b hb
        simp only [Option.some.injEq] at h; subst h
        obtain ⟨h1, h2, h3⟩ := key b hb
        exact ⟨.bool (!b), by simp only [Sem.run_bind, h2, Result.andThen_ok, neq_run t h1, h3, Sem.run_pure], rfl⟩
      · cases h
    · cases h

theorem unA_sound {ι : Io} {op : UnOp} {x r : SV} {V : Value} {P : Program} (w : World) (hx : VR ι x V) (h : unA op x = some r) :
    ∃ Z, (Op.unary op V).run P w = .ok Z w ∧ VR ι r Z := by
  cases op <;> cases x <;> simp only [unA, Option.some.injEq, reduceCtorEq] at h <;> subst h <;> simp only [VR] at hx <;> subst hx
  · rename_i k n; exact ⟨.int k (k.wrap (0 - n)), by simp only [Op.unary, Op.intArith, Sem.run_pure], by rw [wr_eq]; rfl⟩
  all_goals exact ⟨_, rfl, rfl⟩

end Go.Proofs.YtmjogmpgamlhaaaGreat.Dm
