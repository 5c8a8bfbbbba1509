/- What operators yield: the model's answers are the abstract ones. -/
import Derived.Test.YtcdjgnpjapgoaaaGreatDmRel
import Derived.ChangeKeysEq
set_option linter.unusedVariables false
set_option linter.unusedSimpArgs false
set_option linter.unusedSectionVars false
namespace Go.Proofs.YtcdjgnpjapgoaaaGreat.Dm
open Go

noncomputable def TyOk (P : Program) (ty : Ty) : Prop := ∀ t ti, ty t = some ti → tiOf P t = some ti

theorem svOf_rel {v : Value} {x : SV} (ι : Io) (h : svOf v = some x) : VR ι x v := by
  unfold svOf at h
  split at h <;> simp only [Option.some.injEq, reduceCtorEq] at h <;> subst h <;> try rfl
  · exact ⟨_, rfl, rfl⟩
  · exact ⟨_, _, rfl, trivial, trivial⟩

theorem svsOf_rel (ι : Io) : ∀ {l : List Value} {x : List SV}, svsOf l = some x → Rs ι x l
  | [], x, h => by simp only [svsOf, Option.some.injEq] at h; subst h; exact trivial
  | v :: l, x, h => by
    simp only [svsOf] at h
    cases h1 : svOf v with
    | none => rw [h1] at h; cases h
    | some a =>
      rw [h1] at h; simp only [] at h
      cases h2 : svsOf l with
      | none => rw [h2] at h; cases h
      | some b =>
        rw [h2] at h
        simp only [Option.some.injEq] at h
        subst h
        exact ⟨svOf_rel ι h1, svsOf_rel ι h2⟩

theorem cvOf_rel {v : Value} {x : CV} (ι : Io) (h : cvOf v = some x) : CVR ι x v := by
  unfold cvOf at h
  split at h
  · rename_i cs
    cases h1 : svsOf cs.toList with
    | none => rw [h1] at h; cases h
    | some l => rw [h1] at h; simp only [Option.some.injEq] at h; subst h; exact ⟨cs, rfl, svsOf_rel ι h1⟩
  · cases h1 : svOf v with
    | none => rw [h1] at h; cases h
    | some a => rw [h1] at h; simp only [Option.some.injEq] at h; subst h; exact svOf_rel ι h1

/-- What a row of the table tells of the model's. -/
structure TIs (P : Program) (t : TypeId) (ti : TI) (i : TypeInfo) (d : TypeDesc) : Prop where
  info : P.info? t = some i
  und : P.underlying t = some d
  k : ti.k = tkOf d
  size : ti.size = i.size
  bytes : ti.bytes = i.bytes
  zero : ∀ z, ti.zero = some z → ∃ v, i.zero = some v ∧ cvOf v = some z
  plain : ti.plainEq = true → P.stoodInHeld t = false ∧ P.eqGuardType P.depth t = false

theorem TyOk.get {P : Program} {ty : Ty} (h : TyOk P ty) {t : TypeId} {ti : TI} (ht : ty t = some ti) : ∃ i d, TIs P t ti i d := by
  have := h t ti ht
  unfold tiOf at this
  cases h1 : P.info? t with
  | none => rw [h1] at this; cases this
  | some i =>
    rw [h1] at this; simp only [] at this
    cases h2 : P.underlying t with
    | none => rw [h2] at this; cases this
    | some d =>
      rw [h2] at this
      simp only [Option.some.injEq] at this
      subst this
      refine ⟨i, d, h1, h2, rfl, rfl, rfl, fun z hz => ?_, fun hp => ?_⟩
      · simp only [] at hz
        cases h3 : i.zero with
        | none => rw [h3] at hz; cases hz
        | some v => rw [h3] at hz; exact ⟨v, rfl, hz⟩
      · simp only [Bool.and_eq_true, Bool.not_eq_true'] at hp
        exact hp

section
variable {P : Program} {ty : Ty} {t : TypeId} {ti : TI} {i : TypeInfo} {d : TypeDesc} (s : TIs P t ti i d) (w : World)
include s
theorem TIs.r_und : (underlying t).run P w = .ok d w := by simp [underlying, s.und]
theorem TIs.r_info : (typeInfo t).run P w = .ok i w := by simp [typeInfo, s.info]
theorem TIs.r_size : (sizeOf t).run P w = .ok ti.size w := by simp [sizeOf, s.r_info, s.size]
theorem TIs.r_agg : (isAgg t).run P w = .ok (aggOf ti.k) w := by
  rw [s.k]
  unfold isAgg
  rw [Sem.run_bind, s.r_und]
  cases d <;> first | rfl | (rename_i k; cases k <;> rfl)
theorem TIs.r_zero {z : CV} (hz : ti.zero = some z) : ∃ v, (zeroValue t).run P w = .ok v w ∧ cvOf v = some z := by
  obtain ⟨v, h1, h2⟩ := s.zero z hz
  exact ⟨v, by simp [zeroValue, s.r_info, h1], h2⟩
end

theorem tk_bool {d : TypeDesc} (h : tkOf d = .bool) : d = .bool := by cases d <;> first | rfl | (simp [tkOf] at h; done) | (rename_i k; cases k <;> simp [tkOf] at h)
theorem tk_int {d : TypeDesc} {k : IntKind} (h : tkOf d = .int k) : d = .int k := by
  cases d <;> first | (simp [tkOf] at h; done) | (rename_i j; cases j <;> simp [tkOf] at h; done) | (simp [tkOf] at h; rw [h])
theorem tk_f64 {d : TypeDesc} (h : tkOf d = .f64) : d = .float .f64 := by
  cases d <;> first | (simp [tkOf] at h; done) | (rename_i j; cases j <;> first | rfl | (simp [tkOf] at h; done))
theorem tk_c128 {d : TypeDesc} (h : tkOf d = .c128) : d = .complex .f64 := by
  cases d <;> first | (simp [tkOf] at h; done) | (rename_i j; cases j <;> first | rfl | (simp [tkOf] at h; done))
theorem tk_str {d : TypeDesc} (h : tkOf d = .str) : d = .string := by
  cases d <;> first | rfl | (simp [tkOf] at h; done) | (rename_i j; cases j <;> simp [tkOf] at h; done)
theorem tk_ptr {d : TypeDesc} {e : TypeId} (h : tkOf d = .ptr e) : d = .pointer e := by
  cases d <;> first | (simp [tkOf] at h; done) | (rename_i j; cases j <;> simp [tkOf] at h; done) | (simp [tkOf] at h; rw [h])
theorem tk_sl {d : TypeDesc} {e : TypeId} (h : tkOf d = .sl e) : d = .slice e := by
  cases d <;> first | (simp [tkOf] at h; done) | (rename_i j; cases j <;> simp [tkOf] at h; done) | (simp [tkOf] at h; rw [h])
theorem tk_arr {d : TypeDesc} {n : Nat} {e : TypeId} (h : tkOf d = .arr n e) : d = .array n e := by
  cases d <;> first | (simp [tkOf] at h; done) | (rename_i j; cases j <;> simp [tkOf] at h; done) | (simp [tkOf] at h; rw [h.1, h.2])
theorem tk_map {d : TypeDesc} {n e : TypeId} (h : tkOf d = .map n e) : d = .map n e := by
  cases d <;> first | (simp [tkOf] at h; done) | (rename_i j; cases j <;> simp [tkOf] at h; done) | (simp [tkOf] at h; rw [h.1, h.2])
theorem tk_st {d : TypeDesc} {fs : List (Nat × TypeId × Bool)} (h : tkOf d = .st fs) : ∃ a : Array Field, d = .struct a ∧ fs = a.toList.map fun f => (f.offset, f.type, f.name != "_") := by
  cases d <;> first | (simp [tkOf] at h; done) | (rename_i j; cases j <;> simp [tkOf] at h; done) | (simp only [tkOf, TK.st.injEq] at h; exact ⟨_, rfl, h.symm⟩)
theorem tk_fn {d : TypeDesc} (h : tkOf d = .fn) : ∃ a b c, d = .func a b c := by
  cases d <;> first | (simp [tkOf] at h; done) | (rename_i j; cases j <;> simp [tkOf] at h; done) | exact ⟨_, _, _, rfl⟩

/-! ### scalars -/

theorem intBin_sound {op : BinOp} {k : IntKind} {x y : Int} {r : SV} (P : Program) (t : TypeId) (w : World) (ι : Io) (h : intBin op k x y = some r) : ∃ V, (Go.binOp op t (.int k x) (.int k y)).run P w = .ok V w ∧ VR ι r V := by
  cases op <;> simp only [intBin, Option.some.injEq, reduceCtorEq] at h
  case quo =>
    cases hz : ieq y 0 with
    | true => rw [hz] at h; cases h
    | false =>
      rw [hz] at h; simp only [cnd_false, Option.some.injEq] at h; subst h
      have : y ≠ 0 := by rw [ieq_eq] at hz; simpa using hz
      exact ⟨_, by simp [Go.binOp, Op.intDiv, this] <;> rfl, by rw [wr_eq]; rfl⟩
  case rem =>
    cases hz : ieq y 0 with
    | true => rw [hz] at h; cases h
    | false =>
      rw [hz] at h; simp only [cnd_false, Option.some.injEq] at h; subst h
      have : y ≠ 0 := by rw [ieq_eq] at hz; simpa using hz
      exact ⟨_, by simp [Go.binOp, Op.intDiv, this] <;> rfl, rfl⟩
  all_goals subst h
  case add => exact ⟨_, by simp [Go.binOp, Op.intArith] <;> rfl, by rw [wr_eq]; rfl⟩
  case sub => exact ⟨_, by simp [Go.binOp, Op.intArith] <;> rfl, by rw [wr_eq]; rfl⟩
  case mul => exact ⟨_, by simp [Go.binOp, Op.intArith] <;> rfl, by rw [wr_eq]; rfl⟩
  case eql => exact ⟨.bool (x == y), by simp [Go.binOp, Op.intCmp], by simp [VR, ieq_eq]⟩
  case neq => exact ⟨.bool (x != y), by simp [Go.binOp, Op.intCmp], by simp [VR, ieq_eq, bne]⟩
  case lss => exact ⟨.bool (decide (x < y)), by simp [Go.binOp, Op.intCmp], by simp [VR, ilt_eq]⟩
  case leq => exact ⟨.bool (decide (x ≤ y)), by simp [Go.binOp, Op.intCmp], by simp only [VR, ilt_eq, Value.bool.injEq, ← decide_not]; congr 1; simp⟩
  case gtr => exact ⟨.bool (decide (x > y)), by simp [Go.binOp, Op.intCmp], by simp [VR, ilt_eq]⟩
  case geq => exact ⟨.bool (decide (x ≥ y)), by simp [Go.binOp, Op.intCmp], by simp only [VR, ilt_eq, Value.bool.injEq, ← decide_not]; congr 1; simp⟩
  all_goals exact ⟨_, by simp [Go.binOp, Op.intBits] <;> rfl, rfl⟩

theorem shBin_sound {op : BinOp} {k j : IntKind} {x y : Int} {r : SV} (P : Program) (t : TypeId) (w : World) (ι : Io) (ho : op = .shl ∨ op = .shr)
    (h : shBin op k x y = some r) : ∃ V, (Go.binOp op t (.int k x) (.int j y)).run P w = .ok V w ∧ VR ι r V := by
  unfold shBin at h
  cases hz : ilt y 0 with
  | true => rw [hz] at h; cases h
  | false =>
    rw [hz] at h
    have hy : ¬ y < 0 := by rw [ilt_eq] at hz; simpa using hz
    have e : (Int.ofNat (2 ^ min y.toNat k.bits)) = (2 : Int) ^ min y.toNat k.bits := by simp
    rcases ho with rfl | rfl
    · simp only [cnd_false, Option.some.injEq] at h; subst h
      exact ⟨_, by simp only [Go.binOp, Op.shift, hy, if_false, Sem.run_pure] <;> rfl, by rw [wr_eq, e]; rfl⟩
    · simp only [cnd_false, Option.some.injEq] at h; subst h
      exact ⟨_, by simp only [Go.binOp, Op.shift, hy, if_false, Sem.run_pure] <;> rfl, by rw [e]; rfl⟩

theorem flBin_sound {op : BinOp} {x y : Nat} {r : SV} (P : Program) (t : TypeId) (w : World) (ι : Io) (h : flBin op x y = some r) :
    ∃ V, (Go.binOp op t (.float .f64 x) (.float .f64 y)).run P w = .ok V w ∧ VR ι r V := by
  cases op <;> simp only [flBin, Option.map_eq_some_iff, Option.some.injEq, reduceCtorEq] at h
  case add => obtain ⟨a, h1, rfl⟩ := h; exact ⟨_, by simp [Go.binOp, Op.floatArith, h1] <;> rfl, rfl⟩
  case sub => obtain ⟨a, h1, rfl⟩ := h; exact ⟨_, by simp [Go.binOp, Op.floatArith, h1] <;> rfl, rfl⟩
  case mul => obtain ⟨a, h1, rfl⟩ := h; exact ⟨_, by simp [Go.binOp, Op.floatArith, h1] <;> rfl, rfl⟩
  case quo => obtain ⟨a, h1, rfl⟩ := h; exact ⟨_, by simp [Go.binOp, Op.floatArith, h1] <;> rfl, rfl⟩
  all_goals (subst h; exact ⟨_, by simp only [Go.binOp, Op.floatCmp, ne_eq, not_true_eq_false, if_false, Sem.run_pure] <;> rfl, rfl⟩)

theorem arith_run {op : BinOp} {x y r : Nat} (P : Program) (w : World) (h : fpart op x y = some r) : (Op.Complex.arith op .f64 x y).run P w = .ok r w := by
  cases op <;> simp only [fpart, reduceCtorEq] at h <;> simp [Op.Complex.arith, Op.floatArith, h]

theorem cmp_eql_run (x y : Nat) (P : Program) (w : World) : (Op.Complex.cmp .eql .f64 x y).run P w = .ok (FloatKind.f64.format.order x y == some .eq) w := by
  simp [Op.Complex.cmp, Op.floatCmp, asBool]

theorem conv_run (x : Nat) (P : Program) (w : World) : (Op.Complex.conv .f64 x .f64).run P w = .ok x w := by simp [Op.Complex.conv]

theorem cxBin_sound {op : BinOp} {a b c d : Nat} {r : SV} (P : Program) (t : TypeId) (w : World) (ι : Io) (h : cxBin op a b c d = some r) :
    ∃ V, (Go.binOp op t (.complex .f64 a b) (.complex .f64 c d)).run P w = .ok V w ∧ VR ι r V := by
  cases op <;> simp only [cxBin, Option.some.injEq, reduceCtorEq] at h
  case add =>
    split at h
    · split at h
      · rename_i h1 _ _ h2; simp only [Option.some.injEq] at h; subst h
        exact ⟨_, by simp [Go.binOp, Op.complexOp, arith_run P w h1, arith_run P w h2] <;> rfl, rfl⟩
      · cases h
    · cases h
  case sub =>
    split at h
    · split at h
      · rename_i h1 _ _ h2; simp only [Option.some.injEq] at h; subst h
        exact ⟨_, by simp [Go.binOp, Op.complexOp, arith_run P w h1, arith_run P w h2] <;> rfl, rfl⟩
      · cases h
    · cases h
  case mul =>
    split at h
    · rename_i ac bd ad bc h1 h2 h3 h4
      split at h
      · rename_i r' i' h5 h6
        simp only [Option.some.injEq] at h; subst h
        have e1 := arith_run P w h1; have e2 := arith_run P w h2; have e3 := arith_run P w h3; have e4 := arith_run P w h4
        have e5 := arith_run P w h5; have e6 := arith_run P w h6
        exact ⟨_, by simp [Go.binOp, Op.complexOp, conv_run, Op.Complex.product, Op.Complex.mul, Op.Complex.sub, Op.Complex.add, e1, e2, e3, e4, e5, e6] <;> rfl, rfl⟩
      · cases h
    · cases h
  case eql => subst h; exact ⟨_, by simp [Go.binOp, Op.complexOp, cmp_eql_run] <;> rfl, rfl⟩
  case neq => subst h; exact ⟨_, by simp [Go.binOp, Op.complexOp, cmp_eql_run] <;> rfl, by simp [VR]⟩

theorem bytes_eq_iff {a b : ByteArray} : a.toList == b.toList ↔ a.data.toList.map (·.toNat) = b.data.toList.map (·.toNat) := by
  rw [ByteArray.toList_eq, ByteArray.toList_eq]
  constructor
  · intro h; rw [eq_of_beq h]
  · intro h
    have : a.data.toList = b.data.toList := (List.map_inj_right (fun x y h => UInt8.toNat_inj.1 h)).1 h
    rw [this]; simp

end Go.Proofs.YtcdjgnpjapgoaaaGreat.Dm
