/- The operations that make no memory and change none: what they yield of abstract values. -/
import Derived.Test.YtndbccpaccflcaaGreatDmVal
set_option linter.unusedVariables false
set_option linter.unusedSimpArgs false
set_option linter.unusedSectionVars false
namespace Go.Proofs.YtndbccpaccflcaaGreat.Dm
open Go

noncomputable def leq : List Nat → List Nat → Bool
  | [], [] => true
  | a :: l, b :: r => cnd (Nat.beq a b) (leq l r) false
  | _, _ => false

theorem leq_iff : ∀ {a b : List Nat}, leq a b = true ↔ a = b
  | [], [] => by simp [leq]
  | [], _ :: _ => by simp [leq]
  | _ :: _, [] => by simp [leq]
  | a :: l, b :: r => by
    simp only [leq]
    cases h : Nat.beq a b with
    | false =>
      have : a ≠ b := Nat.ne_of_beq_eq_false h
      simp [this]
    | true =>
      have : a = b := Nat.eq_of_beq_eq_true h
      simp only [cnd_true, leq_iff (a := l) (b := r), this, List.cons.injEq, true_and]

noncomputable def beqB : Bool → Bool → Bool
  | true, x => x
  | false, x => !x

/-! ### scalars -/

noncomputable def intBin (op : BinOp) (k : IntKind) (x y : Int) : Option SV :=
  match op with
  | .add => some (.i k (wr k (Int.add x y)))
  | .sub => some (.i k (wr k (Int.sub x y)))
  | .mul => some (.i k (wr k (Int.mul x y)))
  | .quo => cnd (ieq y 0) none (some (.i k (wr k (Int.tdiv x y))))
  | .rem => cnd (ieq y 0) none (some (.i k (Int.tmod x y)))
  | .and => some (.i k (k.wrap (BitVec.ofInt k.bits x &&& BitVec.ofInt k.bits y).toNat))
  | .or => some (.i k (k.wrap (BitVec.ofInt k.bits x ||| BitVec.ofInt k.bits y).toNat))
  | .xor => some (.i k (k.wrap (BitVec.ofInt k.bits x ^^^ BitVec.ofInt k.bits y).toNat))
  | .andNot => some (.i k (k.wrap (BitVec.ofInt k.bits x &&& ~~~(BitVec.ofInt k.bits y)).toNat))
  | .eql => some (.b (ieq x y))
  | .neq => some (.b (!(ieq x y)))
  | .lss => some (.b (ilt x y))
  | .leq => some (.b (!(ilt y x)))
  | .gtr => some (.b (ilt y x))
  | .geq => some (.b (!(ilt x y)))
  | _ => none

noncomputable def shBin (op : BinOp) (k : IntKind) (x y : Int) : Option SV :=
  cnd (ilt y 0) none <|
  match op with
  | .shl => some (.i k (wr k (Int.mul x (.ofNat (2 ^ min y.toNat k.bits)))))
  | .shr => some (.i k (Int.fdiv x (.ofNat (2 ^ min y.toNat k.bits))))
  | _ => none

noncomputable def flBin (op : BinOp) (x y : Nat) : Option SV :=
  match op with
  | .add => (FloatKind.f64.format.add x y).map .f
  | .sub => (FloatKind.f64.format.sub x y).map .f
  | .mul => (FloatKind.f64.format.mul x y).map .f
  | .quo => (FloatKind.f64.format.div x y).map .f
  | .eql => some (.b (FloatKind.f64.format.order x y == some .eq))
  | .neq => some (.b (FloatKind.f64.format.order x y != some .eq))
  | .lss => some (.b (FloatKind.f64.format.order x y == some .lt))
  | .leq => some (.b (FloatKind.f64.format.order x y == some .lt || FloatKind.f64.format.order x y == some .eq))
  | .gtr => some (.b (FloatKind.f64.format.order x y == some .gt))
  | .geq => some (.b (FloatKind.f64.format.order x y == some .gt || FloatKind.f64.format.order x y == some .eq))
  | _ => none

noncomputable def fpart (op : BinOp) (x y : Nat) : Option Nat :=
  match op with
  | .add => FloatKind.f64.format.add x y
  | .sub => FloatKind.f64.format.sub x y
  | .mul => FloatKind.f64.format.mul x y
  | _ => none

noncomputable def cxBin (op : BinOp) (a b c d : Nat) : Option SV :=
  match op with
  | .add => match fpart .add a c with
    | some r => match fpart .add b d with
      | some i => some (.c r i)
      | none => none
    | none => none
  | .sub => match fpart .sub a c with
    | some r => match fpart .sub b d with
      | some i => some (.c r i)
      | none => none
    | none => none
  | .mul =>
    match fpart .mul a c, fpart .mul b d, fpart .mul a d, fpart .mul b c with
    | some ac, some bd, some ad, some bc =>
      match fpart .sub ac bd, fpart .add ad bc with
      | some r, some i => some (.c r i)
      | _, _ => none
    | _, _, _, _ => none
  | .eql => some (.b (FloatKind.f64.format.order a c == some .eq && FloatKind.f64.format.order b d == some .eq))
  | .neq => some (.b (!(FloatKind.f64.format.order a c == some .eq && FloatKind.f64.format.order b d == some .eq)))
  | _ => none

noncomputable def stBin (op : BinOp) (x y : List Nat) : Option SV :=
  match op with
  | .add => cnd (Nat.ble (Nat.add x.length y.length) 9223372036854775807) (some (.s (x ++ y))) none
  | .eql => some (.b (leq x y))
  | .neq => some (.b (!(leq x y)))
  | _ => none

/-- '==' of two scalars of a type that are no numbers and no strings (or are). -/
noncomputable def eqS (k : TK) (x y : SV) : Option Bool :=
  match x, y with
  | .b a, .b c => match k with | .bool => some (beqB a c) | _ => none
  | .i j a, .i j' c => match k with | .int _ => cnd (keq j j') (some (ieq a c)) none | _ => none
  | .f a, .f c => match k with | .f64 => some (FloatKind.f64.format.order a c == some .eq) | _ => none
  | .c a a', .c c c' => match k with | .c128 => some (FloatKind.f64.format.order a c == some .eq && FloatKind.f64.format.order a' c' == some .eq) | _ => none
  | .s a, .s c => match k with | .str => some (leq a c) | _ => none
  | .np, .np => match k with | .ptr _ => some true | _ => none
  | .np, .p _ _ => match k with | .ptr _ => some false | _ => none
  | .p _ _, .np => match k with | .ptr _ => some false | _ => none
  | .nsl, .nsl => match k with | .sl _ => some true | _ => none
  | .nsl, .sl .. => match k with | .sl _ => some false | _ => none
  | .sl .., .nsl => match k with | .sl _ => some false | _ => none
  | .nm, .nm => match k with | .map _ _ => some true | _ => none
  | .nm, .m _ => match k with | .map _ _ => some false | _ => none
  | .m _, .nm => match k with | .map _ _ => some false | _ => none
  | .nfn, .nfn => match k with | .fn => some true | _ => none
  | .nfn, .fn .. => match k with | .fn => some false | _ => none
  | .fn .., .nfn => match k with | .fn => some false | _ => none
  | _, _ => none

/-- A part of an aggregate. -/
noncomputable def partC (ty : Ty) (t : TypeId) (l : List SV) (off : Nat) : Option CV :=
  match ty t with
  | some ti => match ti.k with
    | .st _ => some (.ag ((l.drop off).take ti.size))
    | .arr _ _ => some (.ag ((l.drop off).take ti.size))
    | _ => match l[off]? with
      | some v => some (.sc v)
      | none => none
  | none => none

noncomputable def eqFs (ty : Ty) (eq : TypeId → CV → CV → Option Bool) (xs ys : List SV) : List (Nat × TypeId × Bool) → Option Bool
  | [] => some true
  | (off, t, named) :: fs =>
    cnd named
      (match partC ty t xs off with
      | some a => match partC ty t ys off with
        | some c => match eq t a c with
          | some true => eqFs ty eq xs ys fs
          | some false => some false
          | none => none
        | none => none
      | none => none)
      (eqFs ty eq xs ys fs)

noncomputable def eqT (ty : Ty) : Nat → TypeId → CV → CV → Option Bool
  | 0, _, _, _ => none
  | n + 1, t, x, y => match ty t with
    | none => none
    | some ti => match x, y with
      | .sc a, .sc b => eqS ti.k a b
      | .ag xs, .ag ys => cnd ti.plainEq (match ti.k with
        | .st fs => eqFs ty (eqT ty n) xs ys fs
        | _ => none) none
      | _, _ => none

noncomputable def binA (ty : Ty) (op : BinOp) (t : TypeId) (x y : CV) : Option CV :=
  match x, y with
  | .sc (.i k a), .sc (.i k' b) =>
    match op with
    | .shl => (shBin .shl k a b).map .sc
    | .shr => (shBin .shr k a b).map .sc
    | op => cnd (keq k k') ((intBin op k a b).map .sc) none
  | .sc (.f a), .sc (.f b) => (flBin op a b).map .sc
  | .sc (.c a b), .sc (.c c d) => (cxBin op a b c d).map .sc
  | .sc (.s a), .sc (.s b) => (stBin op a b).map .sc
  | x, y =>
    match op with
    | .eql => match eqT ty 12 t x y with
      | some r => some (.sc (.b r))
      | none => none
    | .neq => match eqT ty 12 t x y with
      | some r => some (.sc (.b (!r)))
      | none => none
    | _ => none

noncomputable def unA (op : UnOp) (x : SV) : Option SV :=
  match op, x with
  | .neg, .i k n => some (.i k (wr k (Int.sub 0 n)))
  | .xor, .i k n => some (.i k (k.wrap (BitVec.ofInt k.bits (if k.signed then -1 else k.max) ^^^ BitVec.ofInt k.bits n).toNat))
  | .neg, .f b => some (.f (Op.negFloat .f64 b))
  | .neg, .c a b => some (.c (Op.negFloat .f64 a) (Op.negFloat .f64 b))
  | .not, .b x => some (.b (!x))
  | _, _ => none

end Go.Proofs.YtndbccpaccflcaaGreat.Dm
