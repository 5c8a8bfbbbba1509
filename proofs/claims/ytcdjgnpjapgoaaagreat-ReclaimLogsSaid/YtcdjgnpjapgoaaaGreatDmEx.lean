/- The big steps of a call on abstract values. -/
import Derived.Test.YtcdjgnpjapgoaaaGreatDmTree
set_option linter.unusedVariables false
set_option linter.unusedSimpArgs false
set_option linter.unusedSectionVars false
namespace Go.Proofs.YtcdjgnpjapgoaaaGreat.Dm
open Go

structure Fr where
  n : Nat
  t : Tr AV

noncomputable def avOf (v : Value) : Option AV :=
  match cvOf v with
  | some x => some (.cv x)
  | none => none

noncomputable def Fr.ev (fr : Fr) : Operand → Option AV
  | .tmp t => fr.t.get t
  | .const v => avOf v
  | .global _ => none
  | .func f => some (.cv (.sc (.fn f [] [])))

noncomputable def Fr.put (fr : Fr) (d : Nat) (v : AV) : Option Fr := Fr.rec (motive := fun _ => Option Fr) (fun n t => cnd (Nat.blt d n) (some ⟨n, t.put (some v) d⟩) none) fr
theorem Fr.put_eq (fr : Fr) (d : Nat) (v : AV) : fr.put d v = cnd (Nat.blt d fr.n) (some ⟨fr.n, fr.t.put (some v) d⟩) none := rfl

abbrev Env := Operand → Option AV

noncomputable def evC (ρ : Env) (x : Operand) : Option CV :=
  match ρ x with
  | some (.cv v) => some v
  | _ => none
noncomputable def evS (ρ : Env) (x : Operand) : Option SV :=
  match ρ x with
  | some (.cv (.sc v)) => some v
  | _ => none
noncomputable def evI (ρ : Env) (x : Operand) : Option Int :=
  match ρ x with
  | some (.cv (.sc (.i _ n))) => some n
  | _ => none

/-- A whole number that is no less than 0 and less than n. -/
noncomputable def below (i : Int) (n : Nat) : Option Nat :=
  match i with
  | .ofNat a => cnd (Nat.blt a n) (some a) none
  | .negSucc _ => none
noncomputable def upto (i : Int) (n : Nat) : Option Nat :=
  match i with
  | .ofNat a => cnd (Nat.ble a n) (some a) none
  | .negSucc _ => none

/-- Laying parts into a row of cells. -/
noncomputable def layAt (cells : List SV) (off : Nat) (l : List SV) : List SV := cells.take off ++ l ++ cells.drop (off + l.length)
noncomputable def fillA (cells : List SV) (place : Nat → Option (Nat × Nat)) : List (Nat × CV) → Option (List SV)
  | [] => some cells
  | (i, v) :: rest =>
    match place i with
    | none => none
    | some (off, size) => cnd (Nat.beq v.cells.length size && Nat.ble (Nat.add off size) cells.length) (fillA (layAt cells off v.cells) place rest) none

noncomputable def evParts (ρ : Env) : List (Nat × Operand) → Option (List (Nat × CV))
  | [] => some []
  | (i, x) :: l => match evC ρ x with
    | some v => match evParts ρ l with
      | some r => some ((i, v) :: r)
      | none => none
    | none => none

noncomputable def evList (ρ : Env) : List Operand → Option (List AV)
  | [] => some []
  | x :: l => match ρ x with
    | some v => match evList ρ l with
      | some r => some (v :: r)
      | none => none
    | none => none

noncomputable def evPtrs (ρ : Env) : List Operand → Option (List (Nat × Nat))
  | [] => some []
  | x :: l => match evS ρ x with
    | some (.p b o) => match evPtrs ρ l with
      | some r => some ((b, o) :: r)
      | none => none
    | _ => none

noncomputable def ptrs : List (Nat × Nat) → List AV
  | [] => []
  | (b, o) :: l => .cv (.sc (.p b o)) :: ptrs l

noncomputable def placesOf (ty : Ty) : List (Nat × TypeId × Bool) → Option (List (Nat × Nat))
  | [] => some []
  | (off, t, _) :: l => match ty t with
    | some ti => match placesOf ty l with
      | some r => some ((off, ti.size) :: r)
      | none => none
    | none => none

noncomputable def repList (l : List SV) : Nat → List SV
  | 0 => []
  | n + 1 => l ++ repList l n

noncomputable def aggOf (k : TK) : Bool :=
  match k with
  | .st _ => true
  | .arr _ _ => true
  | _ => false

noncomputable def loadA (ti : TI) (h : Heap) (b o : Nat) : Option CV :=
  match h.get b with
  | some (.cells r _) =>
    cnd (aggOf ti.k)
      (match r.read o ti.size with
      | some l => some (.ag l)
      | none => none)
      (match r.get o with
      | some v => some (.sc v)
      | none => none)
  | _ => none

/-- Keys that are found by being equal at once. -/
noncomputable def ceq (ty : Ty) (t : TypeId) (x y : CV) : Option Bool := eqT ty 12 t x y

/-- A key that can be hashed. -/
noncomputable def keyFs (ty : Ty) (ok : TypeId → CV → Bool) (l : List SV) : List (Nat × TypeId × Bool) → Bool
  | [] => true
  | (off, t, named) :: fs => cnd named
    (match partC ty t l off with
    | some x => ok t x && keyFs ty ok l fs
    | none => false) (keyFs ty ok l fs)

noncomputable def keyV (ty : Ty) : Nat → TypeId → CV → Bool
  | 0, _, _ => false
  | n + 1, t, x => match ty t with
    | some ti => match ti.k, x with
      | .bool, _ => true | .int _, _ => true | .f64, _ => true | .c128, _ => true | .str, _ => true
      | .st fs, .ag l => keyFs ty (keyV ty n) l fs
      | _, _ => false
    | none => false

/-- Where a key stands. -/
noncomputable def placeA (ty : Ty) (t : TypeId) (k : CV) : Nat → List ME → Option (Option Nat)
  | _, [] => some none
  | i, e :: es => match ceq ty t k e.key with
    | some true => some (some i)
    | some false => placeA ty t k (Nat.succ i) es
    | none => none

noncomputable def bytesOf (r : Row) (o : Nat) : Nat → Option (List Nat)
  | 0 => some []
  | k + 1 => match r.get o with
    | some (.i .u8 (.ofNat a)) => match bytesOf r (Nat.succ o) k with
      | some l => cnd (Nat.blt a 256) (some (a :: l)) none
      | none => none
    | _ => none

noncomputable def lenA (ty : Ty) (h : Heap) (k : TK) (x : AV) : Option Nat :=
  match k with
  | .str => match x with
    | .cv (.sc (.s l)) => some l.length
    | _ => none
  | .sl _ => match x with
    | .cv (.sc .nsl) => some 0
    | .cv (.sc (.sl _ _ len _ _ _)) => some len
    | _ => none
  | .map _ _ => match x with
    | .cv (.sc .nm) => some 0
    | .cv (.sc (.m r)) => match h.get r with
      | some (.map es _) => some es.length
      | _ => none
    | _ => none
  | .arr n _ => some n
  | .ptr a => match ty a with
    | some ti => match ti.k with
      | .arr n _ => some n
      | _ => none
    | none => none
  | _ => none

/-- Operations that change nothing in memory and make none. -/
noncomputable def qop (ty : Ty) (ρ : Env) (h : Heap) (op : Op) : Option AV :=
  match op with
  | .move x => ρ x
  | .assign x => ρ x
  | .pick c a b => match evS ρ c with
    | some (.b x) => cnd x (ρ a) (ρ b)
    | _ => none
  | .nilCheck x => match evS ρ x with
    | some (.p b o) => some (.cv (.sc (.p b o)))
    | some (.fn f l c) => some (.cv (.sc (.fn f l c)))
    | _ => none
  | .binOp op t x y _ => match evC ρ x with
    | some a => match evC ρ y with
      | some b => match binA ty op t a b with
        | some r => some (.cv r)
        | none => none
      | none => none
    | none => none
  | .unOp op _ x => match evS ρ x with
    | some a => match unA op a with
      | some r => some (.cv (.sc r))
      | none => none
    | none => none
  | .convert src dst x => match ty src with
    | some ts => match ty dst with
      | some td => match td.k, evS ρ x with
        | .int k, some (.i _ n) => some (.cv (.sc (.i k (wr k n))))
        | .int k, some (.un _) => some (.cv (.sc (.un k)))
        | .int .i64, some (.rg _ id ops lo hi m r) => cnd (Nat.blt hi big) (some (.cv (.sc (.rg .i64 id ops lo hi m r)))) none
        | .int .u64, some (.rg _ id ops lo hi m r) => cnd (Nat.blt hi big) (some (.cv (.sc (.rg .u64 id ops lo hi m r)))) none
        | .f64, some (.i _ n) => some (.cv (.sc (.f (FloatKind.f64.nearest n))))
        | .int k, some (.f b) => match (FloatKind.f64.decode b).toInt .zero with
          | some n => cnd (ile k.min n && ile n k.max) (some (.cv (.sc (.i k n)))) none
          | none => none
        | .str, some (.s l) => some (.cv (.sc (.s l)))
        | .str, some .nsl => match ts.k with
          | .sl e => match ty e with
            | some te => match te.k with
              | .int .u8 => some (.cv (.sc (.s [])))
              | _ => none
            | none => none
          | _ => none
        | .str, some (.sl b o len _ _ _) => match ts.k with
          | .sl e => match ty e with
            | some te => match te.k with
              | .int .u8 => match h.get b with
                | some (.cells r _) => match bytesOf r o len with
                  | some l => some (.cv (.sc (.s l)))
                  | none => none
                | _ => none
              | _ => none
            | none => none
          | _ => none
        | _, _ => none
      | none => none
    | none => none
  | .fieldAddr s x f => match ty s with
    | some ti => match ti.k with
      | .st fs => match fs[f]? with
        | some (off, ft, _) => match ty ft with
          | some tf => cnd (Nat.beq tf.size 0) none
            (match evS ρ x with
            | some (.p b o) => some (.cv (.sc (.p b (Nat.add o off))))
            | _ => none)
          | none => none
        | none => none
      | _ => none
    | none => none
  | .field t x f => match ty t with
    | some ti => match ti.k with
      | .st fs => match fs[f]? with
        | some (off, ft, _) => match evC ρ x with
          | some (.ag l) => match partC ty ft l off with
            | some v => some (.cv v)
            | none => none
          | _ => none
        | none => none
      | _ => none
    | none => none
  | .indexAddr t x ix => match ty t with
    | some ti => match evI ρ ix with
      | some i => match ti.k, evS ρ x with
        | .sl e, some (.sl b o len _ z _) => match ty e with
          | some te => match below i len with
            | some j => cnd (Nat.beq z te.size) (some (.cv (.sc (.p b (Nat.add o (Nat.mul j z)))))) none
            | none => none
          | none => none
        | .arr n e, some (.p b o) => match ty e with
          | some te => match below i n with
            | some j => some (.cv (.sc (.p b (Nat.add o (Nat.mul j te.size)))))
            | none => none
          | none => none
        | _, _ => none
      | none => none
    | none => none
  | .index t x ix => match ty t with
    | some ti => match evI ρ ix with
      | some i => match ti.k, evC ρ x with
        | .arr n e, some (.ag l) => match ty e with
          | some te => match below i n with
            | some j => match partC ty e l (Nat.mul j te.size) with
              | some v => some (.cv v)
              | none => none
            | none => none
          | none => none
        | .str, some (.sc (.s l)) => match below i l.length with
          | some j => match l[j]? with
            | some v => some (.cv (.sc (.i .u8 (.ofNat v))))
            | none => none
          | none => none
        | _, _ => none
      | none => none
    | none => none
  | .extract x i => match ρ x with
    | some (.tu l) => match l[i]? with
      | some v => some (.cv v)
      | none => none
    | _ => none
  | .build t parts => match ty t with
    | some ti => match ti.zero, evParts ρ parts.toList with
      | some z, some ps => match ti.k with
        | .st fs => match placesOf ty fs with
          | some pl => match fillA z.cells (fun i => pl[i]?) ps with
            | some l => some (.cv (.ag l))
            | none => none
          | none => none
        | .arr _ e => match ty e with
          | some te => match fillA z.cells (fun i => some (Nat.mul i te.size, te.size)) ps with
            | some l => some (.cv (.ag l))
            | none => none
          | none => none
        | _ => none
      | _, _ => none
    | none => none
  | .load t a => match ty t with
    | some ti => match evS ρ a with
      | some (.p b o) => match loadA ti h b o with
        | some v => some (.cv v)
        | none => none
      | _ => none
    | none => none
  | .makeFunc fn first captured => match fn with
    | .func f => match evPtrs ρ first.toList with
      | some l => match evPtrs ρ captured.toList with
        | some c => some (.cv (.sc (.fn f l c)))
        | none => none
      | none => none
    | _ => none
  | .slice t x lo hi mx => match ty t with
    | some ti => match ti.k, evS ρ x with
      | .str, some (.s l) => match mx with
        | none =>
          match (match hi with | none => some l.length | some y => (evI ρ y).bind fun i => upto i l.length) with
          | some hh => match (match lo with | none => some 0 | some y => (evI ρ y).bind fun i => upto i hh) with
            | some ll => some (.cv (.sc (.s ((l.take hh).drop ll))))
            | none => none
          | none => none
        | some _ => none
      | .sl e, some (.sl b o len cap z ex) =>
        match ty e with
        | some te => cnd (Nat.beq z te.size)
          (match (match mx with | none => some cap | some y => (evI ρ y).bind fun i => upto i cap) with
          | some mm => match (match hi with | none => (match mx with | none => some len | some _ => none) | some y => (evI ρ y).bind fun i => upto i mm) with
            | some hh => match (match lo with | none => some 0 | some y => (evI ρ y).bind fun i => upto i hh) with
              | some ll => some (.cv (.sc (.sl b (cnd (Nat.beq mm ll) o (Nat.add o (Nat.mul ll z))) (Nat.sub hh ll) (Nat.sub mm ll) z ex)))
              | none => none
            | none => none
          | none => none) none
        | none => none
      | .sl e, some .nsl => match ty e, mx with
        | some _, none =>
          match (match hi with | none => some 0 | some y => (evI ρ y).bind fun i => upto i 0) with
          | some hh => match (match lo with | none => some 0 | some y => (evI ρ y).bind fun i => upto i hh) with
            | some _ => some (.cv (.sc .nsl))
            | none => none
          | none => none
        | _, _ => none
      | .arr n e, some (.p b o) => match ty e, mx with
        | some te, none =>
          match (match hi with | none => some n | some y => (evI ρ y).bind fun i => upto i n) with
          | some hh => match (match lo with | none => some 0 | some y => (evI ρ y).bind fun i => upto i hh) with
            | some ll => some (.cv (.sc (.sl b (cnd (Nat.beq n ll) o (Nat.add o (Nat.mul ll te.size))) (Nat.sub hh ll) (Nat.sub n ll) te.size true)))
            | none => none
          | none => none
        | _, _ => none
      | _, _ => none
    | none => none
  | .lookup t x k ok => match ty t with
    | some ti => match ti.k with
      | .map kt et => match evC ρ k, ty et with
        | some kv, some te => cnd (keyV ty 12 kt kv)
          (match (match evS ρ x with
            | some .nm => some []
            | some (.m r) => match h.get r with
              | some (.map es _) => some es
              | _ => none
            | _ => none) with
          | some es => match placeA ty kt kv 0 es with
            | some (some i) => match es[i]? with
              | some e => cnd ok (some (.tu [e.val, .sc (.b true)])) (some (.cv e.val))
              | none => none
            | some none => match te.zero with
              | some z => cnd ok (some (.tu [z, .sc (.b false)])) (some (.cv z))
              | none => none
            | none => none
          | none => none) none
        | _, _ => none
      | _ => none
    | none => none
  | .entry it => match evS ρ it with
    | some (.p b 0) => match h.get b with
      | some (.it (some m) _ seen st) => match seen.getLast? with
        | some stamp => match h.get m with
          | some (.map es ck) => cnd (Nat.beq ck st) (match es.find? fun e => Nat.beq e.born stamp with
            | some e => some (.tu [e.key, e.val])
            | none => none) none
          | _ => none
        | none => none
      | _ => none
    | _ => none
  | .call c => match c.callee with
    | .builtin b => match evList ρ c.args.toList with
      | some [x] => match b with
        | .len => match c.argTypes[0]? with
          | some t => match ty t with
            | some ti => match lenA ty h ti.k x with
              | some n => some (.cv (.sc (.i .i64 (.ofNat n))))
              | none => none
            | none => none
          | none => none
        | .cap => match c.argTypes[0]? with
          | some t => match ty t with
            | some ti => match ti.k, x with
              | .sl _, .cv (.sc .nsl) => some (.cv (.sc (.i .i64 (.ofNat 0))))
              | .sl _, .cv (.sc (.sl _ _ _ cap _ true)) => some (.cv (.sc (.i .i64 (.ofNat cap))))
              | _, _ => none
            | none => none
          | none => none
        | .real => match x with
          | .cv (.sc (.c a _)) => some (.cv (.sc (.f a)))
          | _ => none
        | .imag => match x with
          | .cv (.sc (.c _ b)) => some (.cv (.sc (.f b)))
          | _ => none
        | _ => none
      | some [x, y] => match b with
        | .complex => match x, y with
          | .cv (.sc (.f a)), .cv (.sc (.f b)) => some (.cv (.sc (.c a b)))
          | _, _ => none
        | .min => match x, y with
          | .cv (.sc (.i k a)), .cv (.sc (.i _ b)) => some (.cv (.sc (.i k (cnd (ilt b a) b a))))
          | _, _ => none
        | .max => match x, y with
          | .cv (.sc (.i k a)), .cv (.sc (.i _ b)) => some (.cv (.sc (.i k (cnd (ilt a b) b a))))
          | _, _ => none
        | _ => none
      | _ => none
    | _ => none
  | _ => none

/-- Operations that make a block, and tell of where it is. -/
noncomputable def alop (ty : Ty) (ρ : Env) (op : Op) : Option (AO × (Nat → AV)) :=
  match op with
  | .alloc e => match ty e with
    | some ti => match ti.zero with
      | some z => some (.cells (Row.ofList z.cells) false, fun id => .cv (.sc (.p id 0)))
      | none => none
    | none => none
  | .box _ x => match evC ρ x with
    | some v => some (.cells (Row.ofList v.cells) false, fun id => .cv (.sc (.p id 0)))
    | none => none
  | .buildSlice t len parts => match ty t with
    | some ti => match ti.k with
      | .sl e => match ty e with
        | some te => match te.zero, evParts ρ parts.toList with
          | some z, some ps => cnd (Nat.beq z.cells.length te.size && Nat.ble (Nat.mul len te.size) 16777216)
            (match fillA (repList z.cells len) (fun i => some (Nat.mul i te.size, te.size)) ps with
            | some l => some (.cells (Row.ofList l) false, fun id => .cv (.sc (.sl id 0 len len te.size true)))
            | none => none) none
          | _, _ => none
        | none => none
      | _ => none
    | none => none
  | .makeSlice t l c => match ty t with
    | some ti => match ti.k with
      | .sl e => match ty e with
        | some te => match te.zero, evI ρ l, evI ρ c with
          | some z, some (.ofNat n), some (.ofNat m) => cnd (Nat.ble n m && Nat.ble (Nat.mul te.bytes m) 281474976710656 && Nat.blt m 9223372036854775808)
            (match z with
            | .sc v => cnd (Nat.beq te.size 1) (some (.cells (Row.rep m v) false, fun id => .cv (.sc (.sl id 0 n m 1 true)))) none
            | .ag l => cnd (Nat.beq te.size l.length) (some (.cells (Row.ofList (repList l m)) false, fun id => .cv (.sc (.sl id 0 n m te.size true)))) none) none
          | _, _, _ => none
        | none => none
      | _ => none
    | none => none
  | .makeMap _ r => match r with
    | none => some (.map [] 0, fun id => .cv (.sc (.m id)))
    | some _ => none
  | _ => none

noncomputable def sbits : SV → SV → Bool
  | .b a, .b c => beqB a c
  | .i j a, .i k c => keq j k && ieq a c
  | .c a b, .c c d => Nat.beq a c && Nat.beq b d
  | .s a, .s c => leq a c
  | _, _ => false
noncomputable def cbits : CV → CV → Bool
  | .sc a, .sc b => sbits a b
  | .ag l, .ag r => bitsAll l r
  | _, _ => false
where bitsAll : List SV → List SV → Bool
  | [], [] => true
  | a :: l, b :: r => sbits a b && bitsAll l r
  | _, _ => false

noncomputable def setAt (es : List ME) (i : Nat) (f : ME → ME) : List ME :=
  match es, i with
  | [], _ => []
  | e :: l, 0 => f e :: l
  | e :: l, i + 1 => e :: setAt l i f

noncomputable def subRow (r : Row) (o k : Nat) : Option Row :=
  cnd (Nat.beq o 0 && Nat.beq k r.n) (some r)
    (match r.read o k with
    | some l => some (Row.ofList l)
    | none => none)
noncomputable def appRow (a b : Row) : Option Row :=
  cnd (Nat.beq a.n 0) (some b)
    (match b.read 0 b.n with
    | some l => some (a.app l)
    | none => none)

/-- What is appended, as a row. -/
noncomputable def srcRow (h : Heap) (z : Nat) : SV → Option (Nat × Row)
  | .nsl => some (0, Row.ofList [])
  | .s l => cnd (Nat.beq z 1) (some (l.length, Row.ofList (l.map fun a => .i .u8 (.ofNat a)))) none
  | .sl b o len _ z' _ => cnd (Nat.beq z z')
    (match h.get b with
    | some (.cells r _) => match subRow r o (Nat.mul len z) with
      | some x => some (len, x)
      | none => none
    | _ => none) none
  | _ => none

noncomputable def zeroFits (t : TI) : Bool :=
  match t.zero with
  | some z => Nat.beq z.cells.length t.size
  | none => false

/-- How much room an append may ask for. -/
noncomputable def roomy (need cap bytes : Nat) : Bool := Nat.ble (Nat.mul (Builtin.nextslicecap need cap) bytes) 281474976710656 && Nat.blt need 4611686018427387904

noncomputable def roomyAny (need bytes : Nat) : Bool := Nat.ble (Nat.mul (Nat.add (Nat.mul 2 need) 1000) bytes) 281474976710656 && Nat.blt need 4611686018427387904

noncomputable def nextA (es : List ME) (ck since : Nat) (seen : List Nat) (last : Nat) : Option (Option ME) :=
  cnd (!seen.isEmpty && !es.isEmpty && es.all (fun e => Nat.ble last e.born)) none <|
  match es.filter fun e => !(seen.any fun b => Nat.beq b e.born) with
  | [] => some none
  | [e] => cnd (Nat.blt e.born since) (some (some e)) none
  | _ => none

/-- Operations that change memory. none for the value: the operation yields nothing. -/
noncomputable def eop (ty : Ty) (ρ : Env) (h : Heap) (op : Op) : Option (AV × Heap) :=
  match op with
  | .store t a x => match ty t with
    | some ti => match evS ρ a, evC ρ x with
      | some (.p b o), some v => cnd (Nat.beq v.cells.length ti.size)
        (match h.get b with
        | some (.cells r false) => match r.write o v.cells with
          | some r' => some (.tu [], h.put b (.cells r' false))
          | none => none
        | _ => none) none
      | _, _ => none
    | none => none
  | .mapUpdate t x k v => match ty t with
    | some ti => match ti.k with
      | .map kt _ => match evS ρ x, evC ρ k, evC ρ v with
        | some (.m r), some kv, some vv => cnd (keyV ty 12 kt kv)
          (match h.get r with
          | some (.map es ck) => match placeA ty kt kv 0 es with
            | some (some i) => match es[i]? with
              | some e => cnd (cbits e.key kv) (some (.tu [], h.put r (.map (setAt es i fun e => ⟨kv, vv, e.born⟩) ck))) none
              | none => none
            | some none => some (.tu [], h.put r (.map (es ++ [⟨kv, vv, ck⟩]) (Nat.succ ck)))
            | none => none
          | _ => none) none
        | _, _, _ => none
      | _ => none
    | none => none
  | .mapEntry t x k => match ty t with
    | some ti => match ti.k with
      | .map kt et => match evS ρ x, evC ρ k, ty et with
        | some (.m r), some kv, some te => cnd (keyV ty 12 kt kv)
          (match h.get r with
          | some (.map es ck) => match placeA ty kt kv 0 es with
            | some (some i) => match es[i]? with
              | some e => cnd (cbits e.key kv) (some (.tu [e.val, .sc (.i .i64 (.ofNat e.born))], h.put r (.map (setAt es i fun e => ⟨kv, e.val, e.born⟩) ck))) none
              | none => none
            | some none => match te.zero with
              | some z => some (.tu [z, .sc (.i .i64 (.ofNat ck))], h.put r (.map (es ++ [⟨kv, z, ck⟩]) (Nat.succ ck)))
              | none => none
            | none => none
          | _ => none) none
        | _, _, _ => none
      | _ => none
    | none => none
  | .entryStore _ x st v => match evS ρ x, evI ρ st, evC ρ v with
    | some (.m r), some (.ofNat born), some vv => match h.get r with
      | some (.map es ck) => match es.findIdx? fun e => Nat.beq e.born born with
        | some i => some (.tu [], h.put r (.map (setAt es i fun e => ⟨e.key, vv, e.born⟩) ck))
        | none => none
      | _ => none
    | _, _, _ => none
  | .range t x => match ty t with
    | some ti => match ti.k, evS ρ x with
      | .map _ _, some .nm => some (.cv (.sc (.p h.next 0)), h.push (.it none 0 [] 0))
      | .map _ _, some (.m r) => match h.get r with
        | some (.map _ ck) => some (.cv (.sc (.p h.next 0)), h.push (.it (some r) ck [] ck))
        | _ => none
      | _, _ => none
    | none => none
  | .next it isString => match evS ρ it, isString with
    | some (.p b 0), false => match h.get b with
      | some (.it none _ _ _) => some (.tu [.sc (.b false)], h)
      | some (.it (some m) since seen last) => match h.get m with
        | some (.map es ck) => match nextA es ck since seen last with
          | some (some e) => some (.tu [.sc (.b true), e.key, e.val], h.put b (.it (some m) since (seen ++ [e.born]) ck))
          | some none => some (.tu [.sc (.b false)], h)
          | none => none
        | _ => none
      | _ => none
    | _, _ => none
  | .convert src dst x => match ty src, ty dst, evS ρ x with
    | some _, some td, some (.s l) => match td.k with
      | .sl e => match ty e with
        | some te => match te.k with
          | .int .u8 => cnd (Nat.blt l.length 4611686018427387904) (some (.cv (.sc (.sl h.next 0 l.length l.length 1 false)), h.push (.cells (Row.ofList (l.map fun a => .i .u8 (.ofNat a))) true))) none
          | _ => none
        | none => none
      | _ => none
    | _, _, _ => none
  | .call c => match c.callee with
    | .builtin b => match b, evList ρ c.args.toList with
      | .append, some [.cv (.sc s), .cv (.sc x)] => match c.argTypes[0]?, c.argTypes[1]? with
        | some st, some xt => match ty st, ty xt with
          | some ti, some tx => match ti.k, tx.k with
            | _, .int _ => none
            | .sl e, _ => match ty e with
              | some te => cnd (zeroFits te) (match srcRow h te.size x with
                | some (n, xr) => match s with
                  | .nsl => cnd (Nat.beq n 0) (some (.cv (.sc .nsl), h))
                      (cnd (roomy n 0 te.bytes) (some (.cv (.sc (.sl h.next 0 n n te.size false)), h.push (.cells xr false))) none)
                  | .sl b o len cap z ex => cnd (Nat.beq z te.size)
                      (match h.get b with
                      | some (.cells r ro) =>
                        cnd (Nat.ble (Nat.add len n) cap)
                          (cnd (Nat.beq n 0) (some (.cv (.sc (.sl b o len cap z ex)), h))
                            (match ro, xr.read 0 xr.n with
                            | false, some l => match r.write (Nat.add o (Nat.mul len z)) l with
                              | some r' => some (.cv (.sc (.sl b o (Nat.add len n) cap z ex)), h.put b (.cells r' false))
                              | none => none
                            | _, _ => none))
                          (match subRow r o (Nat.mul len z) with
                          | some r0 => match appRow r0 xr with
                            | some r1 =>
                              cnd ex
                                (cnd (roomy (Nat.add len n) cap te.bytes)
                                  (some (.cv (.sc (.sl h.next 0 (Nat.add len n) (Nat.add len n) z false)), h.push (.cells r1 false))) none)
                                (cnd (Nat.beq o 0 && Nat.blt 0 cap && !ro && roomyAny (Nat.add len n) te.bytes)
                                  (some (.cv (.sc (.sl h.next 0 (Nat.add len n) (Nat.add len n) z false)), (h.kill b).push (.cells r1 false))) none)
                            | none => none
                          | none => none)
                      | _ => none) none
                  | _ => none
                | none => none) none
              | none => none
            | _, _ => none
          | _, _ => none
        | _, _ => none
      | .copy, some [.cv (.sc d), .cv (.sc x)] => match c.argTypes[0]? with
        | some st => match ty st with
          | some ti => match ti.k with
            | .sl e => match ty e with
              | some te => match srcRow h te.size x with
                | some (n, xr) => match d with
                  | .nsl => some (.cv (.sc (.i .i64 (.ofNat 0))), h)
                  | .sl b o len _ z _ => cnd (Nat.beq z te.size)
                    (match h.get b, xr.read 0 (Nat.mul (Nat.min n len) z) with
                    | some (.cells r false), some l => match r.write o l with
                      | some r' => some (.cv (.sc (.i .i64 (.ofNat (Nat.min n len)))), h.put b (.cells r' false))
                      | none => none
                    | _, _ => none) none
                  | _ => none
                | none => none
              | none => none
            | _ => none
          | none => none
        | none => none
      | .delete, some [.cv (.sc x), .cv kv] => match c.argTypes[0]? with
        | some t => match ty t with
          | some ti => match ti.k with
            | .map kt _ => cnd (keyV ty 12 kt kv)
              (match x with
              | .nm => some (.tu [], h)
              | .m r => match h.get r with
                | some (.map es ck) => match placeA ty kt kv 0 es with
                  | some (some i) => some (.tu [], h.put r (.map (es.eraseIdx i) ck))
                  | some none => some (.tu [], h.put r (.map es ck))
                  | none => none
                | _ => none
              | _ => none) none
            | _ => none
          | none => none
        | none => none
      | .clear, some [.cv (.sc x)] => match c.argTypes[0]? with
        | some t => match ty t with
          | some ti => match ti.k, x with
            | .sl e, .sl b o len _ z _ => match ty e with
              | some te => match te.zero with
                | some zr => cnd (Nat.beq z te.size && Nat.beq zr.cells.length te.size)
                  (match h.get b with
                  | some (.cells r false) => match r.write o (repList zr.cells len) with
                    | some r' => some (.tu [], h.put b (.cells r' false))
                    | none => none
                  | _ => none) none
                | none => none
              | none => none
            | _, _ => none
          | none => none
        | none => none
      | _, _ => none
    | _ => none
  | _ => none

/-! ### Running -/

structure AFn where
  ntmps : Nat
  results : List ResultVar
  body : Code

inductive Res where
  | nrm (fr : Fr) (h : Heap)
  | exit (id : Nat) (fr : Fr) (h : Heap)
  | goto (l : Nat) (fr : Fr) (h : Heap)
  | ret (fr : Fr) (h : Heap)
  | bad (why : Nat)

inductive CRes where
  | ok (v : AV) (h : Heap)
  | bad (why : Nat)

abbrev CallK := FuncId → List AV → Heap → CRes

noncomputable def wantedA (fr : Fr) (dstOf : Nat → Option Tmp) (g : Option (Nat × Bool)) : Option Bool :=
  match g with
  | none => some true
  | some (j, want) => match dstOf j with
    | some d => match fr.t.get d with
      | some (.cv (.sc (.b x))) => some (beqB x want)
      | some _ => some false
      | none => none
    | none => none

noncomputable def put? (fr : Fr) (d : Option Tmp) (v : AV) (h : Heap) (why : Nat) : Res :=
  match d with
  | none => .nrm fr h
  | some d => match fr.put d v with
    | some fr => .nrm fr h
    | none => .bad why

noncomputable def callA (ρ : Env) (c : Call) : Option (FuncId × List AV) :=
  match c.callee with
  | .value f => match evS ρ f with
    | some (.fn f first caps) => match evList ρ c.args.toList with
      | some l => some (f, ptrs first ++ (l ++ ptrs caps))
      | none => none
    | _ => none
  | _ => none

noncomputable def runOp (ty : Ty) (call : CallK) (dstOf : Nat → Option Tmp) (o : Oper) (fr : Fr) (h : Heap) : Res :=
  match wantedA fr dstOf o.guard with
  | none => .bad 1
  | some false => put? fr o.dst (.tu []) h 2
  | some true =>
    match qop ty fr.ev h o.op with
    | some v => put? fr o.dst v h 3
    | none => match alop ty fr.ev o.op with
      | some (ob, v) => put? fr o.dst (v h.next) (h.push ob) 4
      | none => match eop ty fr.ev h o.op with
        | some (v, h') => put? fr o.dst v h' 5
        | none => match o.op with
          | .call c => match callA fr.ev c with
            | some (f, args) => match call f args h with
              | .ok v h' => put? fr o.dst v h' 6
              | .bad w => .bad w
            | none => .bad 7
          | _ => .bad 8

noncomputable def runOps (ty : Ty) (call : CallK) (dstOf : Nat → Option Tmp) : List Oper → Fr → Heap → Res
  | [], fr, h => .nrm fr h
  | o :: l, fr, h => match runOp ty call dstOf o fr h with
    | .nrm fr h => runOps ty call dstOf l fr h
    | r => r

noncomputable def resA (ty : Ty) (fr : Fr) (h : Heap) : List ResultVar → Option (List CV)
  | [] => some []
  | .tmp t :: l => match fr.t.get t with
    | some (.cv v) => match resA ty fr h l with
      | some r => some (v :: r)
      | none => none
    | _ => none
  | .cell a t :: l => match fr.t.get a with
    | some (.cv (.sc (.p b o))) => match ty t with
      | some ti => match loadA ti h b o with
        | some v => match resA ty fr h l with
          | some r => some (v :: r)
          | none => none
        | none => none
      | none => none
    | _ => none

noncomputable def argsIn : Nat → List AV → Tr AV → Tr AV
  | _, [], t => t
  | i, v :: l, t => argsIn (Nat.succ i) l (t.put (some v) i)

abbrev K := Code → Fr → Heap → Res

noncomputable def exitOf (ids : Nat) : Res → Res
  | .exit id fr h => cnd (Nat.beq id ids) (.nrm fr h) (.exit id fr h)
  | r => r

noncomputable def step (ty : Ty) (call : CallK) (dr : Array Oper → Fr → Heap → Res) (ih : K) (ihScope : Code → K) (c : Code) (fr : Fr) (h : Heap) : Res :=
  match c with
  | .skip => .nrm fr h
  | .label _ => .nrm fr h
  | .exit id => .exit id fr h
  | .goto l => .goto l fr h
  | .ret => .ret fr h
  | .region _ ops d => cnd d (dr ops fr h) (runOps ty call (fun j => (ops.toList[j]?).bind (·.dst)) ops.toList fr h)
  | .seq a b => match ih a fr h with
    | .nrm fr h => ih b fr h
    | r => r
  | .cond x a b => match evS fr.ev x with
    | some (.b t) => cnd t (ih a fr h) (ih b fr h)
    | _ => .bad 10
  | .block id b => exitOf id (ih b fr h)
  | .loop b => match ih b fr h with
    | .nrm fr h => ih (.loop b) fr h
    | r => r
  | .scope b => ihScope b b fr h
  | _ => .bad 11

noncomputable def stepScope (ih : K) (ihScope : Code → K) (whole : Code) (c : Code) (fr : Fr) (h : Heap) : Res :=
  match ih c fr h with
  | .goto l fr' h' => match findLabel whole l with
    | some rest => ihScope whole rest fr' h'
    | none => .goto l fr' h'
  | r => r

abbrev Fns := FuncId → Option AFn

noncomputable def fnDone (ty : Ty) (f : AFn) (fr : Fr) (h : Heap) : CRes :=
  match resA ty fr h f.results with
  | some [v] => .ok (.cv v) h
  | some l => .ok (.tu l) h
  | none => .bad 12

noncomputable def callF (ty : Ty) (fs : Fns) (body : K) (f : FuncId) (args : List AV) (h : Heap) : CRes :=
  match fs f with
  | none => .bad 13
  | some x => cnd (Nat.ble args.length x.ntmps)
    (match body x.body ⟨x.ntmps, argsIn 0 args .e⟩ h with
    | .nrm fr h => fnDone ty x fr h
    | .ret fr h => fnDone ty x fr h
    | .bad w => .bad w
    | _ => .bad 14) (.bad 15)

structure Ks where
  k : K
  sc : Code → K
  c : CallK

abbrev DrK := CallK → Array Oper → Fr → Heap → Res

noncomputable def stepKs (ty : Ty) (fs : Fns) (dr : DrK) (o : CallK → CallK) (s : Ks) : Ks :=
  ⟨step ty s.c (dr s.c) s.k s.sc, stepScope s.k s.sc, o (callF ty fs s.k)⟩

noncomputable def ks (ty : Ty) (fs : Fns) (dr : DrK) (o : CallK → CallK) : Nat → Ks
  | 0 => ⟨fun _ _ _ => .bad 0, fun _ _ _ _ => .bad 0, fun _ _ _ => .bad 0⟩
  | n + 1 => stepKs ty fs dr o (ks ty fs dr o n)

end Go.Proofs.YtcdjgnpjapgoaaaGreat.Dm
