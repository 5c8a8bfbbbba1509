/- The evaluator, fast: the same steps, each operation a text of its own, all loops by recursors. PRINTED by mkfast.py. -/
import Derived.Test.YtmjogmpgamlhaaaGreatDmDr1
set_option linter.unusedVariables false
set_option linter.unusedSimpArgs false
set_option linter.unusedSectionVars false
namespace Go.Proofs.YtmjogmpgamlhaaaGreat.Dm
open Go

noncomputable def fq_move (ty : Ty) (ρ : Env) (h : Heap) (x : Operand) : Option AV :=
  ρ x

noncomputable def fq_assign (ty : Ty) (ρ : Env) (h : Heap) (x : Operand) : Option AV :=
  ρ x

noncomputable def fq_pick (ty : Ty) (ρ : Env) (h : Heap) (c a b : Operand) : Option AV :=
  match evS ρ c with
    | some (.b x) => cnd x (ρ a) (ρ b)
    | _ => none

noncomputable def fq_nilCheck (ty : Ty) (ρ : Env) (h : Heap) (x : Operand) : Option AV :=
  match evS ρ x with
    | some (.p b o) => some (.cv (.sc (.p b o)))
    | some (.fn f l c) => some (.cv (.sc (.fn f l c)))
    | _ => none

noncomputable def fq_binOp (ty : Ty) (ρ : Env) (h : Heap) (op : BinOp) (t : TypeId) (x y : Operand) (u0 : TypeId) : Option AV :=
  match evC ρ x with
    | some a => match evC ρ y with
      | some b => match binA ty op t a b with
        | some r => some (.cv r)
        | none => none
      | none => none
    | none => none

noncomputable def fq_unOp (ty : Ty) (ρ : Env) (h : Heap) (op : UnOp) (u0 : TypeId) (x : Operand) : Option AV :=
  match evS ρ x with
    | some a => match unA op a with
      | some r => some (.cv (.sc r))
      | none => none
    | none => none

noncomputable def fq_convert (ty : Ty) (ρ : Env) (h : Heap) (src dst : TypeId) (x : Operand) : Option AV :=
  match ty src with
    | some ts => match ty dst with
      | some td => match td.k, evS ρ x with
        | .int k, some (.i _ n) => some (.cv (.sc (.i k (wr k n))))
        | .int k, some (.un _) => some (.cv (.sc (.un k)))
        | .int .i64, some (.rg _ id ops lo hi m r) => cnd (Nat.blt hi big) (some (.cv (.sc (.rg .i64 id ops lo hi m r)))) none
        | .int .u64, some (.rg _ id ops lo hi m r) => cnd (Nat.blt hi big) (some (.cv (.sc (.rg .u64 id ops lo hi m r)))) none
        | .f64, some (.i _ n) => some (.cv (.sc (.f (FloatKind.f64.nearest n))))
        | .int k, some (.f b) => match (FloatKind.f64.decode b).toInt .zero with
          | some n => cnd (ile k.min n && ile n k.max) (some (.cv (.sc (.i k n)))) none
          | none => none
        | .str, some (.s l) => some (.cv (.sc (.s l)))
        | .str, some .nsl => match ts.k with
          | .sl e => match ty e with
            | some te => match te.k with
              | .int .u8 => some (.cv (.sc (.s [])))
              | _ => none
            | none => none
          | _ => none
        | .str, some (.sl b o len _ _ _) => match ts.k with
          | .sl e => match ty e with
            | some te => match te.k with
              | .int .u8 => match h.get b with
                | some (.cells r _) => match bytesOf r o len with
                  | some l => some (.cv (.sc (.s l)))
                  | none => none
                | _ => none
              | _ => none
            | none => none
          | _ => none
        | _, _ => none
      | none => none
    | none => none

noncomputable def fq_fieldAddr (ty : Ty) (ρ : Env) (h : Heap) (s : TypeId) (x : Operand) (f : Nat) : Option AV :=
  match ty s with
    | some ti => match ti.k with
      | .st fs => match fs[f]? with
        | some (off, ft, _) => match ty ft with
          | some tf => cnd (Nat.beq tf.size 0) none
            (match evS ρ x with
            | some (.p b o) => some (.cv (.sc (.p b (Nat.add o off))))
            | _ => none)
          | none => none
        | none => none
      | _ => none
    | none => none

noncomputable def fq_field (ty : Ty) (ρ : Env) (h : Heap) (t : TypeId) (x : Operand) (f : Nat) : Option AV :=
  match ty t with
    | some ti => match ti.k with
      | .st fs => match fs[f]? with
        | some (off, ft, _) => match evC ρ x with
          | some (.ag l) => match partC ty ft l off with
            | some v => some (.cv v)
            | none => none
          | _ => none
        | none => none
      | _ => none
    | none => none

noncomputable def fq_indexAddr (ty : Ty) (ρ : Env) (h : Heap) (t : TypeId) (x ix : Operand) : Option AV :=
  match ty t with
    | some ti => match evI ρ ix with
      | some i => match ti.k, evS ρ x with
        | .sl e, some (.sl b o len _ z _) => match ty e with
          | some te => match below i len with
            | some j => cnd (Nat.beq z te.size) (some (.cv (.sc (.p b (Nat.add o (Nat.mul j z)))))) none
            | none => none
          | none => none
        | .arr n e, some (.p b o) => match ty e with
          | some te => match below i n with
            | some j => some (.cv (.sc (.p b (Nat.add o (Nat.mul j te.size)))))
            | none => none
          | none => none
        | _, _ => none
      | none => none
    | none => none

noncomputable def fq_index (ty : Ty) (ρ : Env) (h : Heap) (t : TypeId) (x ix : Operand) : Option AV :=
  match ty t with
    | some ti => match evI ρ ix with
      | some i => match ti.k, evC ρ x with
        | .arr n e, some (.ag l) => match ty e with
          | some te => match below i n with
            | some j => match partC ty e l (Nat.mul j te.size) with
              | some v => some (.cv v)
              | none => none
            | none => none
          | none => none
        | .str, some (.sc (.s l)) => match below i l.length with
          | some j => match l[j]? with
            | some v => some (.cv (.sc (.i .u8 (.ofNat v))))
            | none => none
          | none => none
        | _, _ => none
      | none => none
    | none => none

noncomputable def fq_extract (ty : Ty) (ρ : Env) (h : Heap) (x : Operand) (i : Nat) : Option AV :=
  match ρ x with
    | some (.tu l) => match l[i]? with
      | some v => some (.cv v)
      | none => none
    | _ => none

noncomputable def fq_build (ty : Ty) (ρ : Env) (h : Heap) (t : TypeId) (parts : Array (Nat × Operand)) : Option AV :=
  match ty t with
    | some ti => match ti.zero, evParts ρ parts.toList with
      | some z, some ps => match ti.k with
        | .st fs => match placesOf ty fs with
          | some pl => match fillA z.cells (fun i => pl[i]?) ps with
            | some l => some (.cv (.ag l))
            | none => none
          | none => none
        | .arr _ e => match ty e with
          | some te => match fillA z.cells (fun i => some (Nat.mul i te.size, te.size)) ps with
            | some l => some (.cv (.ag l))
            | none => none
          | none => none
        | _ => none
      | _, _ => none
    | none => none

noncomputable def fq_load (ty : Ty) (ρ : Env) (h : Heap) (t : TypeId) (a : Operand) : Option AV :=
  match ty t with
    | some ti => match evS ρ a with
      | some (.p b o) => match loadA ti h b o with
        | some v => some (.cv v)
        | none => none
      | _ => none
    | none => none

noncomputable def fq_makeFunc (ty : Ty) (ρ : Env) (h : Heap) (fn : Fn) (first captured : Array Operand) : Option AV :=
  match fn with
    | .func f => match evPtrs ρ first.toList with
      | some l => match evPtrs ρ captured.toList with
        | some c => some (.cv (.sc (.fn f l c)))
        | none => none
      | none => none
    | _ => none

noncomputable def fq_slice (ty : Ty) (ρ : Env) (h : Heap) (t : TypeId) (x : Operand) (lo hi mx : Option Operand) : Option AV :=
  match ty t with
    | some ti => match ti.k, evS ρ x with
      | .str, some (.s l) => match mx with
        | none =>
          match (match hi with | none => some l.length | some y => (evI ρ y).bind fun i => upto i l.length) with
          | some hh => match (match lo with | none => some 0 | some y => (evI ρ y).bind fun i => upto i hh) with
            | some ll => some (.cv (.sc (.s ((l.take hh).drop ll))))
            | none => none
          | none => none
        | some _ => none
      | .sl e, some (.sl b o len cap z ex) =>
        match ty e with
        | some te => cnd (Nat.beq z te.size)
          (match (match mx with | none => some cap | some y => (evI ρ y).bind fun i => upto i cap) with
          | some mm => match (match hi with | none => (match mx with | none => some len | some _ => none) | some y => (evI ρ y).bind fun i => upto i mm) with
            | some hh => match (match lo with | none => some 0 | some y => (evI ρ y).bind fun i => upto i hh) with
              | some ll => some (.cv (.sc (.sl b (cnd (Nat.beq mm ll) o (Nat.add o (Nat.mul ll z))) (Nat.sub hh ll) (Nat.sub mm ll) z ex)))
              | none => none
            | none => none
          | none => none) none
        | none => none
      | .sl e, some .nsl => match ty e, mx with
        | some _, none =>
          match (match hi with | none => some 0 | some y => (evI ρ y).bind fun i => upto i 0) with
          | some hh => match (match lo with | none => some 0 | some y => (evI ρ y).bind fun i => upto i hh) with
            | some _ => some (.cv (.sc .nsl))
            | none => none
          | none => none
        | _, _ => none
      | .arr n e, some (.p b o) => match ty e, mx with
        | some te, none =>
          match (match hi with | none => some n | some y => (evI ρ y).bind fun i => upto i n) with
          | some hh => match (match lo with | none => some 0 | some y => (evI ρ y).bind fun i => upto i hh) with
            | some ll => some (.cv (.sc (.sl b (cnd (Nat.beq n ll) o (Nat.add o (Nat.mul ll te.size))) (Nat.sub hh ll) (Nat.sub n ll) te.size true)))
            | none => none
          | none => none
        | _, _ => none
      | _, _ => none
    | none => none

noncomputable def fq_lookup (ty : Ty) (ρ : Env) (h : Heap) (t : TypeId) (x k : Operand) (ok : Bool) : Option AV :=
  match ty t with
    | some ti => match ti.k with
      | .map kt et => match evC ρ k, ty et with
        | some kv, some te => cnd (keyV ty 12 kt kv)
          (match pmLk ty ρ h kt x kv with
          | some q => match q.v with
            | some v => cnd ok (some (.tu [v, .sc (.b true)])) (some (.cv v))
            | none => match te.zero with
              | some z => cnd ok (some (.tu [z, .sc (.b false)])) (some (.cv z))
              | none => none
          | none => match (match evS ρ x with
            | some .nm => some []
            | some (.m r) => match h.get r with
              | some (.map es _) => some es
              | _ => none
            | _ => none) with
          | some es => match placeA ty kt kv 0 es with
            | some (some i) => match es[i]? with
              | some e => cnd ok (some (.tu [e.val, .sc (.b true)])) (some (.cv e.val))
              | none => none
            | some none => match te.zero with
              | some z => cnd ok (some (.tu [z, .sc (.b false)])) (some (.cv z))
              | none => none
            | none => none
          | none => none) none
        | _, _ => none
      | _ => none
    | none => none

noncomputable def fq_entry (ty : Ty) (ρ : Env) (h : Heap) (it : Operand) : Option AV :=
  match evS ρ it with
    | some (.p b 0) => match h.get b with
      | some (.it (some m) _ seen st) => match seen.getLast? with
        | some stamp => match h.get m with
          | some (.map es ck) => cnd (Nat.beq ck st) (match es.find? fun e => Nat.beq e.born stamp with
            | some e => some (.tu [e.key, e.val])
            | none => none) none
          | _ => none
        | none => none
      | _ => none
    | _ => none

noncomputable def fq_call (ty : Ty) (ρ : Env) (h : Heap) (c : Call) : Option AV :=
  match c.callee with
    | .builtin b => match evList ρ c.args.toList with
      | some [x] => match b with
        | .len => match c.argTypes[0]? with
          | some t => match ty t with
            | some ti => match lenA ty h ti.k x with
              | some n => some (.cv (.sc (.i .i64 (.ofNat n))))
              | none => none
            | none => none
          | none => none
        | .cap => match c.argTypes[0]? with
          | some t => match ty t with
            | some ti => match ti.k, x with
              | .sl _, .cv (.sc .nsl) => some (.cv (.sc (.i .i64 (.ofNat 0))))
              | .sl _, .cv (.sc (.sl _ _ _ cap _ true)) => some (.cv (.sc (.i .i64 (.ofNat cap))))
              | _, _ => none
            | none => none
          | none => none
        | .real => match x with
          | .cv (.sc (.c a _)) => some (.cv (.sc (.f a)))
          | _ => none
        | .imag => match x with
          | .cv (.sc (.c _ b)) => some (.cv (.sc (.f b)))
          | _ => none
        | _ => none
      | some [x, y] => match b with
        | .complex => match x, y with
          | .cv (.sc (.f a)), .cv (.sc (.f b)) => some (.cv (.sc (.c a b)))
          | _, _ => none
        | .min => match x, y with
          | .cv (.sc (.i k a)), .cv (.sc (.i _ b)) => some (.cv (.sc (.i k (cnd (ilt b a) b a))))
          | _, _ => none
        | .max => match x, y with
          | .cv (.sc (.i k a)), .cv (.sc (.i _ b)) => some (.cv (.sc (.i k (cnd (ilt a b) b a))))
          | _, _ => none
        | _ => none
      | _ => none
    | _ => none

noncomputable def fa_alloc (ty : Ty) (ρ : Env) (e : TypeId) : Option (AO × (Nat → AV)) :=
  match ty e with
    | some ti => match ti.zero with
      | some z => some (.cells (Row.ofList z.cells) false, fun id => .cv (.sc (.p id 0)))
      | none => none
    | none => none

noncomputable def fa_box (ty : Ty) (ρ : Env) (u0 : TypeId) (x : Operand) : Option (AO × (Nat → AV)) :=
  match evC ρ x with
    | some v => some (.cells (Row.ofList v.cells) false, fun id => .cv (.sc (.p id 0)))
    | none => none

noncomputable def fa_buildSlice (ty : Ty) (ρ : Env) (t : TypeId) (len : Nat) (parts : Array (Nat × Operand)) : Option (AO × (Nat → AV)) :=
  match ty t with
    | some ti => match ti.k with
      | .sl e => match ty e with
        | some te => match te.zero, evParts ρ parts.toList with
          | some z, some ps => cnd (Nat.beq z.cells.length te.size && Nat.ble (Nat.mul len te.size) 16777216)
            (match fillA (repList z.cells len) (fun i => some (Nat.mul i te.size, te.size)) ps with
            | some l => some (.cells (Row.ofList l) false, fun id => .cv (.sc (.sl id 0 len len te.size true)))
            | none => none) none
          | _, _ => none
        | none => none
      | _ => none
    | none => none

noncomputable def fa_makeSlice (ty : Ty) (ρ : Env) (t : TypeId) (l c : Operand) : Option (AO × (Nat → AV)) :=
  match ty t with
    | some ti => match ti.k with
      | .sl e => match ty e with
        | some te => match te.zero, evI ρ l, evI ρ c with
          | some z, some (.ofNat n), some (.ofNat m) => cnd (Nat.ble n m && Nat.ble (Nat.mul te.bytes m) 281474976710656 && Nat.blt m 9223372036854775808)
            (match z with
            | .sc v => cnd (Nat.beq te.size 1) (some (.cells (Row.rep m v) false, fun id => .cv (.sc (.sl id 0 n m 1 true)))) none
            | .ag l => cnd (Nat.beq te.size l.length) (some (.cells (Row.ofList (repList l m)) false, fun id => .cv (.sc (.sl id 0 n m te.size true)))) none) none
          | _, _, _ => none
        | none => none
      | _ => none
    | none => none

noncomputable def fa_makeMap (ty : Ty) (ρ : Env) (u0 : TypeId) (r : Option Operand) : Option (AO × (Nat → AV)) :=
  match r with
    | none => some (.map [] 0, fun id => .cv (.sc (.m id)))
    | some _ => none

noncomputable def fe_store (ty : Ty) (ρ : Env) (h : Heap) (t : TypeId) (a x : Operand) : Option (AV × Heap) :=
  match ty t with
    | some ti => match evS ρ a, evC ρ x with
      | some (.p b o), some v => cnd (Nat.beq v.cells.length ti.size)
        (match h.get b with
        | some (.cells r false) => match r.write o v.cells with
          | some r' => some (.tu [], h.put b (.cells r' false))
          | none => none
        | _ => none) none
      | _, _ => none
    | none => none

noncomputable def fe_mapUpdate (ty : Ty) (ρ : Env) (h : Heap) (t : TypeId) (x k v : Operand) : Option (AV × Heap) :=
  match ty t with
    | some ti => match ti.k with
      | .map kt _ => match evS ρ x, evC ρ k, evC ρ v with
        | some (.m r), some kv, some vv => cnd (keyV ty 12 kt kv)
          (match pmAt ty h kt (.m r) kv with
          | some q => some (.tu [], h.put r (.pm q.k (pset q.n (some vv) q.es) (match q.v with
            | some _ => q.l
            | none => sucO q.l)))
          | none => match h.get r with
          | some (.map es ck) => match placeA ty kt kv 0 es with
            | some (some i) => match es[i]? with
              | some e => cnd (cbits e.key kv) (some (.tu [], h.put r (.map (setAt es i fun e => ⟨kv, vv, e.born⟩) ck))) none
              | none => none
            | some none => some (.tu [], h.put r (.map (es ++ [⟨kv, vv, ck⟩]) (Nat.succ ck)))
            | none => none
          | _ => none) none
        | _, _, _ => none
      | _ => none
    | none => none

noncomputable def fe_mapEntry (ty : Ty) (ρ : Env) (h : Heap) (t : TypeId) (x k : Operand) : Option (AV × Heap) :=
  match ty t with
    | some ti => match ti.k with
      | .map kt et => match evS ρ x, evC ρ k, ty et with
        | some (.m r), some kv, some te => cnd (keyV ty 12 kt kv)
          (match h.get r with
          | some (.map es ck) => match placeA ty kt kv 0 es with
            | some (some i) => match es[i]? with
              | some e => cnd (cbits e.key kv) (some (.tu [e.val, .sc (.i .i64 (.ofNat e.born))], h.put r (.map (setAt es i fun e => ⟨kv, e.val, e.born⟩) ck))) none
              | none => none
            | some none => match te.zero with
              | some z => some (.tu [z, .sc (.i .i64 (.ofNat ck))], h.put r (.map (es ++ [⟨kv, z, ck⟩]) (Nat.succ ck)))
              | none => none
            | none => none
          | _ => none) none
        | _, _, _ => none
      | _ => none
    | none => none

noncomputable def fe_entryStore (ty : Ty) (ρ : Env) (h : Heap) (u0 : TypeId) (x st v : Operand) : Option (AV × Heap) :=
  match evS ρ x, evI ρ st, evC ρ v with
    | some (.m r), some (.ofNat born), some vv => match h.get r with
      | some (.map es ck) => match es.findIdx? fun e => Nat.beq e.born born with
        | some i => some (.tu [], h.put r (.map (setAt es i fun e => ⟨e.key, vv, e.born⟩) ck))
        | none => none
      | _ => none
    | _, _, _ => none

noncomputable def fe_range (ty : Ty) (ρ : Env) (h : Heap) (t : TypeId) (x : Operand) : Option (AV × Heap) :=
  match ty t with
    | some ti => match ti.k, evS ρ x with
      | .map _ _, some .nm => some (.cv (.sc (.p h.next 0)), h.push (.it none 0 [] 0))
      | .map _ _, some (.m r) => match h.get r with
        | some (.map _ ck) => some (.cv (.sc (.p h.next 0)), h.push (.it (some r) ck [] ck))
        | _ => none
      | _, _ => none
    | none => none

noncomputable def fe_next (ty : Ty) (ρ : Env) (h : Heap) (it : Operand) (isString : Bool) : Option (AV × Heap) :=
  match evS ρ it, isString with
    | some (.p b 0), false => match h.get b with
      | some (.it none _ _ _) => some (.tu [.sc (.b false)], h)
      | some (.it (some m) since seen last) => match h.get m with
        | some (.map es ck) => match nextA es ck since seen last with
          | some (some e) => some (.tu [.sc (.b true), e.key, e.val], h.put b (.it (some m) since (seen ++ [e.born]) ck))
          | some none => some (.tu [.sc (.b false)], h)
          | none => none
        | _ => none
      | _ => none
    | _, _ => none

noncomputable def fe_convert (ty : Ty) (ρ : Env) (h : Heap) (src dst : TypeId) (x : Operand) : Option (AV × Heap) :=
  match ty src, ty dst, evS ρ x with
    | some _, some td, some (.s l) => match td.k with
      | .sl e => match ty e with
        | some te => match te.k with
          | .int .u8 => cnd (Nat.blt l.length 4611686018427387904) (some (.cv (.sc (.sl h.next 0 l.length l.length 1 false)), h.push (.cells (Row.ofList (l.map fun a => .i .u8 (.ofNat a))) true))) none
          | _ => none
        | none => none
      | _ => none
    | _, _, _ => none

noncomputable def fe_call (ty : Ty) (ρ : Env) (h : Heap) (c : Call) : Option (AV × Heap) :=
  match c.callee with
    | .builtin b => match b, evList ρ c.args.toList with
      | .append, some [.cv (.sc s), .cv (.sc x)] => match c.argTypes[0]?, c.argTypes[1]? with
        | some st, some xt => match ty st, ty xt with
          | some ti, some tx => match ti.k, tx.k with
            | _, .int _ => none
            | .sl e, _ => match ty e with
              | some te => cnd (zeroFits te) (match srcRow h te.size x with
                | some (n, xr) => match s with
                  | .nsl => cnd (Nat.beq n 0) (some (.cv (.sc .nsl), h))
                      (cnd (roomy n 0 te.bytes) (some (.cv (.sc (.sl h.next 0 n n te.size false)), h.push (.cells xr false))) none)
                  | .sl b o len cap z ex => cnd (Nat.beq z te.size)
                      (match h.get b with
                      | some (.cells r ro) =>
                        cnd (Nat.ble (Nat.add len n) cap)
                          (cnd (Nat.beq n 0) (some (.cv (.sc (.sl b o len cap z ex)), h))
                            (match ro, xr.read 0 xr.n with
                            | false, some l => match r.write (Nat.add o (Nat.mul len z)) l with
                              | some r' => some (.cv (.sc (.sl b o (Nat.add len n) cap z ex)), h.put b (.cells r' false))
                              | none => none
                            | _, _ => none))
                          (match subRow r o (Nat.mul len z) with
                          | some r0 => match appRow r0 xr with
                            | some r1 =>
                              cnd ex
                                (cnd (roomy (Nat.add len n) cap te.bytes)
                                  (some (.cv (.sc (.sl h.next 0 (Nat.add len n) (Nat.add len n) z false)), h.push (.cells r1 false))) none)
                                (cnd (Nat.beq o 0 && Nat.blt 0 cap && !ro && roomyAny (Nat.add len n) te.bytes)
                                  (some (.cv (.sc (.sl h.next 0 (Nat.add len n) (Nat.add len n) z false)), (h.kill b).push (.cells r1 false))) none)
                            | none => none
                          | none => none)
                      | _ => none) none
                  | _ => none
                | none => none) none
              | none => none
            | _, _ => none
          | _, _ => none
        | _, _ => none
      | .copy, some [.cv (.sc d), .cv (.sc x)] => match c.argTypes[0]? with
        | some st => match ty st with
          | some ti => match ti.k with
            | .sl e => match ty e with
              | some te => match srcRow h te.size x with
                | some (n, xr) => match d with
                  | .nsl => some (.cv (.sc (.i .i64 (.ofNat 0))), h)
                  | .sl b o len _ z _ => cnd (Nat.beq z te.size)
                    (match h.get b, xr.read 0 (Nat.mul (Nat.min n len) z) with
                    | some (.cells r false), some l => match r.write o l with
                      | some r' => some (.cv (.sc (.i .i64 (.ofNat (Nat.min n len)))), h.put b (.cells r' false))
                      | none => none
                    | _, _ => none) none
                  | _ => none
                | none => none
              | none => none
            | _ => none
          | none => none
        | none => none
      | .delete, some [.cv (.sc x), .cv kv] => match c.argTypes[0]? with
        | some t => match ty t with
          | some ti => match ti.k with
            | .map kt _ => cnd (keyV ty 12 kt kv)
              (match pmAt ty h kt x kv with
              | some q => some (.tu [], h.put q.r (.pm q.k (pset q.n none q.es) (match q.v with
                | some _ => preO q.l
                | none => q.l)))
              | none => match x with
              | .nm => some (.tu [], h)
              | .m r => match h.get r with
                | some (.map es ck) => match placeA ty kt kv 0 es with
                  | some (some i) => some (.tu [], h.put r (.map (es.eraseIdx i) ck))
                  | some none => some (.tu [], h.put r (.map es ck))
                  | none => none
                | _ => none
              | _ => none) none
            | _ => none
          | none => none
        | none => none
      | .clear, some [.cv (.sc x)] => match c.argTypes[0]? with
        | some t => match ty t with
          | some ti => match ti.k, x with
            | .sl e, .sl b o len _ z _ => match ty e with
              | some te => match te.zero with
                | some zr => cnd (Nat.beq z te.size && Nat.beq zr.cells.length te.size)
                  (match h.get b with
                  | some (.cells r false) => match r.write o (repList zr.cells len) with
                    | some r' => some (.tu [], h.put b (.cells r' false))
                    | none => none
                  | _ => none) none
                | none => none
              | none => none
            | _, _ => none
          | none => none
        | none => none
      | _, _ => none
    | _ => none

noncomputable def qopF (ty : Ty) (ρ : Env) (h : Heap) (op : Op) : Option AV :=
  match op with
  | .move a1 => fq_move ty ρ h a1
  | .assign a1 => fq_assign ty ρ h a1
  | .pick a1 a2 a3 => fq_pick ty ρ h a1 a2 a3
  | .nilCheck a1 => fq_nilCheck ty ρ h a1
  | .binOp a1 a2 a3 a4 a5 => fq_binOp ty ρ h a1 a2 a3 a4 a5
  | .unOp a1 a2 a3 => fq_unOp ty ρ h a1 a2 a3
  | .convert a1 a2 a3 => fq_convert ty ρ h a1 a2 a3
  | .fieldAddr a1 a2 a3 => fq_fieldAddr ty ρ h a1 a2 a3
  | .field a1 a2 a3 => fq_field ty ρ h a1 a2 a3
  | .indexAddr a1 a2 a3 => fq_indexAddr ty ρ h a1 a2 a3
  | .index a1 a2 a3 => fq_index ty ρ h a1 a2 a3
  | .extract a1 a2 => fq_extract ty ρ h a1 a2
  | .build a1 a2 => fq_build ty ρ h a1 a2
  | .load a1 a2 => fq_load ty ρ h a1 a2
  | .makeFunc a1 a2 a3 => fq_makeFunc ty ρ h a1 a2 a3
  | .slice a1 a2 a3 a4 a5 => fq_slice ty ρ h a1 a2 a3 a4 a5
  | .lookup a1 a2 a3 a4 => fq_lookup ty ρ h a1 a2 a3 a4
  | .entry a1 => fq_entry ty ρ h a1
  | .call a1 => fq_call ty ρ h a1
  | _ => none

noncomputable def alopF (ty : Ty) (ρ : Env) (op : Op) : Option (AO × (Nat → AV)) :=
  match op with
  | .alloc a1 => fa_alloc ty ρ a1
  | .box a1 a2 => fa_box ty ρ a1 a2
  | .buildSlice a1 a2 a3 => fa_buildSlice ty ρ a1 a2 a3
  | .makeSlice a1 a2 a3 => fa_makeSlice ty ρ a1 a2 a3
  | .makeMap a1 a2 => fa_makeMap ty ρ a1 a2
  | _ => none

noncomputable def eopF (ty : Ty) (ρ : Env) (h : Heap) (op : Op) : Option (AV × Heap) :=
  match op with
  | .store a1 a2 a3 => fe_store ty ρ h a1 a2 a3
  | .mapUpdate a1 a2 a3 a4 => fe_mapUpdate ty ρ h a1 a2 a3 a4
  | .mapEntry a1 a2 a3 => fe_mapEntry ty ρ h a1 a2 a3
  | .entryStore a1 a2 a3 a4 => fe_entryStore ty ρ h a1 a2 a3 a4
  | .range a1 a2 => fe_range ty ρ h a1 a2
  | .next a1 a2 => fe_next ty ρ h a1 a2
  | .convert a1 a2 a3 => fe_convert ty ρ h a1 a2 a3
  | .call a1 => fe_call ty ρ h a1
  | _ => none

noncomputable def doQ (r : Option AV) (fr : Fr) (h : Heap) (d : Option Tmp) : Res := match r with
  | some v => put? fr d v h 3
  | none => .bad 8
noncomputable def doA (r : Option (AO × (Nat → AV))) (fr : Fr) (h : Heap) (d : Option Tmp) : Res := match r with
  | some (ob, v) => put? fr d (v h.next) (h.push ob) 4
  | none => .bad 8
noncomputable def doE (r : Option (AV × Heap)) (fr : Fr) (d : Option Tmp) : Res := match r with
  | some (v, h') => put? fr d v h' 5
  | none => .bad 8
noncomputable def doF (call : CallK) (fr : Fr) (h : Heap) (d : Option Tmp) (c : Call) : Res := match callA fr.ev c with
  | some (f, args) => match call f args h with
    | .ok v h' => put? fr d v h' 6
    | .bad w => .bad w
  | none => .bad 7
noncomputable def doCall (ty : Ty) (call : CallK) (fr : Fr) (h : Heap) (d : Option Tmp) (c : Call) : Res := match c.callee with
  | .builtin _ => match fq_call ty fr.ev h c with
    | some v => put? fr d v h 3
    | none => match fe_call ty fr.ev h c with
      | some (v, h') => put? fr d v h' 5
      | none => .bad 7
  | _ => doF call fr h d c
noncomputable def doConv (q : Option AV) (e : Option (AV × Heap)) (fr : Fr) (h : Heap) (d : Option Tmp) : Res := match q with
  | some v => put? fr d v h 3
  | none => doE e fr d
noncomputable def doOp (ty : Ty) (call : CallK) (fr : Fr) (h : Heap) (d : Option Tmp) (op : Op) : Res :=
  match op with
  | .move a1 => doQ (fq_move ty fr.ev h a1) fr h d
  | .assign a1 => doQ (fq_assign ty fr.ev h a1) fr h d
  | .pick a1 a2 a3 => doQ (fq_pick ty fr.ev h a1 a2 a3) fr h d
  | .nilCheck a1 => doQ (fq_nilCheck ty fr.ev h a1) fr h d
  | .binOp a1 a2 a3 a4 a5 => doQ (fq_binOp ty fr.ev h a1 a2 a3 a4 a5) fr h d
  | .unOp a1 a2 a3 => doQ (fq_unOp ty fr.ev h a1 a2 a3) fr h d
  | .convert a1 a2 a3 => doConv (fq_convert ty fr.ev h a1 a2 a3) (fe_convert ty fr.ev h a1 a2 a3) fr h d
  | .fieldAddr a1 a2 a3 => doQ (fq_fieldAddr ty fr.ev h a1 a2 a3) fr h d
  | .field a1 a2 a3 => doQ (fq_field ty fr.ev h a1 a2 a3) fr h d
  | .indexAddr a1 a2 a3 => doQ (fq_indexAddr ty fr.ev h a1 a2 a3) fr h d
  | .index a1 a2 a3 => doQ (fq_index ty fr.ev h a1 a2 a3) fr h d
  | .extract a1 a2 => doQ (fq_extract ty fr.ev h a1 a2) fr h d
  | .build a1 a2 => doQ (fq_build ty fr.ev h a1 a2) fr h d
  | .load a1 a2 => doQ (fq_load ty fr.ev h a1 a2) fr h d
  | .makeFunc a1 a2 a3 => doQ (fq_makeFunc ty fr.ev h a1 a2 a3) fr h d
  | .slice a1 a2 a3 a4 a5 => doQ (fq_slice ty fr.ev h a1 a2 a3 a4 a5) fr h d
  | .lookup a1 a2 a3 a4 => doQ (fq_lookup ty fr.ev h a1 a2 a3 a4) fr h d
  | .entry a1 => doQ (fq_entry ty fr.ev h a1) fr h d
  | .call a1 => doCall ty call fr h d a1
  | .alloc a1 => doA (fa_alloc ty fr.ev a1) fr h d
  | .box a1 a2 => doA (fa_box ty fr.ev a1 a2) fr h d
  | .buildSlice a1 a2 a3 => doA (fa_buildSlice ty fr.ev a1 a2 a3) fr h d
  | .makeSlice a1 a2 a3 => doA (fa_makeSlice ty fr.ev a1 a2 a3) fr h d
  | .makeMap a1 a2 => doA (fa_makeMap ty fr.ev a1 a2) fr h d
  | .store a1 a2 a3 => doE (fe_store ty fr.ev h a1 a2 a3) fr d
  | .mapUpdate a1 a2 a3 a4 => doE (fe_mapUpdate ty fr.ev h a1 a2 a3 a4) fr d
  | .mapEntry a1 a2 a3 => doE (fe_mapEntry ty fr.ev h a1 a2 a3) fr d
  | .entryStore a1 a2 a3 a4 => doE (fe_entryStore ty fr.ev h a1 a2 a3 a4) fr d
  | .range a1 a2 => doE (fe_range ty fr.ev h a1 a2) fr d
  | .next a1 a2 => doE (fe_next ty fr.ev h a1 a2) fr d
  | _ => .bad 8

/-- What 'runOp' does where the guard lets it. -/
noncomputable def tailOp (ty : Ty) (call : CallK) (fr : Fr) (h : Heap) (d : Option Tmp) (op : Op) : Res :=
    match qop ty fr.ev h op with
    | some v => put? fr d v h 3
    | none => match alop ty fr.ev op with
      | some (ob, v) => put? fr d (v h.next) (h.push ob) 4
      | none => match eop ty fr.ev h op with
        | some (v, h') => put? fr d v h' 5
        | none => match op with
          | .call c => match callA fr.ev c with
            | some (f, args) => match call f args h with
              | .ok v h' => put? fr d v h' 6
              | .bad w => .bad w
            | none => .bad 7
          | _ => .bad 8

theorem doOp_eq (ty : Ty) (call : CallK) (fr : Fr) (h : Heap) (d : Option Tmp) (op : Op) : doOp ty call fr h d op = tailOp ty call fr h d op := by
  cases op
  case move a1 =>
    show doQ (qop ty fr.ev h (.move a1)) fr h d = (match qop ty fr.ev h (.move a1) with | some v => _ | none => _)
    cases qop ty fr.ev h (.move a1) with
    | some p => rfl
    | none => rfl
  case assign a1 =>
    show doQ (qop ty fr.ev h (.assign a1)) fr h d = (match qop ty fr.ev h (.assign a1) with | some v => _ | none => _)
    cases qop ty fr.ev h (.assign a1) with
    | some p => rfl
    | none => rfl
  case pick a1 a2 a3 =>
    show doQ (qop ty fr.ev h (.pick a1 a2 a3)) fr h d = (match qop ty fr.ev h (.pick a1 a2 a3) with | some v => _ | none => _)
    cases qop ty fr.ev h (.pick a1 a2 a3) with
    | some p => rfl
    | none => rfl
  case nilCheck a1 =>
    show doQ (qop ty fr.ev h (.nilCheck a1)) fr h d = (match qop ty fr.ev h (.nilCheck a1) with | some v => _ | none => _)
    cases qop ty fr.ev h (.nilCheck a1) with
    | some p => rfl
    | none => rfl
  case binOp a1 a2 a3 a4 a5 =>
    show doQ (qop ty fr.ev h (.binOp a1 a2 a3 a4 a5)) fr h d = (match qop ty fr.ev h (.binOp a1 a2 a3 a4 a5) with | some v => _ | none => _)
    cases qop ty fr.ev h (.binOp a1 a2 a3 a4 a5) with
    | some p => rfl
    | none => rfl
  case unOp a1 a2 a3 =>
    show doQ (qop ty fr.ev h (.unOp a1 a2 a3)) fr h d = (match qop ty fr.ev h (.unOp a1 a2 a3) with | some v => _ | none => _)
    cases qop ty fr.ev h (.unOp a1 a2 a3) with
    | some p => rfl
    | none => rfl
  case convert a1 a2 a3 =>
    show doConv (qop ty fr.ev h (.convert a1 a2 a3)) (eop ty fr.ev h (.convert a1 a2 a3)) fr h d = _
    unfold tailOp doConv
    cases qop ty fr.ev h (.convert a1 a2 a3) with
    | some v => rfl
    | none =>
      show doE (eop ty fr.ev h (.convert a1 a2 a3)) fr d = (match eop ty fr.ev h (.convert a1 a2 a3) with | some (v, h') => _ | none => _)
      cases eop ty fr.ev h (.convert a1 a2 a3) with
      | some p => rfl
      | none => rfl
  case fieldAddr a1 a2 a3 =>
    show doQ (qop ty fr.ev h (.fieldAddr a1 a2 a3)) fr h d = (match qop ty fr.ev h (.fieldAddr a1 a2 a3) with | some v => _ | none => _)
    cases qop ty fr.ev h (.fieldAddr a1 a2 a3) with
    | some p => rfl
    | none => rfl
  case field a1 a2 a3 =>
    show doQ (qop ty fr.ev h (.field a1 a2 a3)) fr h d = (match qop ty fr.ev h (.field a1 a2 a3) with | some v => _ | none => _)
    cases qop ty fr.ev h (.field a1 a2 a3) with
    | some p => rfl
    | none => rfl
  case indexAddr a1 a2 a3 =>
    show doQ (qop ty fr.ev h (.indexAddr a1 a2 a3)) fr h d = (match qop ty fr.ev h (.indexAddr a1 a2 a3) with | some v => _ | none => _)
    cases qop ty fr.ev h (.indexAddr a1 a2 a3) with
    | some p => rfl
    | none => rfl
  case index a1 a2 a3 =>
    show doQ (qop ty fr.ev h (.index a1 a2 a3)) fr h d = (match qop ty fr.ev h (.index a1 a2 a3) with | some v => _ | none => _)
    cases qop ty fr.ev h (.index a1 a2 a3) with
    | some p => rfl
    | none => rfl
  case extract a1 a2 =>
    show doQ (qop ty fr.ev h (.extract a1 a2)) fr h d = (match qop ty fr.ev h (.extract a1 a2) with | some v => _ | none => _)
    cases qop ty fr.ev h (.extract a1 a2) with
    | some p => rfl
    | none => rfl
  case build a1 a2 =>
    show doQ (qop ty fr.ev h (.build a1 a2)) fr h d = (match qop ty fr.ev h (.build a1 a2) with | some v => _ | none => _)
    cases qop ty fr.ev h (.build a1 a2) with
    | some p => rfl
    | none => rfl
  case load a1 a2 =>
    show doQ (qop ty fr.ev h (.load a1 a2)) fr h d = (match qop ty fr.ev h (.load a1 a2) with | some v => _ | none => _)
    cases qop ty fr.ev h (.load a1 a2) with
    | some p => rfl
    | none => rfl
  case makeFunc a1 a2 a3 =>
    show doQ (qop ty fr.ev h (.makeFunc a1 a2 a3)) fr h d = (match qop ty fr.ev h (.makeFunc a1 a2 a3) with | some v => _ | none => _)
    cases qop ty fr.ev h (.makeFunc a1 a2 a3) with
    | some p => rfl
    | none => rfl
  case slice a1 a2 a3 a4 a5 =>
    show doQ (qop ty fr.ev h (.slice a1 a2 a3 a4 a5)) fr h d = (match qop ty fr.ev h (.slice a1 a2 a3 a4 a5) with | some v => _ | none => _)
    cases qop ty fr.ev h (.slice a1 a2 a3 a4 a5) with
    | some p => rfl
    | none => rfl
  case lookup a1 a2 a3 a4 =>
    show doQ (qop ty fr.ev h (.lookup a1 a2 a3 a4)) fr h d = (match qop ty fr.ev h (.lookup a1 a2 a3 a4) with | some v => _ | none => _)
    cases qop ty fr.ev h (.lookup a1 a2 a3 a4) with
    | some p => rfl
    | none => rfl
  case entry a1 =>
    show doQ (qop ty fr.ev h (.entry a1)) fr h d = (match qop ty fr.ev h (.entry a1) with | some v => _ | none => _)
    cases qop ty fr.ev h (.entry a1) with
    | some p => rfl
    | none => rfl
  case call a1 =>
    cases hc : a1.callee with
    | builtin b =>
      have e1 : fq_call ty fr.ev h a1 = qop ty fr.ev h (.call a1) := rfl
      have e2 : fe_call ty fr.ev h a1 = eop ty fr.ev h (.call a1) := rfl
      have e3 : callA fr.ev a1 = none := by unfold callA; rw [hc]
      show (match a1.callee with | .builtin _ => _ | _ => _) = _
      rw [hc]
      simp only [tailOp]
      rw [e1, e2, e3]
      cases qop ty fr.ev h (.call a1) with
      | some v => rfl
      | none =>
        show _ = (match eop ty fr.ev h (.call a1) with | some (v, h') => _ | none => _)
        cases eop ty fr.ev h (.call a1) with
        | some p => rfl
        | none => rfl
    | value f =>
      have e1 : qop ty fr.ev h (.call a1) = none := by simp only [qop, hc]
      have e2 : eop ty fr.ev h (.call a1) = none := by simp only [eop, hc]
      show (match a1.callee with | .builtin _ => _ | _ => _) = _
      rw [hc]
      simp only [tailOp, e1, e2, alop, doF]
    | invoke f m =>
      have e1 : qop ty fr.ev h (.call a1) = none := by simp only [qop, hc]
      have e2 : eop ty fr.ev h (.call a1) = none := by simp only [eop, hc]
      show (match a1.callee with | .builtin _ => _ | _ => _) = _
      rw [hc]
      simp only [tailOp, e1, e2, alop, doF]
  case alloc a1 =>
    show doA (alop ty fr.ev (.alloc a1)) fr h d = (match alop ty fr.ev (.alloc a1) with | some (ob, v) => _ | none => _)
    cases alop ty fr.ev (.alloc a1) with
    | some p => rfl
    | none => rfl
  case box a1 a2 =>
    show doA (alop ty fr.ev (.box a1 a2)) fr h d = (match alop ty fr.ev (.box a1 a2) with | some (ob, v) => _ | none => _)
    cases alop ty fr.ev (.box a1 a2) with
    | some p => rfl
    | none => rfl
  case buildSlice a1 a2 a3 =>
    show doA (alop ty fr.ev (.buildSlice a1 a2 a3)) fr h d = (match alop ty fr.ev (.buildSlice a1 a2 a3) with | some (ob, v) => _ | none => _)
    cases alop ty fr.ev (.buildSlice a1 a2 a3) with
    | some p => rfl
    | none => rfl
  case makeSlice a1 a2 a3 =>
    show doA (alop ty fr.ev (.makeSlice a1 a2 a3)) fr h d = (match alop ty fr.ev (.makeSlice a1 a2 a3) with | some (ob, v) => _ | none => _)
    cases alop ty fr.ev (.makeSlice a1 a2 a3) with
    | some p => rfl
    | none => rfl
  case makeMap a1 a2 =>
    show doA (alop ty fr.ev (.makeMap a1 a2)) fr h d = (match alop ty fr.ev (.makeMap a1 a2) with | some (ob, v) => _ | none => _)
    cases alop ty fr.ev (.makeMap a1 a2) with
    | some p => rfl
    | none => rfl
  case store a1 a2 a3 =>
    show doE (eop ty fr.ev h (.store a1 a2 a3)) fr d = (match eop ty fr.ev h (.store a1 a2 a3) with | some (v, h') => _ | none => _)
    cases eop ty fr.ev h (.store a1 a2 a3) with
    | some p => rfl
    | none => rfl
  case mapUpdate a1 a2 a3 a4 =>
    show doE (eop ty fr.ev h (.mapUpdate a1 a2 a3 a4)) fr d = (match eop ty fr.ev h (.mapUpdate a1 a2 a3 a4) with | some (v, h') => _ | none => _)
    cases eop ty fr.ev h (.mapUpdate a1 a2 a3 a4) with
    | some p => rfl
    | none => rfl
  case mapEntry a1 a2 a3 =>
    show doE (eop ty fr.ev h (.mapEntry a1 a2 a3)) fr d = (match eop ty fr.ev h (.mapEntry a1 a2 a3) with | some (v, h') => _ | none => _)
    cases eop ty fr.ev h (.mapEntry a1 a2 a3) with
    | some p => rfl
    | none => rfl
  case entryStore a1 a2 a3 a4 =>
    show doE (eop ty fr.ev h (.entryStore a1 a2 a3 a4)) fr d = (match eop ty fr.ev h (.entryStore a1 a2 a3 a4) with | some (v, h') => _ | none => _)
    cases eop ty fr.ev h (.entryStore a1 a2 a3 a4) with
    | some p => rfl
    | none => rfl
  case range a1 a2 =>
    show doE (eop ty fr.ev h (.range a1 a2)) fr d = (match eop ty fr.ev h (.range a1 a2) with | some (v, h') => _ | none => _)
    cases eop ty fr.ev h (.range a1 a2) with
    | some p => rfl
    | none => rfl
  case next a1 a2 =>
    show doE (eop ty fr.ev h (.next a1 a2)) fr d = (match eop ty fr.ev h (.next a1 a2) with | some (v, h') => _ | none => _)
    cases eop ty fr.ev h (.next a1 a2) with
    | some p => rfl
    | none => rfl
  all_goals rfl

noncomputable def runOpF (ty : Ty) (call : CallK) (dstOf : Nat → Option Tmp) (o : Oper) (fr : Fr) (h : Heap) : Res :=
  match wantedA fr dstOf o.guard with
  | none => .bad 1
  | some false => put? fr o.dst (.tu []) h 2
  | some true => doOp ty call fr h o.dst o.op

theorem runOpF_eq (ty : Ty) (call : CallK) (dstOf : Nat → Option Tmp) (o : Oper) (fr : Fr) (h : Heap) : runOpF ty call dstOf o fr h = runOp ty call dstOf o fr h := by
  unfold runOpF runOp
  rw [doOp_eq]
  rfl

noncomputable def runOpsF (ty : Ty) (call : CallK) (dstOf : Nat → Option Tmp) (l : List Oper) : Fr → Heap → Res :=
  List.rec (motive := fun _ => Fr → Heap → Res) (fun fr h => .nrm fr h) (fun o _ ih fr h => match runOpF ty call dstOf o fr h with
    | .nrm fr h => ih fr h
    | r => r) l

theorem runOpsF_eq (ty : Ty) (call : CallK) (dstOf : Nat → Option Tmp) : ∀ (l : List Oper) (fr : Fr) (h : Heap), runOpsF ty call dstOf l fr h = runOps ty call dstOf l fr h
  | [], fr, h => rfl
  | o :: l, fr, h => by
    show (match runOpF ty call dstOf o fr h with | .nrm fr h => runOpsF ty call dstOf l fr h | r => r) = (match runOp ty call dstOf o fr h with | .nrm fr h => runOps ty call dstOf l fr h | r => r)
    rw [runOpF_eq]
    cases runOp ty call dstOf o fr h <;> first | rfl | exact runOpsF_eq ty call dstOf l _ _

noncomputable def stepF (ty : Ty) (call : CallK) (dr : Array Oper → Fr → Heap → Res) (ih : K) (ihScope : Code → K) (c : Code) (fr : Fr) (h : Heap) : Res :=
  match c with
  | .skip => .nrm fr h
  | .label _ => .nrm fr h
  | .exit id => .exit id fr h
  | .goto l => .goto l fr h
  | .ret => .ret fr h
  | .region _ ops d => cnd d (dr ops fr h) (runOpsF ty call (fun j => (ops.toList[j]?).bind (·.dst)) ops.toList fr h)
  | .seq a b => match ih a fr h with
    | .nrm fr h => ih b fr h
    | r => r
  | .cond x a b => match evS fr.ev x with
    | some (.b t) => cnd t (ih a fr h) (ih b fr h)
    | _ => .bad 10
  | .block id b => exitOf id (ih b fr h)
  | .loop b => match ih b fr h with
    | .nrm fr h => ih (.loop b) fr h
    | r => r
  | .scope b => ihScope b b fr h
  | _ => .bad 11

theorem stepF_eq (ty : Ty) (call : CallK) (dr : Array Oper → Fr → Heap → Res) (ih : K) (ihScope : Code → K) : stepF ty call dr ih ihScope = step ty call dr ih ihScope := by
  funext c fr h
  cases c with
  | region id ops d =>
    show cnd d (dr ops fr h) (runOpsF ty call _ ops.toList fr h) = cnd d (dr ops fr h) (runOps ty call _ ops.toList fr h)
    rw [runOpsF_eq]
  | _ => rfl

noncomputable def ksF (ty : Ty) (fs : Fns) (dr : DrK) (o : CallK → CallK) (n : Nat) : Ks :=
  Nat.rec (motive := fun _ => Ks) ⟨fun _ _ _ => .bad 0, fun _ _ _ _ => .bad 0, fun _ _ _ => .bad 0⟩
    (fun _ s => ⟨stepF ty s.c (dr s.c) s.k s.sc, stepScope s.k s.sc, o (callF ty fs s.k)⟩) n

theorem ksF_eq (ty : Ty) (fs : Fns) (dr : DrK) (o : CallK → CallK) : ∀ n, ksF ty fs dr o n = ks ty fs dr o n
  | 0 => rfl
  | n + 1 => by
    show Ks.mk (stepF ty (ksF ty fs dr o n).c (dr (ksF ty fs dr o n).c) (ksF ty fs dr o n).k (ksF ty fs dr o n).sc) (stepScope (ksF ty fs dr o n).k (ksF ty fs dr o n).sc) (o (callF ty fs (ksF ty fs dr o n).k)) = stepKs ty fs dr o (ks ty fs dr o n)
    rw [ksF_eq ty fs dr o n, stepF_eq]
    rfl

end Go.Proofs.YtmjogmpgamlhaaaGreat.Dm
