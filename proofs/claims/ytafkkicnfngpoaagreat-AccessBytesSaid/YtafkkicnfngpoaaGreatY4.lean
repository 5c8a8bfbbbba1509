/- What is checked of the runs of the machine: stores and loads at any place of a page. -/
import Derived.Test.YtafkkicnfngpoaaGreatY3
set_option linter.unusedVariables false
set_option linter.unusedSimpArgs false
set_option linter.unusedSectionVars false
namespace Go.Proofs.YtafkkicnfngpoaaGreat
open Go Go.RowKit Go.Lib Go.Proofs.YtafkkicnfngpoaaGreat.Dm

noncomputable def pN : AV := .cv (.sc (.p 11 0))
noncomputable def nI (n : Nat) : AV := .cv (.sc (.i .i64 (.ofNat n)))
noncomputable def nU (n : Nat) : AV := .cv (.sc (.i .u64 (.ofNat n)))
noncomputable def vA : AV := .cv (.sc (.rg .u64 5 [] 0 18446744073709551615 1 0))
noncomputable def pA (hi m r : Nat) : AV := .cv (.sc (.rg .u64 1 [] 24576 hi m r))
noncomputable def doY (p : AV) (kind size : Nat) (v : AV) : List AV := [pN, nI 1, p, nI kind, nI size, v, nI 0]
noncomputable def opsP : List (Nat × Nat) := [(1, 4096), (0, 40960), (1, 4096)]
noncomputable def lookRow (f : Nat) : List ME → Option Nat
  | [] => none
  | e :: l => match e.key with
    | .sc (.i _ (.ofNat n)) => cnd (Nat.beq n f) (match e.val with
      | .sc (.sl b _ _ _ _ _) => some b
      | _ => none) (lookRow f l)
    | _ => none
noncomputable def rowOf (t : Tr AO) : Nat := match t.get 12 with
  | some (.map es _) => match lookRow 10 es with
    | some b => b
    | none => 901
  | _ => 901
noncomputable def sg (b' : Nat) (b : Nat) : Nat := cnd (Nat.beq b 901) b' b
noncomputable def dl (a b : Nat) (i : Nat) : Option (Nat × Nat) := some (cnd (Nat.beq i 0) (a, b) (0, 0))
/-- The state behind a load. -/
noncomputable def nxL (i : Nat) : Nat := cnd (Nat.beq i 0) 1 i

noncomputable def okR (val : SV → Bool) (page : Nat → Bool) (er : Nat → Bool) : AV → Bool
  | .tu [.sc x, .sc (.i .u64 (.ofNat p)), .ag [.i .i64 _, .i .i64 _, .i .i64 _, .i .u64 _, .b _], .sc _, .sc (.i .i64 (.ofNat e))] => val x && (page p && er e)
  | .tu [.sc x, .sc (.i .u64 (.ofNat p)), .ag [.i .i64 _, .i .i64 _, .i .i64 _, .rg .u64 _ _ _ _ _ _, .b _], .sc _, .sc (.i .i64 (.ofNat e))] => val x && (page p && er e)
  | _ => false

noncomputable def chkY (args : List AV) (ok : AV → Bool) (i j : Nat) (ep : Bool × Puts) (a b : Nat) : Bool := match (evY 600).c 9 args (ST i) with
  | .ok v h => ok v && (Nat.ble h.next (atomKey 0) && (injL (mapN (sg (rowOf h.t)) (SL j)) && mtAll ep (sg (rowOf h.t)) (dl a b) 1000 h.t (ST j).t (SL j)))
  | _ => false
noncomputable def anyV (_ : SV) : Bool := true
noncomputable def anyN (_ : Nat) : Bool := true
noncomputable def isN (n m : Nat) : Bool := Nat.beq m n
noncomputable def vOf (i s : Nat) : SV := match i with
  | 2 => .gt false [] 1 opsP s
  | _ => .i .u64 (.ofNat 0)
noncomputable def isV (x y : SV) : Bool := sveq y x
/-- A store, a load, of s bytes. -/
noncomputable def chkS (i s : Nat) : Bool := chkY (doY (pA (Nat.sub 28672 s) s 0) 2 s vA) (okR anyV anyN (isN 0)) i 2 (Nat.blt i 2, [(1, opsP, s, 5)]) 0 1
noncomputable def chkLd (i s : Nat) : Bool := chkY (doY (pA (Nat.sub 28672 s) s 0) 1 s (nU 0)) (okR (isV (vOf i s)) anyN (isN 0)) i (nxL i) (false, []) 1 0
/-- One that is not aligned; one beyond the page. -/
noncomputable def chkM (s : Nat) : Bool := chkY (doY (pA 28671 s 1) 1 s (nU 0)) (okR anyV anyN (isN 3)) 2 2 (false, []) 0 0
noncomputable def chkF : Bool := chkY (doY (nU 28672) 1 2 (nU 0)) (okR anyV anyN anyN) 2 2 (false, []) 0 0
noncomputable def chkLL (i : Nat) : Prop := pick (ST i).t (SL i) = (ST i).t
end Go.Proofs.YtafkkicnfngpoaaGreat
