/- What is checked of the runs of the machine. -/
import Derived.Test.YtafkkicnfngpoaaGreatHT3
set_option linter.unusedVariables false
set_option linter.unusedSimpArgs false
set_option linter.unusedSectionVars false
namespace Go.Proofs.YtafkkicnfngpoaaGreat
open Go Go.RowKit Go.Lib Go.Proofs.YtafkkicnfngpoaaGreat.Dm

noncomputable def pN : AV := .cv (.sc (.p 11 0))
noncomputable def nI (n : Nat) : AV := .cv (.sc (.i .i64 (.ofNat n)))
noncomputable def nU (n : Nat) : AV := .cv (.sc (.i .u64 (.ofNat n)))
/-- The arguments of an access. -/
noncomputable def doA (k what at_ : Nat) : List AV := [pN, nI 1, nU (Nat.add (Nat.mul k 4096) (Nat.mul at_ 8)), nI what, nI 4, .cv (.sc (.un .u64)), nI 0]
noncomputable def frm (k : Nat) : Nat := match k with
  | 0 => 10
  | 1 => 11
  | _ => 28
noncomputable def lookRow (f : Nat) : List ME → Option Nat
  | [] => none
  | e :: l => match e.key with
    | .sc (.i _ (.ofNat n)) => cnd (Nat.beq n f) (match e.val with
      | .sc (.sl b _ _ _ _ _) => some b
      | _ => none) (lookRow f l)
    | _ => none
noncomputable def rowOf (t : Tr AO) (k : Nat) : Nat := match t.get 12 with
  | some (.map es _) => match lookRow (frm k) es with
    | some b => b
    | none => Nat.add 901 k
  | _ => Nat.add 901 k
noncomputable def sg (k b' : Nat) (b : Nat) : Nat := cnd (Nat.beq b (Nat.add 901 k)) b' b
noncomputable def dl (k what : Nat) (i : Nat) : Option (Nat × Nat) := some (cnd (Nat.blt k 3 && Nat.beq i k) (cnd (Nat.beq what 2) (0, 1) (1, 0)) (0, 0))
noncomputable def nth (l : List Nat) : Nat → Nat
  | 0 => match l with
    | a :: _ => a
    | [] => 99
  | n + 1 => match l with
    | _ :: r => nth r n
    | [] => 99
noncomputable def nthL (l : List (List Nat)) : Nat → List Nat
  | 0 => match l with
    | a :: _ => a
    | [] => []
  | n + 1 => match l with
    | _ :: r => nthL r n
    | [] => []
/-- The state behind an access. -/
noncomputable def nx (i k what : Nat) : Nat := cnd (Nat.blt k 3 && Nat.beq what 2) (nth (nthL nxT i) k) (cnd (Nat.beq i 0) 1 i)
noncomputable def okV (k : Nat) : AV → Bool
  | .tu [_, .sc (.i .u64 (.ofNat p)), .ag [.i .i64 _, .i .i64 _, .i .i64 _, .i .u64 _, .b _], _, .sc (.i .i64 (.ofNat e))] => cnd (Nat.blt k 3) (Nat.beq p k && Nat.beq e 0) (!(Nat.beq e 0))
  | _ => false
noncomputable def chk (i k what at_ : Nat) : Bool := match (evG 600).c 9 (doA k what at_) (ST i) with
  | .ok v h => okV k v && (Nat.ble h.next (atomKey 0) && (injL (mapN (sg k (rowOf h.t k)) (SL (nx i k what))) && mtAll (sg k (rowOf h.t k)) (dl k what) 1000 h.t (ST (nx i k what)).t (SL (nx i k what))))
  | _ => false

noncomputable def allN : Nat → (Nat → Bool) → Bool
  | 0, _ => true
  | n + 1, f => f n && allN n f
theorem allN_get {n : Nat} {f : Nat → Bool} (h : allN n f = true) : ∀ i, i < n → f i = true := by
  induction n with
  | zero => intro i hi; omega
  | succ n ih =>
    intro i hi
    simp only [allN, Bool.and_eq_true] at h
    by_cases e : i = n
    · rw [e]; exact h.1
    · exact ih h.2 i (by omega)
/-- All accesses of one page, begun in one state. -/
noncomputable def chkK (i k : Nat) : Bool := allN 3 fun what => allN 4 fun a => chk i k (Nat.succ what) a
/-- A call that leaves the state as it is. -/
noncomputable def chk0 (f : Nat) (args : List AV) (ok : AV → Bool) (i : Nat) : Bool := match (evG 600).c f args (ST i) with
  | .ok v h => ok v && (Nat.ble h.next (atomKey 0) && (injL (mapN (fun b => b) (SL i)) && mtAll (fun b => b) (fun _ => some (0, 0)) 1000 h.t (ST i).t (SL i)))
  | _ => false
noncomputable def okP : AV → Bool
  | .cv (.sc (.p 204 0)) => true
  | _ => false
noncomputable def okG (k : Nat) : AV → Bool
  | .cv (.ag [.i .i64 _, .i .i64 _, .b _, .hz j 0 0]) => Nat.beq j k
  | _ => false
noncomputable def okZ : AV → Bool
  | .cv (.ag [.i .i64 (.ofNat 0), .i .i64 (.ofNat 0), .b false, .c 0 0]) => true
  | _ => false
noncomputable def pgs : AV := .cv (.sc (.p 204 0))
noncomputable def chkQ (i : Nat) : Bool := chk0 10 [pN, nI 1] okP i && (allN 3 (fun k => chk0 11 [pgs, nU k] (okG k) i) && chk0 11 [pgs, nU 3] okZ i)
/-- The blocks of each state are these. -/
noncomputable def chkL (i : Nat) : Prop := pick (ST i).t (SL i) = (ST i).t
end Go.Proofs.YtafkkicnfngpoaaGreat
