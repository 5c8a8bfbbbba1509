/- The runs that name no page. -/
import Derived.Test.YtcdjgnpjapgoaaaGreatRM
set_option linter.unusedVariables false
set_option linter.unusedSimpArgs false
set_option linter.unusedSectionVars false
namespace Go.Proofs.YtcdjgnpjapgoaaaGreat
open Go Go.RowKit Go.Lib Go.Proofs.YtcdjgnpjapgoaaaGreat.Dm

noncomputable def cN : AV := .cv (.sc (.p 11 0))
noncomputable def nI (n : Nat) : AV := .cv (.sc (.i .i64 (.ofNat n)))
noncomputable def nU (n : Nat) : AV := .cv (.sc (.i .u64 (.ofNat n)))
noncomputable def lookK (f : Nat) : List ME → Option Nat
  | [] => none
  | e :: l => match e.key with
    | .sc (.i _ (.ofNat n)) => cnd (Nat.beq n f) (match e.val with
      | .sc (.sl b _ _ _ _ _) => some b
      | _ => none) (lookK f l)
    | _ => none
/-- The block of the pages' table, and that of the log's words. -/
noncomputable def rowB (t : Tr AO) : Nat := match t.get 12 with
  | some (.map es _) => match lookK 2 es with
    | some b => b
    | none => 9001
  | _ => 9001
noncomputable def wmB (t : Tr AO) : Nat := match t.get 204 with
  | some (.cells r _) => match r.get 1 with
    | some (.m b) => b
    | _ => 9002
  | _ => 9002
noncomputable def sgN (a b x : Nat) : Nat := cnd (Nat.beq x 9001) a (cnd (Nat.beq x 9002) b x)
/-- What names become: the log's word (0), page j's permissions (10 + j). -/
noncomputable def upN (k : Nat) (wu : Up) (bu : Up) (id : Nat) : Up := cnd (Nat.beq id 0) wu (cnd (Nat.beq id (Nat.add 10 k)) bu .keep)
noncomputable def chkU (ev : CallK) (f : Nat) (args : List AV) (g : Heap) (ok : AV → Bool) (g' : Heap) (α : Nat → Up) : Bool := match ev f args g with
  | .ok v h => ok v && (Nat.ble h.next (atomKey 0) && (injL (mapN (sgN (rowB h.t) (wmB h.t)) baseL) && mtF (svU (sgN (rowB h.t) (wmB h.t)) α 10000) (sgN (rowB h.t) (wmB h.t)) 10000 h.t g'.t baseL))
  | _ => false
noncomputable def okN (n : Nat) : AV → Bool
  | .cv (.sc (.i .i64 (.ofNat m))) => Nat.beq m n
  | _ => false
noncomputable def okP (b : Nat) : AV → Bool
  | .cv (.sc (.p b' 0)) => Nat.beq b' b
  | _ => false
/-- A leaf of this page, with all permissions, or with all but to be written. -/
noncomputable def okG (b : Bool) : AV → Bool
  | .tu [.ag [.i .u64 _, .i .i64 _, .b r, .b w, .b x, .i .i64 _, .i .i64 _], .sc (.b t)] => r && (x && (t && beqB w b))
  | _ => false
noncomputable def w0 : List ME := []
noncomputable def wA : List ME := wd (.at .u64 0 255 0)
noncomputable def allK : Up := .keep
noncomputable def evN : CallK := (evG 600).c

/-- 'Written' of a page: the first of all, one that is not yet in the log, one that is. -/
noncomputable def chkW (k : Nat) : Bool :=
  chkU evN 53 [cN, nI 1, nU k] (stt true w0 (viewB k false)) (okN 0) (stt true wA atB) (upN k (.set (2 ^ k)) (.set 195)) &&
  (chkU evN 53 [cN, nI 1, nU k] (stt true (wd (.bw 0 k false false)) (viewB k false)) (okN 0) (stt true wA atB) (upN k (.orB k) (.set 195)) &&
   chkU evN 53 [cN, nI 1, nU k] (stt true (wd (.bw 0 k true false)) (viewB k true)) (okN 0) (stt true wA atB) (upN k .keep (.set 195)))
/-- What a page is mapped to. -/
noncomputable def chkT (k : Nat) (lg : Bool) (b : Bool) : Bool :=
  chkU evN 55 [.cv (.sc (.p 200 0)), nU k] (stt lg w0 (viewB k b)) (okG b) (stt lg w0 atB) (upN k .keep (.set (cnd b 195 67)))
noncomputable def chkT1 (k : Nat) (b : Bool) : Bool :=
  chkU evN 55 [.cv (.sc (.p 200 0)), nU k] (stt true wA (viewB k b)) (okG b) (stt true wA atB) (upN k .keep (.set (cnd b 195 67)))
/-- 'Refresh' of a page, where no page is in the log. -/
noncomputable def chkR (k : Nat) (lg : Bool) (b : Bool) : Bool :=
  chkU evN 118 [cN, nI 1, nU k] (stt lg w0 (viewB k b)) (okN 0) (stt lg w0 atB) (upN k .keep (.set (cnd lg 67 195)))
noncomputable def chkPg (k : Nat) : Bool := chkW k && (chkT k true false && (chkT k false true && (chkT1 k true && (chkT1 k false && (chkR k true true && (chkR k true false && (chkR k false true && chkR k false false)))))))
noncomputable def chk0 (f : Nat) (args : List AV) (ok : AV → Bool) (lg : Bool) (ws : List ME) : Bool := chkU evN f args (stt lg ws atB) ok (stt lg ws atB) (fun _ => .keep)
noncomputable def chkO (lg : Bool) (ws : List ME) : Bool := chk0 26 [cN, nI 1] (okP 200) lg ws && (chk0 108 [cN, nI 1] (okN 0) lg ws && (chk0 109 [cN, nI 1] (okP 204) lg ws && chk0 16 [cN, nI 1] (okP 202) lg ws))
noncomputable def chkS (ws : List ME) : Bool := chkU evN 121 [.cv (.sc (.p 204 0))] (stt true ws atB) (okN 0) (stt false w0 atB) (fun _ => .keep)
noncomputable def okC : AV → Bool
  | .tu [.sc .nsl, .sc (.i .i64 (.ofNat 20))] => true
  | _ => false
noncomputable def okL : AV → Bool
  | .cv (.sc (.sl _ 0 8 8 1 false)) => true
  | _ => false
noncomputable def chkE : Bool := chk0 52 [cN, nI 1] (okN 20) true w0 && (chk0 54 [cN, nI 1] okC false w0 && (chk0 56 [cN, nI 1] (okN 20) false w0 && (chkS w0 && (chkS wA && (chkO true w0 && (chkO true wA && chkO false w0))))))
/-! ### the log's pages are taken out -/
noncomputable def tB (n j : Nat) : Bool := Nat.beq (Nat.land (Nat.div n (2 ^ j)) 1) 1
noncomputable def bitsL (n : Nat) : Nat → List Nat
  | 0 => []
  | j + 1 => bitsL n j ++ cnd (tB n j) [j] []
noncomputable def rowEq (r : Row) (l : List Nat) (i : Nat) : Bool := match l with
  | [] => true
  | a :: l => (match r.get i with
    | some (.i .u64 (.ofNat b)) => Nat.beq b a
    | _ => false) && rowEq r l (Nat.succ i)
noncomputable def okCol (n : Nat) (σ : Nat → Nat) (v : AV) (t : Tr AO) : Bool := match v with
  | .tu [.sc .nsl, .sc (.i .i64 (.ofNat 0))] => Nat.beq n 0
  | .tu [.sc (.sl b 0 len cap 1 ex), .sc (.i .i64 (.ofNat 0))] => Nat.beq len (bitsL n 8).length && (Nat.blt 0 len && (!((mapN σ baseL).any fun x => Nat.beq b x) && (match t.get b with
    | some (.cells r false) => rowEq r (bitsL n 8) 0
    | _ => false)))
  | _ => false
noncomputable def chkCol (n : Nat) : Bool := match evN 119 [.cv (.sc (.p 204 0))] (stt true (wd (.i .u64 (.ofNat n))) atB) with
  | .ok v h => okCol n (sgN (rowB h.t) (wmB h.t)) v h.t && (Nat.ble h.next (atomKey 0) && (injL (mapN (sgN (rowB h.t) (wmB h.t)) baseL) && mtF (svU (sgN (rowB h.t) (wmB h.t)) (fun _ => .keep) 10000) (sgN (rowB h.t) (wmB h.t)) 10000 h.t (stt true w0 atB).t baseL))
  | _ => false
noncomputable def allN : Nat → (Nat → Bool) → Bool
  | 0, _ => true
  | n + 1, f => f n && allN n f
theorem allN_get {n : Nat} {f : Nat → Bool} (h : allN n f = true) : ∀ i, i < n → f i = true := by
  induction n with
  | zero => intro i hi; omega
  | succ n ih =>
    intro i hi
    simp only [allN, Bool.and_eq_true] at h
    by_cases e : i = n
    · rw [e]; exact h.1
    · exact ih h.2 i (by omega)
noncomputable def chkCols (j : Nat) : Bool := allN 32 fun i => chkCol (Nat.add (Nat.mul 32 j) i)
/-- The list of all pages. -/
noncomputable def okList (σ : Nat → Nat) (v : AV) (t : Tr AO) : Bool := match v with
  | .cv (.sc (.sl b 0 8 cap 1 ex)) => !((mapN σ baseL).any fun x => Nat.beq b x) && (match t.get b with
    | some (.cells r false) => rowEq r [0, 1, 2, 3, 4, 5, 6, 7] 0
    | _ => false)
  | _ => false
noncomputable def chkLs : Bool := match evN 64 [.cv (.sc (.p 202 0))] (stt false w0 atB) with
  | .ok v h => okList (sgN (rowB h.t) (wmB h.t)) v h.t && (Nat.ble h.next (atomKey 0) && (injL (mapN (sgN (rowB h.t) (wmB h.t)) baseL) && mtF (svU (sgN (rowB h.t) (wmB h.t)) (fun _ => .keep) 10000) (sgN (rowB h.t) (wmB h.t)) 10000 h.t (stt false w0 atB).t baseL))
  | _ => false
theorem pk0 : pick (stt true w0 atB).t baseL = (stt true w0 atB).t := by kernel_rfl
theorem pk1 : pick (stt true wA atB).t baseL = (stt true wA atB).t := by kernel_rfl
theorem pk2 : pick (stt false w0 atB).t baseL = (stt false w0 atB).t := by kernel_rfl
end Go.Proofs.YtcdjgnpjapgoaaaGreat

namespace Go.Proofs.YtcdjgnpjapgoaaaGreat
open Go Go.Proofs.YtcdjgnpjapgoaaaGreat.Dm
theorem cE : chkE = true := by kernel_rfl
theorem cLs : chkLs = true := by kernel_rfl
end Go.Proofs.YtcdjgnpjapgoaaaGreat
