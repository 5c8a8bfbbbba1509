/- Abstract values, rows and heaps, and the operations of the model on them. -/
import Derived.Test.YtndbccpaccflcaaGreatDmTree
import Derived.Orders
import Derived.Below
set_option linter.unusedVariables false
set_option linter.unusedSimpArgs false
set_option linter.unusedSectionVars false
namespace Go.Proofs.YtndbccpaccflcaaGreat.Dm
open Go

/-- One cell's value. 'sl b o len cap z ex': a slice at place o of block b; z cells an element; ex: cap is its capacity; else it has at least that. -/
inductive SV where
  | b (x : Bool)
  | i (k : IntKind) (n : Int)
  | f (bits : Nat)
  | c (re im : Nat)
  | s (l : List Nat)
  | np
  | p (b o : Nat)
  | nsl
  | sl (b o len cap z : Nat) (ex : Bool)
  | nm
  | m (r : Nat)
  | nfn
  | fn (f : Nat) (first caps : List (Nat × Nat))

inductive CV where
  | sc (x : SV)
  | ag (l : List SV)

inductive AV where
  | cv (x : CV)
  | tu (l : List CV)

noncomputable def CV.cells : CV → List SV
  | .sc x => [x]
  | .ag l => l

/-- A row of n cells: those that the trie lacks are d. -/
structure Row where
  n : Nat
  d : SV
  t : Tr SV

structure ME where
  key : CV
  val : CV
  born : Nat

inductive AO where
  | cells (r : Row) (ro : Bool)
  | map (es : List ME) (ck : Nat)
  | it (m : Option Nat) (since : Nat) (seen : List Nat) (st : Nat)

structure Heap where
  next : Nat
  t : Tr AO

noncomputable def Heap.get (h : Heap) (b : Nat) : Option AO := h.t.get b
noncomputable def Heap.put (h : Heap) (b : Nat) (o : AO) : Heap := Heap.rec (motive := fun _ => Heap) (fun n t => ⟨n, t.put (some o) b⟩) h
noncomputable def Heap.kill (h : Heap) (b : Nat) : Heap := Heap.rec (motive := fun _ => Heap) (fun n t => ⟨n, t.put none b⟩) h
noncomputable def Heap.push (h : Heap) (o : AO) : Heap := Heap.rec (motive := fun _ => Heap) (fun n t => ⟨Nat.succ n, t.put (some o) n⟩) h
noncomputable def Heap.nil : Heap := ⟨0, .e⟩

namespace Row
noncomputable def get (r : Row) (i : Nat) : Option SV := cnd (Nat.blt i r.n) (match r.t.get i with | some v => some v | none => some r.d) none
noncomputable def rep (n : Nat) (d : SV) : Row := ⟨n, d, .e⟩
noncomputable def putAll (t : Tr SV) (i : Nat) : List SV → Tr SV
  | [] => t
  | v :: l => putAll (t.put (some v) i) (Nat.succ i) l
noncomputable def ofList (l : List SV) : Row := ⟨l.length, .np, putAll .e 0 l⟩
/-- The k cells from place o on. -/
noncomputable def read (r : Row) (o : Nat) : Nat → Option (List SV)
  | 0 => some []
  | k + 1 => match r.get o with
    | some v => match read r (Nat.succ o) k with
      | some l => some (v :: l)
      | none => none
    | none => none
/-- Cells laid at place o on. -/
noncomputable def write (r : Row) (o : Nat) (l : List SV) : Option Row :=
  cnd (Nat.ble (Nat.add o l.length) r.n) (some ⟨r.n, r.d, putAll r.t o l⟩) none
/-- A row behind another one. -/
noncomputable def app (r : Row) (l : List SV) : Row := ⟨Nat.add r.n l.length, r.d, putAll r.t r.n l⟩
end Row

/-! ### Types -/

inductive TK where
  | bool | int (k : IntKind) | f64 | c128 | str
  | ptr (e : TypeId) | sl (e : TypeId) | arr (n : Nat) (e : TypeId) | map (k e : TypeId)
  | st (fs : List (Nat × TypeId × Bool)) | fn | other

structure TI where
  k : TK
  size : Nat
  bytes : Nat
  zero : Option CV
  plainEq : Bool

noncomputable def svOf : Value → Option SV
  | .bool b => some (.b b)
  | .int k n => some (.i k n)
  | .float .f64 x => some (.f x)
  | .complex .f64 x y => some (.c x y)
  | .string s => some (.s (s.data.toList.map (·.toNat)))
  | .pointer none => some .np
  | .slice none 0 0 => some .nsl
  | .map none => some .nm
  | .nilFunc => some .nfn
  | .func (.func f) ⟨[]⟩ ⟨[]⟩ => some (.fn f [] [])
  | _ => none

noncomputable def svsOf : List Value → Option (List SV)
  | [] => some []
  | v :: l => match svOf v with
    | some x => match svsOf l with
      | some y => some (x :: y)
      | none => none
    | none => none

noncomputable def cvOf : Value → Option CV
  | .agg cs => match svsOf cs.toList with
    | some l => some (.ag l)
    | none => none
  | v => match svOf v with
    | some x => some (.sc x)
    | none => none

noncomputable def tkOf : TypeDesc → TK
  | .bool => .bool
  | .int k => .int k
  | .float .f64 => .f64
  | .complex .f64 => .c128
  | .string => .str
  | .pointer e => .ptr e
  | .slice e => .sl e
  | .array n e => .arr n e
  | .map k e => .map k e
  | .struct fs => .st (fs.toList.map fun f => (f.offset, f.type, f.name != "_"))
  | .func .. => .fn
  | _ => .other

noncomputable def tiOf (P : Program) (t : TypeId) : Option TI :=
  match P.info? t with
  | some i => match P.underlying t with
    | some d => some ⟨tkOf d, i.size, i.bytes, i.zero.bind cvOf, !P.stoodInHeld t && !P.eqGuardType P.depth t⟩
    | none => none
  | none => none

abbrev Ty := TypeId → Option TI

/-! ### Whole numbers -/

noncomputable def kix : IntKind → Nat
  | .i8 => 0 | .i16 => 1 | .i32 => 2 | .i64 => 3 | .u8 => 4 | .u16 => 5 | .u32 => 6 | .u64 => 7
noncomputable def keq (a b : IntKind) : Bool := Nat.beq (kix a) (kix b)
theorem keq_iff {a b : IntKind} : keq a b = true ↔ a = b := by cases a <;> cases b <;> decide

noncomputable def ieq : Int → Int → Bool
  | .ofNat a, .ofNat b => Nat.beq a b
  | .negSucc a, .negSucc b => Nat.beq a b
  | _, _ => false
noncomputable def ilt : Int → Int → Bool
  | .ofNat a, .ofNat b => Nat.blt a b
  | .ofNat _, .negSucc _ => false
  | .negSucc _, .ofNat _ => true
  | .negSucc a, .negSucc b => Nat.blt b a
noncomputable def ile (a b : Int) : Bool := !(ilt b a)

theorem ieq_eq (a b : Int) : ieq a b = (a == b) := by
  rw [Bool.eq_iff_iff]
  cases a <;> cases b <;> simp [ieq] <;> omega
theorem ilt_eq (a b : Int) : ilt a b = decide (a < b) := by
  rw [Bool.eq_iff_iff]
  cases a <;> cases b <;> simp [ilt, Nat.blt_eq] <;> omega
theorem ile_eq (a b : Int) : ile a b = decide (a ≤ b) := by
  rw [ile, ilt_eq, Bool.eq_iff_iff]; simp

/-- 'wrap', fast where nothing wraps. -/
noncomputable def wr (k : IntKind) (n : Int) : Int :=
  match n with
  | .ofNat a => match k with
    | .i64 => cnd (Nat.blt a 9223372036854775808) (.ofNat a) (k.wrap n)
    | .u64 => cnd (Nat.blt a 18446744073709551616) (.ofNat a) (.ofNat (Nat.mod a 18446744073709551616))
    | .u8 => .ofNat (Nat.mod a 256)
    | _ => k.wrap n
  | .negSucc _ => k.wrap n

theorem wr_eq (k : IntKind) (n : Int) : wr k n = k.wrap n := by
  unfold wr
  cases n with
  | ofNat a =>
    cases k <;> simp only [] <;> try rfl
    · cases h : Nat.blt a 9223372036854775808 with
      | false => rfl
      | true =>
        have := Nat.le_of_ble_eq_true h
        simp only [cnd_true, IntKind.wrap, IntKind.bits, IntKind.signed]
        simp
        omega
    · cases h : Nat.blt a 18446744073709551616 with
      | false => simp [IntKind.wrap, IntKind.bits, IntKind.signed]; rfl
      | true =>
        have := Nat.le_of_ble_eq_true h
        simp only [cnd_true, IntKind.wrap, IntKind.bits, IntKind.signed]
        simp
        omega
  | negSucc a => rfl

end Go.Proofs.YtndbccpaccflcaaGreat.Dm
