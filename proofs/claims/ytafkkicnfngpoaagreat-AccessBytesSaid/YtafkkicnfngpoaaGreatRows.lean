/-
  No cell of these rows narrows 'for every input' (looked for: loops, veiled, ifaces, maps, wideKeys, modest, calm, conditions, laid).
  DERIVED. THE GIVEN ROWS OF THIS SEAT. 4 by the template 'for every input the law returns true; each argument reads behind the call as it read before'; 0 by the template 'total and deterministic' (their statements: YtafkkicnfngpoaaGreatTotals.lean).
  GIVEN WITH THE SEED: the statements are not yours to turn. If you find one false, say at which input.
  Laid BY PROGRAM, IN A SANDBOX (cutbox-rows.mjs): the forced cells as the released guide's own fill.sh prints them over the translation c195a83b1622d8a5… (all of the seat's roots in one cut). By AI agents, Wed Nov 11 2026. No macro, syntax, notation, axiom, sorry.
-/
import Derived.Test.YtafkkicnfngpoaaGreatChecked
import GoSem.Claim
import GoSem.ClaimJoined
import GoSem.ClaimMapViews
import Derived.JoinedTies
import Derived.KernelRfl
namespace Go.Proofs.YtafkkicnfngpoaaGreat
/- THE CELL 'sum', in the pinned program and in every row, IS THE sha256 OF THE DUMP (.gsa) THAT YtafkkicnfngpoaaGreatProg.lean LOADS. Nothing in Lean hashes anything: it is a label: what it is worth is what the hold of that sum in a sandbox is worth. -/
noncomputable def Tryz.pinned : Pinned := { name := "ytafkkicnfngpoaagreat", sum := "c195a83b1622d8a5d5cc920fb0e053914fe3cfb8976afa32677528a3b39dd7be", checked := Tryz.checked }
namespace Rows
def none {H : Type} : Left H := { results := [], args := [] }

/-- 'demesnelaw25.AccessHeats': WHATEVER THE INPUT: true; the input reads as it did. -/
def accessHeatsSpec : ChangeSpec := { name := "accessHeats", fn := fun _ => fun
  | [d] => { results := [.lit (.bool true)], args := [d] }
  | _ => none }
def accessHeatsRow : OpenClaim := { program := "ytafkkicnfngpoaagreat", sum := "c195a83b1622d8a5d5cc920fb0e053914fe3cfb8976afa32677528a3b39dd7be", func := "demesne/demesnelaw25.AccessHeats", spec := "accessHeats", inPlace := ["slices.overlaps[int]"], unfollowed := true, recurses := true, plainKeys := false, apart := false }
def AccessHeatsSaid : Prop := accessHeatsRow.holds Tryz.pinned (OpenSpec.ofChange accessHeatsSpec)

/-- ITS FALSE NEIGHBOUR: 'it returns false'. Refute it at one input. -/
def accessHeatsWrong : ChangeSpec := { name := "accessHeats", fn := fun _ => fun
  | [d] => { results := [.lit (.bool false)], args := [d] }
  | _ => none }
def AccessHeatsWrongFalsely : Prop := accessHeatsRow.holds Tryz.pinned (OpenSpec.ofChange accessHeatsWrong)

/-- 'demesnelaw25.AccessBytes': WHATEVER THE INPUT: true; the input reads as it did. -/
def accessBytesSpec : ChangeSpec := { name := "accessBytes", fn := fun _ => fun
  | [d] => { results := [.lit (.bool true)], args := [d] }
  | _ => none }
def accessBytesRow : OpenClaim := { program := "ytafkkicnfngpoaagreat", sum := "c195a83b1622d8a5d5cc920fb0e053914fe3cfb8976afa32677528a3b39dd7be", func := "demesne/demesnelaw25.AccessBytes", spec := "accessBytes", inPlace := ["slices.overlaps[int]"], unfollowed := true, recurses := true, plainKeys := false, apart := false }
def AccessBytesSaid : Prop := accessBytesRow.holds Tryz.pinned (OpenSpec.ofChange accessBytesSpec)

/-- ITS FALSE NEIGHBOUR: 'it returns false'. Refute it at one input. -/
def accessBytesWrong : ChangeSpec := { name := "accessBytes", fn := fun _ => fun
  | [d] => { results := [.lit (.bool false)], args := [d] }
  | _ => none }
def AccessBytesWrongFalsely : Prop := accessBytesRow.holds Tryz.pinned (OpenSpec.ofChange accessBytesWrong)

/-- 'demesnelaw25.AccessLines': WHATEVER THE INPUT: true; the input reads as it did. -/
def accessLinesSpec : ChangeSpec := { name := "accessLines", fn := fun _ => fun
  | [d1, d2, d3] => { results := [.lit (.bool true)], args := [d1, d2, d3] }
  | _ => none }
def accessLinesRow : OpenClaim := { program := "ytafkkicnfngpoaagreat", sum := "c195a83b1622d8a5d5cc920fb0e053914fe3cfb8976afa32677528a3b39dd7be", func := "demesne/demesnelaw25.AccessLines", spec := "accessLines", inPlace := ["slices.overlaps[int]"], unfollowed := true, recurses := true, plainKeys := false, apart := false }
def AccessLinesSaid : Prop := accessLinesRow.holds Tryz.pinned (OpenSpec.ofChange accessLinesSpec)

/-- ITS FALSE NEIGHBOUR: 'it returns false'. Refute it at one input. -/
def accessLinesWrong : ChangeSpec := { name := "accessLines", fn := fun _ => fun
  | [d1, d2, d3] => { results := [.lit (.bool false)], args := [d1, d2, d3] }
  | _ => none }
def AccessLinesWrongFalsely : Prop := accessLinesRow.holds Tryz.pinned (OpenSpec.ofChange accessLinesWrong)

/-- 'demesnelaw24.ShareKinds': WHATEVER THE INPUT: true; the input reads as it did. -/
def shareKindsSpec : ChangeSpec := { name := "shareKinds", fn := fun _ => fun
  | [d1, d2] => { results := [.lit (.bool true)], args := [d1, d2] }
  | _ => none }
def shareKindsRow : OpenClaim := { program := "ytafkkicnfngpoaagreat", sum := "c195a83b1622d8a5d5cc920fb0e053914fe3cfb8976afa32677528a3b39dd7be", func := "demesne/demesnelaw24.ShareKinds", spec := "shareKinds", inPlace := ["slices.overlaps[int]"], unfollowed := true, recurses := true, plainKeys := false, apart := false }
def ShareKindsSaid : Prop := shareKindsRow.holds Tryz.pinned (OpenSpec.ofChange shareKindsSpec)

/-- ITS FALSE NEIGHBOUR: 'it returns false'. Refute it at one input. -/
def shareKindsWrong : ChangeSpec := { name := "shareKinds", fn := fun _ => fun
  | [d1, d2] => { results := [.lit (.bool false)], args := [d1, d2] }
  | _ => none }
def ShareKindsWrongFalsely : Prop := shareKindsRow.holds Tryz.pinned (OpenSpec.ofChange shareKindsWrong)

/- THE SECOND FORM. 'bulk': how many values and letters a reading holds, each counted each time it is reached (what is shared counts as often as it is met; a slice's spare places count too). A statement '..UptoSaid' is the law's where the arguments, and the package variables that the reading takes, are together of bulk at most 1048576: NARROWER than '..Said'. Prove '..Said' where nothing that the law and all that it calls make is longer than what came in: it says more and counts as full. Else prove '..UptoSaid'. A law counts once. -/
mutual
def uptoBulk {H : Type} : DataW H → Nat
  | .lit (.string bytes) => bytes.length + 1
  | .lit _ => 1
  | .nil => 1
  | .ptr d => uptoBulk d + 1
  | .slice elems spare => uptoBulkAll elems + uptoBulkAll spare + 1
  | .agg parts => uptoBulkAll parts + 1
  | .iface _ d => uptoBulk d + 1
  | .map entries => uptoBulkEntries entries + 1
  | .held _ => 1
def uptoBulkAll {H : Type} : List (DataW H) → Nat
  | [] => 0
  | d :: r => uptoBulk d + uptoBulkAll r
def uptoBulkEntries {H : Type} : List (Lit × DataW H) → Nat
  | [] => 0
  | x :: r => uptoBulkEntry x + uptoBulkEntries r
def uptoBulkEntry {H : Type} : Lit × DataW H → Nat
  | (.string bytes, d) => bytes.length + uptoBulk d + 1
  | (_, d) => uptoBulk d + 1
 end
def uptoSmall : (H : Type) → List (DataW H) → Bool := fun _ ds => decide (uptoBulkAll ds ≤ 1048576)
def OpenSpec.upto (s : _root_.Go.ChangeSpec) : _root_.Go.OpenSpec := { _root_.Go.OpenSpec.ofChange s with cond := some uptoSmall }

/-- 'demesnelaw25.AccessHeats', WHERE WHAT IT READS IS OF BULK AT MOST 1048576: true; the input reads as it did. -/
def accessHeatsUptoRow : OpenClaim := { program := "ytafkkicnfngpoaagreat", sum := "c195a83b1622d8a5d5cc920fb0e053914fe3cfb8976afa32677528a3b39dd7be", func := "demesne/demesnelaw25.AccessHeats", spec := "accessHeats", inPlace := ["slices.overlaps[int]"], unfollowed := true, recurses := true, plainKeys := false, apart := false, narrowed := true }
def AccessHeatsUptoSaid : Prop := accessHeatsUptoRow.holds Tryz.pinned (OpenSpec.upto accessHeatsSpec)

/-- 'demesnelaw25.AccessBytes', WHERE WHAT IT READS IS OF BULK AT MOST 1048576: true; the input reads as it did. -/
def accessBytesUptoRow : OpenClaim := { program := "ytafkkicnfngpoaagreat", sum := "c195a83b1622d8a5d5cc920fb0e053914fe3cfb8976afa32677528a3b39dd7be", func := "demesne/demesnelaw25.AccessBytes", spec := "accessBytes", inPlace := ["slices.overlaps[int]"], unfollowed := true, recurses := true, plainKeys := false, apart := false, narrowed := true }
def AccessBytesUptoSaid : Prop := accessBytesUptoRow.holds Tryz.pinned (OpenSpec.upto accessBytesSpec)

/-- 'demesnelaw25.AccessLines', WHERE WHAT IT READS IS OF BULK AT MOST 1048576: true; the input reads as it did. -/
def accessLinesUptoRow : OpenClaim := { program := "ytafkkicnfngpoaagreat", sum := "c195a83b1622d8a5d5cc920fb0e053914fe3cfb8976afa32677528a3b39dd7be", func := "demesne/demesnelaw25.AccessLines", spec := "accessLines", inPlace := ["slices.overlaps[int]"], unfollowed := true, recurses := true, plainKeys := false, apart := false, narrowed := true }
def AccessLinesUptoSaid : Prop := accessLinesUptoRow.holds Tryz.pinned (OpenSpec.upto accessLinesSpec)

/-- 'demesnelaw24.ShareKinds', WHERE WHAT IT READS IS OF BULK AT MOST 1048576: true; the input reads as it did. -/
def shareKindsUptoRow : OpenClaim := { program := "ytafkkicnfngpoaagreat", sum := "c195a83b1622d8a5d5cc920fb0e053914fe3cfb8976afa32677528a3b39dd7be", func := "demesne/demesnelaw24.ShareKinds", spec := "shareKinds", inPlace := ["slices.overlaps[int]"], unfollowed := true, recurses := true, plainKeys := false, apart := false, narrowed := true }
def ShareKindsUptoSaid : Prop := shareKindsUptoRow.holds Tryz.pinned (OpenSpec.upto shareKindsSpec)

end Rows
end Go.Proofs.YtafkkicnfngpoaaGreat
