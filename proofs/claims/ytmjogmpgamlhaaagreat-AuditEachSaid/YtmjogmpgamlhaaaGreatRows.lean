/-
  No cell of these rows narrows 'for every input' (looked for: loops, veiled, ifaces, maps, wideKeys, modest, calm, conditions, laid).
  DERIVED. THE GIVEN ROWS OF THIS SEAT. 4 by the template 'for every input the law returns true; each argument reads behind the call as it read before'; 0 by the template 'total and deterministic' (their statements: YtmjogmpgamlhaaaGreatTotals.lean).
  GIVEN WITH THE SEED: the statements are not yours to turn. If you find one false, say at which input.
  Laid BY PROGRAM, IN A SANDBOX (cutbox-rows.mjs): the forced cells as the released guide's own fill.sh prints them over the translation 5c82a9df820cb16c… (all of the seat's roots in one cut). By AI agents, Wed Nov 11 2026. No macro, syntax, notation, axiom, sorry.
-/
import Derived.Test.YtmjogmpgamlhaaaGreatChecked
import GoSem.Claim
import GoSem.ClaimJoined
import GoSem.ClaimMapViews
import Derived.JoinedTies
import Derived.KernelRfl
namespace Go.Proofs.YtmjogmpgamlhaaaGreat
/- THE CELL 'sum', in the pinned program and in every row, IS THE sha256 OF THE DUMP (.gsa) THAT YtmjogmpgamlhaaaGreatProg.lean LOADS. Nothing in Lean hashes anything: it is a label: what it is worth is what the hold of that sum in a sandbox is worth. -/
noncomputable def Tryz.pinned : Pinned := { name := "ytmjogmpgamlhaaagreat", sum := "5c82a9df820cb16c30ea15dcebc9c50693697bc7ea28955755b66bffaac83fa6", checked := Tryz.checked }
namespace Rows
def none {H : Type} : Left H := { results := [], args := [] }

/-- 'demesnetop.TopWarm': WHATEVER THE INPUT: true; the input reads as it did. -/
def topWarmSpec : ChangeSpec := { name := "topWarm", fn := fun _ => fun
  | [d1, d2] => { results := [.lit (.bool true)], args := [d1, d2] }
  | _ => none }
def topWarmRow : OpenClaim := { program := "ytmjogmpgamlhaaagreat", sum := "5c82a9df820cb16c30ea15dcebc9c50693697bc7ea28955755b66bffaac83fa6", func := "demesne/demesnetop.TopWarm", spec := "topWarm", inPlace := ["slices.overlaps[int]"], unfollowed := true, recurses := true, plainKeys := false, apart := false }
def TopWarmSaid : Prop := topWarmRow.holds Tryz.pinned (OpenSpec.ofChange topWarmSpec)

/-- ITS FALSE NEIGHBOUR: 'it returns false'. Refute it at one input. -/
def topWarmWrong : ChangeSpec := { name := "topWarm", fn := fun _ => fun
  | [d1, d2] => { results := [.lit (.bool false)], args := [d1, d2] }
  | _ => none }
def TopWarmWrongFalsely : Prop := topWarmRow.holds Tryz.pinned (OpenSpec.ofChange topWarmWrong)

/-- 'demesnelaw28.AuditEach': WHATEVER THE INPUT: true; the input reads as it did. -/
def auditEachSpec : ChangeSpec := { name := "auditEach", fn := fun _ => fun
  | [d] => { results := [.lit (.bool true)], args := [d] }
  | _ => none }
def auditEachRow : OpenClaim := { program := "ytmjogmpgamlhaaagreat", sum := "5c82a9df820cb16c30ea15dcebc9c50693697bc7ea28955755b66bffaac83fa6", func := "demesne/demesnelaw28.AuditEach", spec := "auditEach", inPlace := ["slices.overlaps[int]"], unfollowed := true, recurses := true, plainKeys := false, apart := false }
def AuditEachSaid : Prop := auditEachRow.holds Tryz.pinned (OpenSpec.ofChange auditEachSpec)

/-- ITS FALSE NEIGHBOUR: 'it returns false'. Refute it at one input. -/
def auditEachWrong : ChangeSpec := { name := "auditEach", fn := fun _ => fun
  | [d] => { results := [.lit (.bool false)], args := [d] }
  | _ => none }
def AuditEachWrongFalsely : Prop := auditEachRow.holds Tryz.pinned (OpenSpec.ofChange auditEachWrong)

/-- 'demesnelaw23.ReclaimLogs': WHATEVER THE INPUT: true; the input reads as it did. -/
def reclaimLogsSpec : ChangeSpec := { name := "reclaimLogs", fn := fun _ => fun
  | [d1, d2] => { results := [.lit (.bool true)], args := [d1, d2] }
  | _ => none }
def reclaimLogsRow : OpenClaim := { program := "ytmjogmpgamlhaaagreat", sum := "5c82a9df820cb16c30ea15dcebc9c50693697bc7ea28955755b66bffaac83fa6", func := "demesne/demesnelaw23.ReclaimLogs", spec := "reclaimLogs", inPlace := ["slices.overlaps[int]"], unfollowed := true, recurses := true, plainKeys := false, apart := false }
def ReclaimLogsSaid : Prop := reclaimLogsRow.holds Tryz.pinned (OpenSpec.ofChange reclaimLogsSpec)

/-- ITS FALSE NEIGHBOUR: 'it returns false'. Refute it at one input. -/
def reclaimLogsWrong : ChangeSpec := { name := "reclaimLogs", fn := fun _ => fun
  | [d1, d2] => { results := [.lit (.bool false)], args := [d1, d2] }
  | _ => none }
def ReclaimLogsWrongFalsely : Prop := reclaimLogsRow.holds Tryz.pinned (OpenSpec.ofChange reclaimLogsWrong)

/-- 'demesnelaw36.MoveCounts': WHATEVER THE INPUT: true; the input reads as it did. -/
def moveCountsSpec : ChangeSpec := { name := "moveCounts", fn := fun _ => fun
  | [d1, d2] => { results := [.lit (.bool true)], args := [d1, d2] }
  | _ => none }
def moveCountsRow : OpenClaim := { program := "ytmjogmpgamlhaaagreat", sum := "5c82a9df820cb16c30ea15dcebc9c50693697bc7ea28955755b66bffaac83fa6", func := "demesne/demesnelaw36.MoveCounts", spec := "moveCounts", inPlace := ["slices.overlaps[int]"], unfollowed := true, recurses := true, plainKeys := false, apart := false }
def MoveCountsSaid : Prop := moveCountsRow.holds Tryz.pinned (OpenSpec.ofChange moveCountsSpec)

/-- ITS FALSE NEIGHBOUR: 'it returns false'. Refute it at one input. -/
def moveCountsWrong : ChangeSpec := { name := "moveCounts", fn := fun _ => fun
  | [d1, d2] => { results := [.lit (.bool false)], args := [d1, d2] }
  | _ => none }
def MoveCountsWrongFalsely : Prop := moveCountsRow.holds Tryz.pinned (OpenSpec.ofChange moveCountsWrong)

/- THE SECOND FORM. 'bulk': how many values and letters a reading holds, each counted each time it is reached (what is shared counts as often as it is met; a slice's spare places count too). A statement '..UptoSaid' is the law's where the arguments, and the package variables that the reading takes, are together of bulk at most 1048576: NARROWER than '..Said'. Prove '..Said' where nothing that the law and all that it calls make is longer than what came in: it says more and counts as full. Else prove '..UptoSaid'. A law counts once. -/
mutual
def uptoBulk {H : Type} : DataW H → Nat
  | .lit (.string bytes) => bytes.length + 1
  | .lit _ => 1
  | .nil => 1
  | .ptr d => uptoBulk d + 1
  | .slice elems spare => uptoBulkAll elems + uptoBulkAll spare + 1
  | .agg parts => uptoBulkAll parts + 1
  | .iface _ d => uptoBulk d + 1
  | .map entries => uptoBulkEntries entries + 1
  | .held _ => 1
def uptoBulkAll {H : Type} : List (DataW H) → Nat
  | [] => 0
  | d :: r => uptoBulk d + uptoBulkAll r
def uptoBulkEntries {H : Type} : List (Lit × DataW H) → Nat
  | [] => 0
  | x :: r => uptoBulkEntry x + uptoBulkEntries r
def uptoBulkEntry {H : Type} : Lit × DataW H → Nat
  | (.string bytes, d) => bytes.length + uptoBulk d + 1
  | (_, d) => uptoBulk d + 1
 end
def uptoSmall : (H : Type) → List (DataW H) → Bool := fun _ ds => decide (uptoBulkAll ds ≤ 1048576)
def OpenSpec.upto (s : _root_.Go.ChangeSpec) : _root_.Go.OpenSpec := { _root_.Go.OpenSpec.ofChange s with cond := some uptoSmall }

/-- 'demesnetop.TopWarm', WHERE WHAT IT READS IS OF BULK AT MOST 1048576: true; the input reads as it did. -/
def topWarmUptoRow : OpenClaim := { program := "ytmjogmpgamlhaaagreat", sum := "5c82a9df820cb16c30ea15dcebc9c50693697bc7ea28955755b66bffaac83fa6", func := "demesne/demesnetop.TopWarm", spec := "topWarm", inPlace := ["slices.overlaps[int]"], unfollowed := true, recurses := true, plainKeys := false, apart := false, narrowed := true }
def TopWarmUptoSaid : Prop := topWarmUptoRow.holds Tryz.pinned (OpenSpec.upto topWarmSpec)

/-- 'demesnelaw28.AuditEach', WHERE WHAT IT READS IS OF BULK AT MOST 1048576: true; the input reads as it did. -/
def auditEachUptoRow : OpenClaim := { program := "ytmjogmpgamlhaaagreat", sum := "5c82a9df820cb16c30ea15dcebc9c50693697bc7ea28955755b66bffaac83fa6", func := "demesne/demesnelaw28.AuditEach", spec := "auditEach", inPlace := ["slices.overlaps[int]"], unfollowed := true, recurses := true, plainKeys := false, apart := false, narrowed := true }
def AuditEachUptoSaid : Prop := auditEachUptoRow.holds Tryz.pinned (OpenSpec.upto auditEachSpec)

/-- 'demesnelaw23.ReclaimLogs', WHERE WHAT IT READS IS OF BULK AT MOST 1048576: true; the input reads as it did. -/
def reclaimLogsUptoRow : OpenClaim := { program := "ytmjogmpgamlhaaagreat", sum := "5c82a9df820cb16c30ea15dcebc9c50693697bc7ea28955755b66bffaac83fa6", func := "demesne/demesnelaw23.ReclaimLogs", spec := "reclaimLogs", inPlace := ["slices.overlaps[int]"], unfollowed := true, recurses := true, plainKeys := false, apart := false, narrowed := true }
def ReclaimLogsUptoSaid : Prop := reclaimLogsUptoRow.holds Tryz.pinned (OpenSpec.upto reclaimLogsSpec)

/-- 'demesnelaw36.MoveCounts', WHERE WHAT IT READS IS OF BULK AT MOST 1048576: true; the input reads as it did. -/
def moveCountsUptoRow : OpenClaim := { program := "ytmjogmpgamlhaaagreat", sum := "5c82a9df820cb16c30ea15dcebc9c50693697bc7ea28955755b66bffaac83fa6", func := "demesne/demesnelaw36.MoveCounts", spec := "moveCounts", inPlace := ["slices.overlaps[int]"], unfollowed := true, recurses := true, plainKeys := false, apart := false, narrowed := true }
def MoveCountsUptoSaid : Prop := moveCountsUptoRow.holds Tryz.pinned (OpenSpec.upto moveCountsSpec)

end Rows
end Go.Proofs.YtmjogmpgamlhaaaGreat
