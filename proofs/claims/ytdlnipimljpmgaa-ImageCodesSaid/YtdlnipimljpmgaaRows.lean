/-
  No cell of these rows narrows 'for every input' (looked for: loops, veiled, ifaces, maps, wideKeys, modest, calm, conditions, laid).
  DERIVED. THE GIVEN ROWS OF THIS SEAT. 4 by the template 'for every input the law returns true; each argument reads behind the call as it read before'; 0 by the template 'total and deterministic' (their statements: YtdlnipimljpmgaaTotals.lean).
  GIVEN WITH THE SEED: the statements are not yours to turn. If you find one false, say at which input.
  Laid BY PROGRAM, IN A SANDBOX (cutbox-rows.mjs): the forced cells as the released guide's own fill.sh prints them over the translation 071124304158650d… (all of the seat's roots in one cut). By AI agents, Wed Nov 11 2026. No macro, syntax, notation, axiom, sorry.
-/
import Derived.Test.YtdlnipimljpmgaaChecked
import GoSem.Claim
import GoSem.ClaimJoined
import GoSem.ClaimMapViews
import Derived.JoinedTies
import Derived.KernelRfl
namespace Go.Proofs.Ytdlnipimljpmgaa
/- THE CELL 'sum', in the pinned program and in every row, IS THE sha256 OF THE DUMP (.gsa) THAT YtdlnipimljpmgaaProg.lean LOADS. Nothing in Lean hashes anything: it is a label: what it is worth is what the hold of that sum in a sandbox is worth. -/
noncomputable def Try.pinned : Pinned := { name := "ytdlnipimljpmgaa", sum := "071124304158650da81a2e9aa427af831ae83f2a8c949455358f5ca25ca55f09", checked := Try.checked }
namespace Rows
def none {H : Type} : Left H := { results := [], args := [] }

/-- 'demesnelaw35.ImageCodes': WHATEVER THE INPUT: true; the input reads as it did. -/
def imageCodesSpec : ChangeSpec := { name := "imageCodes", fn := fun _ => fun
  | [d1, d2, d3, d4] => { results := [.lit (.bool true)], args := [d1, d2, d3, d4] }
  | _ => none }
def imageCodesRow : OpenClaim := { program := "ytdlnipimljpmgaa", sum := "071124304158650da81a2e9aa427af831ae83f2a8c949455358f5ca25ca55f09", func := "demesne/demesnelaw35.ImageCodes", spec := "imageCodes", recurses := true, plainKeys := false, apart := false }
def ImageCodesSaid : Prop := imageCodesRow.holds Try.pinned (OpenSpec.ofChange imageCodesSpec)

/-- ITS FALSE NEIGHBOUR: 'it returns false'. Refute it at one input. -/
def imageCodesWrong : ChangeSpec := { name := "imageCodes", fn := fun _ => fun
  | [d1, d2, d3, d4] => { results := [.lit (.bool false)], args := [d1, d2, d3, d4] }
  | _ => none }
def ImageCodesWrongFalsely : Prop := imageCodesRow.holds Try.pinned (OpenSpec.ofChange imageCodesWrong)

/-- 'demesnelaw35.ImageReads': WHATEVER THE INPUT: true; the input reads as it did. -/
def imageReadsSpec : ChangeSpec := { name := "imageReads", fn := fun _ => fun
  | [d1, d2, d3, d4, d5, d6, d7, d8] => { results := [.lit (.bool true)], args := [d1, d2, d3, d4, d5, d6, d7, d8] }
  | _ => none }
def imageReadsRow : OpenClaim := { program := "ytdlnipimljpmgaa", sum := "071124304158650da81a2e9aa427af831ae83f2a8c949455358f5ca25ca55f09", func := "demesne/demesnelaw35.ImageReads", spec := "imageReads", recurses := true, plainKeys := false, apart := false }
def ImageReadsSaid : Prop := imageReadsRow.holds Try.pinned (OpenSpec.ofChange imageReadsSpec)

/-- ITS FALSE NEIGHBOUR: 'it returns false'. Refute it at one input. -/
def imageReadsWrong : ChangeSpec := { name := "imageReads", fn := fun _ => fun
  | [d1, d2, d3, d4, d5, d6, d7, d8] => { results := [.lit (.bool false)], args := [d1, d2, d3, d4, d5, d6, d7, d8] }
  | _ => none }
def ImageReadsWrongFalsely : Prop := imageReadsRow.holds Try.pinned (OpenSpec.ofChange imageReadsWrong)

/-- 'demesnelaw35.ImageBack': WHATEVER THE INPUT: true; the input reads as it did. -/
def imageBackSpec : ChangeSpec := { name := "imageBack", fn := fun _ => fun
  | [d1, d2, d3, d4, d5] => { results := [.lit (.bool true)], args := [d1, d2, d3, d4, d5] }
  | _ => none }
def imageBackRow : OpenClaim := { program := "ytdlnipimljpmgaa", sum := "071124304158650da81a2e9aa427af831ae83f2a8c949455358f5ca25ca55f09", func := "demesne/demesnelaw35.ImageBack", spec := "imageBack", recurses := true, plainKeys := false, apart := false }
def ImageBackSaid : Prop := imageBackRow.holds Try.pinned (OpenSpec.ofChange imageBackSpec)

/-- ITS FALSE NEIGHBOUR: 'it returns false'. Refute it at one input. -/
def imageBackWrong : ChangeSpec := { name := "imageBack", fn := fun _ => fun
  | [d1, d2, d3, d4, d5] => { results := [.lit (.bool false)], args := [d1, d2, d3, d4, d5] }
  | _ => none }
def ImageBackWrongFalsely : Prop := imageBackRow.holds Try.pinned (OpenSpec.ofChange imageBackWrong)

/-- 'demesnelaw35.ImageSums': WHATEVER THE INPUT: true; the input reads as it did. -/
def imageSumsSpec : ChangeSpec := { name := "imageSums", fn := fun _ => fun
  | [d1, d2, d3, d4, d5, d6] => { results := [.lit (.bool true)], args := [d1, d2, d3, d4, d5, d6] }
  | _ => none }
def imageSumsRow : OpenClaim := { program := "ytdlnipimljpmgaa", sum := "071124304158650da81a2e9aa427af831ae83f2a8c949455358f5ca25ca55f09", func := "demesne/demesnelaw35.ImageSums", spec := "imageSums", recurses := true, plainKeys := false, apart := false }
def ImageSumsSaid : Prop := imageSumsRow.holds Try.pinned (OpenSpec.ofChange imageSumsSpec)

/-- ITS FALSE NEIGHBOUR: 'it returns false'. Refute it at one input. -/
def imageSumsWrong : ChangeSpec := { name := "imageSums", fn := fun _ => fun
  | [d1, d2, d3, d4, d5, d6] => { results := [.lit (.bool false)], args := [d1, d2, d3, d4, d5, d6] }
  | _ => none }
def ImageSumsWrongFalsely : Prop := imageSumsRow.holds Try.pinned (OpenSpec.ofChange imageSumsWrong)

/- THE SECOND FORM. 'bulk': how many values and letters a reading holds, each counted each time it is reached (what is shared counts as often as it is met; a slice's spare places count too). A statement '..UptoSaid' is the law's where the arguments, and the package variables that the reading takes, are together of bulk at most 1048576: NARROWER than '..Said'. Prove '..Said' where nothing that the law and all that it calls make is longer than what came in: it says more and counts as full. Else prove '..UptoSaid'. A law counts once. -/
mutual
def uptoBulk {H : Type} : DataW H → Nat
  | .lit (.string bytes) => bytes.length + 1
  | .lit _ => 1
  | .nil => 1
  | .ptr d => uptoBulk d + 1
  | .slice elems spare => uptoBulkAll elems + uptoBulkAll spare + 1
  | .agg parts => uptoBulkAll parts + 1
  | .iface _ d => uptoBulk d + 1
  | .map entries => uptoBulkEntries entries + 1
  | .held _ => 1
def uptoBulkAll {H : Type} : List (DataW H) → Nat
  | [] => 0
  | d :: r => uptoBulk d + uptoBulkAll r
def uptoBulkEntries {H : Type} : List (Lit × DataW H) → Nat
  | [] => 0
  | x :: r => uptoBulkEntry x + uptoBulkEntries r
def uptoBulkEntry {H : Type} : Lit × DataW H → Nat
  | (.string bytes, d) => bytes.length + uptoBulk d + 1
  | (_, d) => uptoBulk d + 1
 end
def uptoSmall : (H : Type) → List (DataW H) → Bool := fun _ ds => decide (uptoBulkAll ds ≤ 1048576)
def OpenSpec.upto (s : _root_.Go.ChangeSpec) : _root_.Go.OpenSpec := { _root_.Go.OpenSpec.ofChange s with cond := some uptoSmall }

/-- 'demesnelaw35.ImageCodes', WHERE WHAT IT READS IS OF BULK AT MOST 1048576: true; the input reads as it did. -/
def imageCodesUptoRow : OpenClaim := { program := "ytdlnipimljpmgaa", sum := "071124304158650da81a2e9aa427af831ae83f2a8c949455358f5ca25ca55f09", func := "demesne/demesnelaw35.ImageCodes", spec := "imageCodes", recurses := true, plainKeys := false, apart := false, narrowed := true }
def ImageCodesUptoSaid : Prop := imageCodesUptoRow.holds Try.pinned (OpenSpec.upto imageCodesSpec)

/-- 'demesnelaw35.ImageReads', WHERE WHAT IT READS IS OF BULK AT MOST 1048576: true; the input reads as it did. -/
def imageReadsUptoRow : OpenClaim := { program := "ytdlnipimljpmgaa", sum := "071124304158650da81a2e9aa427af831ae83f2a8c949455358f5ca25ca55f09", func := "demesne/demesnelaw35.ImageReads", spec := "imageReads", recurses := true, plainKeys := false, apart := false, narrowed := true }
def ImageReadsUptoSaid : Prop := imageReadsUptoRow.holds Try.pinned (OpenSpec.upto imageReadsSpec)

/-- 'demesnelaw35.ImageBack', WHERE WHAT IT READS IS OF BULK AT MOST 1048576: true; the input reads as it did. -/
def imageBackUptoRow : OpenClaim := { program := "ytdlnipimljpmgaa", sum := "071124304158650da81a2e9aa427af831ae83f2a8c949455358f5ca25ca55f09", func := "demesne/demesnelaw35.ImageBack", spec := "imageBack", recurses := true, plainKeys := false, apart := false, narrowed := true }
def ImageBackUptoSaid : Prop := imageBackUptoRow.holds Try.pinned (OpenSpec.upto imageBackSpec)

/-- 'demesnelaw35.ImageSums', WHERE WHAT IT READS IS OF BULK AT MOST 1048576: true; the input reads as it did. -/
def imageSumsUptoRow : OpenClaim := { program := "ytdlnipimljpmgaa", sum := "071124304158650da81a2e9aa427af831ae83f2a8c949455358f5ca25ca55f09", func := "demesne/demesnelaw35.ImageSums", spec := "imageSums", recurses := true, plainKeys := false, apart := false, narrowed := true }
def ImageSumsUptoSaid : Prop := imageSumsUptoRow.holds Try.pinned (OpenSpec.upto imageSumsSpec)

end Rows
end Go.Proofs.Ytdlnipimljpmgaa
