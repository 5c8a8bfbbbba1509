import Derived.Test.YtmjogmpgamlhaaaGreatSI1
set_option linter.unusedVariables false
set_option linter.unusedSimpArgs false
set_option linter.unusedSectionVars false
namespace Go.Proofs.YtmjogmpgamlhaaaGreat
open Go Go.Proofs.YtmjogmpgamlhaaaGreat.Dm Go.RowKit
noncomputable def lE (k s p b : Nat) : ME := ⟨.sc (iN k), .ag [iN s, iN p], b⟩
noncomputable def lI (k s b : Nat) : ME := ⟨.sc (iN k), .sc (iN s), b⟩
noncomputable def lM (k s b : Nat) : ME := ⟨.sc (iN k), .sc (.m s), b⟩
noncomputable def lP (k s b : Nat) : ME := ⟨.sc (iN k), .sc (.sl s 0 4096 4096 1 false), b⟩
noncomputable def ldP (m : Nat) : List ME → List ME := Nat.rec (motive := fun _ => List ME → List ME) (fun l => l) (fun m ih l => ih (lE m 1 0 m :: l)) m
/-- Blocks laid into a trie. -/
noncomputable def pS (t : Tr AO) : List (Nat × AO) → Tr AO
  | [] => t
  | (b, o) :: l => (pS t l).put (some o) b
noncomputable def pik (t : Tr AO) : List Nat → Tr AO
  | [] => .e
  | b :: l => match t.get b with
    | some o => (pik t l).put (some o) b
    | none => pik t l
noncomputable def dlL (l : List Nat) : List Nat → List Nat
  | [] => []
  | b :: r => cnd (l.any fun x => Nat.beq x b) (dlL l r) (b :: dlL l r)
noncomputable def adL (l r : List Nat) : List Nat := match l with
  | [] => r
  | b :: l => b :: adL l r
end Go.Proofs.YtmjogmpgamlhaaaGreat

set_option maxRecDepth 100000
set_option maxHeartbeats 0
namespace Go.Proofs.YtmjogmpgamlhaaaGreat
open Go Go.Proofs.YtmjogmpgamlhaaaGreat.Dm Go.RowKit
noncomputable def dgbody385 : Code := match Tryz.f385.body with
  | some b => b
  | none => .skip
theorem dgbody385_eq : Tryz.f385.body = some dgbody385 := by kernel_rfl
theorem dgenters385 : Dm.Enters Tryz.prog 385 := ⟨Tryz.f385, Tryz.func385, by kernel_rfl, by kernel_rfl⟩
noncomputable def dgL_d0_0 : List Nat := [0]
noncomputable def dgS_d0_0 : List Nat := [0, 2, 3, 4, 5, 6, 7, 11, 12, 14, 15]
noncomputable def dgst_d0_0 : List It := [.code (sub dgbody385 [1, 1, 1, 0, 1, 0, 0, 1, 1, 0, 0, 1, 1, 0, 1, 0, 0, 1, 0]), .code (sub dgbody385 [1, 1, 1, 0, 1, 0, 0, 1, 1, 0, 0, 1, 1, 0, 1, 0, 0, 1, 1]), .rep (sub dgbody385 [1, 1, 1, 0, 1, 0, 0, 1, 1, 0, 0, 1, 1, 0, 1, 0, 0]) 4995, .blk 2, .code (sub dgbody385 [1, 1, 1, 0, 1, 0, 0, 1, 1, 0, 0, 1, 1, 1]), .blk 1, .code (sub dgbody385 [1, 1, 1, 0, 1, 0, 0, 1, 1, 1]), .rep (sub dgbody385 [1, 1, 1, 0, 1, 0, 0]) 4933, .blk 0, .code (sub dgbody385 [1, 1, 1, 1])]
noncomputable def dgfr_d0_0 : Fr := ⟨39, (.n (some (.cv (.sc (.sl 0 0 4096 4096 1 false)))) (.n none (.n (some (.cv (.sc (.i .i64 (.ofNat 0))))) (.n (some (.cv (.sc (.i .i64 (.ofNat 3))))) (.n (some (.cv (.sc (.b true)))) .e .e) .e) (.n (some (.cv (.sc (.i .i64 (.ofNat 66))))) .e .e)) (.n (some (.cv (.sc (.i .i64 (.ofNat 66))))) .e .e)) (.n (some (.cv (.sc (.c 0 0)))) (.n (some (.cv (.sc (.c 0 0)))) .e (.n (some (.cv (.sc (.b true)))) .e .e)) (.n (some (.cv (.sc (.i .u64 (.ofNat 0))))) .e (.n (some (.cv (.sc (.i .i64 (.ofNat 4))))) .e .e))))⟩
noncomputable def dgh_d0_0 : Heap := ⟨1, (.n (some (.cells ⟨4096, .i .u8 (.ofNat 0), .e⟩ false)) .e .e)⟩
noncomputable def dgL_d0_1 : List Nat := [0]
noncomputable def dgS_d0_1 : List Nat := [0, 2, 3, 4, 5, 6, 7, 11, 12, 14, 15]
noncomputable def dgst_d0_1 : List It := [.code (sub dgbody385 [1, 1, 1, 0, 1, 0, 0, 1, 1, 0, 0, 1, 1, 0, 1, 0, 0]), .rep (sub dgbody385 [1, 1, 1, 0, 1, 0, 0, 1, 1, 0, 0, 1, 1, 0, 1, 0, 0]) 4998, .blk 2, .code (sub dgbody385 [1, 1, 1, 0, 1, 0, 0, 1, 1, 0, 0, 1, 1, 1]), .blk 1, .code (sub dgbody385 [1, 1, 1, 0, 1, 0, 0, 1, 1, 1]), .rep (sub dgbody385 [1, 1, 1, 0, 1, 0, 0]) 4866, .blk 0, .code (sub dgbody385 [1, 1, 1, 1])]
noncomputable def dgfr_d0_1 : Fr := ⟨39, (.n (some (.cv (.sc (.sl 0 0 4096 4096 1 false)))) (.n none (.n (some (.cv (.sc (.i .i64 (.ofNat 0))))) (.n (some (.cv (.sc (.i .i64 (.ofNat 0))))) (.n (some (.cv (.sc (.b true)))) .e .e) .e) (.n (some (.cv (.sc (.i .i64 (.ofNat 133))))) .e .e)) (.n (some (.cv (.sc (.i .i64 (.ofNat 133))))) .e .e)) (.n (some (.cv (.sc (.c 0 0)))) (.n (some (.cv (.sc (.c 0 0)))) .e (.n (some (.cv (.sc (.b true)))) .e .e)) (.n (some (.cv (.sc (.i .u64 (.ofNat 0))))) .e (.n (some (.cv (.sc (.i .i64 (.ofNat 1))))) .e .e))))⟩
noncomputable def dgh_d0_1 : Heap := ⟨1, (.n (some (.cells ⟨4096, .i .u8 (.ofNat 0), .e⟩ false)) .e .e)⟩
noncomputable def dgL_d0_2 : List Nat := [0]
noncomputable def dgS_d0_2 : List Nat := [0, 2, 3, 4, 5, 6, 7, 11, 12, 14, 15]
noncomputable def dgst_d0_2 : List It := [.blk 3, .code (sub dgbody385 [1, 1, 1, 0, 1, 0, 0, 1, 1, 0, 0, 1, 1, 0, 1, 0, 0, 1, 1, 1]), .rep (sub dgbody385 [1, 1, 1, 0, 1, 0, 0, 1, 1, 0, 0, 1, 1, 0, 1, 0, 0]) 4992, .blk 2, .code (sub dgbody385 [1, 1, 1, 0, 1, 0, 0, 1, 1, 0, 0, 1, 1, 1]), .blk 1, .code (sub dgbody385 [1, 1, 1, 0, 1, 0, 0, 1, 1, 1]), .rep (sub dgbody385 [1, 1, 1, 0, 1, 0, 0]) 4800, .blk 0, .code (sub dgbody385 [1, 1, 1, 1])]
noncomputable def dgfr_d0_2 : Fr := ⟨39, (.n (some (.cv (.sc (.sl 0 0 4096 4096 1 false)))) (.n none (.n (some (.cv (.sc (.i .i64 (.ofNat 0))))) (.n (some (.cv (.sc (.i .i64 (.ofNat 7))))) (.n (some (.cv (.sc (.b true)))) .e .e) .e) (.n (some (.cv (.sc (.i .i64 (.ofNat 199))))) .e .e)) (.n (some (.cv (.sc (.i .i64 (.ofNat 199))))) .e .e)) (.n (some (.cv (.sc (.c 0 0)))) (.n (some (.cv (.sc (.c 0 0)))) .e (.n (some (.cv (.sc (.b true)))) .e .e)) (.n (some (.cv (.sc (.i .u64 (.ofNat 0))))) .e (.n (some (.cv (.sc (.i .i64 (.ofNat 7))))) .e .e))))⟩
noncomputable def dgh_d0_2 : Heap := ⟨1, (.n (some (.cells ⟨4096, .i .u8 (.ofNat 0), .e⟩ false)) .e .e)⟩
noncomputable def dgL_d0_3 : List Nat := [0]
noncomputable def dgS_d0_3 : List Nat := [0, 2, 3, 4, 5, 6, 7, 11, 12, 14, 15]
noncomputable def dgst_d0_3 : List It := [.code (sub dgbody385 [1, 1, 1, 0, 1, 0, 0, 1, 1, 0, 0, 1, 1, 0, 1, 0, 0, 1, 1, 0, 0]), .blk 3, .code (sub dgbody385 [1, 1, 1, 0, 1, 0, 0, 1, 1, 0, 0, 1, 1, 0, 1, 0, 0, 1, 1, 1]), .rep (sub dgbody385 [1, 1, 1, 0, 1, 0, 0, 1, 1, 0, 0, 1, 1, 0, 1, 0, 0]) 4995, .blk 2, .code (sub dgbody385 [1, 1, 1, 0, 1, 0, 0, 1, 1, 0, 0, 1, 1, 1]), .blk 1, .code (sub dgbody385 [1, 1, 1, 0, 1, 0, 0, 1, 1, 1]), .rep (sub dgbody385 [1, 1, 1, 0, 1, 0, 0]) 4733, .blk 0, .code (sub dgbody385 [1, 1, 1, 1])]
noncomputable def dgfr_d0_3 : Fr := ⟨39, (.n (some (.cv (.sc (.sl 0 0 4096 4096 1 false)))) (.n none (.n (some (.cv (.sc (.i .i64 (.ofNat 0))))) (.n (some (.cv (.sc (.i .i64 (.ofNat 3))))) (.n (some (.cv (.sc (.b true)))) .e .e) .e) (.n (some (.cv (.sc (.i .i64 (.ofNat 266))))) .e .e)) (.n (some (.cv (.sc (.i .i64 (.ofNat 266))))) .e .e)) (.n (some (.cv (.sc (.c 0 0)))) (.n (some (.cv (.sc (.c 0 0)))) .e (.n (some (.cv (.sc (.b true)))) .e .e)) (.n (some (.cv (.sc (.i .u64 (.ofNat 0))))) .e (.n (some (.cv (.sc (.i .i64 (.ofNat 4))))) .e .e))))⟩
noncomputable def dgh_d0_3 : Heap := ⟨1, (.n (some (.cells ⟨4096, .i .u8 (.ofNat 0), .e⟩ false)) .e .e)⟩
noncomputable def dgL_d0_4 : List Nat := [0]
noncomputable def dgS_d0_4 : List Nat := [0, 2, 3, 4, 5, 6, 7, 11, 12, 14, 15]
noncomputable def dgst_d0_4 : List It := [.code (sub dgbody385 [1, 1, 1, 0, 1, 0, 0, 1, 1, 0, 0, 1, 1, 0, 1, 0, 0, 1, 0]), .code (sub dgbody385 [1, 1, 1, 0, 1, 0, 0, 1, 1, 0, 0, 1, 1, 0, 1, 0, 0, 1, 1]), .rep (sub dgbody385 [1, 1, 1, 0, 1, 0, 0, 1, 1, 0, 0, 1, 1, 0, 1, 0, 0]) 4998, .blk 2, .code (sub dgbody385 [1, 1, 1, 0, 1, 0, 0, 1, 1, 0, 0, 1, 1, 1]), .blk 1, .code (sub dgbody385 [1, 1, 1, 0, 1, 0, 0, 1, 1, 1]), .rep (sub dgbody385 [1, 1, 1, 0, 1, 0, 0]) 4666, .blk 0, .code (sub dgbody385 [1, 1, 1, 1])]
noncomputable def dgfr_d0_4 : Fr := ⟨39, (.n (some (.cv (.sc (.sl 0 0 4096 4096 1 false)))) (.n none (.n (some (.cv (.sc (.i .i64 (.ofNat 0))))) (.n (some (.cv (.sc (.i .i64 (.ofNat 0))))) (.n (some (.cv (.sc (.b true)))) .e .e) .e) (.n (some (.cv (.sc (.i .i64 (.ofNat 333))))) .e .e)) (.n (some (.cv (.sc (.i .i64 (.ofNat 333))))) .e .e)) (.n (some (.cv (.sc (.c 0 0)))) (.n (some (.cv (.sc (.c 0 0)))) .e (.n (some (.cv (.sc (.b true)))) .e .e)) (.n (some (.cv (.sc (.i .u64 (.ofNat 0))))) .e (.n (some (.cv (.sc (.i .i64 (.ofNat 1))))) .e .e))))⟩
noncomputable def dgh_d0_4 : Heap := ⟨1, (.n (some (.cells ⟨4096, .i .u8 (.ofNat 0), .e⟩ false)) .e .e)⟩
noncomputable def dgL_d0_5 : List Nat := [0]
noncomputable def dgS_d0_5 : List Nat := [0, 2, 3, 4, 5, 6, 7, 11, 12, 14, 15]
noncomputable def dgst_d0_5 : List It := [.code (sub dgbody385 [1, 1, 1, 0, 1, 0, 0, 1, 1, 0, 0, 1, 1, 0, 1, 0, 0]), .rep (sub dgbody385 [1, 1, 1, 0, 1, 0, 0, 1, 1, 0, 0, 1, 1, 0, 1, 0, 0]) 4991, .blk 2, .code (sub dgbody385 [1, 1, 1, 0, 1, 0, 0, 1, 1, 0, 0, 1, 1, 1]), .blk 1, .code (sub dgbody385 [1, 1, 1, 0, 1, 0, 0, 1, 1, 1]), .rep (sub dgbody385 [1, 1, 1, 0, 1, 0, 0]) 4600, .blk 0, .code (sub dgbody385 [1, 1, 1, 1])]
noncomputable def dgfr_d0_5 : Fr := ⟨39, (.n (some (.cv (.sc (.sl 0 0 4096 4096 1 false)))) (.n none (.n (some (.cv (.sc (.i .i64 (.ofNat 0))))) (.n (some (.cv (.sc (.i .i64 (.ofNat 7))))) (.n (some (.cv (.sc (.b true)))) .e .e) .e) (.n (some (.cv (.sc (.i .i64 (.ofNat 399))))) .e .e)) (.n (some (.cv (.sc (.i .i64 (.ofNat 399))))) .e .e)) (.n (some (.cv (.sc (.c 0 0)))) (.n (some (.cv (.sc (.c 0 0)))) .e (.n (some (.cv (.sc (.b true)))) .e .e)) (.n (some (.cv (.sc (.i .u64 (.ofNat 0))))) .e (.n (some (.cv (.sc (.i .i64 (.ofNat 8))))) .e .e))))⟩
noncomputable def dgh_d0_5 : Heap := ⟨1, (.n (some (.cells ⟨4096, .i .u8 (.ofNat 0), .e⟩ false)) .e .e)⟩
noncomputable def dgL_d0_6 : List Nat := [0]
noncomputable def dgS_d0_6 : List Nat := [0, 2, 3, 4, 5, 6, 7, 11, 12, 14, 15]
noncomputable def dgst_d0_6 : List It := [.blk 3, .code (sub dgbody385 [1, 1, 1, 0, 1, 0, 0, 1, 1, 0, 0, 1, 1, 0, 1, 0, 0, 1, 1, 1]), .rep (sub dgbody385 [1, 1, 1, 0, 1, 0, 0, 1, 1, 0, 0, 1, 1, 0, 1, 0, 0]) 4995, .blk 2, .code (sub dgbody385 [1, 1, 1, 0, 1, 0, 0, 1, 1, 0, 0, 1, 1, 1]), .blk 1, .code (sub dgbody385 [1, 1, 1, 0, 1, 0, 0, 1, 1, 1]), .rep (sub dgbody385 [1, 1, 1, 0, 1, 0, 0]) 4533, .blk 0, .code (sub dgbody385 [1, 1, 1, 1])]
noncomputable def dgfr_d0_6 : Fr := ⟨39, (.n (some (.cv (.sc (.sl 0 0 4096 4096 1 false)))) (.n none (.n (some (.cv (.sc (.i .i64 (.ofNat 0))))) (.n (some (.cv (.sc (.i .i64 (.ofNat 4))))) (.n (some (.cv (.sc (.b true)))) .e .e) .e) (.n (some (.cv (.sc (.i .i64 (.ofNat 466))))) .e .e)) (.n (some (.cv (.sc (.i .i64 (.ofNat 466))))) .e .e)) (.n (some (.cv (.sc (.c 0 0)))) (.n (some (.cv (.sc (.c 0 0)))) .e (.n (some (.cv (.sc (.b true)))) .e .e)) (.n (some (.cv (.sc (.i .u64 (.ofNat 0))))) .e (.n (some (.cv (.sc (.i .i64 (.ofNat 4))))) .e .e))))⟩
noncomputable def dgh_d0_6 : Heap := ⟨1, (.n (some (.cells ⟨4096, .i .u8 (.ofNat 0), .e⟩ false)) .e .e)⟩
noncomputable def dgargs_d0 : List AV := [(.cv (.sc (.sl 0 0 4096 4096 1 false)))]
noncomputable def dgh0_d0 : Heap := ⟨1, (.n (some (.cells ⟨4096, .i .u8 (.ofNat 0), .e⟩ false)) .e .e)⟩
noncomputable def dgL_d0 : List Nat := [0]
noncomputable def dgS_d0 : List Nat := [2, 3]
noncomputable def dgfrT_d0 : Fr := ⟨39, (.n none (.n none (.n (some (.cv (.sc (.i .i64 (.ofNat 0))))) .e .e) .e) (.n (some (.cv (.sc (.c 0 0)))) .e .e))⟩
noncomputable def dghT_d0 : Heap := ⟨1, (.n (some (.cells ⟨4096, .i .u8 (.ofNat 0), .e⟩ false)) .e .e)⟩
noncomputable def dgv_d0 : AV := (.tu [(.sc (.c 0 0)), (.sc (.i .i64 (.ofNat 0)))])
noncomputable def dgLK_d0 : List Nat := [0]
noncomputable def dgkc_d0 : KC := ⟨385, dgargs_d0, dgh0_d0, dgv_d0, dghT_d0, dgLK_d0⟩
end Go.Proofs.YtmjogmpgamlhaaaGreat

set_option maxRecDepth 100000
set_option maxHeartbeats 0
namespace Go.Proofs.YtmjogmpgamlhaaaGreat
open Go Go.Proofs.YtmjogmpgamlhaaaGreat.Dm Go.RowKit
noncomputable def dgov_d0 : CallK → CallK := fun call => ovR call
noncomputable def dgkk_d0 : K := (runsK Tryz.prog dgov_d0 100000).k
theorem dgkk_d0_ok  : KOk Tryz.prog dgkk_d0 := (runsK_ok mixedP noGor (ov := dgov_d0) (fun c hc => ovR_ok c hc) 100000).1
end Go.Proofs.YtmjogmpgamlhaaaGreat
