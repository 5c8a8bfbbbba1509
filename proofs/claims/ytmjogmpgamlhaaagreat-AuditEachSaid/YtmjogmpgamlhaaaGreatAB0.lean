import Derived.Test.YtmjogmpgamlhaaaGreatZE
import Derived.Test.YtmjogmpgamlhaaaGreatDGZ
import Derived.Test.YtmjogmpgamlhaaaGreatSI1
import Derived.Test.YtmjogmpgamlhaaaGreatNJ
import Derived.Test.YtmjogmpgamlhaaaGreatCB
set_option linter.unusedVariables false
set_option linter.unusedSimpArgs false
set_option linter.unusedSectionVars false
set_option maxRecDepth 100000
set_option maxHeartbeats 0
namespace Go.Proofs.YtmjogmpgamlhaaaGreat
open Go Go.Proofs.YtmjogmpgamlhaaaGreat.Dm Go.RowKit Go.Lib
noncomputable def aa0 : List AV := [(.cv (.sc (iN 2))), (.cv (.sc (iN 0))), (.cv (.sc (uN 0)))]
noncomputable def av0 : AV := (.tu [(.ag [iN 0, uN 0, .b false, .b false, .b false, iN 0]), (.sc (iN 0))])
theorem ak0 : Known Tryz.prog 319 aa0 av0 := known_of (evA_ok 200).2 (by kernel_rfl)
noncomputable def aa1 : List AV := [(.cv (.sc (iN 2))), (.cv (.sc (iN 0))), (.cv (.ag [iN 1, uN 73728, .b false, .b false, .b false, iN 0]))]
noncomputable def av1 : AV := (.tu [(.sc (uN 73731)), (.sc (iN 0))])
theorem ak1 : Known Tryz.prog 211 aa1 av1 := known_of (evA_ok 200).2 (by kernel_rfl)
noncomputable def aa2 : List AV := [(.cv (.sc (iN 2))), (.cv (.sc (iN 1))), (.cv (.sc (uN 0)))]
noncomputable def av2 : AV := (.tu [(.ag [iN 0, uN 0, .b false, .b false, .b false, iN 0]), (.sc (iN 0))])
theorem ak2 : Known Tryz.prog 319 aa2 av2 := known_of (evA_ok 200).2 (by kernel_rfl)
noncomputable def aa3 : List AV := [(.cv (.sc (iN 2))), (.cv (.sc (iN 1))), (.cv (.ag [iN 1, uN 77824, .b false, .b false, .b false, iN 0]))]
noncomputable def av3 : AV := (.tu [(.sc (uN 77827)), (.sc (iN 0))])
theorem ak3 : Known Tryz.prog 211 aa3 av3 := known_of (evA_ok 200).2 (by kernel_rfl)
noncomputable def aa4 : List AV := [(.cv (.sc (iN 2))), (.cv (.sc (iN 2))), (.cv (.sc (uN 0)))]
noncomputable def av4 : AV := (.tu [(.ag [iN 0, uN 0, .b false, .b false, .b false, iN 0]), (.sc (iN 0))])
theorem ak4 : Known Tryz.prog 319 aa4 av4 := known_of (evA_ok 200).2 (by kernel_rfl)
noncomputable def aa5 : List AV := [(.cv (.sc (iN 2))), (.cv (.sc (iN 2))), (.cv (.ag [iN 1, uN 0, .b false, .b false, .b false, iN 0]))]
noncomputable def av5 : AV := (.tu [(.sc (uN 3)), (.sc (iN 0))])
theorem ak5 : Known Tryz.prog 211 aa5 av5 := known_of (evA_ok 200).2 (by kernel_rfl)
noncomputable def aa6 : List AV := [(.cv (.sc (iN 2))), (.cv (.sc (iN 3))), (.cv (.ag [iN 3, uN 81920, .b true, .b false, .b false, iN 0]))]
noncomputable def av6 : AV := (.tu [(.sc (uN 81987)), (.sc (iN 0))])
theorem ak6 : Known Tryz.prog 211 aa6 av6 := known_of (evA_ok 200).2 (by kernel_rfl)
noncomputable def aa7 : List AV := [(.cv (.sc (iN 2))), (.cv (.sc (iN 0))), (.cv (.sc (uN 73731)))]
noncomputable def av7 : AV := (.tu [(.ag [iN 1, uN 73728, .b false, .b false, .b false, iN 0]), (.sc (iN 0))])
theorem ak7 : Known Tryz.prog 319 aa7 av7 := known_of (evA_ok 200).2 (by kernel_rfl)
noncomputable def aa8 : List AV := [(.cv (.sc (iN 2))), (.cv (.sc (iN 0))), (.cv (.ag [iN 1, uN 0, .b false, .b false, .b false, iN 0]))]
noncomputable def av8 : AV := (.tu [(.sc (uN 3)), (.sc (iN 0))])
theorem ak8 : Known Tryz.prog 211 aa8 av8 := known_of (evA_ok 200).2 (by kernel_rfl)
noncomputable def aa9 : List AV := [(.cv (.sc (iN 2))), (.cv (.sc (iN 1))), (.cv (.sc (uN 77827)))]
noncomputable def av9 : AV := (.tu [(.ag [iN 1, uN 77824, .b false, .b false, .b false, iN 0]), (.sc (iN 0))])
theorem ak9 : Known Tryz.prog 319 aa9 av9 := known_of (evA_ok 200).2 (by kernel_rfl)
noncomputable def aa10 : List AV := [(.cv (.sc (iN 2))), (.cv (.sc (iN 1))), (.cv (.ag [iN 1, uN 0, .b false, .b false, .b false, iN 0]))]
noncomputable def av10 : AV := (.tu [(.sc (uN 3)), (.sc (iN 0))])
theorem ak10 : Known Tryz.prog 211 aa10 av10 := known_of (evA_ok 200).2 (by kernel_rfl)
noncomputable def aa11 : List AV := [(.cv (.sc (iN 2))), (.cv (.sc (iN 2))), (.cv (.sc (uN 3)))]
noncomputable def av11 : AV := (.tu [(.ag [iN 1, uN 0, .b false, .b false, .b false, iN 0]), (.sc (iN 0))])
theorem ak11 : Known Tryz.prog 319 aa11 av11 := known_of (evA_ok 200).2 (by kernel_rfl)
noncomputable def aa12 : List AV := [(.cv (.sc (iN 2))), (.cv (.sc (iN 3))), (.cv (.sc (uN 0)))]
noncomputable def av12 : AV := (.tu [(.ag [iN 0, uN 0, .b false, .b false, .b false, iN 0]), (.sc (iN 0))])
theorem ak12 : Known Tryz.prog 319 aa12 av12 := known_of (evA_ok 200).2 (by kernel_rfl)
noncomputable def aa13 : List AV := [(.cv (.sc (iN 2))), (.cv (.sc (iN 3))), (.cv (.ag [iN 3, uN 86016, .b true, .b true, .b true, iN 0]))]
noncomputable def av13 : AV := (.tu [(.sc (uN 86467)), (.sc (iN 0))])
theorem ak13 : Known Tryz.prog 211 aa13 av13 := known_of (evA_ok 200).2 (by kernel_rfl)
noncomputable def aa14 : List AV := [(.cv (.sc (iN 2))), (.cv (.sc (iN 3))), (.cv (.ag [iN 3, uN 90112, .b true, .b true, .b true, iN 0]))]
noncomputable def av14 : AV := (.tu [(.sc (uN 90563)), (.sc (iN 0))])
theorem ak14 : Known Tryz.prog 211 aa14 av14 := known_of (evA_ok 200).2 (by kernel_rfl)
noncomputable def aa15 : List AV := [(.cv (.sc (iN 2))), (.cv (.sc (iN 3))), (.cv (.sc (uN 90563)))]
noncomputable def av15 : AV := (.tu [(.ag [iN 3, uN 90112, .b true, .b true, .b true, iN 0]), (.sc (iN 0))])
theorem ak15 : Known Tryz.prog 319 aa15 av15 := known_of (evA_ok 200).2 (by kernel_rfl)
noncomputable def aa16 : List AV := [(.cv (.sc (iN 2))), (.cv (.sc (iN 3))), (.cv (.ag [iN 3, uN 0, .b true, .b true, .b true, iN 0]))]
noncomputable def av16 : AV := (.tu [(.sc (uN 451)), (.sc (iN 0))])
theorem ak16 : Known Tryz.prog 211 aa16 av16 := known_of (evA_ok 200).2 (by kernel_rfl)
noncomputable def aa17 : List AV := [(.cv (.sc (iN 2))), (.cv (.sc (iN 0))), (.cv (.ag [iN 1, uN 4096, .b false, .b false, .b false, iN 0]))]
noncomputable def av17 : AV := (.tu [(.sc (uN 4099)), (.sc (iN 0))])
theorem ak17 : Known Tryz.prog 211 aa17 av17 := known_of (evA_ok 200).2 (by kernel_rfl)
noncomputable def aa18 : List AV := [(.cv (.sc (iN 2))), (.cv (.sc (iN 1))), (.cv (.ag [iN 1, uN 8192, .b false, .b false, .b false, iN 0]))]
noncomputable def av18 : AV := (.tu [(.sc (uN 8195)), (.sc (iN 0))])
theorem ak18 : Known Tryz.prog 211 aa18 av18 := known_of (evA_ok 200).2 (by kernel_rfl)
noncomputable def aa19 : List AV := [(.cv (.sc (iN 2))), (.cv (.sc (iN 2))), (.cv (.ag [iN 1, uN 12288, .b false, .b false, .b false, iN 0]))]
noncomputable def av19 : AV := (.tu [(.sc (uN 12291)), (.sc (iN 0))])
theorem ak19 : Known Tryz.prog 211 aa19 av19 := known_of (evA_ok 200).2 (by kernel_rfl)
noncomputable def aa20 : List AV := [(.cv (.sc (iN 2))), (.cv (.sc (iN 3))), (.cv (.ag [iN 3, uN 94208, .b true, .b true, .b true, iN 0]))]
noncomputable def av20 : AV := (.tu [(.sc (uN 94659)), (.sc (iN 0))])
theorem ak20 : Known Tryz.prog 211 aa20 av20 := known_of (evA_ok 200).2 (by kernel_rfl)
noncomputable def aa21 : List AV := [(.cv (.sc (iN 2))), (.cv (.sc (iN 0))), (.cv (.sc (uN 4099)))]
noncomputable def av21 : AV := (.tu [(.ag [iN 1, uN 4096, .b false, .b false, .b false, iN 0]), (.sc (iN 0))])
theorem ak21 : Known Tryz.prog 319 aa21 av21 := known_of (evA_ok 200).2 (by kernel_rfl)
noncomputable def aa22 : List AV := [(.cv (.sc (iN 2))), (.cv (.sc (iN 1))), (.cv (.sc (uN 8195)))]
noncomputable def av22 : AV := (.tu [(.ag [iN 1, uN 8192, .b false, .b false, .b false, iN 0]), (.sc (iN 0))])
theorem ak22 : Known Tryz.prog 319 aa22 av22 := known_of (evA_ok 200).2 (by kernel_rfl)
noncomputable def aa23 : List AV := [(.cv (.sc (iN 2))), (.cv (.sc (iN 2))), (.cv (.sc (uN 12291)))]
noncomputable def av23 : AV := (.tu [(.ag [iN 1, uN 12288, .b false, .b false, .b false, iN 0]), (.sc (iN 0))])
theorem ak23 : Known Tryz.prog 319 aa23 av23 := known_of (evA_ok 200).2 (by kernel_rfl)
noncomputable def aa24 : List AV := [(.cv (.sc (iN 2))), (.cv (.sc (iN 3))), (.cv (.ag [iN 3, uN 229376, .b true, .b true, .b true, iN 0]))]
noncomputable def av24 : AV := (.tu [(.sc (uN 229827)), (.sc (iN 0))])
theorem ak24 : Known Tryz.prog 211 aa24 av24 := known_of (evA_ok 200).2 (by kernel_rfl)
noncomputable def aa25 : List AV := [(.cv (.sc (iN 2))), (.cv (.sc (iN 3))), (.cv (.sc (uN 86467)))]
noncomputable def av25 : AV := (.tu [(.ag [iN 3, uN 86016, .b true, .b true, .b true, iN 0]), (.sc (iN 0))])
theorem ak25 : Known Tryz.prog 319 aa25 av25 := known_of (evA_ok 200).2 (by kernel_rfl)
noncomputable def aa26 : List AV := [(.cv (.sc (iN 2))), (.cv (.sc (iN 3))), (.cv (.sc (uN 94659)))]
noncomputable def av26 : AV := (.tu [(.ag [iN 3, uN 94208, .b true, .b true, .b true, iN 0]), (.sc (iN 0))])
theorem ak26 : Known Tryz.prog 319 aa26 av26 := known_of (evA_ok 200).2 (by kernel_rfl)
noncomputable def aa27 : List AV := [(.cv (.sc (iN 2))), (.cv (.sc (iN 3))), (.cv (.ag [iN 3, uN 94208, .b true, .b false, .b true, iN 0]))]
noncomputable def av27 : AV := (.tu [(.sc (uN 94531)), (.sc (iN 0))])
theorem ak27 : Known Tryz.prog 211 aa27 av27 := known_of (evA_ok 200).2 (by kernel_rfl)
noncomputable def aa28 : List AV := [(.cv (.sc (iN 2))), (.cv (.sc (iN 3))), (.cv (.ag [iN 0, uN 0, .b false, .b false, .b false, iN 0]))]
noncomputable def av28 : AV := (.tu [(.sc (uN 0)), (.sc (iN 0))])
theorem ak28 : Known Tryz.prog 211 aa28 av28 := known_of (evA_ok 200).2 (by kernel_rfl)
noncomputable def aa29 : List AV := [(.cv (.sc (iN 2))), (.cv (.sc (iN 3))), (.cv (.sc (uN 81987)))]
noncomputable def av29 : AV := (.tu [(.ag [iN 3, uN 81920, .b true, .b false, .b false, iN 0]), (.sc (iN 0))])
theorem ak29 : Known Tryz.prog 319 aa29 av29 := known_of (evA_ok 200).2 (by kernel_rfl)
noncomputable def aa30 : List AV := [(.cv (.sc (iN 2))), (.cv (.sc (iN 3))), (.cv (.ag [iN 3, uN 0, .b true, .b false, .b false, iN 0]))]
noncomputable def av30 : AV := (.tu [(.sc (uN 67)), (.sc (iN 0))])
theorem ak30 : Known Tryz.prog 211 aa30 av30 := known_of (evA_ok 200).2 (by kernel_rfl)
noncomputable def aa31 : List AV := [(.cv (.sc (iN 2))), (.cv (.sc (iN 3))), (.cv (.sc (uN 94531)))]
noncomputable def av31 : AV := (.tu [(.ag [iN 3, uN 94208, .b true, .b false, .b true, iN 0]), (.sc (iN 0))])
theorem ak31 : Known Tryz.prog 319 aa31 av31 := known_of (evA_ok 200).2 (by kernel_rfl)
noncomputable def aa32 : List AV := [(.cv (.sc (iN 2))), (.cv (.sc (iN 3))), (.cv (.ag [iN 3, uN 0, .b true, .b false, .b true, iN 0]))]
noncomputable def av32 : AV := (.tu [(.sc (uN 323)), (.sc (iN 0))])
theorem ak32 : Known Tryz.prog 211 aa32 av32 := known_of (evA_ok 200).2 (by kernel_rfl)
noncomputable def aa33 : List AV := [(.cv (.sc (iN 2))), (.cv (.sc (iN 3))), (.cv (.sc (uN 229827)))]
noncomputable def av33 : AV := (.tu [(.ag [iN 3, uN 229376, .b true, .b true, .b true, iN 0]), (.sc (iN 0))])
theorem ak33 : Known Tryz.prog 319 aa33 av33 := known_of (evA_ok 200).2 (by kernel_rfl)
noncomputable def aa34 : List AV := [(.cv (.sc (iN 2))), (.cv (.sc (iN 3))), (.cv (.ag [iN 3, uN 229376, .b true, .b false, .b false, iN 0]))]
noncomputable def av34 : AV := (.tu [(.sc (uN 229443)), (.sc (iN 0))])
theorem ak34 : Known Tryz.prog 211 aa34 av34 := known_of (evA_ok 200).2 (by kernel_rfl)
noncomputable def aa35 : List AV := [(.cv (.sc (iN 2))), (.cv (.sc (iN 3))), (.cv (.sc (uN 229443)))]
noncomputable def av35 : AV := (.tu [(.ag [iN 3, uN 229376, .b true, .b false, .b false, iN 0]), (.sc (iN 0))])
theorem ak35 : Known Tryz.prog 319 aa35 av35 := known_of (evA_ok 200).2 (by kernel_rfl)
noncomputable def memoX : Memo := [(319, aa0, av0), (211, aa1, av1), (319, aa2, av2), (211, aa3, av3), (319, aa4, av4), (211, aa5, av5), (211, aa6, av6), (319, aa7, av7), (211, aa8, av8), (319, aa9, av9), (211, aa10, av10), (319, aa11, av11), (319, aa12, av12), (211, aa13, av13), (211, aa14, av14), (319, aa15, av15), (211, aa16, av16), (211, aa17, av17), (211, aa18, av18), (211, aa19, av19), (211, aa20, av20), (319, aa21, av21), (319, aa22, av22), (319, aa23, av23), (211, aa24, av24), (319, aa25, av25), (319, aa26, av26), (211, aa27, av27), (211, aa28, av28), (319, aa29, av29), (211, aa30, av30), (319, aa31, av31), (211, aa32, av32), (319, aa33, av33), (211, aa34, av34), (319, aa35, av35)]
theorem memoX_ok : MemoOk Tryz.prog memoX := by
  intro x hx
  simp only [memoX, List.mem_cons, List.not_mem_nil, or_false] at hx
  rcases hx with rfl | rfl | rfl | rfl | rfl | rfl | rfl | rfl | rfl | rfl | rfl | rfl | rfl | rfl | rfl | rfl | rfl | rfl | rfl | rfl | rfl | rfl | rfl | rfl | rfl | rfl | rfl | rfl | rfl | rfl | rfl | rfl | rfl | rfl | rfl | rfl
  · exact ⟨by kernel_rfl, by kernel_rfl, ak0⟩
  · exact ⟨by kernel_rfl, by kernel_rfl, ak1⟩
  · exact ⟨by kernel_rfl, by kernel_rfl, ak2⟩
  · exact ⟨by kernel_rfl, by kernel_rfl, ak3⟩
  · exact ⟨by kernel_rfl, by kernel_rfl, ak4⟩
  · exact ⟨by kernel_rfl, by kernel_rfl, ak5⟩
  · exact ⟨by kernel_rfl, by kernel_rfl, ak6⟩
  · exact ⟨by kernel_rfl, by kernel_rfl, ak7⟩
  · exact ⟨by kernel_rfl, by kernel_rfl, ak8⟩
  · exact ⟨by kernel_rfl, by kernel_rfl, ak9⟩
  · exact ⟨by kernel_rfl, by kernel_rfl, ak10⟩
  · exact ⟨by kernel_rfl, by kernel_rfl, ak11⟩
  · exact ⟨by kernel_rfl, by kernel_rfl, ak12⟩
  · exact ⟨by kernel_rfl, by kernel_rfl, ak13⟩
  · exact ⟨by kernel_rfl, by kernel_rfl, ak14⟩
  · exact ⟨by kernel_rfl, by kernel_rfl, ak15⟩
  · exact ⟨by kernel_rfl, by kernel_rfl, ak16⟩
  · exact ⟨by kernel_rfl, by kernel_rfl, ak17⟩
  · exact ⟨by kernel_rfl, by kernel_rfl, ak18⟩
  · exact ⟨by kernel_rfl, by kernel_rfl, ak19⟩
  · exact ⟨by kernel_rfl, by kernel_rfl, ak20⟩
  · exact ⟨by kernel_rfl, by kernel_rfl, ak21⟩
  · exact ⟨by kernel_rfl, by kernel_rfl, ak22⟩
  · exact ⟨by kernel_rfl, by kernel_rfl, ak23⟩
  · exact ⟨by kernel_rfl, by kernel_rfl, ak24⟩
  · exact ⟨by kernel_rfl, by kernel_rfl, ak25⟩
  · exact ⟨by kernel_rfl, by kernel_rfl, ak26⟩
  · exact ⟨by kernel_rfl, by kernel_rfl, ak27⟩
  · exact ⟨by kernel_rfl, by kernel_rfl, ak28⟩
  · exact ⟨by kernel_rfl, by kernel_rfl, ak29⟩
  · exact ⟨by kernel_rfl, by kernel_rfl, ak30⟩
  · exact ⟨by kernel_rfl, by kernel_rfl, ak31⟩
  · exact ⟨by kernel_rfl, by kernel_rfl, ak32⟩
  · exact ⟨by kernel_rfl, by kernel_rfl, ak33⟩
  · exact ⟨by kernel_rfl, by kernel_rfl, ak34⟩
  · exact ⟨by kernel_rfl, by kernel_rfl, ak35⟩
noncomputable def isDX (f : Nat) : Bool := Nat.beq f 319 || Nat.beq f 211
noncomputable def ovX0 : CallK → CallK := fun call => ovMemo isDX memoX (ovDG (ovCount (ovLL (ovKeys 308 0 .i64 (ovKeys 64 0 .u64 (ovKeys 137 13 .i64 (ovA call)))))))
theorem enters308 : Dm.Enters Tryz.prog 308 := ⟨Tryz.f308, Tryz.func308, by kernel_rfl, by kernel_rfl⟩
theorem keys308 : KeysOk Tryz.prog 308 0 .i64 := ⟨enters308, fun w hc hb hold hn hk hpos h12 => (frlist_calls w hc hb hold hn hk hpos h12).mono (by rintro e w' ⟨g, cap, h1, h2, h3⟩; exact ⟨g, cap, _, h1, h2, h3⟩)⟩
theorem ovX0_ok : OvOk Tryz.prog ovX0 := fun c hc => ovMemo_ok memoX_ok _ (ovDG_ok _ (ovCount_ok _ (ovLL_ok _ (ovKeys_ok keys308 _ (ovKeys_ok keys64 _ (ovKeys_ok keys137 _ (ovA_ok c hc)))))))
/-- The evaluator, calls of Table.each nested so deep. -/
noncomputable def ksX (ov : CallK → CallK) : Nat → Ks
  | 0 => runsK Tryz.prog ov 100000
  | n + 1 => runsK Tryz.prog (fun call => ovEach (ksX ov n).k (ov call)) 100000
theorem ksX_ok {ov : CallK → CallK} (h : OvOk Tryz.prog ov) : ∀ n, KOk Tryz.prog (ksX ov n).k ∧ CallOk Tryz.prog (ksX ov n).c
  | 0 => runsK_ok mixedP noGor (ov := ov) (fun c hc => h c hc) 100000
  | n + 1 => runsK_ok mixedP noGor (ov := fun call => ovEach (ksX ov n).k (ov call)) (fun c hc => ovEach_ok (ksX_ok h n).1 _ (h c hc)) 100000
noncomputable def body309 : Code := bodyOf Tryz.f309.body
theorem body309_eq : Tryz.f309.body = some body309 := by kernel_rfl
theorem enters309 : Dm.Enters Tryz.prog 309 := ⟨Tryz.f309, Tryz.func309, by kernel_rfl, by kernel_rfl⟩
noncomputable def body195 : Code := bodyOf Tryz.f195.body
theorem body195_eq : Tryz.f195.body = some body195 := by kernel_rfl
theorem enters195 : Dm.Enters Tryz.prog 195 := ⟨Tryz.f195, Tryz.func195, by kernel_rfl, by kernel_rfl⟩
noncomputable def ovX (ov : CallK → CallK) : CallK → CallK := fun call => ovMany Tryz.prog (ksX ov 4).k (ksX ov 4).c 309 Tryz.f309 body309 [4] 200 (ovMany Tryz.prog (ksX ov 4).k (ksX ov 4).c 195 Tryz.f195 body195 [2] 400 (ovEach (ksX ov 3).k (ov call)))
theorem ovX_ok {ov : CallK → CallK} (h : OvOk Tryz.prog ov) : OvOk Tryz.prog (ovX ov) := fun c hc => ovMany_ok (ksX_ok h 4).1 (ksX_ok h 4).2 enters309 Tryz.func309 body309_eq _ _ _ (ovMany_ok (ksX_ok h 4).1 (ksX_ok h 4).2 enters195 Tryz.func195 body195_eq _ _ _ (ovEach_ok (ksX_ok h 3).1 _ (h c hc)))
noncomputable def kkX (ov : CallK → CallK) : K := (runsK Tryz.prog (ovX ov) 100000).k
theorem kkX_ok {ov : CallK → CallK} (h : OvOk Tryz.prog ov) : KOk Tryz.prog (kkX ov) := (runsK_ok mixedP noGor (ov := ovX ov) (fun c hc => ovX_ok h c hc) 100000).1
end Go.Proofs.YtmjogmpgamlhaaaGreat
