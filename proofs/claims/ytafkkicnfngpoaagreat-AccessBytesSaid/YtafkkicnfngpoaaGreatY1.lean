/- heat.Touch by its contract, in place of its run; the evaluator with it. -/
import Derived.Test.YtafkkicnfngpoaaGreatIF1
import Derived.Test.YtafkkicnfngpoaaGreatDmEnds
import Derived.Test.YtafkkicnfngpoaaGreatDmGet
import Derived.Test.YtafkkicnfngpoaaGreatBP1
set_option linter.unusedVariables false
set_option linter.unusedSimpArgs false
set_option linter.unusedSectionVars false
namespace Go.Proofs.YtafkkicnfngpoaaGreat.Dm
open Go Go.RowKit

noncomputable def touchA (args : List AV) : Option AV :=
  match args with
  | [.cv (.sc (.hz i a b)), .cv (.sc (.b s))] => some (cnd s (.cv (.sc (.hz i a (Nat.succ b)))) (.cv (.sc (.hz i (Nat.succ a) b))))
  | _ => none

noncomputable def ovTouch (g : FuncId) (call : CallK) : CallK := fun f args h => cnd (Nat.beq f g)
  (match touchA args with
  | some v => .ok v h
  | none => call f args h) (call f args h)

def TouchOk (P : Program) (g : FuncId) : Prop := Enters P g ∧ ∀ (r k : Nat) (s : Bool) (w : World),
  Calls P g #[.complex .f64 (hfb r) (hfb k), .bool s] w fun e w' => e = .returned (.complex .f64 (hfb (cnd s r (r + 1))) (hfb (cnd s (k + 1) k))) ∧ w' = w

theorem ovTouch_ok {P : Program} {g : FuncId} (hG : TouchOk P g) : OvOk P (ovTouch g) := by
  intro call hc f args h v h' hr
  unfold ovTouch at hr
  cases hb : Nat.beq f g with
  | false => rw [hb] at hr; exact hc f args h v h' hr
  | true =>
    rw [hb] at hr; simp only [cnd_true] at hr
    split at hr
    · rename_i u hu
      obtain rfl := Nat.eq_of_beq_eq_true hb
      simp only [CRes.ok.injEq] at hr
      obtain ⟨rfl, rfl⟩ := hr
      unfold touchA at hu
      split at hu
      · rename_i i a b s
        simp only [Option.some.injEq] at hu
        subst hu
        refine ⟨hG.1, Nat.le_refl _, fun ι w vs rep has hf => ?_⟩
        obtain ⟨vs⟩ := vs
        obtain ⟨a1, a2, rfl⟩ : ∃ a1 a2, vs = [a1, a2] := by
          match vs, has with
          | [a1, a2], _ => exact ⟨a1, a2, rfl⟩
          | [], h => exact h.elim
          | [_], h => exact h.2.elim
          | _ :: _ :: _ :: _, h => exact h.2.2.elim
        obtain ⟨h1, h2, -⟩ := has
        obtain ⟨c, c', r, k, e1, e2, rfl⟩ := (show VR ι (.hz i a b) a1 from h1)
        obtain rfl : a2 = .bool s := h2
        refine (hG.2 (r + a) (k + b) s w).mono ?_
        rintro e w' ⟨rfl, rfl⟩
        refine ⟨_, ι, rfl, ?_, Post.refl rep⟩
        cases s
        · exact ⟨c, c', r, k, e1, e2, rfl⟩
        · exact ⟨c, c', r, k, e1, e2, rfl⟩
      · cases hu
    · exact hc f args h v h' hr
end Go.Proofs.YtafkkicnfngpoaaGreat.Dm

namespace Go.Proofs.YtafkkicnfngpoaaGreat
open Go Go.RowKit Go.Lib Go.Proofs.YtafkkicnfngpoaaGreat.Dm Go.Fl

theorem touchEnters : Dm.Enters Tryz.prog 132 := ⟨Tryz.f132, by kernel_rfl, by kernel_rfl, by kernel_rfl⟩

theorem touchOk : TouchOk Tryz.prog 132 := by
  refine ⟨touchEnters, fun r k s w => ?_⟩
  have h := Touch_calls (a := ((min r 1048576 : Nat) : Int)) (b := ((min k 1048576 : Nat) : Int)) (by omega) (by omega) s w
  refine h.mono ?_
  rintro e w' ⟨rfl, rfl⟩
  refine ⟨?_, rfl⟩
  have key : ∀ (x : Int) (y : Nat), x = ((min y 1048576 : Nat) : Int) → fb x = hfb y := fun x y h => by subst h; rfl
  cases s
  · rw [key _ (r + 1) (by simp; omega), key _ k (by simp; omega)]; rfl
  · rw [key _ r (by simp; omega), key _ (k + 1) (by simp; omega)]; rfl

noncomputable def ovH : CallK → CallK := fun call => ovGet 131 (ovIns 209 (ovTouch 132 call))
theorem ovH_ok : OvOk Tryz.prog ovH := fun c hc => ovGet_ok getOk _ (insOk _ (ovTouch_ok touchOk c hc))
noncomputable def evH (n : Nat) : Ks := runsK Tryz.prog ovH n
theorem evH_ok (n : Nat) : KOk Tryz.prog (evH n).k ∧ CallOk Tryz.prog (evH n).c := runsK_ok mixedP noGor ovH_ok n
noncomputable def da0 : List AV := [(.cv (.sc (.i .i64 (.ofNat 2)))), (.cv (.sc (.i .i64 (.ofNat 0)))), (.cv (.sc (.i .u64 (.ofNat 3))))]
noncomputable def dv0 : AV := (.tu [(.ag [.i .i64 (.ofNat 1), .i .u64 (.ofNat 0), .b false, .b false, .b false, .i .i64 (.ofNat 0)]), (.sc (.i .i64 (.ofNat 0)))])
theorem dk0 : Known Tryz.prog 223 da0 dv0 := known_of (evP_ok 100) (by kernel_rfl)
noncomputable def da1 : List AV := [(.cv (.sc (.i .i64 (.ofNat 2)))), (.cv (.sc (.i .i64 (.ofNat 1)))), (.cv (.sc (.i .u64 (.ofNat 4099))))]
noncomputable def dv1 : AV := (.tu [(.ag [.i .i64 (.ofNat 1), .i .u64 (.ofNat 4096), .b false, .b false, .b false, .i .i64 (.ofNat 0)]), (.sc (.i .i64 (.ofNat 0)))])
theorem dk1 : Known Tryz.prog 223 da1 dv1 := known_of (evP_ok 100) (by kernel_rfl)
noncomputable def da2 : List AV := [(.cv (.sc (.i .i64 (.ofNat 2)))), (.cv (.sc (.i .i64 (.ofNat 2)))), (.cv (.sc (.i .u64 (.ofNat 8195))))]
noncomputable def dv2 : AV := (.tu [(.ag [.i .i64 (.ofNat 1), .i .u64 (.ofNat 8192), .b false, .b false, .b false, .i .i64 (.ofNat 0)]), (.sc (.i .i64 (.ofNat 0)))])
theorem dk2 : Known Tryz.prog 223 da2 dv2 := known_of (evP_ok 100) (by kernel_rfl)
noncomputable def da3 : List AV := [(.cv (.sc (.i .i64 (.ofNat 2)))), (.cv (.sc (.i .i64 (.ofNat 3)))), (.cv (.sc (.i .u64 (.ofNat 41411))))]
noncomputable def dv3 : AV := (.tu [(.ag [.i .i64 (.ofNat 3), .i .u64 (.ofNat 40960), .b true, .b true, .b true, .i .i64 (.ofNat 0)]), (.sc (.i .i64 (.ofNat 0)))])
theorem dk3 : Known Tryz.prog 223 da3 dv3 := known_of (evP_ok 100) (by kernel_rfl)
noncomputable def da4 : List AV := [(.cv (.sc (.i .i64 (.ofNat 2)))), (.cv (.sc (.i .i64 (.ofNat 3)))), (.cv (.sc (.i .u64 (.ofNat 45507))))]
noncomputable def dv4 : AV := (.tu [(.ag [.i .i64 (.ofNat 3), .i .u64 (.ofNat 45056), .b true, .b true, .b true, .i .i64 (.ofNat 0)]), (.sc (.i .i64 (.ofNat 0)))])
theorem dk4 : Known Tryz.prog 223 da4 dv4 := known_of (evP_ok 100) (by kernel_rfl)
noncomputable def da5 : List AV := [(.cv (.sc (.i .i64 (.ofNat 2)))), (.cv (.sc (.i .i64 (.ofNat 3)))), (.cv (.sc (.i .u64 (.ofNat 115139))))]
noncomputable def dv5 : AV := (.tu [(.ag [.i .i64 (.ofNat 3), .i .u64 (.ofNat 114688), .b true, .b true, .b true, .i .i64 (.ofNat 0)]), (.sc (.i .i64 (.ofNat 0)))])
theorem dk5 : Known Tryz.prog 223 da5 dv5 := known_of (evP_ok 100) (by kernel_rfl)
noncomputable def da6 : List AV := [(.cv (.sc (.i .i64 (.ofNat 2)))), (.cv (.sc (.i .i64 (.ofNat 3)))), (.cv (.sc (.i .u64 (.ofNat 0))))]
noncomputable def dv6 : AV := (.tu [(.ag [.i .i64 (.ofNat 0), .i .u64 (.ofNat 0), .b false, .b false, .b false, .i .i64 (.ofNat 0)]), (.sc (.i .i64 (.ofNat 0)))])
theorem dk6 : Known Tryz.prog 223 da6 dv6 := known_of (evP_ok 100) (by kernel_rfl)
noncomputable def decM : Memo := [(223, da0, dv0), (223, da1, dv1), (223, da2, dv2), (223, da3, dv3), (223, da4, dv4), (223, da5, dv5), (223, da6, dv6)]
theorem decM_ok : MemoOk Tryz.prog decM := by
  intro x hx
  simp only [decM, List.mem_cons, List.not_mem_nil, or_false] at hx
  rcases hx with rfl | rfl | rfl | rfl | rfl | rfl | rfl
  · exact ⟨by kernel_rfl, by kernel_rfl, dk0⟩
  · exact ⟨by kernel_rfl, by kernel_rfl, dk1⟩
  · exact ⟨by kernel_rfl, by kernel_rfl, dk2⟩
  · exact ⟨by kernel_rfl, by kernel_rfl, dk3⟩
  · exact ⟨by kernel_rfl, by kernel_rfl, dk4⟩
  · exact ⟨by kernel_rfl, by kernel_rfl, dk5⟩
  · exact ⟨by kernel_rfl, by kernel_rfl, dk6⟩

theorem putEnters : Dm.Enters Tryz.prog 53 := ⟨Tryz.f53, by kernel_rfl, by kernel_rfl, by kernel_rfl⟩

theorem putL_get (l : List Int) (x v : Nat) : ∀ k i, (putL l x v k)[i]? = if x ≤ i ∧ i < x + k ∧ i < l.length then some ((v / 256 ^ (i - x) % 256 : Nat) : Int) else l[i]?
  | 0, i => by
    rw [if_neg (by omega)]; rfl
  | k + 1, i => by
    simp only [putL]
    rw [List.getElem?_set, putL_length, putL_get l x v k i]
    by_cases h1 : x + k = i
    · subst h1
      by_cases h2 : x + k < l.length
      · rw [if_pos rfl, if_pos h2, if_pos ⟨by omega, by omega, h2⟩, show x + k - x = k by omega]
      · rw [if_pos rfl, if_neg h2, if_neg (by omega), List.getElem?_eq_none (by omega)]
    · rw [if_neg h1]
      by_cases h2 : x ≤ i ∧ i < x + k ∧ i < l.length
      · rw [if_pos h2, if_pos (by omega)]
      · rw [if_neg h2, if_neg (by omega)]

theorem putOk : PutOk Tryz.prog 53 := by
  refine ⟨putEnters, fun {cb c at_ s v f} hs hm hn w hf => ?_⟩
  have hl : ((List.range 4096).map fun i => ((f i : Nat) : Int)).length = 4096 := by simp
  refine (put_calls (cb := cb) (c := c) (at_ := at_) (s := s) (v := v) (l := (List.range 4096).map fun i => ((f i : Nat) : Int)) hs hm hn w hl (fun j u hj => ?_)).mono ?_
  · rw [List.getElem?_map, Option.map_eq_some_iff] at hj
    obtain ⟨i, hi, rfl⟩ := hj
    have hj : j < 4096 := by
      have := (List.getElem?_eq_some_iff.1 hi).1
      simpa using this
    rw [List.getElem?_range hj] at hi
    simp only [Option.some.injEq] at hi
    subst hi
    exact (hf _ hj).2
  · rintro e w' ⟨g, cap, rfl, hown, hb⟩
    have hown' := hown
    rcases hown.2 with ⟨h', _⟩ | ⟨g', cap', cur, h', hbg, hg, hnc, hcm, hcs, htake⟩
    · simp at h'
    · simp only [Value.slice.injEq, Option.some.injEq, Addr.mk.injEq, and_true, true_and] at h'
      obtain ⟨rfl, rfl⟩ := h'
      have hglt : g < w'.heap.size := (own_cell hown' (j := 0) (by decide)).2.2
      refine ⟨g, cap, cur, 5, rfl, hg, hnc, by omega, by unfold maxLen at hcm; omega, fun i hi => ?_, hbg, hglt, hb⟩
      have h1 : (cur.toList.take (4096 * 1))[i]? = cur[i]? := by
        rw [List.getElem?_take, if_pos (by omega), Array.getElem?_toList]
      rw [← h1, htake, List.getElem?_map, putL_get, hl]
      unfold putF
      by_cases h2 : at_ ≤ i ∧ i < at_ + s
      · rw [if_pos ⟨h2.1, h2.2, hi⟩, if_pos h2]; rfl
      · rw [if_neg (by omega), if_neg h2, List.getElem?_map, List.getElem?_range hi]; rfl

noncomputable def ovY : CallK → CallK := fun call => ovMemo (fun f => Nat.beq f 223) decM (ovRg 131 53 (ovH call))
theorem ovY_ok : OvOk Tryz.prog ovY := fun c hc => ovMemo_ok decM_ok _ (ovRg_ok getOk putOk _ (ovH_ok c hc))
noncomputable def evY (n : Nat) : Ks := runsK Tryz.prog ovY n
theorem evY_ok (n : Nat) : KOk Tryz.prog (evY n).k ∧ CallOk Tryz.prog (evY n).c := runsK_ok mixedP noGor ovY_ok n
end Go.Proofs.YtafkkicnfngpoaaGreat
