/- Pages.List in place of its run. -/
import Derived.Test.YtafkkicnfngpoaaGreatLS1
set_option linter.unusedVariables false
set_option linter.unusedSimpArgs false
set_option linter.unusedSectionVars false
namespace Go.Proofs.YtafkkicnfngpoaaGreat
open Go Go.RowKit Go.Lib Go.Proofs.YtafkkicnfngpoaaGreat.Dm

noncomputable def row2 (a b : Int) : Row := ⟨2, .i .u64 0, ((Tr.e).put (some (.i .u64 a)) 0).put (some (.i .u64 b)) 1⟩
noncomputable def h2k (a b : Int) : Heap := ⟨1, (Tr.e).put (some (.cells (row2 a b) false)) 0⟩
theorem sort34 : look1 (evP 1000 211 [.cv (.sc (.sl 0 0 2 2 1 false))] (h2k 3 4)) = some (.tu [], some (.cells (row2 3 4) false)) := by kernel_rfl
theorem sort43 : look1 (evP 1000 211 [.cv (.sc (.sl 0 0 2 2 1 false))] (h2k 4 3)) = some (.tu [], some (.cells (row2 3 4) false)) := by kernel_rfl

theorem row2_get {a b : Int} {i : Nat} {v : SV} (h : (row2 a b).get i = some v) : (i = 0 ∧ v = .i .u64 a) ∨ (i = 1 ∧ v = .i .u64 b) := by
  have hv : (cnd (Nat.blt i 2) (match (((Tr.e).put (some (SV.i .u64 a)) 0).put (some (SV.i .u64 b)) 1).get i with | some v => some v | none => some (SV.i .u64 0)) none) = some v := h
  by_cases h0 : i = 0
  · subst h0
    have : some (SV.i .u64 a) = some v := hv
    exact .inl ⟨rfl, (Option.some.inj this).symm⟩
  · by_cases h1 : i = 1
    · subst h1
      have : some (SV.i .u64 b) = some v := hv
      exact .inr ⟨rfl, (Option.some.inj this).symm⟩
    · have hb : Nat.blt i 2 = false := by
        cases hbb : Nat.blt i 2 with
        | false => rfl
        | true =>
          rw [Nat.blt_eq] at hbb
          omega
      rw [hb] at hv; cases hv

theorem sort2_calls {g cap : Nat} {cs : Array Value} {el : TypeId} {fr : Nat × Nat} {a b : Int} (hab : look1 (evP 1000 211 [.cv (.sc (.sl 0 0 2 2 1 false))] (h2k a b)) = some (.tu [], some (.cells (row2 3 4) false)))
    (w : World) (hg : w.heap[g]? = some (.cells cs el fr)) (hf : fr.1 = fr.2) (h1 : 2 ≤ cap) (h2 : cap ≤ maxLen) (h3 : cap ≤ cs.size) (hk : cs[0]? = some (.int .u64 a)) (hk1 : cs[1]? = some (.int .u64 b)) :
    Calls Tryz.prog 211 #[.slice (some ⟨g, 0, none⟩) 2 cap] w fun e w' => e = .returned (.tuple #[]) ∧ w.grownBy w' (some g) ∧ ∃ cs' el' fr', w'.heap[g]? = some (.cells cs' el' fr') ∧ cs'.size = cs.size ∧ cs'[0]? = some (.int .u64 3) ∧ cs'[1]? = some (.int .u64 4) ∧ fr'.1 = fr'.2 := by
  have hrun := hab
  have hgl : g < w.heap.size := (Array.getElem?_eq_some_iff.1 hg).1
  cases hr : evP 1000 211 [.cv (.sc (.sl 0 0 2 2 1 false))] (h2k a b) with
  | bad n => rw [hr] at hrun; cases hrun
  | ok v h' =>
    rw [hr] at hrun
    simp only [look1, Option.some.injEq, Prod.mk.injEq] at hrun
    obtain ⟨rfl, hget⟩ := hrun
    obtain ⟨_, hle, hx⟩ := evP_ok 1000 211 _ _ _ _ hr
    have get0 : ∀ c o, (h2k a b).get c = some o → c = 0 ∧ o = .cells (row2 a b) false := by
      intro c o hb
      have hb : ((Tr.e).put (some (AO.cells (row2 a b) false)) 0).get c = some o := hb
      rw [Tr.get_put] at hb
      by_cases h : c = 0
      · rw [if_pos h] at hb; exact ⟨h, (Option.some.inj hb).symm⟩
      · rw [if_neg h] at hb; cases hb
    let ι : Io := fun b => if b = 0 then some (g, cs.size) else none
    have i0 : ι 0 = some (g, cs.size) := rfl
    have rep : Rep ι w (h2k a b) := by
      refine ⟨fun b o hb => by rw [(get0 b o hb).1]; exact Nat.one_pos, fun c o hb => ?_, fun b b' o o' c N N' e1 e2 _ _ => (get0 b o e1).1.trans (get0 b' o' e2).1.symm, fun b c N hb => ?_⟩
      · obtain ⟨rfl, rfl⟩ := get0 c o hb
        refine ⟨g, cs.size, i0, cs, el, fr, hg, rfl, by show 2 ≤ cs.size; omega, fun i v hv => ?_, fun _ => hf⟩
        rcases row2_get hv with ⟨rfl, rfl⟩ | ⟨rfl, rfl⟩
        · exact ⟨_, hk, rfl⟩
        · exact ⟨_, hk1, rfl⟩
      · by_cases h : b = 0
        · subst h; rw [i0] at hb; simp only [Option.some.injEq, Prod.mk.injEq] at hb; rw [← hb.1]; exact hgl
        · have : ι b = none := if_neg h
          rw [this] at hb; cases hb
    have has : ARs ι [.cv (.sc (.sl 0 0 2 2 1 false))] [.slice (some ⟨g, 0, none⟩) 2 cap] :=
      ⟨⟨g, cs.size, 0, cap, i0, rfl, Nat.le_refl _, fun h => (by cases h), fun _ => ⟨h1, .inr rfl, by omega, by simp only [maxLen] at h2; omega⟩⟩, trivial⟩
    refine (hx ι w #[.slice (some ⟨g, 0, none⟩) 2 cap] rep has (fun b hb _ => if_neg (by have : 1 ≤ b := hb; omega))).mono ?_
    rintro e w' ⟨V, ι', rfl, hv, p⟩
    obtain ⟨aa, rfl, ha⟩ := hv
    obtain rfl : aa = #[] := by
      cases aa with
      | mk l => cases l with
        | nil => rfl
        | cons _ _ => exact ha.elim
    have j0 : ι' 0 = some (g, cs.size) := (p.ext 0 (.inl Nat.one_pos)).trans i0
    obtain ⟨cb, N, k1, cs', el', fr', k2, k3, k4, k5, k6⟩ := p.rep.obj 0 _ hget
    rw [j0] at k1
    simp only [Option.some.injEq, Prod.mk.injEq] at k1
    obtain ⟨rfl, rfl⟩ := k1
    obtain ⟨V, c1, c2⟩ := k5 0 (.i .u64 3) rfl
    obtain rfl : V = .int .u64 3 := c2
    obtain ⟨V, d1, d2⟩ := k5 1 (.i .u64 4) rfl
    obtain rfl : V = .int .u64 4 := d2
    refine ⟨rfl, ⟨p.os, p.tape, p.output, p.size, fun c hc hne => p.frame c hc (fun b o N hb hι => ?_)⟩, cs', el', fr', k2, k3, c1, d1, k6 rfl⟩
    obtain ⟨rfl, _⟩ := get0 b o hb
    rw [i0] at hι
    simp only [Option.some.injEq, Prod.mk.injEq] at hι
    exact hne (by rw [hι.1])
end Go.Proofs.YtafkkicnfngpoaaGreat

namespace Go.Proofs.YtafkkicnfngpoaaGreat
open Go Go.RowKit Go.Lib Go.Proofs.YtafkkicnfngpoaaGreat.Dm

theorem Tryz.info29 : (Tryz.prog.info? 29).map (fun i => (i.zero, i.size, i.bytes)) = some (some (.int .u64 0), 1, 8) := by kernel_rfl

structure Two (w : World) (base : Nat) (v : Value) : Prop where
  ex : ∃ g cap cs el fr, v = .slice (some ⟨g, 0, none⟩) 2 cap ∧ base ≤ g ∧ w.heap[g]? = some (.cells cs el fr) ∧ fr.1 = fr.2 ∧ 2 ≤ cap ∧ cap ≤ maxLen ∧ cap ≤ cs.size ∧ cs[0]? = some (.int .u64 3) ∧ cs[1]? = some (.int .u64 4)

/-- What has been met so far, in its order. -/
structure Met (es : Array MapEntry) (seen : Array Nat) (vs : List MapEntry) : Prop where
  born : seen.toList = vs.map (·.born)
  mem : ∀ x ∈ vs, x ∈ es.toList
  nodup : vs.Nodup

theorem Met.push {es : Array MapEntry} {seen : Array Nat} {vs : List MapEntry} (m : Met es seen vs) {e : MapEntry} (he : e ∈ es.toList) (hs : ¬ e.born ∈ seen) : Met es (seen.push e.born) (vs ++ [e]) := by
  refine ⟨by simp [m.born], fun x hx => ?_, ?_⟩
  · rcases List.mem_append.1 hx with h | h
    · exact m.mem x h
    · rw [List.mem_singleton.1 h]; exact he
  · refine List.nodup_append.2 ⟨m.nodup, by simp, fun a ha b hb => ?_⟩
    rw [List.mem_singleton.1 hb]
    rintro rfl
    apply hs
    have : a.born ∈ seen.toList := by rw [m.born]; exact List.mem_map.2 ⟨a, ha, rfl⟩
    simpa using this

theorem Met.all {es : Array MapEntry} {seen : Array Nat} {vs : List MapEntry} (m : Met es seen vs) (hn : (es.toList.map (·.born)).Nodup) {x y : MapEntry} (hes : es.toList = [x, y]) (hall : ∀ z ∈ es.toList, z.born ∈ seen) : vs = [x, y] ∨ vs = [y, x] := by
  have hin : ∀ z ∈ es.toList, z ∈ vs := fun z hz => by
    have := hall z hz
    have : z.born ∈ seen.toList := by simpa using this
    rw [m.born] at this
    obtain ⟨u, hu, hub⟩ := List.mem_map.1 this
    have : u = z := born_inj hn (m.mem u hu) hz hub
    exact this ▸ hu
  have hx : x ∈ vs := hin x (by rw [hes]; simp)
  have hy : y ∈ vs := hin y (by rw [hes]; simp)
  have hxy : x ≠ y := by
    rintro rfl
    rw [hes] at hn
    simp at hn
  have hm : ∀ z ∈ vs, z = x ∨ z = y := fun z hz => by
    have := m.mem z hz
    rw [hes] at this
    simpa using this
  have hnd := m.nodup
  match vs, hx, hy, hm, hnd with
  | [], hx, _, _, _ => cases hx
  | [a], hx, hy, _, _ => exact absurd ((List.mem_singleton.1 hx).trans (List.mem_singleton.1 hy).symm) hxy
  | [a, b], _, _, hm, hnd =>
    have ha := hm a (by simp)
    have hb := hm b (by simp)
    have hab : a ≠ b := by simpa using hnd
    rcases ha with rfl | rfl <;> rcases hb with rfl | rfl
    · exact absurd rfl hab
    · exact .inl rfl
    · exact .inr rfl
    · exact absurd rfl hab
  | a :: b :: c :: l, _, _, hm, hnd =>
    exfalso
    have ha := hm a (by simp)
    have hb := hm b (by simp)
    have hc := hm c (by simp)
    simp at hnd
    rcases ha with rfl | rfl <;> rcases hb with rfl | rfl <;> rcases hc with rfl | rfl <;> simp_all

theorem Met.len {es : Array MapEntry} {seen : Array Nat} {vs : List MapEntry} (m : Met es seen vs) {x y : MapEntry} (hes : es.toList = [x, y]) : vs.length ≤ 2 := by
  have hm : ∀ z ∈ vs, z = x ∨ z = y := fun z hz => by
    have := m.mem z hz
    rw [hes] at this
    simpa using this
  have hnd := m.nodup
  match vs, hm, hnd with
  | [], _, _ => simp
  | [_], _, _ => simp
  | [_, _], _, _ => simp
  | a :: b :: c :: l, hm, hnd =>
    exfalso
    have ha := hm a (by simp)
    have hb := hm b (by simp)
    have hc := hm c (by simp)
    simp at hnd
    rcases ha with rfl | rfl <;> rcases hb with rfl | rfl <;> rcases hc with rfl | rfl <;> simp_all

set_option maxRecDepth 100000 in
set_option maxHeartbeats 2000000 in
theorem plist_calls {lb o mb clock : Nat} {es : Array MapEntry} {x0 y0 : MapEntry} (w : World) (hc : w.cell? ⟨lb, o, none⟩ = some (.map (some mb))) (hb : w.heap[mb]? = some (.map es clock))
    (hold : ∀ x ∈ es.toList, x.born < clock) (hn : (es.toList.map (·.born)).Nodup) (hes : es.toList = [x0, y0]) (hk : (x0.key = .int .u64 3 ∧ y0.key = .int .u64 4) ∨ (x0.key = .int .u64 4 ∧ y0.key = .int .u64 3)) :
    Calls Tryz.prog 158 #[.pointer (some ⟨lb, o, none⟩)] w fun e w' => ∃ v, e = .returned v ∧ Below w.heap.size w w' ∧ Two w' w.heap.size v := by
  have hbl : mb < w.heap.size := (Array.getElem?_eq_some_iff.1 hb).1
  have hcl : lb < w.heap.size := World.block_lt_of_cell? w _ hc
  obtain ⟨i0, hi, hz0, hz1, hz2⟩ := info_parts Tryz.info29
  have hkeys : ∀ x ∈ es.toList, ∃ k, x.key = .int .u64 k := fun x hx => by
    rw [hes] at hx
    simp only [List.mem_cons, List.not_mem_nil, or_false] at hx
    rcases hx with rfl | rfl <;> rcases hk with ⟨h1, h2⟩ | ⟨h1, h2⟩ <;> exact ⟨_, by assumption⟩
  have hlen2 : es.toList.length = 2 := by rw [hes]; rfl
  have HK : Aside ((x0.key = .int .u64 3 ∧ y0.key = .int .u64 4) ∨ (x0.key = .int .u64 4 ∧ y0.key = .int .u64 3)) := hk
  have HES : Aside (es.toList = [x0, y0]) := hes
  have HKEYS : Aside (∀ x ∈ es.toList, ∃ k, x.key = .int .u64 k) := hkeys
  clear hk hkeys hes
  go_enter Tryz.func158, Tryz.ntmps158
  go_wp2_with (first
    | (at_range; refine wpList_range_map rfl _ 121 rfl 29 51 Tryz.underlying121 mb clock es rfl hb ?_)
    | go_in)
  go_frame
  have hiter0 : (w.alloc (.mapIter (some mb) clock #[] clock)).heap[w.heap.size]? = some (.mapIter (some mb) clock #[] clock) := heap_alloc_new w _
  generalize hr0 : w.heap.size = r at hiter0 ⊢
  have hb2 : Below r w (w.alloc (.mapIter (some mb) clock #[] clock)) := (Below.refl _ _).alloc (by omega) _
  generalize w.alloc (.mapIter (some mb) clock #[] clock) = w2 at hiter0 hb2 ⊢
  have HBM : Aside (w.heap[mb]? = some (.map es clock)) := hb
  have HN : Aside ((es.toList.map (·.born)).Nodup) := hn
  have HO : Aside (∀ x ∈ es.toList, x.born < clock) := hold
  have HL2 : Aside (es.toList.length = 2) := hlen2
  have HR : Aside (w.heap.size = r) := hr0
  rw [hr0] at hbl
  clear hb hc hn hold hlen2 hr0
  go_loopw [3] (fun v wr => ∃ (seen : Array Nat) (vs : List MapEntry), wr.heap[r]? = some (.mapIter (some mb) clock seen clock) ∧ Below r w wr ∧ Met es seen vs ∧ wr.ownsRow r 29 1 v vs.length (vs.map (·.key)) ∧ some r ≠ v.ownBlock)
    (fun _ wr => (leftOf es (seenAt wr r)).size)
  case atStart => exact ⟨#[], [], hiter0, hb2, ⟨rfl, fun _ h => (by cases h), List.nodup_nil⟩, World.ownsRow_nil _ _ _ _, by simp [Value.ownBlock]⟩
  case round =>
    obtain ⟨seen, vs, hit, hbr, hmet, hown, hrv⟩ := hrel
    have hmb : wr.heap[mb]? = some (.map es clock) := (hbr.block mb hbl).trans HBM.out
    go_wp2_with (first
      | (at_next; refine wpList_next_map rfl _ rfl mb r clock seen es rfl hit hmb HO.out HN.out ?_ ?_)
      | go_in)
    · intro h0
      have hall : ∀ x ∈ es.toList, x.born ∈ seen := fun x hx => by
        have := all_seen es seen (by rw [h0]; rfl) x hx
        simpa using this
      have hv2 := hmet.all HN.out HES.out hall
      have hl : vs.length = 2 := by rcases hv2 with rfl | rfl <;> rfl
      rw [hl] at hown
      rcases hown.2 with ⟨_, hh⟩ | ⟨g, cap, cur, rfl, hbase, hgb, hn1, hcm, hsz, htk⟩
      · cases hh
      have hcs : ∀ j : Nat, j < 2 → cur[j]? = (vs.map (·.key))[j]? := fun j hj => by
        rw [← Array.getElem?_toList, ← htk, List.getElem?_take_of_lt (by omega)]
      have S1 : Calls Tryz.prog 211 #[.slice (some ⟨g, 0, none⟩) 2 cap] wr fun e w' => e = .returned (.tuple #[]) ∧ wr.grownBy w' (some g) ∧ ∃ cs' el' fr', w'.heap[g]? = some (.cells cs' el' fr') ∧ cs'.size = cur.size ∧ cs'[0]? = some (.int .u64 3) ∧ cs'[1]? = some (.int .u64 4) ∧ fr'.1 = fr'.2 := by
        have c0 := hcs 0 (by decide)
        have c1 := hcs 1 (by decide)
        rcases hv2 with rfl | rfl <;> rcases HK.out with ⟨k1, k2⟩ | ⟨k1, k2⟩ <;> simp [k1, k2] at c0 c1
        · exact sort2_calls sort34 wr hgb rfl hn1 hcm (by omega) (by simpa using c0) (by simpa using c1)
        · exact sort2_calls sort43 wr hgb rfl hn1 hcm (by omega) (by simpa using c0) (by simpa using c1)
        · exact sort2_calls sort43 wr hgb rfl hn1 hcm (by omega) (by simpa using c0) (by simpa using c1)
        · exact sort2_calls sort34 wr hgb rfl hn1 hcm (by omega) (by simpa using c0) (by simpa using c1)
      clear hcs hown hl hv2 hall
      go_wp2_with (first
        | (go_at_call 211; refine S1.mono ?_; rintro e w4 ⟨rfl, hg4, cs', el', fr', k1, k2, k3, k4, k5⟩)
        | go_in)
      go_ret
      rw [HR.out]
      exact ⟨_, rfl, hbr.grown hg4 (by rw [← HR.out]; exact hbr.size) (fun j hj => by cases hj; exact hbase), ⟨g, cap, cs', el', fr', rfl, hbase, k1, k5, hn1, hcm, by omega, k3, k4⟩⟩
    · intro en he w3 hit3 hg3 hs3 hen
      have he := Array.mem_toList_iff.2 he
      obtain ⟨hem, hes⟩ := mem_left he
      obtain ⟨k, hk⟩ := HKEYS.out en hem
      have hes' : ¬ en.born ∈ seen := by simpa using hes
      have HLT : Aside ((leftOf es (seen.push en.born)).size < (leftOf es seen).size) := left_shrinks es seen en he
      have HS0 : Aside (seenAt wr r = seen) := by show _ = _; simp [seenAt, hit]
      have HMET : Aside (Met es (seen.push en.born) (vs ++ [en])) := hmet.push hem hes'
      have hle : vs.length < 2 := by
        have hm := (hmet.push hem hes').len HES.out
        simp at hm
        omega
      have HLE : Aside (vs.length < 2) := hle
      have HKEY : Aside (en.key = .int .u64 k) := hk
      rw [hk] at hen
      rw [hk]
      have HB3 : Aside (Below r w w3) := hbr.grown hg3 (by rw [← HR.out]; exact hbr.size) (fun j hj => by cases hj; exact Nat.le_refl _)
      have HSZ3 : Aside (r ≤ w3.heap.size) := by show r ≤ _; rw [← HR.out]; exact HB3.out.size
      have HIT3 : Aside (w3.heap[r]? = some (.mapIter (some mb) clock (seen.push en.born) clock)) := hit3
      have HRL : Aside (r < w3.heap.size) := (Array.getElem?_eq_some_iff.1 hit3).1
      have hown3 : w3.ownsRow r 29 1 u3 vs.length (vs.map (·.key)) := hown.kept hg3 (Or.inr (Ne.symm hrv))
      have HOWN : Aside (some r ≠ u3.ownBlock) := hrv
      clear hs3 hit3 hg3 hit hbr hmb he hk hem hes hes' hmet hown hle hrv
      go_wp2_with (first
        | (at_builtin; refine wpList_append_own_at _ rfl _ _ 223 rfl r 29 i0 (.int .u64 0) 1 8 Tryz.underlying223 hi hz0 hz1 hz2 rfl (by decide) u3 vs.length (vs.map (·.key)) rfl (hown3.alloc _) ⟨w3.heap.size, 0, none⟩ 1 1 [.int .u64 k] rfl rfl (cell_one_new _ _ _) (by simp [Value.oneCell']) (by have := HLE.out; unfold maxLen; omega) (by have := HLE.out; omega) (Nat.le_trans HSZ3.out (by simp)) ?_; intro v' w6 hown' hg6 hnil6 hat6)
        | go_in)
      have hit6 : w6.heap[r]? = some (.mapIter (some mb) clock (seen.push en.born) clock) := by
        rw [hg6.block r (by have := HRL.out; simp; omega) HOWN.out, heap_alloc_old w3 _ HRL.out]; exact HIT3.out
      have hrv6 : some r ≠ v'.ownBlock := by
        rcases hat6 with h | h
        · rw [h]; exact HOWN.out
        · rw [h]; have := HRL.out; simp; omega
      have hB6 : Below r w w6 := (HB3.out.alloc HSZ3.out _).grown hg6 (by have := HSZ3.out; simp; omega) (fun j hj => (hown3.lt j hj).1)
      refine ⟨⟨seen.push en.born, vs ++ [en], hit6, hB6, HMET.out, ?_, hrv6⟩, ?_⟩
      · rw [List.length_append, List.map_append, List.map_cons, List.map_nil, HKEY.out]; exact hown'
      · have : seenAt w6 r = seen.push en.born := by simp [seenAt, hit6]
        rw [this, HS0.out]; exact HLT.out
end Go.Proofs.YtafkkicnfngpoaaGreat

namespace Go.Proofs.YtafkkicnfngpoaaGreat
open Go Go.RowKit Go.Lib Go.Proofs.YtafkkicnfngpoaaGreat.Dm

noncomputable def is34 (a b : Int) : Bool := (ieq a 3 && ieq b 4) || (ieq a 4 && ieq b 3)

noncomputable def plA (args : List AV) (h : Heap) : Option (AV × Heap) :=
  match args with
  | [.cv (.sc (.p b o))] =>
    match h.get b with
      | some (.cells r _) => match r.get o with
        | some (.m mr) => match h.get mr with
          | some (.map [⟨.sc (.i .u64 k1), _, b1⟩, ⟨.sc (.i .u64 k2), _, b2⟩] ck) =>
            cnd (is34 k1 k2 && (Nat.blt b1 ck && (Nat.blt b2 ck && !(Nat.beq b1 b2))))
              (some (.cv (.sc (.sl h.next 0 2 2 1 false)), h.push (.cells (row2 3 4) false))) none
          | _ => none
        | _ => none
      | _ => none
  | _ => none

noncomputable def ovPL (call : CallK) : CallK := fun f args h => cnd (Nat.beq f 158)
  (match plA args h with
  | some (v, h') => .ok v h'
  | none => call f args h) (call f args h)

theorem enters158 : Dm.Enters Tryz.prog 158 := ⟨Tryz.f158, Tryz.func158, by kernel_rfl, by kernel_rfl⟩

theorem ovPL_ok : OvOk Tryz.prog ovPL := by
  intro call hc f args h v h' hr
  unfold ovPL at hr
  cases hb : Nat.beq f 158 with
  | false => rw [hb] at hr; exact hc f args h v h' hr
  | true =>
    rw [hb] at hr; simp only [cnd_true] at hr
    split at hr
    case h_2 => exact hc f args h v h' hr
    rename_i v0 h0 hr0
    simp only [CRes.ok.injEq] at hr
    obtain ⟨rfl, rfl⟩ := hr
    obtain rfl := Nat.eq_of_beq_eq_true hb
    clear hb hc
    unfold plA at hr0
    split at hr0
    case h_2 => cases hr0
    rename_i b o
    split at hr0
    case h_2 => cases hr0
    rename_i r ro hgb
    split at hr0
    case h_2 => cases hr0
    rename_i mr hrm
    split at hr0
    case h_2 => cases hr0
    rename_i k1 v1 b1 k2 v2 b2 ck hgm
    cases hcd : (is34 k1 k2 && (Nat.blt b1 ck && (Nat.blt b2 ck && !(Nat.beq b1 b2)))) with
    | false => rw [hcd] at hr0; cases hr0
    | true =>
    rw [hcd] at hr0; simp only [cnd_true, Option.some.injEq, Prod.mk.injEq] at hr0
    obtain ⟨rfl, rfl⟩ := hr0
    simp only [Bool.and_eq_true, Bool.not_eq_true'] at hcd
    obtain ⟨c1, c2, c3, c4⟩ := hcd
    have c2 : b1 < ck := Nat.le_of_ble_eq_true c2
    have c3 : b2 < ck := Nat.le_of_ble_eq_true c3
    have c4 := Nat.ne_of_beq_eq_false c4
    have ck : (k1 = 3 ∧ k2 = 4) ∨ (k1 = 4 ∧ k2 = 3) := by
      unfold is34 at c1
      simp only [ieq_eq] at c1
      simpa using c1
    refine ⟨enters158, Nat.le_succ _, fun ι w aa rep has hf => ?_⟩
    obtain ⟨aa⟩ := aa
    obtain ⟨a1, rfl⟩ : ∃ a1, aa = [a1] := by
      match aa, has with
      | [a1], _ => exact ⟨a1, rfl⟩
      | [], h => exact h.elim
      | _ :: _ :: _, h => exact h.2.elim
    obtain ⟨h1, -⟩ := has
    obtain ⟨cb, N, e1, rfl⟩ := (show VR ι (.p b o) a1 from h1)
    obtain ⟨cb', N', g1, cs, el, fr, g2, g3, g4, g5, g6⟩ := rep.obj b _ hgb
    rw [e1] at g1
    simp only [Option.some.injEq, Prod.mk.injEq] at g1
    obtain ⟨rfl, rfl⟩ := g1
    obtain ⟨V, u1, u2⟩ := g5 o _ hrm
    obtain ⟨cm, Nm, m1, rfl⟩ := (show VR ι (.m mr) V from u2)
    obtain ⟨cm', Nm', p1, ces, p2, p3⟩ := rep.obj mr _ hgm
    rw [m1] at p1
    simp only [Option.some.injEq, Prod.mk.injEq] at p1
    obtain ⟨rfl, rfl⟩ := p1
    have hc : w.cell? ⟨cb, o, none⟩ = some (.map (some cm)) := by
      simp only [World.cell?, g2]
      simpa using u1
    obtain ⟨x, y, hxy, mx, my⟩ : ∃ x y, ces.toList = [x, y] ∧ MR ι ⟨.sc (.i .u64 k1), v1, b1⟩ x ∧ MR ι ⟨.sc (.i .u64 k2), v2, b2⟩ y := by
      match hl : ces.toList, p3 with
      | [x, y], ⟨q1, q2, _⟩ => exact ⟨x, y, rfl, q1, q2⟩
      | [], h => exact h.elim
      | [_], h => exact h.2.elim
      | _ :: _ :: _ :: _, h => exact h.2.2.elim
    have kx : x.key = .int .u64 k1 := mx.1
    have ky : y.key = .int .u64 k2 := my.1
    have bx : x.born = b1 := mx.2.2
    have by_ : y.born = b2 := my.2.2
    refine (plist_calls w hc p2 (fun z hz => ?_) (by rw [hxy]; simp [bx, by_]; exact c4) hxy (by rcases ck with ⟨rfl, rfl⟩ | ⟨rfl, rfl⟩; exact .inl ⟨kx, ky⟩; exact .inr ⟨kx, ky⟩)).mono ?_
    · rw [hxy] at hz
      simp only [List.mem_cons, List.not_mem_nil, or_false] at hz
      rcases hz with rfl | rfl <;> omega
    rintro e w' ⟨V, rfl, hB, hT⟩
    obtain ⟨g, cap, cs', el', fr', rfl, hbase, hg, hfr, q1, q2, q3, q4, q5⟩ := hT.ex
    have hgl : g < w'.heap.size := (Array.getElem?_eq_some_iff.1 hg).1
    refine ⟨_, fun y => if y = h.next then some (g, cs'.size) else ι y, rfl, ⟨g, cs'.size, 0, cap, by simp, rfl, Nat.le_refl _, fun hh => (by cases hh), fun _ => ⟨q1, .inr rfl, by omega, by simp only [maxLen] at q2; omega⟩⟩, ?_⟩
    refine Post.pushAt _ g cs'.size rep hf (fun c hc => hB.block c hc) hbase hgl hB.size hB.tape hB.os hB.output ⟨cs', el', fr', hg, rfl, by show 2 ≤ _; omega, fun i v hv => ?_, fun _ => hfr⟩
    rcases row2_get hv with ⟨rfl, rfl⟩ | ⟨rfl, rfl⟩
    · exact ⟨_, q4, rfl⟩
    · exact ⟨_, q5, rfl⟩
end Go.Proofs.YtafkkicnfngpoaaGreat
