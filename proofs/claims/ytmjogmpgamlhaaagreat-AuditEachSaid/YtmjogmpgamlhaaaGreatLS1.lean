/- Ledger.List in place of its run. -/
import Derived.Test.YtmjogmpgamlhaaaGreatAL1
import Derived.Maps.RangeWalk
import Derived.Laws.AppendOwn
import Derived.OwnWalk
import Derived.Maps.AppendAt
import Derived.Test.YtmjogmpgamlhaaaGreatDmEnds
set_option linter.unusedVariables false
set_option linter.unusedSimpArgs false
set_option linter.unusedSectionVars false
namespace Go.Proofs.YtmjogmpgamlhaaaGreat
open Go Go.RowKit Go.Lib Go.Proofs.YtmjogmpgamlhaaaGreat.Dm

noncomputable def hasB (s p st q : Int) : Bool := decide (s = st) && (decide (q < 0) || decide (p = q))

set_option maxRecDepth 100000 in
theorem has_calls (s p st q : Int) (w : World) : Calls Tryz.prog 369 #[.agg #[.int .i64 s, .int .i64 p], .int .i64 st, .int .i64 q] w fun e w' => e = .returned (.bool (hasB s p st q)) ∧ Below w.heap.size w w' := by
  by_cases h1 : s = st <;> by_cases h2 : q < 0 <;> by_cases h3 : p = q
  all_goals
    go_enter Tryz.func369, Tryz.ntmps369
    go_wp2_with fail
    go_ret
    refine ⟨?_, (Below.refl _ _).alloc (Nat.le_refl _) _⟩
    first
      | (simp [hasB, h1, h2, h3]; done)
      | (rw [beq_eq_false_iff_ne.2 h3]; simp [hasB, h1, h3]; omega)
      | (simp [hasB, h1, h3]; omega)

section
variable {P : Program} {ops : Array Oper} {rest : List Oper} {o : Oper} {a : Act} {w : World} {Q : Exit → Act → World → Prop}

theorem wpList_range_map (hg : o.guard = none) (m : Operand) (t : TypeId) (hop : o.op = Op.range t m) (k e : TypeId) (ht : P.underlying t = some (.map k e)) (mb clock : Nat) (es : Array MapEntry)
    (hm : a.eval m = .map (some mb)) (hb : w.heap[mb]? = some (.map es clock))
    (hK : wpList P ops Q rest (a.put o.dst (.pointer (some ⟨w.heap.size, 0, none⟩))) (w.alloc (.mapIter (some mb) clock #[] clock))) :
    wpList P ops Q (o :: rest) a w := by
  refine wpList_plain hg fun K' hK' => ?_
  have hrun := run_range_map (P := P) w t k e mb es clock ht hb
  unfold Oper.wp
  simp [execOp, hop, hm, hrun, Result.andThen]
  exact hK' _ _ hK

theorem wpList_next_map (hg : o.guard = none) (it : Operand) (hop : o.op = Op.next it false) (mb r clock : Nat) (seen : Array Nat) (es : Array MapEntry)
    (hit : a.eval it = .pointer (some ⟨r, 0, none⟩)) (hr : w.heap[r]? = some (.mapIter (some mb) clock seen clock)) (hb : w.heap[mb]? = some (.map es clock))
    (hold : ∀ x ∈ es.toList, x.born < clock) (hn : (es.toList.map (·.born)).Nodup)
    (hDone : (leftOf es seen).size = 0 → wpList P ops Q rest (a.put o.dst (.tuple #[.bool false])) w)
    (hMore : ∀ e ∈ (leftOf es seen).toList, ∀ w' : World, w'.heap[r]? = some (.mapIter (some mb) clock (seen.push e.born) clock) → w.grownBy w' (some r) → w'.heap.size = w.heap.size →
      (Instr.entry (.pointer (some ⟨r, 0, none⟩))).run P w' = .ok (.tuple #[e.key, e.val]) w' → wpList P ops Q rest (a.put o.dst (.tuple #[.bool true, e.key, e.val])) w') :
    wpList P ops Q (o :: rest) a w := by
  refine wpList_plain hg fun K' hK' => ?_
  unfold Oper.wp
  have hrm : r ≠ mb := fun e => by subst e; rw [hr] at hb; cases hb
  have hrl : r < w.heap.size := (Array.getElem?_eq_some_iff.1 hr).1
  rcases run_next_at (P := P) w o.type r mb clock clock seen es clock hr hb hold (Nat.le_refl _) with ⟨h0, hrun⟩ | ⟨e, he, w1, hw1, hrun⟩
  · simp [execOp, hop, hit, hrun, Result.andThen]
    exact hK' _ _ (hDone h0)
  · have hh : w1.heap = w.heap := by rcases hw1 with rfl | rfl <;> rfl
    have ht : w1.tape = w.tape ∧ w1.os = w.os ∧ w1.output = w.output := by rcases hw1 with rfl | rfl <;> exact ⟨rfl, rfl, rfl⟩
    have e1 : (ChangeMaps.setBlock w1 r (.mapIter (some mb) clock (seen.push e.born) clock)).heap[r]? = some (.mapIter (some mb) clock (seen.push e.born) clock) := by
      simp [ChangeMaps.setBlock, hh, Array.getElem?_setIfInBounds, hrl]
    have e2 : ∀ k, k ≠ r → (ChangeMaps.setBlock w1 r (.mapIter (some mb) clock (seen.push e.born) clock)).heap[k]? = w.heap[k]? := fun k hk => by
      simp [ChangeMaps.setBlock, hh, Array.getElem?_setIfInBounds, Ne.symm hk]
    have hmem : e ∈ es.toList := by
      have : e ∈ (leftOf es seen) := by simpa using he
      have := (Array.mem_filter.1 this).1
      simpa using this
    have hen := run_entry_at (P := P) _ r mb clock seen es clock e e1 ((e2 mb (Ne.symm hrm)).trans hb) hmem hn
    simp [execOp, hop, hit, hrun, Result.andThen]
    refine hK' _ _ (hMore e he _ e1 ⟨ht.2.1, ht.1, ht.2.2, by simp [ChangeMaps.setBlock, hh], fun k hk hne => e2 k (fun h => hne (by rw [h]))⟩ (by simp [ChangeMaps.setBlock, hh]) hen)
end
end Go.Proofs.YtmjogmpgamlhaaaGreat

namespace Go.Proofs.YtmjogmpgamlhaaaGreat
open Go Go.RowKit Go.Lib Go.Proofs.YtmjogmpgamlhaaaGreat.Dm

theorem sort0 : Known Tryz.prog 269 [.cv (.sc .nsl)] (.tu []) := known_of (evP_ok 1000) (by kernel_rfl)

noncomputable def h1k (k : Int) : Heap := ⟨1, (Tr.e).put (some (.cells ⟨1, .i .i64 0, (Tr.e).put (some (.i .i64 k)) 0⟩ false)) 0⟩
noncomputable def look1 (r : CRes) : Option (AV × Option AO) := match r with
  | .ok v h => some (v, h.get 0)
  | _ => none
theorem sort1_run (k : Int) : look1 (evP 1000 269 [.cv (.sc (.sl 0 0 1 1 1 false))] (h1k k)) = some (.tu [], some (.cells ⟨1, .i .i64 0, (Tr.e).put (some (.i .i64 k)) 0⟩ false)) := by kernel_rfl

theorem sort1_calls {g cap : Nat} {cs : Array Value} {el : TypeId} {fr : Nat × Nat} {k : Int} (w : World) (hg : w.heap[g]? = some (.cells cs el fr)) (hf : fr.1 = fr.2) (h1 : 1 ≤ cap) (h2 : cap ≤ maxLen) (h3 : cap ≤ cs.size) (hk : cs[0]? = some (.int .i64 k)) :
    Calls Tryz.prog 269 #[.slice (some ⟨g, 0, none⟩) 1 cap] w fun e w' => e = .returned (.tuple #[]) ∧ w.grownBy w' (some g) ∧ ∃ cs' el' fr', w'.heap[g]? = some (.cells cs' el' fr') ∧ cs'.size = cs.size ∧ cs'[0]? = some (.int .i64 k) ∧ fr'.1 = fr'.2 := by
  have hrun := sort1_run k
  have hgl : g < w.heap.size := (Array.getElem?_eq_some_iff.1 hg).1
  cases hr : evP 1000 269 [.cv (.sc (.sl 0 0 1 1 1 false))] (h1k k) with
  | bad n => rw [hr] at hrun; cases hrun
  | ok v h' =>
    rw [hr] at hrun
    simp only [look1, Option.some.injEq, Prod.mk.injEq] at hrun
    obtain ⟨rfl, hget⟩ := hrun
    obtain ⟨_, hle, hx⟩ := evP_ok 1000 269 _ _ _ _ hr
    have get0 : ∀ b o, (h1k k).get b = some o → b = 0 ∧ o = .cells ⟨1, .i .i64 0, (Tr.e).put (some (.i .i64 k)) 0⟩ false := by
      intro b o hb
      have hb : ((Tr.e).put (some (.cells ⟨1, .i .i64 0, (Tr.e).put (some (.i .i64 k)) 0⟩ false)) 0).get b = some o := hb
      rw [Tr.get_put] at hb
      by_cases h : b = 0
      · rw [if_pos h] at hb; exact ⟨h, (Option.some.inj hb).symm⟩
      · rw [if_neg h] at hb; cases hb
    let ι : Io := fun b => if b = 0 then some (g, cs.size) else none
    have i0 : ι 0 = some (g, cs.size) := rfl
    have rep : Rep ι w (h1k k) := by
      refine ⟨fun b o hb => by rw [(get0 b o hb).1]; exact Nat.one_pos, fun b o hb => ?_, fun b b' o o' c N N' e1 e2 _ _ => (get0 b o e1).1.trans (get0 b' o' e2).1.symm, fun b c N hb => ?_⟩
      · obtain ⟨rfl, rfl⟩ := get0 b o hb
        refine ⟨g, cs.size, i0, cs, el, fr, hg, rfl, by show 1 ≤ cs.size; omega, fun i v hv => ?_, fun _ => hf⟩
        have : (cnd (Nat.blt i 1) (match ((Tr.e).put (some (SV.i .i64 k)) 0).get i with | some v => some v | none => some (SV.i .i64 0)) none) = some v := hv
        rw [cnd_eq_ite] at this
        by_cases hi : i = 0
        · subst hi
          have : some (SV.i .i64 k) = some v := this
          simp only [Option.some.injEq] at this
          subst this
          exact ⟨_, hk, rfl⟩
        · have hb : Nat.blt i 1 = false := by
            cases hbb : Nat.blt i 1 with
            | false => rfl
            | true =>
              rw [Nat.blt_eq] at hbb
              omega
          rw [hb] at this; cases this
      · by_cases h : b = 0
        · subst h; rw [i0] at hb; simp only [Option.some.injEq, Prod.mk.injEq] at hb; rw [← hb.1]; exact hgl
        · have : ι b = none := if_neg h
          rw [this] at hb; cases hb
    have has : ARs ι [.cv (.sc (.sl 0 0 1 1 1 false))] [.slice (some ⟨g, 0, none⟩) 1 cap] :=
      ⟨⟨g, cs.size, 0, cap, i0, rfl, Nat.le_refl _, fun h => (by cases h), fun _ => ⟨h1, .inr rfl, by omega, by simp only [maxLen] at h2; omega⟩⟩, trivial⟩
    refine (hx ι w #[.slice (some ⟨g, 0, none⟩) 1 cap] rep has (fun b hb _ => if_neg (by have : 1 ≤ b := hb; omega))).mono ?_
    rintro e w' ⟨V, ι', rfl, hv, p⟩
    obtain ⟨a, rfl, ha⟩ := hv
    obtain rfl : a = #[] := by
      cases a with
      | mk l => cases l with
        | nil => rfl
        | cons _ _ => exact ha.elim
    have j0 : ι' 0 = some (g, cs.size) := (p.ext 0 (.inl Nat.one_pos)).trans i0
    obtain ⟨cb, N, k1, cs', el', fr', k2, k3, k4, k5, k6⟩ := p.rep.obj 0 _ hget
    rw [j0] at k1
    simp only [Option.some.injEq, Prod.mk.injEq] at k1
    obtain ⟨rfl, rfl⟩ := k1
    obtain ⟨V, c1, c2⟩ := k5 0 (.i .i64 k) rfl
    obtain rfl : V = .int .i64 k := c2
    refine ⟨rfl, ⟨p.os, p.tape, p.output, p.size, fun c hc hne => p.frame c hc (fun b o N hb hι => ?_)⟩, cs', el', fr', k2, k3, c1, k6 rfl⟩
    obtain ⟨rfl, _⟩ := get0 b o hb
    rw [i0] at hι
    simp only [Option.some.injEq, Prod.mk.injEq] at hι
    exact hne (by rw [hι.1])
end Go.Proofs.YtmjogmpgamlhaaaGreat

namespace Go.Proofs.YtmjogmpgamlhaaaGreat
open Go Go.RowKit Go.Lib Go.Proofs.YtmjogmpgamlhaaaGreat.Dm

noncomputable def isM (st q : Int) (x : MapEntry) : Bool := match x.val with
  | .agg a => match a.toList with
    | [.int _ s, .int _ p] => hasB s p st q
    | _ => false
  | _ => false
noncomputable def keyI (x : MapEntry) : Int := match x.key with
  | .int _ k => k
  | _ => 0

/-- One entry at most is such. -/
noncomputable def AtMost (st q : Int) (es : Array MapEntry) : Prop := ∀ x ∈ es.toList, ∀ y ∈ es.toList, isM st q x = true → isM st q y = true → x.born = y.born

structure One (w : World) (base : Nat) (v : Value) (k : Int) : Prop where
  ex : ∃ g cap cs el fr, v = .slice (some ⟨g, 0, none⟩) 1 cap ∧ base ≤ g ∧ w.heap[g]? = some (.cells cs el fr) ∧ fr.1 = fr.2 ∧ 1 ≤ cap ∧ cap ≤ maxLen ∧ cap ≤ cs.size ∧ cs[0]? = some (.int .i64 k)

noncomputable def Hold (p : Prop) : Prop := p
theorem hold {p : Prop} (h : Hold p) : p := h

noncomputable def seenAt (w : World) (r : Nat) : Array Nat := match w.heap[r]? with
  | some (.mapIter _ _ s _) => s
  | _ => #[]

theorem Tryz.info3 : (Tryz.prog.info? 3).map (fun i => (i.zero, i.size, i.bytes)) = some (some (.int .i64 0), 1, 8) := by kernel_rfl

set_option maxRecDepth 100000 in
set_option maxHeartbeats 2000000 in
theorem llist_calls {lb o mb clock : Nat} {es : Array MapEntry} (st q : Int) (hst : st ≠ 0) (w : World) (hc : w.cell? ⟨lb, o + 1, none⟩ = some (.map (some mb))) (hb : w.heap[mb]? = some (.map es clock))
    (hold : ∀ x ∈ es.toList, x.born < clock) (hn : (es.toList.map (·.born)).Nodup) (ent : ∀ x ∈ es.toList, ∃ k s p, x.key = .int .i64 k ∧ x.val = .agg #[.int .i64 s, .int .i64 p]) (hone : AtMost st q es) :
    Calls Tryz.prog 299 #[.pointer (some ⟨lb, o, none⟩), .int .i64 st, .int .i64 q] w fun e w' => ∃ v, e = .returned v ∧ Below w.heap.size w w' ∧
      ((∀ x ∈ es.toList, isM st q x = false) → v = .slice none 0 0) ∧ (∀ x ∈ es.toList, isM st q x = true → One w' w.heap.size v (keyI x)) := by
  have hbl : mb < w.heap.size := (Array.getElem?_eq_some_iff.1 hb).1
  have hcl : lb < w.heap.size := World.block_lt_of_cell? w _ hc
  obtain ⟨i0, hi, hz0, hz1, hz2⟩ := info_parts Tryz.info3
  have hz : hasB 0 0 st q = false := by simp [hasB, Ne.symm hst]
  have HH := fun w => has_calls 0 0 st q w
  rw [hz] at HH
  go_enter Tryz.func299, Tryz.ntmps299
  go_wp2_with (first
    | (go_at_call 369; refine (HH _).mono ?_; rintro e w1 ⟨rfl, hb1⟩; have hc1 : w1.cell? ⟨lb, o + 1, none⟩ = some (.map (some mb)) := (hb1.cell (by show lb < _; exact hcl)).trans hc; have hbm1 : w1.heap[mb]? = some (.map es clock) := (hb1.block mb hbl).trans hb)
    | (at_range; refine wpList_range_map rfl _ 357 rfl 3 347 Tryz.underlying357 mb clock es rfl hbm1 ?_)
    | go_in)
  go_frame
  clear HH
  have hiter0 : (w1.alloc (.mapIter (some mb) clock #[] clock)).heap[w1.heap.size]? = some (.mapIter (some mb) clock #[] clock) := heap_alloc_new w1 _
  have hbw : w.heap.size ≤ w1.heap.size := hb1.size
  generalize hr0 : w1.heap.size = r at hiter0 hbw ⊢
  have hb2 : Below w.heap.size w (w1.alloc (.mapIter (some mb) clock #[] clock)) := hb1.alloc hb1.size _
  generalize w1.alloc (.mapIter (some mb) clock #[] clock) = w2 at hiter0 hb2 ⊢
  clear hc1 hbm1 hb1 hr0
  have HST : Aside (st ≠ 0) := hst
  have HBM : Aside (w.heap[mb]? = some (.map es clock)) := hb
  have HC : Aside (w.cell? ⟨lb, o + 1, none⟩ = some (.map (some mb))) := hc
  have HN : Aside ((es.toList.map (·.born)).Nodup) := hn
  have HO : Aside (∀ x ∈ es.toList, x.born < clock) := hold
  have HE : Aside (∀ x ∈ es.toList, ∃ k s p, x.key = .int .i64 k ∧ x.val = .agg #[.int .i64 s, .int .i64 p]) := ent
  clear hst hb hc hn hold ent
  go_loopw [7] (fun v wr => ∃ seen : Array Nat, wr.heap[r]? = some (.mapIter (some mb) clock seen clock) ∧ Below w.heap.size w wr ∧
      ((v = .slice none 0 0 ∧ ∀ x ∈ es.toList, x.born ∈ seen → isM st q x = false) ∨ (∃ x ∈ es.toList, isM st q x = true ∧ x.born ∈ seen ∧ wr.ownsRow w.heap.size 3 1 v 1 [.int .i64 (keyI x)] ∧ some r ≠ v.ownBlock)))
    (fun _ wr => (leftOf es (seenAt wr r)).size)
  case atStart => exact ⟨#[], hiter0, hb2, .inl ⟨rfl, fun x _ hx => by simp at hx⟩⟩
  case round =>
    obtain ⟨seen, hit, hbr, hcase⟩ := hrel
    have hmb : wr.heap[mb]? = some (.map es clock) := (hbr.block mb hbl).trans HBM.out
    have HCASE : Aside _ := hcase
    clear hcase
    go_wp2_with (first
      | (at_next; refine wpList_next_map rfl _ rfl mb r clock seen es rfl hit hmb HO.out HN.out ?_ ?_)
      | go_in)
    · intro h0
      have hall : ∀ x ∈ es.toList, x.born ∈ seen := fun x hx => by
        have := all_seen es seen (by rw [h0]; rfl) x hx
        simpa using this
      rcases HCASE.out with ⟨rfl, hno⟩ | ⟨x0, hx0, hm0, hs0, hown, hrv⟩
      · go_wp2_with (first
          | (go_at_call 269; refine (sort0.2 _ #[.slice none 0 0] ⟨rfl, trivial⟩).mono ?_; rintro e w4 ⟨V, rfl, hv, hb4⟩)
          | go_in)
        go_ret
        refine ⟨_, rfl, hbr.trans (hb4.mono hbr.size), fun _ => rfl, fun x hx hm => ?_⟩
        have := hno x hx (hall x hx)
        rw [this] at hm; cases hm
      · rcases hown.2 with ⟨_, hh⟩ | ⟨g, cap, cur, rfl, hbase, hgb, hn1, hcm, hsz, htk⟩
        · cases hh
        have hc0 : cur[0]? = some (.int .i64 (keyI x0)) := by
          rw [← Array.getElem?_toList]
          have : (cur.toList.take (1 * 1))[0]? = some (.int .i64 (keyI x0)) := by rw [htk]; rfl
          rwa [List.getElem?_take_of_lt (by decide)] at this
        have S1 := sort1_calls (k := keyI x0) wr hgb rfl hn1 hcm (by omega) hc0
        go_wp2_with (first
          | (go_at_call 269; refine S1.mono ?_; rintro e w4 ⟨rfl, hg4, cs', el', fr', k1, k2, k3, k4⟩)
          | go_in)
        go_ret
        refine ⟨_, rfl, hbr.grown hg4 hbr.size (fun j hj => by cases hj; exact hbase), fun hno => ?_, fun x hx hm => ?_⟩
        · rw [hno x0 hx0] at hm0; cases hm0
        · obtain rfl : x = x0 := born_inj HN.out hx hx0 (hone x hx x0 hx0 hm hm0)
          exact ⟨g, cap, cs', el', fr', rfl, hbase, k1, k4, hn1, hcm, by omega, k3⟩
    · intro en he w3 hit3 hg3 hs3 hen
      have he := Array.mem_toList_iff.2 he
      obtain ⟨hem, hes⟩ := mem_left he
      obtain ⟨k, s, p, hk, hv⟩ := HE.out en hem
      have HKEY : Aside (keyI en = k) := by show _ = _; simp [keyI, hk]
      have HISM : Aside (isM st q en = hasB s p st q) := by show _ = _; simp [isM, hv]
      have hes' : en.born ∉ seen := by simpa using hes
      have HLT : Aside ((leftOf es (seen.push en.born)).size < (leftOf es seen).size) := left_shrinks es seen en he
      have HS0 : Aside (seenAt wr r = seen) := by show _ = _; simp [seenAt, hit]
      rw [hk, hv] at hen
      rw [hk, hv]
      have HEN := fun ty : TypeId => hen
      have hbr3 : Below w.heap.size w w3 := hbr.grown hg3 hbr.size (fun j hj => by cases hj; exact hbw)
      have HB3 : Aside (Below w.heap.size w w3) := hbr3
      have HIT3 : Aside (w3.heap[r]? = some (.mapIter (some mb) clock (seen.push en.born) clock)) := hit3
      have HRL : Aside (r < w3.heap.size) := (Array.getElem?_eq_some_iff.1 hit3).1
      have HG3 : Aside (wr.grownBy w3 (some r)) := hg3
      have HHAS := has_calls s p st q
      clear hs3 hbr3 hit3 hg3 hit hbr hmb he hk hv
      have hne : ∀ x ∈ es.toList, x.born ∈ seen.push en.born → x.born ∈ seen ∨ x = en := fun x hx hxs => by
        rcases Array.mem_push.1 hxs with h | h
        · exact .inl h
        · exact .inr (born_inj HN.out hx hem h)
      have HNE : Aside _ := hne
      have HEM : Aside (en ∈ es.toList) := hem
      have HNS : Aside (¬ en.born ∈ seen) := hes'
      clear hne hem hes hes'
      cases hm : hasB s p st q with
      | false =>
        have HM : Aside (isM st q en = false) := by show _ = _; rw [HISM.out, hm]
        rw [hm] at HHAS
        clear hm
        go_wp2_with (first
          | (go_at_call 369; refine (HHAS _).mono ?_; rintro e' w5 ⟨rfl, hb5⟩)
          | go_in)
        have hsz : (w3.alloc (.cells #[.int .i64 s, .int .i64 p] 347)).heap.size = w3.heap.size + 1 := by simp
        have hit5 : w5.heap[r]? = some (.mapIter (some mb) clock (seen.push en.born) clock) := by
          rw [hb5.block r (by rw [hsz]; have := HRL.out; omega), heap_alloc_old w3 _ HRL.out]; exact HIT3.out
        have hg5 : (w3.alloc (.cells #[.int .i64 s, .int .i64 p] 347)).grownBy w5 none := ⟨hb5.os, hb5.tape, hb5.output, hb5.size, fun k hk _ => hb5.block k hk⟩
        refine ⟨⟨seen.push en.born, hit5, (HB3.out.alloc HB3.out.size _).trans (hb5.mono (by rw [hsz]; have := HB3.out.size; omega)), ?_⟩, ?_⟩
        · rcases HCASE.out with ⟨rfl, hno⟩ | ⟨x0, hx0, hm0, hs0, hown, hrv⟩
          · refine .inl ⟨rfl, fun x hx hxs => ?_⟩
            rcases HNE.out x hx hxs with h | rfl
            · exact hno x hx h
            · exact HM.out
          · exact .inr ⟨x0, hx0, hm0, Array.mem_push.2 (.inl hs0), ((hown.kept HG3.out (Or.inr (Ne.symm hrv))).alloc _).kept hg5 (by cases u7.ownBlock <;> simp), hrv⟩
        · have : seenAt w5 r = seen.push en.born := by simp [seenAt, hit5]
          rw [this, HS0.out]; exact HLT.out
      | true =>
        have HM : Aside (isM st q en = true) := by show _ = _; rw [HISM.out, hm]
        rw [hm] at HHAS
        clear hm
        rcases HCASE.out with ⟨rfl, hno⟩ | ⟨x0, hx0, hm0, hs0, hown, hrv⟩
        · clear HCASE
          have HNO : Aside _ := hno
          clear hno
          go_wp2_with (first
            | (go_at_call 369; refine (HHAS _).mono ?_; rintro e' w5 ⟨rfl, hb5⟩)
            | (at_builtin; refine wpList_append_own_at _ rfl _ _ 22 rfl w.heap.size 3 i0 (.int .i64 0) 1 8 Tryz.underlying22 hi hz0 hz1 hz2 rfl (by decide) (.slice none 0 0) 0 [] rfl (World.ownsRow_nil _ _ _ _) ⟨w5.heap.size, 0, none⟩ 1 1 [.int .i64 k] rfl rfl (cell_one_new _ _ _) (by simp [Value.oneCell']) (by unfold maxLen; omega) (by omega) (Nat.le_trans HB3.out.size (Nat.le_trans (by simp) (Nat.le_trans hb5.size (by simp)))) ?_; intro v' w6 hown' hg6 hnil6 hat6)
            | go_in)
          have hsz : (w3.alloc (.cells #[.int .i64 s, .int .i64 p] 347)).heap.size = w3.heap.size + 1 := by simp
          have hs5 : w3.heap.size + 1 ≤ w5.heap.size := by have := hb5.size; rw [hsz] at this; exact this
          have hit5 : w5.heap[r]? = some (.mapIter (some mb) clock (seen.push en.born) clock) := by
            rw [hb5.block r (by rw [hsz]; have := HRL.out; omega), heap_alloc_old w3 _ HRL.out]; exact HIT3.out
          have hown1 : w6.ownsRow w.heap.size 3 1 v' 1 [.int .i64 k] := by simpa using hown'
          have hr5 : r < w5.heap.size := (Array.getElem?_eq_some_iff.1 hit5).1
          have hg6' : (w5.alloc (.cells #[.int .i64 k] 3)).grownBy w6 none := hg6
          have hrv : some r ≠ v'.ownBlock := by
            rcases hat6 with h | h
            · rw [h]; simp [Value.ownBlock]
            · rw [h]; simp; omega
          have hB5 : Below w.heap.size w w5 := (HB3.out.alloc HB3.out.size _).trans (hb5.mono (by rw [hsz]; have := HB3.out.size; omega))
          have hB6 : Below w.heap.size w w6 := (hB5.alloc hB5.size _).grown hg6' (by have := hB5.size; simp; omega) (fun j hj => by cases hj)
          have hit6 : w6.heap[r]? = some (.mapIter (some mb) clock (seen.push en.born) clock) := by
            rw [hg6'.block r (by simp; omega) (by simp), heap_alloc_old w5 _ hr5]; exact hit5
          refine ⟨⟨seen.push en.born, hit6, hB6, .inr ⟨en, HEM.out, HM.out, by simp, by rw [HKEY.out]; exact hown1, hrv⟩⟩, ?_⟩
          have : seenAt w6 r = seen.push en.born := by simp [seenAt, hit6]
          rw [this, HS0.out]; exact HLT.out
        · exfalso
          have hb := hone x0 hx0 en HEM.out hm0 HM.out
          exact HNS.out (by rw [← hb]; exact hs0)
end Go.Proofs.YtmjogmpgamlhaaaGreat

namespace Go.Proofs.YtmjogmpgamlhaaaGreat
open Go Go.RowKit Go.Lib Go.Proofs.YtmjogmpgamlhaaaGreat.Dm

noncomputable def memN (n : Nat) : List Nat → Bool
  | [] => false
  | a :: l => Nat.beq n a || memN n l
theorem memN_iff {n : Nat} : ∀ {l : List Nat}, memN n l = true ↔ n ∈ l
  | [] => by simp [memN]
  | a :: l => by simp [memN, memN_iff (l := l)]

noncomputable def hasK (s p st q : Int) : Bool := ieq s st && (ilt q 0 || ieq p q)
theorem hasK_eq (s p st q : Int) : hasK s p st q = hasB s p st q := by
  unfold hasK hasB
  rw [ieq_eq, ieq_eq, ilt_eq]
  by_cases h1 : s = st <;> by_cases h2 : p = q <;> simp [h1, h2]

noncomputable def llist (st q : Int) (ck : Nat) : List ME → List Nat → Option (List Int)
  | [], _ => some []
  | ⟨.sc (.i .i64 k), .ag [.i .i64 s, .i .i64 p], bn⟩ :: l, seen => cnd (Nat.blt bn ck && !(memN bn seen))
    (match llist st q ck l (bn :: seen) with
    | some r => cnd (hasK s p st q) (some (k :: r)) (some r)
    | none => none) none
  | _ :: _, _ => none

noncomputable def Fits (st q : Int) (ck : Nat) (seen : List Nat) (r : List Int) (l : List MapEntry) : Prop :=
  (∀ x ∈ l, x.born < ck) ∧ (l.map (·.born)).Nodup ∧ (∀ x ∈ l, x.born ∉ seen) ∧ (∀ x ∈ l, ∃ k s p, x.key = .int .i64 k ∧ x.val = .agg #[.int .i64 s, .int .i64 p]) ∧ r = (l.filter (isM st q)).map keyI

theorem llist_fits {ι : Io} {st q : Int} {ck : Nat} : ∀ {es : List ME} {seen : List Nat} {r : List Int} {l : List MapEntry}, llist st q ck es seen = some r → MRs ι es l → Fits st q ck seen r l
  | [], seen, r, [], h, _ => by
    simp only [llist, Option.some.injEq] at h
    subst h
    exact ⟨by simp, by simp, by simp, by simp, rfl⟩
  | [], _, _, _ :: _, _, h => h.elim
  | _ :: _, _, _, [], _, h => h.elim
  | e :: es, seen, r, x :: l, h, ⟨⟨m1, m2, m3⟩, ms⟩ => by
    unfold llist at h
    split at h
    · rename_i he; cases he
    · rename_i seen es2 seen2 k s p bn l' he
      cases he
      cases hcd : (Nat.blt bn ck && !(memN bn seen)) with
      | false => rw [hcd] at h; cases h
      | true =>
        rw [hcd] at h; simp only [cnd_true] at h
        simp only [Bool.and_eq_true, Bool.not_eq_true'] at hcd
        have hb : bn < ck := Nat.le_of_ble_eq_true hcd.1
        have hns : bn ∉ seen := fun hh => by rw [memN_iff.2 hh] at hcd; cases hcd.2
        split at h
        · rename_i r' hr'
          obtain ⟨f1, f2, f3, f4, f5⟩ := llist_fits hr' ms
          have hkey : x.key = .int .i64 k := m1
          obtain ⟨a, hv, ha⟩ := m2
          have m3 : x.born = bn := m3
          have hval : x.val = .agg #[.int .i64 s, .int .i64 p] := by
            rw [hv]
            match a, ha with
            | ⟨[v1, v2]⟩, ⟨h1, h2, _⟩ =>
              have h1 : v1 = .int .i64 s := h1
              have h2 : v2 = .int .i64 p := h2
              rw [h1, h2]
            | ⟨[]⟩, h => exact h.elim
            | ⟨[_]⟩, h => exact h.2.elim
            | ⟨_ :: _ :: _ :: _⟩, h => exact h.2.2.elim
          have hm : isM st q x = hasK s p st q := by rw [hasK_eq]; simp [isM, hval]
          have hk : keyI x = k := by simp [keyI, hkey]
          refine ⟨fun y hy => ?_, ?_, fun y hy => ?_, fun y hy => ?_, ?_⟩
          · rcases List.mem_cons.1 hy with rfl | hy
            · omega
            · exact f1 y hy
          · rw [List.map_cons, List.nodup_cons]
            refine ⟨fun hh => ?_, f2⟩
            obtain ⟨y, hy, hye⟩ := List.mem_map.1 hh
            exact f3 y hy (by rw [hye, m3]; exact List.mem_cons_self)
          · rcases List.mem_cons.1 hy with rfl | hy
            · rw [m3]; exact hns
            · exact fun hh => f3 y hy (List.mem_cons_of_mem _ hh)
          · rcases List.mem_cons.1 hy with rfl | hy
            · exact ⟨k, s, p, hkey, hval⟩
            · exact f4 y hy
          · cases hh : hasK s p st q with
            | true =>
              rw [hh] at h hm; simp only [cnd_true, Option.some.injEq] at h
              rw [← h, List.filter_cons_of_pos hm, List.map_cons, hk, f5]
            | false =>
              rw [hh] at h hm; simp only [cnd_false, Option.some.injEq] at h
              rw [← h, List.filter_cons_of_neg (by simp [hm]), f5]
        · cases h
    · cases h

noncomputable def llA (args : List AV) (h : Heap) : Option (AV × Heap) :=
  match args with
  | [.cv (.sc (.p b o)), .cv (.sc (.i .i64 st)), .cv (.sc (.i .i64 q))] =>
    cnd (ieq st 0) none
      (match h.get b with
      | some (.cells r _) => match r.get (Nat.succ o) with
        | some (.m mr) => match h.get mr with
          | some (.map es ck) => match llist st q ck es [] with
            | some [] => some (.cv (.sc .nsl), h)
            | some [k] => some (.cv (.sc (.sl h.next 0 1 1 1 false)), h.push (.cells ⟨1, .i .i64 0, (Tr.e).put (some (.i .i64 k)) 0⟩ false))
            | _ => none
          | _ => none
        | _ => none
      | _ => none)
  | _ => none

noncomputable def ovLL (call : CallK) : CallK := fun f args h => cnd (Nat.beq f 299)
  (match llA args h with
  | some (v, h') => .ok v h'
  | none => call f args h) (call f args h)

theorem enters173 : Dm.Enters Tryz.prog 299 := ⟨Tryz.f299, Tryz.func299, by kernel_rfl, by kernel_rfl⟩

theorem ovLL_ok : OvOk Tryz.prog ovLL := by
  intro call hc f args h v h' hr
  unfold ovLL at hr
  cases hb : Nat.beq f 299 with
  | false => rw [hb] at hr; exact hc f args h v h' hr
  | true =>
    rw [hb] at hr; simp only [cnd_true] at hr
    split at hr
    case h_2 => exact hc f args h v h' hr
    rename_i v0 h0 hr0
    simp only [CRes.ok.injEq] at hr
    obtain ⟨rfl, rfl⟩ := hr
    obtain rfl := Nat.eq_of_beq_eq_true hb
    clear hb hc
    unfold llA at hr0
    split at hr0
    case h_2 => cases hr0
    rename_i b o st q
    cases hst : ieq st 0 with
    | true => rw [hst] at hr0; cases hr0
    | false =>
    rw [hst] at hr0; simp only [cnd_false] at hr0
    have hst : st ≠ 0 := by rw [ieq_eq] at hst; simpa using hst
    split at hr0
    case h_2 => cases hr0
    rename_i r ro hgb
    split at hr0
    case h_2 => cases hr0
    rename_i mr hrm
    split at hr0
    case h_2 => cases hr0
    rename_i es ck hgm
    have key : ∀ (ks : List Int), llist st q ck es [] = some ks → ∀ ι w (aa : Array Value), Rep ι w h → ARs ι [.cv (.sc (.p b o)), .cv (.sc (.i .i64 st)), .cv (.sc (.i .i64 q))] aa.toList → (∀ x y, x ∈ ks → y ∈ ks → ks.length ≤ 1) →
        Calls Tryz.prog 299 aa w fun e w' => ∃ V, e = .returned V ∧ Below w.heap.size w w' ∧ (ks = [] → V = .slice none 0 0) ∧ (∀ k, ks = [k] → One w' w.heap.size V k) := by
      intro ks hks ι w aa rep has hone
      obtain ⟨aa⟩ := aa
      obtain ⟨a1, a2, a3, rfl⟩ : ∃ a1 a2 a3, aa = [a1, a2, a3] := by
        match aa, has with
        | [a1, a2, a3], _ => exact ⟨a1, a2, a3, rfl⟩
        | [], h => exact h.elim
        | [_], h => exact h.2.elim
        | [_, _], h => exact h.2.2.elim
        | _ :: _ :: _ :: _ :: _, h => exact h.2.2.2.elim
      obtain ⟨h1, h2, h3, -⟩ := has
      obtain ⟨cb, N, e1, rfl⟩ := (show VR ι (.p b o) a1 from h1)
      obtain rfl : a2 = .int .i64 st := h2
      obtain rfl : a3 = .int .i64 q := h3
      obtain ⟨cb', N', g1, cs, el, fr, g2, g3, g4, g5, g6⟩ := rep.obj b _ hgb
      rw [e1] at g1
      simp only [Option.some.injEq, Prod.mk.injEq] at g1
      obtain ⟨rfl, rfl⟩ := g1
      obtain ⟨V, v1, v2⟩ := g5 (o + 1) _ hrm
      obtain ⟨cm, Nm, m1, rfl⟩ := (show VR ι (.m mr) V from v2)
      obtain ⟨cm', Nm', p1, ces, p2, p3⟩ := rep.obj mr _ hgm
      rw [m1] at p1
      simp only [Option.some.injEq, Prod.mk.injEq] at p1
      obtain ⟨rfl, rfl⟩ := p1
      obtain ⟨f1, f2, f3, f4, f5⟩ := llist_fits hks p3
      have hc : w.cell? ⟨cb, o + 1, none⟩ = some (.map (some cm)) := by
        simp only [World.cell?, g2]
        simpa using v1
      have hat : AtMost st q ces := by
        intro x hx y hy hmx hmy
        have ix : x ∈ ces.toList.filter (isM st q) := List.mem_filter.2 ⟨hx, hmx⟩
        have iy : y ∈ ces.toList.filter (isM st q) := List.mem_filter.2 ⟨hy, hmy⟩
        have kx : keyI x ∈ ks := by rw [f5]; exact List.mem_map.2 ⟨x, ix, rfl⟩
        have hl := hone _ _ kx kx
        rw [f5, List.length_map] at hl
        match hf : ces.toList.filter (isM st q), ix, iy, hl with
        | [z], ix, iy, _ =>
          simp only [List.mem_singleton] at ix iy
          rw [ix, iy]
        | [], ix, _, _ => cases ix
        | _ :: _ :: _, _, _, hl => simp at hl
      refine (llist_calls st q hst w hc p2 f1 f2 f4 hat).mono ?_
      rintro e w' ⟨V, rfl, hB, n1, n2⟩
      refine ⟨V, rfl, hB, fun hk => n1 fun x hx => ?_, fun k hk => ?_⟩
      · cases hm : isM st q x with
        | false => rfl
        | true =>
          have : keyI x ∈ ks := by rw [f5]; exact List.mem_map.2 ⟨x, List.mem_filter.2 ⟨hx, hm⟩, rfl⟩
          rw [hk] at this; cases this
      · have : k ∈ ks := by rw [hk]; exact List.mem_singleton_self _
        rw [f5] at this
        obtain ⟨x, hx, rfl⟩ := List.mem_map.1 this
        obtain ⟨hx, hm⟩ := List.mem_filter.1 hx
        exact n2 x hx hm
    split at hr0
    · rename_i hks
      simp only [Option.some.injEq, Prod.mk.injEq] at hr0
      obtain ⟨rfl, rfl⟩ := hr0
      refine ⟨enters173, Nat.le_refl _, fun ι w aa rep has hf => (key [] hks ι w aa rep has (fun x y hx => by cases hx)).mono ?_⟩
      rintro e w' ⟨V, rfl, hB, n1, -⟩
      obtain rfl := n1 rfl
      exact ⟨_, ι, rfl, rfl, post_below rep hB⟩
    · rename_i k hks
      simp only [Option.some.injEq, Prod.mk.injEq] at hr0
      obtain ⟨rfl, rfl⟩ := hr0
      refine ⟨enters173, Nat.le_succ _, fun ι w aa rep has hf => (key [k] hks ι w aa rep has (fun x y _ _ => Nat.le_refl _)).mono ?_⟩
      rintro e w' ⟨V, rfl, hB, -, n2⟩
      obtain ⟨g, cap, cs, el, fr, rfl, hbase, hg, hfr, h1, h2, h3, h4⟩ := (n2 k rfl).ex
      have hgl : g < w'.heap.size := (Array.getElem?_eq_some_iff.1 hg).1
      refine ⟨_, fun y => if y = h.next then some (g, cs.size) else ι y, rfl, ⟨g, cs.size, 0, cap, by simp, rfl, Nat.le_refl _, fun hh => (by cases hh), fun _ => ⟨h1, .inr rfl, by omega, by simp only [maxLen] at h2; omega⟩⟩, ?_⟩
      refine Post.pushAt _ g cs.size rep hf (fun c hc => hB.block c hc) hbase hgl hB.size hB.tape hB.os hB.output ⟨cs, el, fr, hg, rfl, by show 1 ≤ _; omega, fun i v hv => ?_, fun _ => hfr⟩
      have hv : (cnd (Nat.blt i 1) (match ((Tr.e).put (some (SV.i .i64 k)) 0).get i with | some v => some v | none => some (SV.i .i64 0)) none) = some v := hv
      by_cases hi : i = 0
      · subst hi
        have : some (SV.i .i64 k) = some v := hv
        simp only [Option.some.injEq] at this
        subst this
        exact ⟨_, h4, rfl⟩
      · have hb : Nat.blt i 1 = false := by
          cases hbb : Nat.blt i 1 with
          | false => rfl
          | true =>
            rw [Nat.blt_eq] at hbb
            omega
        rw [hb] at hv; cases hv
    · cases hr0
end Go.Proofs.YtmjogmpgamlhaaaGreat
