/- The evaluator for the long runs: what is known of calls. -/
import Derived.Test.YtmjogmpgamlhaaaGreatAL1
import Derived.Sort.WalkA
import Derived.Sort.OwnSortedInts
import Derived.Test.YtmjogmpgamlhaaaGreatSO1
import Derived.OwnWalk
import Derived.Test.YtmjogmpgamlhaaaGreatLS1
import Derived.Test.YtmjogmpgamlhaaaGreatDmEnds
set_option linter.unusedVariables false
set_option linter.unusedSimpArgs false
set_option linter.unusedSectionVars false
namespace Go.Proofs.YtmjogmpgamlhaaaGreat
open Go Go.RowKit Go.Lib Go.Proofs.YtmjogmpgamlhaaaGreat.Dm Go.Sort Go.Proofs

theorem nanI_calls (x : Int) (w : World) : Calls Tryz.prog 412 #[.int .i64 x] w fun e w' => e = .returned (.bool false) ∧ w' = w := by
  go_enter Tryz.func412, Tryz.ntmps412
  go_wp2
  go_ret
  exact ⟨by simp, rfl⟩

set_option maxHeartbeats 1000000 in
theorem lessI_calls (x y : Int) (w : World) : Calls Tryz.prog 373 #[.int .i64 x, .int .i64 y] w fun e w' => e = .returned (.bool (Sort.ltInt x y)) ∧ w' = w := by
  go_enter Tryz.func373, Tryz.ntmps373
  go_wp2_with (go_at_call 412; refine (nanI_calls _ _).mono ?_; rintro e w' ⟨rfl, rfl⟩)
  go_ret
  exact ⟨rfl, rfl⟩

theorem insI_calls (blk off cap a b : Nat) (d : Array Int) (w : World) (hH : Holds (Value.int .i64) w blk off d) (hab : a ≤ b) (hb : b ≤ d.size) (hsz : d.size < 4611686018427387904) :
    Calls Tryz.prog 390 #[.slice (some ⟨blk, off, none⟩) d.size cap, .int .i64 a, .int .i64 b] w fun e w' =>
      e = .returned (.tuple #[]) ∧ ∃ n, w' = putRow (Value.int .i64) (Sort.ahead w n) blk off (Sort.insertionSort ltInt d a b) := by
  go_enter Tryz.func390, Tryz.ntmps390
  go_wp2
  go_loopw [6] (fun vi wr => ∃ (i n : Nat) (dk : Array Int), vi = .int .i64 i ∧ a < i ∧ i ≤ b + 1 ∧ dk.size = d.size ∧ wr = putRow (Value.int .i64) (Sort.ahead w n) blk off dk ∧
      insOuter ltInt a b i dk = insOuter ltInt a b (a + 1) d) (fun vi _ => b + 1 - (intOf vi).toNat)
  case atStart => exact ⟨a + 1, 0, d, by go_num, by omega, by omega, rfl, (putRow_self _ _ _ _ _ hH).symm, rfl⟩
  case round =>
    obtain ⟨i, n, dk, rfl, hai, hib, hsk, hwr, hO⟩ := hrel
    have HO : Hid (insOuter ltInt a b i dk = insOuter ltInt a b (a + 1) d) := hO
    clear hO
    go_wp2
    · -- i < b: the inner loop
      go_loopw [7] (fun vj wr2 => ∃ (j m : Nat) (dj : Array Int), vj = .int .i64 j ∧ a ≤ j ∧ j ≤ i ∧ dj.size = d.size ∧ wr2 = putRow (Value.int .i64) (Sort.ahead w m) blk off dj ∧
          insInner ltInt a j dj = insInner ltInt a i dk) (fun vj _ => (intOf vj).toNat)
      case atStart => exact ⟨i, n, dk, rfl, by omega, Nat.le_refl _, hsk, rfl, rfl⟩
      case round =>
        obtain ⟨j, m, dj, rfl, haj, hji, hsj, hw2, hI⟩ := hrel
        have hlt : i < b := by assumption
        obtain ⟨G, hG⟩ : ∃ G : Nat → Int, ∀ t, G t = dj[t]! := ⟨fun t => dj[t]!, fun _ => rfl⟩
        have hcw : ∀ t, t < d.size → wr.cell? ⟨blk, off + t, none⟩ = some (.int .i64 (G t)) := fun t ht => by
          rw [hw2, hG]; exact cell?_putRow _ _ _ _ d dj (holds_ahead _ _ _ _ _ _ hH) hsj t (by omega)
        have hfw : ∀ t, t < d.size → wr.frozen? ⟨blk, off + t, none⟩ = false := fun t ht => by
          rw [hw2, frozen?_putRow]; exact ((holds_ahead _ _ m _ _ _ hH) t ht).2
        have HW : Hid (wr = putRow (Value.int .i64) (Sort.ahead w m) blk off dj) := hw2
        have HG : Hid (∀ t, G t = dj[t]!) := hG
        have HI : Hid (insInner ltInt a j dj = insInner ltInt a i dk) := hI
        clear hw2 hG hI hH
        have out : (j ≤ a ∨ ltInt dj[j]! dj[j - 1]! = false) → ∀ q, ∃ i' n' dk', Value.int .i64 ((i : Int) + 1) = .int .i64 (i' : Nat) ∧ a < i' ∧ i' ≤ b + 1 ∧ dk'.size = d.size ∧
            wr.drewN q = putRow (Value.int .i64) (Sort.ahead w n') blk off dk' ∧ insOuter ltInt a b i' dk' = insOuter ltInt a b (a + 1) d := fun hs q =>
          ⟨i + 1, m + q, dj, by go_num, by omega, by omega, hsj, by rw [HW.out]; exact putRow_drewN _ _ _ _ _ _ _,
            by rw [← HO.out, insOuter_go _ _ _ _ _ hlt, ← HI.out, insInner_stop _ _ _ _ hs]⟩
        have OUT : Hid _ := out
        clear out
        go_wp2
        by_cases hja : a < j
        · go_quiet (first | (go_at_call 373; refine Calls.quiet_of_same (lessI_calls _ _ _)))
          go_wp2
          · -- Less: the swap, j--
            have hl : ltInt (G j) (G (j - 1)) = true := by assumption
            go_region
            all_goals go_wp2
            go_roundw
            case rel =>
              refine ⟨j - 1, m + (nq + 1), swp dj j (j - 1), by congr 1; omega, by omega, by omega, by rw [size_swp]; exact hsj, ?_, ?_⟩
              · rw [HW.out, HG.out, HG.out]
                exact swap_worldA _ w m (nq + 1) blk off dj j (j - 1) (by omega) (by omega)
              · rw [← HI.out, insInner_go ltInt a j dj hja (by rw [← HG.out, ← HG.out]; exact hl)]
            case measure => simp [intOf]; omega
          · -- not Less
            have hl : ltInt (G j) (G (j - 1)) = false := by assumption
            go_roundw
            case rel => exact OUT.out (Or.inr (by rw [← HG.out, ← HG.out]; exact hl)) nq
            case measure => simp [intOf]; omega
        · go_quiet (first | (go_at_call 373; refine Calls.quiet_of_same (lessI_calls _ _ _)))
          go_wp2
          go_roundw
          case rel => exact OUT.out (Or.inl (by omega)) nq
          case measure => simp [intOf]; omega
    · -- the outer loop is at its end
      have hge : ¬ i < b := by assumption
      go_end0
      exact ⟨rfl, n, by unfold Sort.insertionSort; rw [← HO.out, insOuter_stop _ _ _ _ _ hge]⟩
end Go.Proofs.YtmjogmpgamlhaaaGreat

namespace Go.Proofs.YtmjogmpgamlhaaaGreat
open Go Go.RowKit Go.Lib Go.Proofs.YtmjogmpgamlhaaaGreat.Dm Go.Sort Go.Proofs

theorem holds_of_blockI {w : World} {g : Nat} {cur : Array Value} {e : TypeId} {ss : List Int} (hb : w.heap[g]? = some (.cells cur e (0, 0))) (ht : cur.toList.take ss.length = ss.map (Value.int .i64)) : Holds (Value.int .i64) w g 0 ss.toArray := by
  intro j hj
  have hj' : j < ss.length := by simpa using hj
  refine ⟨?_, by simp [World.frozen?, hb]⟩
  have h1 : (cur.toList.take ss.length)[j]? = (ss.map (Value.int .i64))[j]? := by rw [ht]
  rw [List.getElem?_take_of_lt hj'] at h1
  simp only [World.cell?, hb, Nat.zero_add]
  simp only [Option.isSome_none, Bool.false_eq_true, if_false]
  rw [← Array.getElem?_toList, h1]
  simp [hj']

theorem heap_sortedI {w : World} {g n : Nat} {os : Array Obj} {cur : Array Value} {e : TypeId} {fr : Nat × Nat} (d : Array Int) (hb : w.heap[g]? = some (.cells cur e fr)) :
    (grow (putRow (Value.int .i64) (Sort.ahead w n) g 0 d) os).heap[g]? = some (.cells (putCells (Value.int .i64) 0 d cur) e fr) := by
  have hg : g < w.heap.size := (Array.getElem?_eq_some_iff.1 hb).1
  rw [heap_grow_old _ _ (by simpa using hg)]
  simp [putRow, mapBlock, Sort.ahead, Array.getElem?_modify, hb, onCells]

theorem grownBy_sortedI {w : World} {g n : Nat} {os : Array Obj} (d : Array Int) : w.grownBy (grow (putRow (Value.int .i64) (Sort.ahead w n) g 0 d) os) (some g) := by
  refine ⟨rfl, rfl, rfl, by simp, fun k hk hne => ?_⟩
  rw [heap_grow_old _ _ (by simpa using hk)]
  have : g ≠ k := fun e => hne (by rw [e])
  simp [putRow, mapBlock, Sort.ahead, Array.getElem?_modify, this]

theorem take_putCellsI (cur : Array Value) (ts : List Int) (h : ts.length ≤ cur.size) : (putCells (Value.int .i64) 0 ts.toArray cur).toList.take ts.length = ts.map (Value.int .i64) := by
  apply List.ext_getElem?
  intro j
  by_cases hj : j < ts.length
  · rw [List.getElem?_take_of_lt hj, Array.getElem?_toList]
    simp [putCells, hj, show j < cur.size by omega]
  · rw [List.getElem?_take_eq_none (by omega), List.getElem?_eq_none (by simp; omega)]

/-- BEHIND THE SORT the same slice owns the sorted list. -/
theorem ownsRow_sortedI {w : World} {base g cap n : Nat} {e : TypeId} {os : Array Obj} {cur : Array Value} {ss ts : List Int} (hl : ts.length = ss.length) (hbase : base ≤ g) (hb : w.heap[g]? = some (.cells cur e (0, 0)))
    (h1 : ss.length ≤ cap) (h2 : cap ≤ maxLen) (h3 : cur.size = cap * 1) :
    (grow (putRow (Value.int .i64) (Sort.ahead w n) g 0 ts.toArray) os).ownsRow base e 1 (.slice (some ⟨g, 0, none⟩) ss.length cap) ss.length (ts.map (Value.int .i64)) :=
  ⟨by simp [hl], .inr ⟨g, cap, _, rfl, hbase, heap_sortedI _ hb, h1, h2, by simp [putCells, h3], by rw [Nat.mul_one, ← hl]; exact take_putCellsI cur ts (by omega)⟩⟩



theorem pdqI_calls (blk off cap n : Nat) (k : Int) (d : Array Int) (w : World) (hH : Holds (Value.int .i64) w blk off d) (hn : d.size = n) (h12 : n ≤ 12) :
    Calls Tryz.prog 349 #[.slice (some ⟨blk, off, none⟩) n cap, .int .i64 0, .int .i64 (n : Int), .int .i64 k] w fun e w' =>
      e = .returned (.tuple #[]) ∧ ∃ m, w' = putRow (Value.int .i64) (Sort.ahead w m) blk off (Sort.insertionSort ltInt d 0 n) := by
  have hc := insI_calls blk off cap 0 n d w hH (Nat.zero_le _) (by omega) (by omega)
  rw [hn] at hc
  have hz : (n : Int) - 0 ≤ 12 := by omega
  have hz' : (n : Int) ≤ 12 := by omega
  have hw : IntKind.i64.wrap (n : Int) = n := IntWalk.i64_in _ (by omega)
  clear hH
  go_enter Tryz.func349, Tryz.ntmps349
  go_wp2
  go_loopw [1, 2] (fun v1 v2 wr => v1 = .int .i64 0 ∧ v2 = .int .i64 (n : Int) ∧ wr = w) (fun _ _ _ => 0)
  case atStart => exact ⟨rfl, rfl, rfl⟩
  case round =>
    obtain ⟨rfl, rfl, rfl⟩ := hrel
    go_wp2_with (go_at_call 390; refine hc.mono ?_; rintro e w1 ⟨rfl, hw1⟩)
    (try simp only [Exit.inBlock, Exit.then]); refine bodyPost_ret (results_none rfl _ _ _) rfl ?_
    exact ⟨rfl, hw1⟩

theorem sortI_calls {base g cap : Nat} {e : TypeId} {L : List Int} (w : World) (hown : w.ownsRow base e 1 (.slice (some ⟨g, 0, none⟩) L.length cap) L.length (L.map (Value.int .i64))) (h12 : L.length ≤ 12) (hpos : 0 < L.length) :
    Calls Tryz.prog 269 #[.slice (some ⟨g, 0, none⟩) L.length cap] w fun ex w' => ex = .returned (.tuple #[]) ∧ w.grownBy w' (some g) ∧
      w'.ownsRow base e 1 (.slice (some ⟨g, 0, none⟩) L.length cap) L.length ((L.mergeSort (fun x y => !ltInt y x)).map (Value.int .i64)) := by
  obtain ⟨cur, hbase, hbb, h1, h2, h3, h4⟩ : ∃ cur : Array Value, base ≤ g ∧ w.heap[g]? = some (.cells cur e (0, 0)) ∧ L.length ≤ cap ∧ cap ≤ maxLen ∧ cur.size = cap * 1 ∧ cur.toList.take L.length = L.map (Value.int .i64) := by
    rcases hown.2 with ⟨h', _⟩ | ⟨g', cap', cur, h', hb, hg, hnc, hcm, hcs, htake⟩
    · simp at h'
    · simp only [Value.slice.injEq, Option.some.injEq, Addr.mk.injEq, and_true, true_and] at h'
      obtain ⟨rfl, rfl⟩ := h'
      exact ⟨cur, hb, hg, hnc, hcm, hcs, by simpa using htake⟩
  have HB : Aside (w.heap[g]? = some (.cells cur e (0, 0))) := hbb
  have HT : Aside (cur.toList.take L.length = L.map (Value.int .i64)) := h4
  have HS : Aside (base ≤ g ∧ L.length ≤ cap ∧ cap ≤ maxLen ∧ cur.size = cap * 1) := ⟨hbase, h1, h2, h3⟩
  have hgl : g < w.heap.size := (hown.lt g rfl).2
  have hu : IntKind.u64.wrap (L.length : Int) = L.length := by rw [IntKind.wrap_u64]; omega
  clear hown hbase hbb h1 h2 h3 h4
  have HH : Aside (0 < L.length) := hpos
  clear hpos
  have HL : Aside (∀ w, Calls Tryz.prog 271 #[.int .u64 (L.length : Int)] w fun e w' => ∃ k : Int, e = .returned (.int .i64 k) ∧ Below w.heap.size w w') := fun w => lenU_calls h12 w
  have HP : Aside (∀ (w1 : World) (k : Int) (cur : Array Value), w1.heap[g]? = some (.cells cur e (0, 0)) → cur.toList.take L.length = L.map (Value.int .i64) → Calls Tryz.prog 349 #[.slice (some ⟨g, 0, none⟩) L.length cap, .int .i64 0, .int .i64 (L.length : Int), .int .i64 k] w1 fun e w' =>
      e = .returned (.tuple #[]) ∧ ∃ m, w' = putRow (Value.int .i64) (Sort.ahead w1 m) g 0 (Sort.insertionSort ltInt L.toArray 0 L.length)) := fun w1 k cur h1 h2 => pdqI_calls g 0 cap L.length k L.toArray w1 (holds_of_blockI h1 h2) (by simp) h12
  go_enter Tryz.func269, Tryz.ntmps269
  go_wp2_with (first
    | (go_at_call 271; refine (HL.out _).mono ?_; rintro e w1 ⟨k, rfl, hb1⟩)
    | (go_at_call 349; refine (HP.out w1 k cur ((hb1.block g hgl).trans HB.out) HT.out).mono ?_; rintro e w2 ⟨rfl, m, hw2⟩))
  go_end0
  have hps := insertionSort_holds swo_ltInt L.toArray 0 L.length (Nat.zero_le _) (by simp)
  have hu := sorted_unique_holds swo_ltInt (fun x y hx hy => by unfold ltInt at hx hy; simp at hx hy; omega) L.toArray (insertionSort ltInt L.toArray 0 L.length) (by simpa using hps.1) (by simpa using hps.2)
  have hl : (L.mergeSort (fun x y => !ltInt y x)).length = L.length := by simp
  have e2 : insertionSort ltInt L.toArray 0 L.length = (L.mergeSort (fun x y => !ltInt y x)).toArray := by
    apply Array.toList_inj.1
    rw [hu]
  obtain ⟨hbase, h1, h2, h3⟩ := HS.out
  have gz : ∀ x : World, grow x #[] = x := fun x => by unfold grow; simp
  refine ⟨rfl, ?_, ?_⟩
  · have hg1 : w.grownBy w1 (some g) := ⟨hb1.os, hb1.tape, hb1.output, hb1.size, fun c hc _ => hb1.block c hc⟩
    have := grownBy_sortedI (w := w1) (g := g) (n := m) (os := #[]) ((L.mergeSort (fun x y => !ltInt y x)).toArray)
    rw [e2]
    rw [gz] at this
    exact ⟨this.os.trans hg1.os, this.tape.trans hg1.tape, this.output.trans hg1.output, Nat.le_trans hg1.size this.size, fun c hc hne => (this.block c (Nat.lt_of_lt_of_le hc hg1.size) hne).trans (hg1.block c hc hne)⟩
  · have := ownsRow_sortedI (w := w1) (n := m) (os := #[]) hl hbase ((hb1.block g hgl).trans HB.out) h1 h2 h3
    rw [e2]
    rw [gz] at this
    exact this
end Go.Proofs.YtmjogmpgamlhaaaGreat

namespace Go.Proofs.YtmjogmpgamlhaaaGreat
open Go Go.RowKit Go.Lib Go.Proofs.YtmjogmpgamlhaaaGreat.Dm Go.Sort

set_option maxRecDepth 100000 in
set_option maxHeartbeats 2000000 in
theorem glist_calls {lb o mb clock : Nat} {es : Array MapEntry} (w : World) (hc : w.cell? ⟨lb, o + 13, none⟩ = some (.map (some mb))) (hb : w.heap[mb]? = some (.map es clock))
    (hold : ∀ x ∈ es.toList, x.born < clock) (hn : (es.toList.map (·.born)).Nodup) (hkeys : ∀ x ∈ es.toList, x.key = .int .i64 (kz x)) (hpos : 0 < es.size) (h12 : es.size ≤ 12) :
    Calls Tryz.prog 137 #[.pointer (some ⟨lb, o, none⟩)] w fun e w' => ∃ g cap, e = .returned (.slice (some ⟨g, 0, none⟩) es.size cap) ∧ Below w.heap.size w w' ∧
      w'.ownsRow w.heap.size 3 1 (.slice (some ⟨g, 0, none⟩) es.size cap) es.size (((es.toList.map kz).mergeSort leI).map (Value.int .i64)) := by
  have hbl : mb < w.heap.size := (Array.getElem?_eq_some_iff.1 hb).1
  have hcl : lb < w.heap.size := World.block_lt_of_cell? w _ hc
  obtain ⟨i0, hi, hz0, hz1, hz2⟩ := info_parts Tryz.info3
  have HP : Aside (0 < es.size ∧ es.size ≤ 12) := ⟨hpos, h12⟩
  have HKEYS : Aside (∀ x ∈ es.toList, x.key = .int .i64 (kz x)) := hkeys
  clear hkeys hpos h12
  go_enter Tryz.func137, Tryz.ntmps137
  go_wp2_with (first
    | (at_range; refine wpList_range_map rfl _ 138 rfl 3 136 Tryz.underlying138 mb clock es rfl hb ?_)
    | go_in)
  go_frame
  have hiter0 : (w.alloc (.mapIter (some mb) clock #[] clock)).heap[w.heap.size]? = some (.mapIter (some mb) clock #[] clock) := heap_alloc_new w _
  generalize hr0 : w.heap.size = r at hiter0 ⊢
  have hb2 : Below r w (w.alloc (.mapIter (some mb) clock #[] clock)) := (Below.refl _ _).alloc (by omega) _
  generalize w.alloc (.mapIter (some mb) clock #[] clock) = w2 at hiter0 hb2 ⊢
  have HBM : Aside (w.heap[mb]? = some (.map es clock)) := hb
  have HN : Aside ((es.toList.map (·.born)).Nodup) := hn
  have HO : Aside (∀ x ∈ es.toList, x.born < clock) := hold
  have HR : Aside (w.heap.size = r) := hr0
  rw [hr0] at hbl
  clear hb hc hn hold hr0
  go_loopw [3] (fun v wr => ∃ (seen : Array Nat) (vs : List MapEntry), wr.heap[r]? = some (.mapIter (some mb) clock seen clock) ∧ Below r w wr ∧ Met es seen vs ∧ wr.ownsRow r 3 1 v vs.length (vs.map (·.key)) ∧ some r ≠ v.ownBlock)
    (fun _ wr => (leftOf es (seenAt wr r)).size)
  case atStart => exact ⟨#[], [], hiter0, hb2, ⟨rfl, fun _ h => (by cases h), List.nodup_nil⟩, World.ownsRow_nil _ _ _ _, by simp [Value.ownBlock]⟩
  case round =>
    obtain ⟨seen, vs, hit, hbr, hmet, hown, hrv⟩ := hrel
    have hmb : wr.heap[mb]? = some (.map es clock) := (hbr.block mb hbl).trans HBM.out
    go_wp2_with (first
      | (at_next; refine wpList_next_map rfl _ rfl mb r clock seen es rfl hit hmb HO.out HN.out ?_ ?_)
      | go_in)
    · intro h0
      have hall : ∀ x ∈ es.toList, x.born ∈ seen := fun x hx => by
        have := all_seen es seen (by rw [h0]; rfl) x hx
        simpa using this
      have hperm := hmet.perm HN.out hall
      have hl : vs.length = es.size := by simpa using hperm.length_eq
      have hkv : vs.map (·.key) = (vs.map kz).map (Value.int .i64) := by
        rw [List.map_map]
        exact List.map_congr_left fun x hx => HKEYS.out x (hmet.mem x hx)
      rw [hkv] at hown
      have hms : (vs.map kz).mergeSort leI = (es.toList.map kz).mergeSort leI := ms_perm (hperm.map kz)
      rcases hown.2 with ⟨_, hh⟩ | ⟨g, cap, cur, rfl, hbase, hgb, hn1, hcm, hsz, htk⟩
      · have := HP.out.1; omega
      have S1 := sortI_calls (base := r) (g := g) (cap := cap) (e := 3) (L := vs.map kz) wr (by simpa using hown) (by rw [List.length_map, hl]; exact HP.out.2) (by rw [List.length_map, hl]; exact HP.out.1)
      rw [show (fun x y => !ltInt y x) = leI from rfl, hms, List.length_map, hl] at S1
      rw [hl]
      clear hkv hms hown htk hsz hcm hn1 hgb hall hmet
      go_wp2_with (first
        | (go_at_call 269; refine S1.mono ?_; rintro e w4 ⟨rfl, hg4, hown4⟩)
        | go_in)
      go_ret
      rw [HR.out]
      exact ⟨g, cap, rfl, hbr.grown hg4 (by rw [← HR.out]; exact hbr.size) (fun j hj => by cases hj; exact hbase), hown4⟩
    · intro en he w3 hit3 hg3 hs3 hen
      have he := Array.mem_toList_iff.2 he
      obtain ⟨hem, hes⟩ := mem_left he
      obtain ⟨k, hk⟩ : ∃ k, en.key = .int .i64 k := ⟨_, HKEYS.out en hem⟩
      have hes' : ¬ en.born ∈ seen := by simpa using hes
      have HLT : Aside ((leftOf es (seen.push en.born)).size < (leftOf es seen).size) := left_shrinks es seen en he
      have HS0 : Aside (seenAt wr r = seen) := by show _ = _; simp [seenAt, hit]
      have HMET : Aside (Met es (seen.push en.born) (vs ++ [en])) := hmet.push hem hes'
      have hle : vs.length < 12 := by
        have hm := (hmet.push hem hes').len
        have := HP.out.2
        simp at hm
        omega
      have HLE : Aside (vs.length < 12) := hle
      have HKEY : Aside (en.key = .int .i64 k) := hk
      rw [hk] at hen
      rw [hk]
      have HB3 : Aside (Below r w w3) := hbr.grown hg3 (by rw [← HR.out]; exact hbr.size) (fun j hj => by cases hj; exact Nat.le_refl _)
      have HSZ3 : Aside (r ≤ w3.heap.size) := by show r ≤ _; rw [← HR.out]; exact HB3.out.size
      have HIT3 : Aside (w3.heap[r]? = some (.mapIter (some mb) clock (seen.push en.born) clock)) := hit3
      have HRL : Aside (r < w3.heap.size) := (Array.getElem?_eq_some_iff.1 hit3).1
      have hown3 : w3.ownsRow r 3 1 u3 vs.length (vs.map (·.key)) := hown.kept hg3 (Or.inr (Ne.symm hrv))
      have HOWN : Aside (some r ≠ u3.ownBlock) := hrv
      clear hs3 hit3 hg3 hit hbr hmb he hk hem hes hes' hmet hown hle hrv
      go_wp2_with (first
        | (at_builtin; refine wpList_append_own_at _ rfl _ _ 22 rfl r 3 i0 (.int .i64 0) 1 8 Tryz.underlying22 hi hz0 hz1 hz2 rfl (by decide) u3 vs.length (vs.map (·.key)) rfl (hown3.alloc _) ⟨w3.heap.size, 0, none⟩ 1 1 [.int .i64 k] rfl rfl (cell_one_new _ _ _) (by simp [Value.oneCell']) (by have := HLE.out; unfold maxLen; omega) (by have := HLE.out; omega) (Nat.le_trans HSZ3.out (by simp)) ?_; intro v' w6 hown' hg6 hnil6 hat6)
        | go_in)
      have hit6 : w6.heap[r]? = some (.mapIter (some mb) clock (seen.push en.born) clock) := by
        rw [hg6.block r (by have := HRL.out; simp; omega) HOWN.out, heap_alloc_old w3 _ HRL.out]; exact HIT3.out
      have hrv6 : some r ≠ v'.ownBlock := by
        rcases hat6 with h | h
        · rw [h]; exact HOWN.out
        · rw [h]; have := HRL.out; simp; omega
      have hB6 : Below r w w6 := (HB3.out.alloc HSZ3.out _).grown hg6 (by have := HSZ3.out; simp; omega) (fun j hj => (hown3.lt j hj).1)
      refine ⟨⟨seen.push en.born, vs ++ [en], hit6, hB6, HMET.out, ?_, hrv6⟩, ?_⟩
      · rw [List.length_append, List.map_append, List.map_cons, List.map_nil, HKEY.out]; exact hown'
      · have : seenAt w6 r = seen.push en.born := by simp [seenAt, hit6]
        rw [this, HS0.out]; exact HLT.out
end Go.Proofs.YtmjogmpgamlhaaaGreat

namespace Go.Proofs.YtmjogmpgamlhaaaGreat
open Go Go.RowKit Go.Lib Go.Proofs.YtmjogmpgamlhaaaGreat.Dm Go.Sort

noncomputable def insI (x : Int) : List Int → List Int
  | [] => [x]
  | y :: l => cnd (ilt y x) (y :: insI x l) (x :: y :: l)
noncomputable def isort : List Int → List Int
  | [] => []
  | x :: l => insI x (isort l)

theorem insI_perm (x : Int) : ∀ l : List Int, (insI x l).Perm (x :: l)
  | [] => List.Perm.refl _
  | y :: l => by
    unfold insI
    cases ilt y x
    · exact List.Perm.refl _
    · exact ((insI_perm x l).cons y).trans (List.Perm.swap x y l)
theorem isort_perm : ∀ l : List Int, (isort l).Perm l
  | [] => List.Perm.refl _
  | x :: l => (insI_perm x _).trans ((isort_perm l).cons x)
theorem insI_sorted (x : Int) : ∀ {l : List Int}, l.Pairwise (fun a b => a ≤ b) → (insI x l).Pairwise (fun a b => a ≤ b)
  | [], _ => by unfold insI; exact List.pairwise_singleton _ _
  | y :: l, h => by
    unfold insI
    rw [List.pairwise_cons] at h
    cases hb : ilt y x with
    | false =>
      have hb : ¬ y < x := by rw [ilt_eq] at hb; simpa using hb
      refine List.pairwise_cons.2 ⟨fun z hz => ?_, List.pairwise_cons.2 h⟩
      rcases List.mem_cons.1 hz with rfl | hz
      · omega
      · have := h.1 z hz; omega
    | true =>
      have hb : y < x := by rw [ilt_eq] at hb; simpa using hb
      refine List.pairwise_cons.2 ⟨fun z hz => ?_, insI_sorted x h.2⟩
      rcases List.mem_cons.1 ((insI_perm x l).mem_iff.1 hz) with rfl | hz
      · omega
      · exact h.1 z hz
theorem isort_sorted : ∀ l : List Int, (isort l).Pairwise (fun a b => a ≤ b)
  | [] => List.Pairwise.nil
  | x :: l => insI_sorted x (isort_sorted l)
theorem isort_ms (l : List Int) : l.mergeSort leI = isort l :=
  eq_of_sorted ((List.mergeSort_perm l leI).trans (isort_perm l).symm) (sorted_ms l) (isort_sorted l)

noncomputable def keysK (k : IntKind) (ck : Nat) : List ME → List Nat → Option (List Int)
  | [], _ => some []
  | e :: l, seen => match e.key with
    | .sc (.i k' n) => cnd (keq k k' && (Nat.blt e.born ck && !(seen.any fun b => Nat.beq e.born b))) (match keysK k ck l (e.born :: seen) with
      | some r => some (n :: r)
      | none => none) none
    | _ => none
noncomputable def rowK (k : IntKind) (l : List Int) : Row := Row.ofList (l.map fun n => SV.i k n)
noncomputable def keysA (k : IntKind) (off : Nat) (args : List AV) (h : Heap) : Option (AV × Heap) :=
  match args with
  | [.cv (.sc (.p b o))] =>
    match h.get b with
      | some (.cells r _) => match r.get (Nat.add o off) with
        | some (.m mr) => match h.get mr with
          | some (.map es ck) => match keysK k ck es [] with
            | some l => cnd (Nat.blt 0 l.length && Nat.ble l.length 12)
              (some (.cv (.sc (.sl h.next 0 l.length l.length 1 false)), h.push (.cells (rowK k (isort l)) false))) none
            | none => none
          | _ => none
        | _ => none
      | _ => none
  | _ => none

/-- What such a function does. -/
def KeysOk (P : Program) (f : FuncId) (off : Nat) (k : IntKind) : Prop := Dm.Enters P f ∧ ∀ {lb o mb clock : Nat} {es : Array MapEntry} (w : World), w.cell? ⟨lb, o + off, none⟩ = some (.map (some mb)) → w.heap[mb]? = some (.map es clock) →
    (∀ x ∈ es.toList, x.born < clock) → (es.toList.map (·.born)).Nodup → (∀ x ∈ es.toList, x.key = .int k (kz x)) → 0 < es.size → es.size ≤ 12 →
    Calls P f #[.pointer (some ⟨lb, o, none⟩)] w fun e w' => ∃ g cap ty, e = .returned (.slice (some ⟨g, 0, none⟩) es.size cap) ∧ Below w.heap.size w w' ∧
      w'.ownsRow w.heap.size ty 1 (.slice (some ⟨g, 0, none⟩) es.size cap) es.size (((es.toList.map kz).mergeSort leI).map (Value.int k))

noncomputable def ovKeys (g : FuncId) (off : Nat) (k : IntKind) (call : CallK) : CallK := fun f args h => cnd (Nat.beq f g)
  (match keysA k off args h with
  | some (v, h') => .ok v h'
  | none => call f args h) (call f args h)

theorem keysK_ok {k : IntKind} {ck : Nat} {ι : Io} : ∀ {es : List ME} {ces : List MapEntry} {seen : List Nat} {l : List Int}, keysK k ck es seen = some l → MRs ι es ces →
    ces.map kz = l ∧ (∀ x ∈ ces, x.key = .int k (kz x)) ∧ (∀ x ∈ ces, x.born < ck) ∧ (∀ x ∈ ces, ¬ x.born ∈ seen) ∧ (ces.map (·.born)).Nodup
  | [], [], _, l, h, _ => by
    simp only [keysK, Option.some.injEq] at h
    subst h
    exact ⟨rfl, fun _ h => (by cases h), fun _ h => (by cases h), fun _ h => (by cases h), List.nodup_nil⟩
  | [], _ :: _, _, _, _, h => h.elim
  | _ :: _, [], _, _, _, h => h.elim
  | e :: es, c :: ces, seen, l, h, ⟨⟨a1, a2, a3⟩, b⟩ => by
    unfold keysK at h
    split at h
    · rename_i k' n hk
      cases hc : (keq k k' && (Nat.blt e.born ck && !(seen.any fun b => Nat.beq e.born b))) with
      | false => rw [hc] at h; cases h
      | true =>
        rw [hc] at h; simp only [cnd_true] at h
        split at h
        · rename_i r hr
          simp only [Option.some.injEq] at h
          subst h
          simp only [Bool.and_eq_true, Bool.not_eq_true'] at hc
          obtain ⟨c1, c2, c3⟩ := hc
          obtain rfl := keq_iff.1 c1
          have c2 : e.born < ck := Nat.le_of_ble_eq_true c2
          obtain ⟨i1, i2, i3, i4, i5⟩ := keysK_ok hr b
          rw [hk] at a1
          have kc : c.key = .int k n := a1
          have kk : kz c = n := by unfold kz; rw [kc]; rfl
          refine ⟨by rw [List.map_cons, i1, kk], ?_, ?_, ?_, ?_⟩
          · intro x hx
            rcases List.mem_cons.1 hx with rfl | hx
            · rw [kk]; exact kc
            · exact i2 x hx
          · intro x hx
            rcases List.mem_cons.1 hx with rfl | hx
            · rw [a3]; exact c2
            · exact i3 x hx
          · intro x hx
            rcases List.mem_cons.1 hx with rfl | hx
            · rw [a3]
              intro hm
              have : (seen.any fun b => Nat.beq e.born b) = true := List.any_eq_true.2 ⟨_, hm, by simp⟩
              rw [this] at c3; cases c3
            · exact fun hm => i4 x hx (List.mem_cons_of_mem _ hm)
          · rw [List.map_cons, List.nodup_cons]
            refine ⟨fun hm => ?_, i5⟩
            obtain ⟨x, hx, hxb⟩ := List.mem_map.1 hm
            exact i4 x hx (by rw [hxb, a3]; exact List.mem_cons_self)
        · cases h
    · cases h

theorem putAll_get : ∀ (l : List SV) (t : Tr SV) (o i : Nat), (Row.putAll t o l).get i = if o ≤ i then (match l[i - o]? with | some v => some v | none => t.get i) else t.get i
  | [], t, o, i => by simp [Row.putAll]
  | v :: l, t, o, i => by
    unfold Row.putAll
    rw [putAll_get l]
    rw [Tr.get_put]
    by_cases h : i = o
    · subst h
      rw [if_neg (by show ¬ i + 1 ≤ i; omega)]
      simp
    · by_cases h2 : o ≤ i
      · rw [if_pos h2]
        rw [if_pos (by show o + 1 ≤ i; omega)]
        obtain ⟨d, hd⟩ : ∃ d, i - o = d + 1 := ⟨i - o - 1, by omega⟩
        have : i - Nat.succ o = d := by show i - (o + 1) = d; omega
        rw [this, hd]
        simp [h]
      · rw [if_neg h2, if_neg (by show ¬ o + 1 ≤ i; omega)]
        simp [h]

theorem ofList_get {l : List SV} {i : Nat} {v : SV} (h : (Row.ofList l).get i = some v) : l[i]? = some v := by
  unfold Row.get Row.ofList at h
  simp only at h
  cases hb : Nat.blt i l.length with
  | false => rw [hb] at h; cases h
  | true =>
    rw [hb] at h
    simp only [cnd_true] at h
    have hi : i < l.length := Nat.le_of_ble_eq_true hb
    rw [putAll_get] at h
    simp only [Nat.zero_le, if_true, Nat.sub_zero] at h
    rw [List.getElem?_eq_getElem hi] at h ⊢
    exact h

theorem ovKeys_ok {P : Program} {g : FuncId} {off : Nat} {k : IntKind} (hK : KeysOk P g off k) : OvOk P (ovKeys g off k) := by
  intro call hc f args h v h' hr
  unfold ovKeys at hr
  cases hb : Nat.beq f g with
  | false => rw [hb] at hr; exact hc f args h v h' hr
  | true =>
    rw [hb] at hr; simp only [cnd_true] at hr
    split at hr
    case h_2 => exact hc f args h v h' hr
    rename_i v0 h0 hr0
    simp only [CRes.ok.injEq] at hr
    obtain ⟨rfl, rfl⟩ := hr
    obtain rfl := Nat.eq_of_beq_eq_true hb
    clear hb hc
    unfold keysA at hr0
    split at hr0
    case h_2 => cases hr0
    rename_i b o
    split at hr0
    case h_2 => cases hr0
    rename_i r ro hgb
    split at hr0
    case h_2 => cases hr0
    rename_i mr hrm
    split at hr0
    case h_2 => cases hr0
    rename_i es ck hgm
    split at hr0
    case h_2 => cases hr0
    rename_i l hl
    cases hcd : (Nat.blt 0 l.length && Nat.ble l.length 12) with
    | false => rw [hcd] at hr0; cases hr0
    | true =>
    rw [hcd] at hr0; simp only [cnd_true, Option.some.injEq, Prod.mk.injEq] at hr0
    obtain ⟨rfl, rfl⟩ := hr0
    simp only [Bool.and_eq_true] at hcd
    have hpos : 0 < l.length := Nat.le_of_ble_eq_true hcd.1
    have h12 : l.length ≤ 12 := Nat.le_of_ble_eq_true hcd.2
    refine ⟨hK.1, Nat.le_succ _, fun ι w aa rep has hf => ?_⟩
    obtain ⟨aa⟩ := aa
    obtain ⟨a1, rfl⟩ : ∃ a1, aa = [a1] := by
      match aa, has with
      | [a1], _ => exact ⟨a1, rfl⟩
      | [], h => exact h.elim
      | _ :: _ :: _, h => exact h.2.elim
    obtain ⟨h1, -⟩ := has
    obtain ⟨cb, N, e1, rfl⟩ := (show VR ι (.p b o) a1 from h1)
    obtain ⟨cb', N', g1, cs, el, fr, g2, g3, g4, g5, g6⟩ := rep.obj b _ hgb
    rw [e1] at g1
    simp only [Option.some.injEq, Prod.mk.injEq] at g1
    obtain ⟨rfl, rfl⟩ := g1
    obtain ⟨V, u1, u2⟩ := g5 (o + off) _ hrm
    obtain ⟨cm, Nm, m1, rfl⟩ := (show VR ι (.m mr) V from u2)
    obtain ⟨cm', Nm', p1, ces, p2, p3⟩ := rep.obj mr _ hgm
    rw [m1] at p1
    simp only [Option.some.injEq, Prod.mk.injEq] at p1
    obtain ⟨rfl, rfl⟩ := p1
    have hc : w.cell? ⟨cb, o + off, none⟩ = some (.map (some cm)) := by
      simp only [World.cell?, g2]
      simpa using u1
    obtain ⟨i1, i2, i3, i4, i5⟩ := keysK_ok hl p3
    have hsz : ces.size = l.length := by rw [← i1, List.length_map, Array.length_toList]
    refine (hK.2 w hc p2 i3 i5 i2 (by omega) (by omega)).mono ?_
    rintro e w' ⟨gb, cap, ty, rfl, hB, hT⟩
    rw [i1, isort_ms, hsz] at hT
    rcases hT.2 with ⟨hh, _⟩ | ⟨g', cap', cur, hv, hbase, hgb, hn1, hcm, hcs, htk⟩
    · simp at hh
    simp only [Value.slice.injEq, Option.some.injEq, Addr.mk.injEq, and_true, true_and] at hv
    obtain ⟨rfl, rfl⟩ := hv
    have hgl : gb < w'.heap.size := (Array.getElem?_eq_some_iff.1 hgb).1
    rw [hsz]
    refine ⟨_, fun y => if y = h.next then some (gb, cur.size) else ι y, rfl, ⟨gb, cur.size, 0, cap, by simp, rfl, Nat.le_refl _, fun hh => (by cases hh), fun _ => ⟨hn1, .inr rfl, by omega, by simp only [maxLen] at hcm; omega⟩⟩, ?_⟩
    refine Post.pushAt _ gb cur.size rep hf (fun c hc => hB.block c hc) hbase hgl hB.size hB.tape hB.os hB.output ⟨cur, _, _, hgb, rfl, ?_, fun i v hv => ?_, fun _ => rfl⟩
    · show ((isort l).map fun n => SV.i k n).length ≤ _
      rw [List.length_map, (isort_perm l).length_eq]
      omega
    · have hv := ofList_get (show (Row.ofList ((isort l).map fun n => SV.i k n)).get i = some v from hv)
      rw [List.getElem?_map, Option.map_eq_some_iff] at hv
      obtain ⟨n, hn, rfl⟩ := hv
      have hi : i < l.length * 1 := by
        have := (List.getElem?_eq_some_iff.1 hn).1
        rw [(isort_perm l).length_eq] at this; omega
      have h1 : (cur.toList.take (l.length * 1))[i]? = ((isort l).map (Value.int k))[i]? := by rw [htk]
      rw [List.getElem?_take_of_lt hi, List.getElem?_map, hn] at h1
      exact ⟨.int k n, by rw [← Array.getElem?_toList]; exact h1, rfl⟩

theorem enters64 : Dm.Enters Tryz.prog 64 := ⟨Tryz.f64, Tryz.func64, by kernel_rfl, by kernel_rfl⟩
theorem enters137 : Dm.Enters Tryz.prog 137 := ⟨Tryz.f137, Tryz.func137, by kernel_rfl, by kernel_rfl⟩
theorem keys64 : KeysOk Tryz.prog 64 0 .u64 := ⟨enters64, fun w hc hb hold hn hk hpos h12 => (plist_calls w hc hb hold hn hk hpos h12).mono (by rintro e w' ⟨g, cap, h1, h2, h3⟩; exact ⟨g, cap, _, h1, h2, h3⟩)⟩
theorem keys137 : KeysOk Tryz.prog 137 13 .i64 := ⟨enters137, fun w hc hb hold hn hk hpos h12 => (glist_calls w hc hb hold hn hk hpos h12).mono (by rintro e w' ⟨g, cap, h1, h2, h3⟩; exact ⟨g, cap, _, h1, h2, h3⟩)⟩
end Go.Proofs.YtmjogmpgamlhaaaGreat

set_option maxRecDepth 100000
namespace Go.Proofs.YtmjogmpgamlhaaaGreat
open Go Go.Proofs.YtmjogmpgamlhaaaGreat.Dm Go.RowKit
noncomputable def lF {α : Type} (x : α) : Tr α := .n (some x) .e .e
noncomputable def nN {α : Type} (l r : Tr α) : Tr α := .n none l r
noncomputable def iN (n : Nat) : SV := .i .i64 (.ofNat n)
noncomputable def uN (n : Nat) : SV := .i .u64 (.ofNat n)
noncomputable def bN (n : Nat) : SV := .i .u8 (.ofNat n)
noncomputable def i64 (n : Nat) : AV := .cv (.sc (.i .i64 (.ofNat n)))
noncomputable def w64 (n : Nat) : AV := .cv (.sc (.i .u64 (.ofNat n)))
noncomputable def noDesc : AV := .tu [.ag [.i .i64 0, .i .u64 0, .b false, .b false, .b false, .i .i64 0], .sc (.i .i64 0)]
theorem dec0 : Known Tryz.prog 319 [i64 2, i64 0, w64 0] noDesc := known_of (evP_ok 100) (by kernel_rfl)
theorem dec1 : Known Tryz.prog 319 [i64 2, i64 1, w64 0] noDesc := known_of (evP_ok 100) (by kernel_rfl)
theorem dec2 : Known Tryz.prog 319 [i64 2, i64 2, w64 0] noDesc := known_of (evP_ok 100) (by kernel_rfl)
theorem dec3 : Known Tryz.prog 319 [i64 2, i64 3, w64 0] noDesc := known_of (evP_ok 100) (by kernel_rfl)
noncomputable def decMemo : Memo := [(319, [i64 2, i64 3, w64 0], noDesc), (319, [i64 2, i64 2, w64 0], noDesc), (319, [i64 2, i64 1, w64 0], noDesc), (319, [i64 2, i64 0, w64 0], noDesc)]
theorem decMemo_ok : MemoOk Tryz.prog decMemo := by
  intro x hx
  simp only [decMemo, List.mem_cons, List.not_mem_nil, or_false] at hx
  rcases hx with rfl | rfl | rfl | rfl
  · exact ⟨rfl, rfl, dec3⟩
  · exact ⟨rfl, rfl, dec2⟩
  · exact ⟨rfl, rfl, dec1⟩
  · exact ⟨rfl, rfl, dec0⟩
noncomputable def ovR : CallK → CallK := fun call => ovMemo (fun f => Nat.beq f 319) decMemo (ovLL (ovKeys 64 0 .u64 (ovKeys 137 13 .i64 (ovA call))))
theorem ovR_ok : OvOk Tryz.prog ovR := fun c hc => ovMemo_ok decMemo_ok _ (ovLL_ok _ (ovKeys_ok keys64 _ (ovKeys_ok keys137 _ (ovA_ok c hc))))
end Go.Proofs.YtmjogmpgamlhaaaGreat
